/-
  THE SYMBOLIC EXECUTOR, part H: slices of slices, the small builtins; all operations that neither read nor write memory, in one.
-/
import Derived.Test.YtafemlljemhkhaaSxG
namespace Go.Proofs.Ytafemlljemhkhaa.Sx
open Go
set_option linter.unusedSectionVars false
set_option linter.unusedVariables false
set_option linter.unusedSimpArgs false
variable [Env]

theorem run_sliceBound {P : Program} {k : IntKind} {i : Int} {y : Nat} {code : BoundsCode} (h : 0 ≤ i ∧ i ≤ (y : Int)) : Gives P (Instr.sliceBound (.int k i) y code) i.toNat := by
  intro w; simp [Instr.sliceBound, asIntOf, h.1, h.2]
def OptIs (ρ : Rho) : Option SV → Option Value → Prop
  | none, none => True
  | some s, some u => s.is ρ u
  | _, _ => False
theorem optI_is {ρ : Rho} {x : Option SV} {v : Option Value} {d e : IE} (h : (match x with | none => some d | some s => (asI s).map (·.2)) = some e)
    (hx : OptIs ρ x v) :
    (v = none ∧ e = d) ∨ (∃ k, v = some (.int k e.val)) := by
  cases x with
  | none => cases v with
    | none => cases h; exact .inl ⟨rfl, rfl⟩
    | some u => exact hx.elim
  | some s => cases v with
    | none => exact hx.elim
    | some u =>
      obtain ⟨⟨k, e'⟩, h1, h2⟩ := Option.map_eq_some_iff.1 h
      cases h2
      exact .inr ⟨k, by rw [asI_is h1 hx]⟩
theorem sliceS_gives {P : Program} {t : TypeId} {x : SV} {lo hi : Option SV} {ρ : Rho} {v : Value} {l' h' : Option Value} (hx : x.is ρ v)
    (hlo : OptIs ρ lo l') (hhi : OptIs ρ hi h') {K : SV → Prop} (h : (sliceS P t x lo hi).holds K) :
    ∃ r q, K r ∧ r.is ρ q ∧ Gives P (Instr.sliceAt t v l' h' none) q := by
  unfold sliceS at h
  split at h
  · rename_i e n o len cap hu
    obtain ⟨b, hb, rfl⟩ := hx
    split at h
    · rename_i sz hE lE hsz hhE hlE
      obtain ⟨h1, h2⟩ := mkBr_holds h
      simp only [mkCmp_val, cmpVal, IE.val, mkNat_val] at h1 h2
      by_cases c1 : hE.val ≥ 0
      · obtain ⟨h3, h4⟩ := mkBr_holds (h1 (decide_eq_true c1))
        simp only [mkCmp_val, cmpVal, IE.val, mkNat_val] at h3 h4
        by_cases c2 : hE.val ≤ (cap.val.toNat : Int)
        · obtain ⟨h5, h6⟩ := mkBr_holds (h3 (decide_eq_true c2))
          simp only [mkCmp_val, cmpVal, IE.val, mkNat_val] at h5 h6
          by_cases c3 : lE.val ≥ 0
          · obtain ⟨h7, h8⟩ := mkBr_holds (h5 (decide_eq_true c3))
            simp only [mkCmp_val, cmpVal, IE.val, mkNat_val] at h7 h8
            by_cases c4 : lE.val ≤ hE.val
            · obtain ⟨h9, h10⟩ := mkBr_holds (h7 (decide_eq_true c4))
              simp only [mkCmp_val, cmpVal, IE.val, mkNat_val] at h9 h10
              have hh : Gives P (match h' with | some v => Instr.sliceBound v cap.val.toNat .sliceAcap | none => pure len.val.toNat) hE.val.toNat := by
                rcases optI_is hhE hhi with ⟨rfl, e1⟩ | ⟨k, rfl⟩
                · intro w; rw [e1, mkNat_val]; rfl
                · exact run_sliceBound ⟨c1, c2⟩
              have hl : Gives P (match l' with | some v => Instr.sliceBound v hE.val.toNat .sliceB | none => pure 0) lE.val.toNat := by
                rcases optI_is hlE hlo with ⟨rfl, e1⟩ | ⟨k, rfl⟩
                · intro w; rw [e1]; rfl
                · exact run_sliceBound ⟨c3, by omega⟩
              have hb2 : Gives P (Instr.sliceBounds true len.val.toNat cap.val.toNat l' h' none) (lE.val.toNat, hE.val.toNat, cap.val.toNat) := by
                intro w
                unfold Instr.sliceBounds
                cases h' with
                | none =>
                  have e1 := hh w
                  simp only [Sem.run_pure] at e1
                  have e2 : len.val.toNat = hE.val.toNat := (Result.ok.inj e1).1
                  cases l' with
                  | none => have e3 := hl w; simp only [Sem.run_pure] at e3; have e4 : 0 = lE.val.toNat := (Result.ok.inj e3).1
                            simp [e2, ← e4]
                  | some u => have e3 := hl w; simp only at e3; simp [e2, e3]
                | some u0 =>
                  have e1 := hh w
                  simp only at e1
                  cases l' with
                  | none => have e3 := hl w; simp only [Sem.run_pure] at e3; have e4 : 0 = lE.val.toNat := (Result.ok.inj e3).1
                            simp [e1, ← e4]
                  | some u => have e3 := hl w; simp only at e3; simp [e1, e3]
              by_cases c5 : (cap.val.toNat : Int) = lE.val
              · have c6 : cap.val.toNat = lE.val.toNat := by omega
                refine ⟨_, .slice (some ⟨b, o.val.toNat, none⟩) (hE.val.toNat - lE.val.toNat) (cap.val.toNat - lE.val.toNat), h9 (by simpa using c5), ⟨b, hb, by rw [mkDif_val, mkDif_val]⟩, fun w => ?_⟩
                simp only [Instr.sliceAt, Instr.slice, Sem.run_bind, gives_underlying hu w, Result.andThen_ok, hb2 w, gives_sizeOf hsz w, Sem.run_pure, if_pos c6]
              · have c6 : ¬ cap.val.toNat = lE.val.toNat := by omega
                refine ⟨_, .slice (some ⟨b, o.val.toNat + lE.val.toNat * sz, none⟩) (hE.val.toNat - lE.val.toNat) (cap.val.toNat - lE.val.toNat), h10 (by simpa using c5), ⟨b, hb, by rw [mkDif_val, mkDif_val, mkAt_val]; simp⟩, fun w => ?_⟩
                simp [Instr.sliceAt, Instr.slice, gives_underlying hu w, hb2 w, gives_sizeOf hsz w, c6, addr_add]
            · exact (h8 (decide_eq_false c4)).elim
          · exact (h6 (decide_eq_false c3)).elim
        · exact (h4 (decide_eq_false c2)).elim
      · exact (h2 (decide_eq_false c1)).elim
    · exact h.elim
  · rename_i e hu
    cases hx
    split at h
    · cases l' with
      | some u => exact hlo.elim
      | none => cases h' with
        | some u => exact hhi.elim
        | none =>
          rename_i hsz
          refine ⟨_, _, h, rfl, fun w => ?_⟩
          simp [Instr.sliceAt, Instr.slice, gives_underlying hu w, Instr.sliceBounds, gives_sizeOf hsz w]
    · exact h.elim
  · exact h.elim

end Go.Proofs.Ytafemlljemhkhaa.Sx
