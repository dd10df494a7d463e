/-
  THE SYMBOLIC EXECUTOR, part Q: copy.
-/
import Derived.Test.YtafemlljemhkhaaSxP
namespace Go.Proofs.Ytafemlljemhkhaa.Sx
open Go
set_option linter.unusedSectionVars false
set_option linter.unusedVariables false
set_option linter.unusedSimpArgs false
variable [Env]

section
variable {A : Type} [AbsK A]

theorem run_copy {P : Program} {ts : Array TypeId} {ty t0 e : TypeId} {sz : Nat} (h0 : ts[0]? = some t0) (hu : P.underlying t0 = some (.slice e)) (hsz : sizeT P e = some sz) {bd od dl dc sl sc : Nat} {a : Option Addr} {vs : List Value} {w w' : World}
    (hl : (Builtin.firstCells sz (min sl dl) (.slice a sl sc)).run P w = .ok vs.toArray w) (hst : (storeCells ⟨bd, od, none⟩ vs 0).run P w = .ok () w') :
    (Builtin.copy_ ts ty #[.slice (some ⟨bd, od, none⟩) dl dc, .slice a sl sc]).run P w = .ok (.int .i64 ((min sl dl : Nat) : Int)) w' := by
  have hmin : Nat.min sl dl = min sl dl := rfl
  simp only [Builtin.copy_, h0, List.getElem?_toArray, List.getElem?_cons_zero, List.getElem?_cons_succ, Sem.run_bind, gives_underlying hu w, Result.andThen_ok, Builtin.lenOf, Sem.run_pure, hmin, gives_sizeOf hsz w, hl, hst]
  rfl

theorem loadCells_list {P : Program} {w : World} {b o : Nat} {vs : List Value} (h : ∀ j u, vs[j]? = some u → w.cell? ⟨b, o + j, none⟩ = some u) : (loadCells ⟨b, o, none⟩ vs.length).run P w = .ok vs.toArray w := by
  have := run_loadCellsFrom (P := P) (w := w) (b := b) (o := o) vs 0 #[] (fun j u hu => by rw [Nat.zero_add]; exact h j u hu)
  simpa [loadCells] using this

/-- So many elements of an object, from a place on, where they are integers. -/
def srcI (o : SO A) (off n : IE) (sz : Nat) : Option (IntKind × BE × IE) :=
  match o with
  | .row k _ l => some (k, .cmp .leq (.at_ off n sz 0) (.len l), mkSubL l off n sz)
  | .tab [.int k] o N id => if sz = 1 then some (k, .and (.cmp .eql (.nat off) (.nat o)) (.cmp .leq (.nat n) (.nat N)), .ofTab id n) else none
  | _ => none
/-- The slice of some elements: its name, offset, length. -/
def sliceOf : SV → Option (Nat × IE × IE)
  | .w (.one (.b (.sl n o l _))) => some (n, o, l)
  | .w (.one (.b (.isl n o l))) => some (n, o, l)
  | _ => none
theorem sliceOf_is {x : SV} {n : Nat} {o l : IE} (h : sliceOf x = some (n, o, l)) {ρ : Rho} {v : Value} (hx : x.is ρ v) :
    ∃ a c, v = .slice a l.val.toNat c ∧ (l.val.toNat = 0 ∨ ∃ b, ρ n = some (.blk b) ∧ a = some ⟨b, o.val.toNat, none⟩) := by
  unfold sliceOf at h
  split at h
  · cases h
    obtain ⟨b, hb, rfl⟩ := hx
    exact ⟨_, _, rfl, .inr ⟨b, hb, rfl⟩⟩
  · cases h
    exact hx
  · cases h
theorem row_at {ρ : Rho} {b : Nat} {F : Nat → Prop} {w : World} {e : Nat} {k : IntKind} {L : IE} (h : (SO.row (A := A) k e L).ok ρ (.blk b) F w) {o n : Nat} (hn : o + n ≤ L.lst.length) :
    ∀ j u, (((L.lst.drop o).take n).map (Value.int k))[j]? = some u → w.cell? ⟨b, o + j, none⟩ = some u := by
  rcases h with ⟨_, h, _⟩ | ⟨b', rest, hb, hblk, _⟩
  · cases h
  cases hb
  intro j u hu
  rw [List.getElem?_map, List.getElem?_take] at hu
  split at hu
  · rename_i hj
    rw [List.getElem?_drop] at hu
    rw [cell_of_block hblk, List.getElem?_toArray, List.getElem?_append_left (by simp; omega)]
    simpa using hu
  · simp at hu
theorem srcI_ok {o : SO A} {off n : IE} {sz : Nat} {k : IntKind} {c : BE} {L : IE} (h : srcI o off n sz = some (k, c, L)) (hc : c.val = true) {ρ : Rho} {r : RV} {F : Nat → Prop} {w : World} (ho : o.ok ρ r F w) :
    L.lst.length = n.val.toNat * sz ∧ ∀ b, r = .blk b → ∀ j u, (L.lst.map (Value.int k))[j]? = some u → w.cell? ⟨b, off.val.toNat + j, none⟩ = some u := by
  unfold srcI at h
  split at h
  · rename_i k' e l
    cases h
    have hc' : off.val.toNat + n.val.toNat * sz ≤ l.lst.length := by
      have := of_decide_eq_true hc
      simp only [IE.val] at this
      omega
    rw [mkSubL_lst]
    refine ⟨by rw [List.length_take, List.length_drop]; omega, fun b hb j u hu => ?_⟩
    subst hb
    exact row_at ho hc' j u hu
  · rename_i k' o' N id
    split at h
    · rename_i hsz
      cases h
      have hc2 := of_decide_eq_true (Bool.and_eq_true_iff.1 hc).2
      have hc1 := eq_of_beq (Bool.and_eq_true_iff.1 hc).1
      simp only [IE.val] at hc1 hc2
      have e1 : off.val.toNat = o'.val.toNat := by omega
      have e2 : n.val.toNat ≤ N.val.toNat := by omega
      simp only [IE.lst]
      refine ⟨by simp [hsz], fun b hb j u hu => ?_⟩
      subst hb
      rcases ho with ⟨_, ho, _⟩ | ⟨b', hb, _, _, hcell⟩
      · cases ho
      cases hb
      rw [List.map_map, List.getElem?_map] at hu
      obtain ⟨i, hi, rfl⟩ := Option.map_eq_some_iff.1 hu
      obtain ⟨hlt, rfl⟩ := List.getElem?_eq_some_iff.1 hi
      simp only [List.length_range] at hlt
      have := hcell j (by omega) 0 (.int k) rfl
      rw [show off.val.toNat + j = o'.val.toNat + j * [Col.int k].length + 0 by simp; omega]
      simpa [Col.value] using this
    · cases h
  · cases h
/-- The first elements of a slice of integers. -/
theorem firstCells_I {P : Program} {h : Heap A} {ρ : Rho} {F : Nat → Nat → Prop} {w : World} (H : HeapOk ρ F h w) {x : SV} {nn : Nat} {off ln n : IE} (hx : sliceOf x = some (nn, off, ln)) {v : Value} (hv : x.is ρ v) {o : SO A} (hl : look h nn = some o)
    {sz : Nat} {k : IntKind} {c : BE} {L : IE} (hs : srcI o off n sz = some (k, c, L)) (hc : c.val = true) (hn : n.val.toNat ≤ ln.val.toNat) :
    L.lst.length = n.val.toNat * sz ∧ ∃ a cp, v = .slice a ln.val.toNat cp ∧ (Builtin.firstCells sz n.val.toNat (.slice a ln.val.toNat cp)).run P w = .ok (L.lst.map (Value.int k)).toArray w := by
  obtain ⟨a, cp, rfl, ha⟩ := sliceOf_is hx hv
  obtain ⟨r, hr⟩ := H.rho_some hl
  obtain ⟨h1, h2⟩ := srcI_ok hs hc (H.obj nn o r hl hr)
  refine ⟨h1, a, cp, rfl, ?_⟩
  rcases ha with h0 | ⟨b, hb, rfl⟩
  · have hn0 : n.val.toNat = 0 := by omega
    have hL : L.lst = [] := List.length_eq_zero_iff.1 (by rw [h1, hn0, Nat.zero_mul])
    rw [hL]
    cases a with
    | none => simp [Builtin.firstCells]
    | some a => simp [Builtin.firstCells, hn0, loadCells, loadCellsFrom]
  · rw [hb] at hr; cases hr
    have := loadCells_list (P := P) (h2 b rfl)
    rw [List.length_map, h1] at this
    simpa [Builtin.firstCells] using this

def copyS (P : Program) (prot : Prot) (ts : Array TypeId) (x y : SV) (h : Heap A) : Tree (SV × Heap A) :=
  match ts[0]? with
  | none => .fail 207
  | some t0 =>
  match P.underlying t0, x, y with
  | some (.slice e), .w (.one (.b (.sl nd od ld _))), .w (.one (.b (.sl ns os ls _))) =>
    match sizeT P e, look h nd, look h ns with
    | some sz, some (.cells ed Ld td), some (.cells es Ls tl) =>
      match od, ld, os, ls with
      | .lit od, .lit ld, .lit os, .lit ls =>
        let n := min ls.toNat ld.toNat
        if od.toNat + n * sz ≤ Ld.length ∧ os.toNat + n * sz ≤ Ls.length then
          if noProt prot nd od.toNat (n * sz) then
            .leaf (.w (.one (.b (.int .i64 (.lit n)))), put h nd (.cells ed (writeL Ld od.toNat ((Ls.drop os.toNat).take (n * sz))) td))
          else .fail 200
        else .fail 201
      | _, _, _, _ => .fail 202
    | some sz, some (.row kd ed Ld), some so =>
      match srcI so os (mkMn (mkNat ls) (mkNat ld)) sz with
      | some (ks, c, L) =>
        if kd = ks ∧ prot.names nd = false then
          mkBr (.cmp .leq (.at_ od (mkMn (mkNat ls) (mkNat ld)) sz 0) (.len Ld)) (mkBr c
            (.leaf (.w (.one (.b (.int .i64 (mkMn (mkNat ls) (mkNat ld))))), put h nd (.row kd ed (mkPutL Ld od L))))
            (.fail 203)) (.fail 203)
        else .fail 204
      | none => .fail 205
    | _, _, _ => .fail 205
  | some (.slice e), .w (.one (.b (.sl nd od ld _))), .w (.one (.b (.isl ns os ls))) =>
    match sizeT P e, look h nd, look h ns with
    | some sz, some (.row kd ed Ld), some so =>
      match srcI so os (mkMn (mkNat ls) (mkNat ld)) sz with
      | some (ks, c, L) =>
        if kd = ks ∧ prot.names nd = false then
          mkBr (.cmp .leq (.at_ od (mkMn (mkNat ls) (mkNat ld)) sz 0) (.len Ld)) (mkBr c
            (.leaf (.w (.one (.b (.int .i64 (mkMn (mkNat ls) (mkNat ld))))), put h nd (.row kd ed (mkPutL Ld od L))))
            (.fail 203)) (.fail 203)
        else .fail 204
      | none => .fail 205
    | _, _, _ => .fail 205
  | _, _, _ => .fail 206

theorem cells_at {ρ : Rho} {b : Nat} {F : Nat → Prop} {w : World} {e t : Nat} {L : List SC} (h : (SO.cells (A := A) e L t).ok ρ (.blk b) F w) {o n : Nat} (hn : o + n ≤ L.length) :
    ∃ vs : List Value, vs.length = n ∧ All2 (SC.is ρ) ((L.drop o).take n) vs ∧ ∀ j u, vs[j]? = some u → w.cell? ⟨b, o + j, none⟩ = some u := by
  obtain ⟨b', vs, hb, hblk, ⟨us, rest, h1, h2, h3⟩, _⟩ := h
  cases hb
  have hlen := h3.length
  refine ⟨(us.drop o).take n, ?_, (h3.drop o).take n, fun j u hu => ?_⟩
  · rw [List.length_take, List.length_drop, ← hlen]; omega
  · rw [List.getElem?_take] at hu
    split at hu
    · rename_i hj
      rw [List.getElem?_drop] at hu
      rw [cell_of_block hblk, ← Array.getElem?_toList, h1, List.getElem?_append_left (by omega)]
      exact hu
    · cases hu
theorem copy_row {P : Program} {prot : Prot} {ts : Array TypeId} {ty t0 e : TypeId} {x : SV} {h : Heap A} {ρ : Rho} {F : Nat → Nat → Prop} {w : World} (H : HeapOk ρ F h w) (ht0 : ts[0]? = some t0) (hu : P.underlying t0 = some (.slice e))
    {bd nd : Nat} {od ld cd : IE} (hbd : ρ nd = some (.blk bd)) {ns : Nat} {os ls : IE} (hsl : sliceOf x = some (ns, os, ls)) {v : Value} (hx : x.is ρ v) {sz : Nat} (hsz : sizeT P e = some sz) {kd : IntKind} {ed : Nat} {Ld : IE} (hd : look h nd = some (.row kd ed Ld))
    {so : SO A} (hs : look h ns = some so) {c : BE} {L : IE} (hsrc : srcI so os (mkMn (mkNat ls) (mkNat ld)) sz = some (kd, c, L)) (hp : prot.names nd = false) {K : SV × Heap A → Prop}
    (hK : (mkBr (.cmp .leq (.at_ od (mkMn (mkNat ls) (mkNat ld)) sz 0) (.len Ld)) (mkBr c
            (.leaf (.w (.one (.b (.int .i64 (mkMn (mkNat ls) (mkNat ld))))), put h nd (.row kd ed (mkPutL Ld od L))))
            (.fail 203)) (.fail 203)).holds K) : Ran P prot ρ F w (Builtin.copy_ ts ty #[.slice (some ⟨bd, od.val.toNat, none⟩) ld.val.toNat cd.val.toNat, v]) K := by
  have hnv : (mkMn (mkNat ls) (mkNat ld)).val = ((min ls.val.toNat ld.val.toNat : Nat) : Int) := by
    rw [mkMn_val, mkNat_val, mkNat_val]; split <;> omega
  have hnt : (mkMn (mkNat ls) (mkNat ld)).val.toNat = min ls.val.toNat ld.val.toNat := by rw [hnv]; simp
  obtain ⟨h1, h2⟩ := mkBr_holds hK
  simp only [BE.val, cmpVal, IE.val] at h1 h2
  by_cases c1 : od.val.toNat + min ls.val.toNat ld.val.toNat * sz ≤ Ld.lst.length
  · obtain ⟨h3, h4⟩ := mkBr_holds (h1 (decide_eq_true (by rw [hnt]; omega)))
    cases hc : c.val with
    | false => exact (h4 hc).elim
    | true =>
      obtain ⟨g1, a, cp, rfl, g2⟩ := firstCells_I (P := P) H hsl hx hs hsrc hc (by rw [hnt]; omega)
      rw [hnt] at g1 g2
      obtain ⟨w', r1, r2, r3⟩ := store_row (P := P) (prot := prot) hbd od.val.toNat hp L.lst _ 0 h w Ld H hd rfl (by rw [g1]; exact c1) (mkPutL Ld od L) (by rw [mkPutL_lst, Nat.add_zero])
      exact ⟨_, _, .int .i64 ((min ls.val.toNat ld.val.toNat : Nat) : Int), ρ, F, w', h3 hc, (by show _ = _; rw [hnv]), run_copy ht0 hu hsz g2 r1, r2, r3⟩
  · exact (h2 (decide_eq_false (by rw [hnt]; omega))).elim

theorem copyS_ok {P : Program} {prot : Prot} {ts : Array TypeId} {ty : TypeId} {x y : SV} {h : Heap A} {ρ : Rho} {F : Nat → Nat → Prop} {w : World} (H : HeapOk ρ F h w) {u v : Value} (hx : x.is ρ u) (hy : y.is ρ v) {K : SV × Heap A → Prop}
    (hK : (copyS P prot ts x y h).holds K) : Ran P prot ρ F w (Builtin.copy_ ts ty #[u, v]) K := by
  unfold copyS at hK
  split at hK
  · exact hK.elim
  · rename_i t0 ht0
    split at hK
    · rename_i e nd od ld cd ns os ls cs hu
      obtain ⟨bd, hbd, rfl⟩ := hx
      obtain ⟨bs, hbs, rfl⟩ := hy
      split at hK
      · rename_i sz ed Ld td es Ls tl hsz hd hs
        split at hK
        · rename_i od ld os ls
          simp only at hK
          split at hK
          · rename_i hbound
            split at hK
            · rename_i hp
              obtain ⟨vs, v1, v2, v3⟩ := cells_at (H.obj ns _ _ hs hbs) hbound.2
              have hlen : ((Ls.drop os.toNat).take (min ls.toNat ld.toNat * sz)).length = min ls.toNat ld.toNat * sz := by rw [v2.length, v1]
              obtain ⟨w', r1, r2, r3⟩ := store_cells (P := P) (prot := prot) hbd od.toNat _ vs 0 h w Ld H hd v2 (by rw [hlen]; exact hbound.1) (by rw [hlen]; exact hp)
              have hl := loadCells_list (P := P) v3
              rw [v1] at hl
              exact ⟨_, _, .int .i64 ((min ls.toNat ld.toNat : Nat) : Int), ρ, F, w', hK, rfl, run_copy (sl := ls.toNat) (dl := ld.toNat) (od := od.toNat) ht0 hu hsz (by simp only [Builtin.firstCells]; exact hl) r1, r2, r3⟩
            · exact hK.elim
          · exact hK.elim
        · exact hK.elim
      · rename_i sz kd ed Ld so hns hsz hd hs
        split at hK
        · rename_i ks c L hsrc
          split at hK
          · rename_i hkp
            obtain ⟨hk, hp⟩ := hkp
            subst hk
            exact copy_row H ht0 hu hbd rfl (show SV.is ρ (.w (.one (.b (.sl ns os ls cs)))) _ from ⟨bs, hbs, rfl⟩) hsz hd hs hsrc hp hK
          · exact hK.elim
        · exact hK.elim
      · exact hK.elim
    · rename_i e nd od ld cd ns os ls hu
      obtain ⟨bd, hbd, rfl⟩ := hx
      split at hK
      · rename_i sz kd ed Ld so hsz hd hs
        split at hK
        · rename_i ks c L hsrc
          split at hK
          · rename_i hkp
            obtain ⟨hk, hp⟩ := hkp
            subst hk
            exact copy_row H ht0 hu hbd rfl hy hsz hd hs hsrc hp hK
          · exact hK.elim
        · exact hK.elim
      · exact hK.elim
    · exact hK.elim

end
end Go.Proofs.Ytafemlljemhkhaa.Sx
