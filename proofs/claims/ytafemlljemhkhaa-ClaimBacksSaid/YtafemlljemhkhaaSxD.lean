/-
  THE SYMBOLIC EXECUTOR, part D: operations that neither read nor write memory.
-/
import Derived.Test.YtafemlljemhkhaaSxC
import Derived.Laws.Sem
import Derived.Laws.World
namespace Go.Proofs.Ytafemlljemhkhaa.Sx
open Go
set_option linter.unusedSectionVars false
set_option linter.unusedVariables false
set_option linter.unusedSimpArgs false
variable [Env]

/-- A computation that gives a value in whatever world, and leaves it as it is. -/
def Gives {α : Type} (P : Program) (m : Sem α) (v : α) : Prop := ∀ w, m.run P w = .ok v w
theorem Gives.pure {α : Type} (P : Program) (v : α) : Gives P (Pure.pure v) v := fun _ => rfl
theorem Gives.bind {α β : Type} {P : Program} {m : Sem α} {v : α} {f : α → Sem β} {u : β} (h : Gives P m v) (k : Gives P (f v) u) : Gives P (m >>= f) u := by
  intro w; rw [Sem.run_bind, h w, Result.andThen_ok, k w]
theorem gives_underlying {P : Program} {t : TypeId} {d : TypeDesc} (h : P.underlying t = some d) : Gives P (underlying t) d := by
  intro w; simp [underlying, h]
theorem gives_sizeOf {P : Program} {t : TypeId} {n : Nat} (h : sizeT P t = some n) : Gives P (Go.sizeOf t) n := by
  intro w
  unfold sizeT at h
  obtain ⟨i, hi, rfl⟩ := Option.map_eq_some_iff.1 h
  simp [Go.sizeOf, typeInfo, hi]
theorem gives_isAgg {P : Program} {t : TypeId} {b : Bool} (h : aggT P t = some b) : Gives P (isAgg t) b := by
  intro w
  unfold aggT at h
  split at h <;> simp only [Option.some.injEq, reduceCtorEq] at h <;> subst h
  · rename_i fs hu; simp [isAgg, underlying, hu]
  · rename_i n e hu; simp [isAgg, underlying, hu]
  · rename_i d _ _ hu
    simp only [isAgg, underlying, Sem.run_bind, run_program, Result.andThen_ok, hu, Sem.run_pure]
theorem gives_zero {P : Program} {t : TypeId} {cs : List SC} (h : zeroT P t = some cs) (ρ : Rho) : ∃ v, Gives P (zeroValue t) v ∧ All2 (SC.is ρ) cs v.cells.toList := by
  unfold zeroT at h
  split at h
  · rename_i i hi
    split at h
    · rename_i v hv
      exact ⟨v, fun w => by simp [zeroValue, typeInfo, hi, hv], litSCs_is h⟩
    · cases h
  · cases h

/-! ### what an operand is seen to be -/
def asI : SV → Option (IntKind × IE)
  | .w (.one (.b (.int k e))) => some (k, e)
  | _ => none
theorem asI_is {ρ : Rho} {s : SV} {v : Value} {k : IntKind} {e : IE} (h : asI s = some (k, e)) (hs : s.is ρ v) : v = .int k e.val := by
  unfold asI at h
  split at h
  · cases h; exact hs
  · cases h
def asBo : SV → Option BE
  | .w (.one (.b (.bool b))) => some b
  | _ => none
theorem asBo_is {ρ : Rho} {s : SV} {v : Value} {b : BE} (h : asBo s = some b) (hs : s.is ρ v) : v = .bool b.val := by
  unfold asBo at h
  split at h
  · cases h; exact hs
  · cases h
/-- The cells of a value that lies in memory. -/
def asCs : SV → Option (List SC)
  | .w (.one c) => some [c]
  | .w (.agg l) => some l
  | _ => none
theorem asCs_is {ρ : Rho} {s : SV} {v : Value} {l : List SC} (h : asCs s = some l) (hs : s.is ρ v) : All2 (SC.is ρ) l v.cells.toList := by
  unfold asCs at h
  split at h
  · rename_i c
    cases h
    rw [(SC.is_one (ρ := ρ) (x := c) (v := v) hs).cells]
    exact ⟨hs, trivial⟩
  · rename_i l'
    cases h
    obtain ⟨vs, rfl, h1⟩ := hs
    exact h1
  · cases h
def asAg : SV → Option (List SC)
  | .w (.agg l) => some l
  | _ => none
theorem asAg_is {ρ : Rho} {s : SV} {v : Value} {l : List SC} (h : asAg s = some l) (hs : s.is ρ v) : ∃ vs : Array Value, v = .agg vs ∧ All2 (SC.is ρ) l vs.toList := by
  unfold asAg at h
  split at h
  · cases h; exact hs
  · cases h

/-- A part of a struct, or an array, by value. -/
def partS (P : Program) (t : TypeId) (l : List SC) (off : Nat) : Tree SV :=
  match aggT P t, sizeT P t with
  | some true, some n => .leaf (.w (.agg ((l.take (off + n)).drop off)))
  | some false, _ => match l[off]? with
    | some c => .leaf (.w (.one c))
    | none => .fail 10
  | _, _ => .fail 11
theorem partS_gives {P : Program} {t : TypeId} {l : List SC} {off : Nat} {ρ : Rho} {vs : Array Value} (hl : All2 (SC.is ρ) l vs.toList) {K : SV → Prop}
    (h : (partS P t l off).holds K) : ∃ s v, K s ∧ s.is ρ v ∧ Gives P (part t vs off) v := by
  unfold partS at h
  split at h
  · rename_i n h1 h2
    refine ⟨_, .agg (vs.extract off (off + n)), h, ⟨_, rfl, ?_⟩, fun w => ?_⟩
    · rw [Array.toList_extract, List.extract_eq_take_drop]
      have := (hl.take (off + n)).drop off
      simp only [List.drop_take] at this ⊢
      exact this
    · simp [part, gives_isAgg h1 w, gives_sizeOf h2 w]
  · rename_i h1
    split at h
    · rename_i c hc
      obtain ⟨v, hv, hcv⟩ := hl.get off c hc
      refine ⟨_, v, h, hcv, fun w => ?_⟩
      have hv' : vs[off]? = some v := by simpa using hv
      simp [part, gives_isAgg h1 w, hv']
    · exact h.elim
  · exact h.elim

/-- Two cells, held against each other: the types of which '==' is a comparison of what stands in one cell. -/
def eqSC (P : Program) (t : TypeId) (x y : SC) : Option BE :=
  match P.underlying t, x, y with
  | some .bool, .b (.bool a), .b (.bool b) => some (mkEq a b)
  | some (.int _), .b (.int k a), .b (.int k' b) => if k = k' then some (mkCmp .eql a b) else none
  | some (.pointer _), .b .nilp, .b .nilp => some (.lit true)
  | some (.pointer _), .b .nilp, .b (.ptr _ _) => some (.lit false)
  | some (.pointer _), .b (.ptr _ _), .b .nilp => some (.lit false)
  | some (.slice _), .b .nils, .b .nils => some (.lit true)
  | some (.slice _), .b .nils, .b (.sl _ _ _ _) => some (.lit false)
  | some (.slice _), .b (.sl _ _ _ _), .b .nils => some (.lit false)
  | some (.func _ _ _), .b .nilf, .b .nilf => some (.lit true)
  | some (.func _ _ _), .b .nilf, .fn _ _ _ => some (.lit false)
  | some (.func _ _ _), .fn _ _ _, .b .nilf => some (.lit false)
  | _, _, _ => none
theorem eqSC_gives {P : Program} {t : TypeId} {x y : SC} {e : BE} (h : eqSC P t x y = some e) {ρ : Rho} {u v : Value} (hx : x.is ρ u) (hy : y.is ρ v) (d : Nat) :
    Gives P (Op.equalIn (d + 1) t u v) e.val := by
  intro w
  unfold eqSC at h
  split at h
  case h_1 a b hu =>
    cases h; cases hx; cases hy
    simp [Op.equalIn, gives_underlying hu w, mkEq_val]
  case h_2 k0 k a k' b hu =>
    split at h
    · rename_i hk; subst hk
      cases h; cases hx; cases hy
      simp [Op.equalIn, gives_underlying hu w, mkCmp_val, cmpVal]
    · cases h
  case h_3 hu => cases h; cases hx; cases hy; simp [Op.equalIn, gives_underlying hu w, BE.val]
  case h_4 hu => cases h; cases hx; obtain ⟨b, _, rfl⟩ := hy; simp [Op.equalIn, gives_underlying hu w, BE.val]
  case h_5 hu => cases h; cases hy; obtain ⟨b, _, rfl⟩ := hx; simp [Op.equalIn, gives_underlying hu w, BE.val]
  case h_6 hu => cases h; cases hx; cases hy; simp [Op.equalIn, gives_underlying hu w, BE.val]
  case h_7 hu => cases h; cases hx; obtain ⟨b, _, rfl⟩ := hy; simp [Op.equalIn, gives_underlying hu w, BE.val]
  case h_8 hu => cases h; cases hy; obtain ⟨b, _, rfl⟩ := hx; simp [Op.equalIn, gives_underlying hu w, BE.val]
  case h_9 hu => cases h; cases hx; cases hy; simp [Op.equalIn, gives_underlying hu w, BE.val]
  case h_10 hu => cases h; cases hx; obtain ⟨a, b, rfl, _⟩ := hy; simp [Op.equalIn, gives_underlying hu w, BE.val]
  case h_11 hu => cases h; cases hy; obtain ⟨a, b, rfl, _⟩ := hx; simp [Op.equalIn, gives_underlying hu w, BE.val]
  case h_12 => cases h

end Go.Proofs.Ytafemlljemhkhaa.Sx
