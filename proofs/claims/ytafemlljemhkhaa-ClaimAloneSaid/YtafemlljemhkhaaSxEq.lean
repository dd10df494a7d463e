/-
  THE SYMBOLIC EXECUTOR, part Eq: a summary's end, in other words for the same values.
-/
import Derived.Test.YtafemlljemhkhaaSxSum
namespace Go.Proofs.Ytafemlljemhkhaa.Sx
open Go
set_option linter.unusedSectionVars false
set_option linter.unusedVariables false
set_option linter.unusedSimpArgs false

structure Eqs where
  n : List (IE × IE)
  l : List (IE × IE)
  b : List (BE × BE)
structure Eqs.hold (E : Env) (q : Eqs) : Prop where
  n : ∀ p ∈ q.n, @IE.val E p.1 = @IE.val E p.2
  l : ∀ p ∈ q.l, @IE.lst E p.1 = @IE.lst E p.2
  b : ∀ p ∈ q.b, @BE.val E p.1 = @BE.val E p.2
def hasP (x y : IE) : List (IE × IE) → Bool
  | [] => false
  | (a, b) :: l => (IE.beq a x && IE.beq b y) || hasP x y l
theorem hasP_mem {x y : IE} : ∀ {l : List (IE × IE)}, hasP x y l = true → (x, y) ∈ l
  | [], h => by cases h
  | (a, b) :: l, h => by
    simp only [hasP, Bool.or_eq_true, Bool.and_eq_true] at h
    rcases h with h | h
    · rw [IE.beq_eq h.1, IE.beq_eq h.2]; exact List.mem_cons_self ..
    · exact List.mem_cons_of_mem _ (hasP_mem h)
def hasB (x y : BE) : List (BE × BE) → Bool
  | [] => false
  | (a, b) :: l => (BE.beq a x && BE.beq b y) || hasB x y l
theorem hasB_mem {x y : BE} : ∀ {l : List (BE × BE)}, hasB x y l = true → (x, y) ∈ l
  | [], h => by cases h
  | (a, b) :: l, h => by
    simp only [hasB, Bool.or_eq_true, Bool.and_eq_true] at h
    rcases h with h | h
    · rw [BE.beq_eq h.1, BE.beq_eq h.2]; exact List.mem_cons_self ..
    · exact List.mem_cons_of_mem _ (hasB_mem h)
def eqvN (q : Eqs) (x y : IE) : Bool := IE.beq x y || hasP x y q.n
def eqvL (q : Eqs) (x y : IE) : Bool := IE.beq x y || hasP x y q.l
def eqvB (q : Eqs) (x y : BE) : Bool := BE.beq x y || hasB x y q.b
section
variable {E : Env} {q : Eqs} (hq : q.hold E) {ρ : Rho}
include hq
theorem eqvN_ok {x y : IE} (h : eqvN q x y = true) : @IE.val E x = @IE.val E y := by
  simp only [eqvN, Bool.or_eq_true] at h
  rcases h with h | h
  · rw [IE.beq_eq h]
  · exact hq.n _ (hasP_mem h)
theorem eqvL_ok {x y : IE} (h : eqvL q x y = true) : @IE.lst E x = @IE.lst E y := by
  simp only [eqvL, Bool.or_eq_true] at h
  rcases h with h | h
  · rw [IE.beq_eq h]
  · exact hq.l _ (hasP_mem h)
theorem eqvB_ok {x y : BE} (h : eqvB q x y = true) : @BE.val E x = @BE.val E y := by
  simp only [eqvB, Bool.or_eq_true] at h
  rcases h with h | h
  · rw [BE.beq_eq h]
  · exact hq.b _ (hasB_mem h)
end
def eqvSB (q : Eqs) : SB → SB → Bool
  | _, .unk => true
  | .bool b, .bool c => eqvB q b c
  | .int k e, .int k' f => decide (k = k') && eqvN q e f
  | .nilp, .nilp => true
  | .ptr n o, .ptr m p => Nat.beq n m && eqvN q o p
  | .sl n o l c, .sl m o' l' c' => Nat.beq n m && (eqvN q o o' && (eqvN q l l' && eqvN q c c'))
  | .sl n o l _, .isl m o' l' => Nat.beq n m && (eqvN q o o' && eqvN q l l')
  | .isl n o l, .isl m o' l' => Nat.beq n m && (eqvN q o o' && eqvN q l l')
  | .nils, .nils => true
  | .nilf, .nilf => true
  | .ref n, .ref m => Nat.beq n m
  | _, _ => false
theorem eqvSB_ok {E : Env} {q : Eqs} (hq : q.hold E) {ρ : Rho} {x y : SB} (h : eqvSB q x y = true) {v : Value} (hx : @SB.is E ρ x v) : @SB.is E ρ y v := by
  unfold eqvSB at h
  split at h
  · exact @SB.is_one E _ _ _ hx
  · show v = .bool _; rw [← eqvB_ok hq h]; exact hx
  · simp only [Bool.and_eq_true, decide_eq_true_eq] at h
    show v = .int _ _
    rw [← eqvN_ok hq h.2, ← h.1]; exact hx
  · exact hx
  · simp only [Bool.and_eq_true] at h
    obtain ⟨b, hb, rfl⟩ := hx
    exact ⟨b, by rw [← Nat.eq_of_beq_eq_true h.1]; exact hb, by rw [eqvN_ok hq h.2]⟩
  · simp only [Bool.and_eq_true] at h
    obtain ⟨h1, h2, h3, h4⟩ := h
    obtain ⟨b, hb, rfl⟩ := hx
    exact ⟨b, by rw [← Nat.eq_of_beq_eq_true h1]; exact hb, by rw [eqvN_ok hq h2, eqvN_ok hq h3, eqvN_ok hq h4]⟩
  · simp only [Bool.and_eq_true] at h
    obtain ⟨h1, h2, h3⟩ := h
    obtain ⟨b, hb, rfl⟩ := hx
    exact ⟨_, _, by rw [eqvN_ok hq h3], .inr ⟨b, by rw [← Nat.eq_of_beq_eq_true h1]; exact hb, by rw [eqvN_ok hq h2]⟩⟩
  · simp only [Bool.and_eq_true] at h
    obtain ⟨h1, h2, h3⟩ := h
    obtain ⟨a, c, rfl, hr⟩ := hx
    exact ⟨a, c, by rw [eqvN_ok hq h3], by rw [← eqvN_ok hq h3, ← eqvN_ok hq h2, ← Nat.eq_of_beq_eq_true h1]; exact hr⟩
  · exact hx
  · exact hx
  · rw [← Nat.eq_of_beq_eq_true h]; exact hx
  · cases h
def eqvSC (q : Eqs) : SC → SC → Bool
  | .b x, .b y => eqvSB q x y
  | .fn f p r, .fn f' p' r' => sameFn f f' && (SBs.same p p' && SBs.same r r')
  | _, _ => false
theorem eqvSC_ok {E : Env} {q : Eqs} (hq : q.hold E) {ρ : Rho} {x y : SC} (h : eqvSC q x y = true) {v : Value} (hx : @SC.is E ρ x v) : @SC.is E ρ y v := by
  cases x <;> cases y <;> simp only [eqvSC, Bool.and_eq_true, Bool.false_eq_true] at h
  case b.b => exact eqvSB_ok hq h hx
  case fn.fn => rw [← sameFn_eq h.1, ← SBs.same_eq h.2.1, ← SBs.same_eq h.2.2]; exact hx
def eqvSCs (q : Eqs) : List SC → List SC → Bool
  | [], [] => true
  | x :: l, y :: m => eqvSC q x y && eqvSCs q l m
  | _, _ => false
theorem eqvSCs_ok {E : Env} {q : Eqs} (hq : q.hold E) {ρ : Rho} : ∀ {l m : List SC} {vs : List Value}, eqvSCs q l m = true → All2 (@SC.is E ρ) l vs → All2 (@SC.is E ρ) m vs
  | [], [], vs, _, h => h
  | x :: l, y :: m, [], _, h => h.elim
  | x :: l, y :: m, v :: vs, hf, h => by
    simp only [eqvSCs, Bool.and_eq_true] at hf
    exact ⟨eqvSC_ok hq hf.1 h.1, eqvSCs_ok hq hf.2 h.2⟩
  | [], _ :: _, _, hf, _ => by simp only [eqvSCs, Bool.false_eq_true] at hf
  | _ :: _, [], _, hf, _ => by simp only [eqvSCs, Bool.false_eq_true] at hf
def eqvSW (q : Eqs) : SW → SW → Bool
  | .one x, .one y => eqvSC q x y
  | .agg l, .agg m => eqvSCs q l m
  | _, _ => false
theorem eqvSW_ok {E : Env} {q : Eqs} (hq : q.hold E) {ρ : Rho} {x y : SW} (h : eqvSW q x y = true) {v : Value} (hx : @SW.is E ρ x v) : @SW.is E ρ y v := by
  cases x <;> cases y <;> simp only [eqvSW, Bool.false_eq_true] at h
  case one.one => exact eqvSC_ok hq h hx
  case agg.agg => obtain ⟨vs, hv, g⟩ := hx; exact ⟨vs, hv, eqvSCs_ok hq h g⟩
def eqvSWs (q : Eqs) : List SW → List SW → Bool
  | [], [] => true
  | x :: l, y :: m => eqvSW q x y && eqvSWs q l m
  | _, _ => false
theorem eqvSWs_ok {E : Env} {q : Eqs} (hq : q.hold E) {ρ : Rho} : ∀ {l m : List SW} {vs : List Value}, eqvSWs q l m = true → All2 (@SW.is E ρ) l vs → All2 (@SW.is E ρ) m vs
  | [], [], vs, _, h => h
  | x :: l, y :: m, [], _, h => h.elim
  | x :: l, y :: m, v :: vs, hf, h => by
    simp only [eqvSWs, Bool.and_eq_true] at hf
    exact ⟨eqvSW_ok hq hf.1 h.1, eqvSWs_ok hq hf.2 h.2⟩
  | [], _ :: _, _, hf, _ => by simp only [eqvSWs, Bool.false_eq_true] at hf
  | _ :: _, [], _, hf, _ => by simp only [eqvSWs, Bool.false_eq_true] at hf
def eqvSV (q : Eqs) : SV → SV → Bool
  | _, .unk => true
  | .w x, .w y => eqvSW q x y
  | .tup l, .tup m => eqvSWs q l m
  | _, _ => false
theorem eqvSV_ok {E : Env} {q : Eqs} (hq : q.hold E) {ρ : Rho} {x y : SV} (h : eqvSV q x y = true) {v : Value} (hx : @SV.is E ρ x v) : @SV.is E ρ y v := by
  unfold eqvSV at h
  split at h
  · trivial
  · exact eqvSW_ok hq h hx
  · obtain ⟨vs, hv, g⟩ := hx; exact ⟨vs, hv, eqvSWs_ok hq h g⟩
  · cases h
def eqvSO (q : Eqs) : SO Empty → SO Empty → Bool
  | .cells e l t, .cells e' l' t' => Nat.beq e e' && (Nat.beq t t' && eqvSCs q l l')
  | .row k e l, .row k' e' l' => decide (k = k') && (Nat.beq e e' && eqvL q l l')
  | .tab c o n i, .tab c' o' n' i' => sameCols c c' && (IE.beq o o' && (IE.beq n n' && Nat.beq i i'))
  | .mach k l, .mach k' l' => (Nat.beq k' k || (Nat.beq k 1 && Nat.ble 2 k')) && eqvL q l l'
  | _, _ => false
theorem eqvSO_ok {E : Env} {q : Eqs} (hq : q.hold E) {ρ : Rho} {x y : SO Empty} {r : RV} {F : Nat → Prop} {w : World} (h : eqvSO q x y = true) (hx : @SO.ok E Empty _ ρ r F w x) : @SO.ok E Empty _ ρ r F w y ∧ y.wr = x.wr := by
  cases x <;> cases y <;> simp only [eqvSO, Bool.and_eq_true, Bool.false_eq_true, decide_eq_true_eq] at h
  case cells.cells =>
    obtain ⟨h1, h2, h3⟩ := h
    obtain ⟨b, vs, hr, hb, ⟨us, rest, g1, g2, g3⟩, hF⟩ := hx
    rw [Nat.eq_of_beq_eq_true h1] at hb
    rw [Nat.eq_of_beq_eq_true h2] at g2
    exact ⟨⟨b, vs, hr, hb, ⟨us, rest, g1, g2, eqvSCs_ok hq h3 g3⟩, hF⟩, rfl⟩
  case row.row =>
    obtain ⟨h1, h2, h3⟩ := h
    have hl := eqvL_ok hq h3
    refine ⟨?_, rfl⟩
    rcases hx with hx | ⟨b, rest, hr, hb, hF⟩
    · exact .inl ⟨by rw [← hl]; exact hx.1, hx.2⟩
    · exact .inr ⟨b, rest, hr, by rw [← hl, ← h1, ← Nat.eq_of_beq_eq_true h2]; exact hb, hF⟩
  case tab.tab =>
    obtain ⟨h1, h2, h3, h4⟩ := h
    rw [← sameCols_eq h1, ← IE.beq_eq h2, ← IE.beq_eq h3, ← Nat.eq_of_beq_eq_true h4]
    exact ⟨hx, rfl⟩
  case mach.mach =>
    obtain ⟨h1, h2⟩ := h
    refine ⟨?_, rfl⟩
    have hl := eqvL_ok hq h2
    show MachOk _ _ _ _ _
    rw [← hl]
    refine MachOk.conv ?_ hx
    simpa using h1
  all_goals (first | (rename_i a _; exact a.elim) | (rename_i a; exact a.elim) | (rename_i a _ _ _ _; exact a.elim))
def eqvH (q : Eqs) : Heap Empty → Heap Empty → Bool
  | [], [] => true
  | (n, x) :: h, (m, y) :: h' => Nat.beq n m && (eqvSO q x y && eqvH q h h')
  | _, _ => false
theorem eqvH_look {q : Eqs} : ∀ {h h' : Heap Empty}, eqvH q h h' = true → ∀ n, (look h n = none ∧ look h' n = none) ∨ ∃ x y, look h n = some x ∧ look h' n = some y ∧ eqvSO q x y = true
  | [], [], _, n => .inl ⟨rfl, rfl⟩
  | (k, x) :: h, (m, y) :: h', hf, n => by
    simp only [eqvH, Bool.and_eq_true] at hf
    obtain ⟨h1, h2, h3⟩ := hf
    have := Nat.eq_of_beq_eq_true h1
    subst this
    simp only [look]
    cases hb : (k == n) with
    | true => exact .inr ⟨x, y, rfl, rfl, h2⟩
    | false => exact eqvH_look h3 n
  | [], _ :: _, hf, _ => by simp only [eqvH, Bool.false_eq_true] at hf
  | _ :: _, [], hf, _ => by simp only [eqvH, Bool.false_eq_true] at hf
theorem eqvH_ok {E : Env} {q : Eqs} (hq : q.hold E) {h h' : Heap Empty} (he : eqvH q h h' = true) {ρ : Rho} {F : Nat → Nat → Prop} {w : World} (H : @HeapOk E Empty _ ρ F h w) : @HeapOk E Empty _ ρ F h' w := by
  refine @HeapOk.mk E Empty _ ρ F h' w (fun n => ?_) (fun n o r hn hr => ?_) H.disj (fun n o hn hw => ?_) H.size
  · rw [← H.dom n]
    rcases eqvH_look he n with ⟨h1, h2⟩ | ⟨x, y, h1, h2, _⟩ <;> rw [h1, h2] <;> rfl
  · rcases eqvH_look he n with ⟨h1, h2⟩ | ⟨x, y, h1, h2, h3⟩
    · rw [h2] at hn; cases hn
    · rw [h2] at hn; cases hn
      exact (eqvSO_ok hq h3 (H.obj n x r h1 hr)).1
  · rcases eqvH_look he n with ⟨h1, h2⟩ | ⟨x, y, h1, h2, h3⟩
    · rw [h2] at hn; cases hn
    · rw [h2] at hn; cases hn
      refine H.low n x h1 ?_
      obtain ⟨r, hr⟩ := @HeapOk.rho_some E Empty _ _ _ _ _ H _ _ h1
      rw [← (eqvSO_ok hq h3 (H.obj n x r h1 hr)).2]; exact hw
/-- The same end in other words. -/
def Eqv (E : Env) (r r' : SV × Heap Empty) : Prop := (∀ ρ v, @SV.is E ρ r.1 v → @SV.is E ρ r'.1 v) ∧ ∀ ρ F w, @HeapOk E Empty _ ρ F r.2 w → @HeapOk E Empty _ ρ F r'.2 w
theorem Eqv.of {E : Env} {q : Eqs} (hq : q.hold E) {r r' : SV × Heap Empty} (h : (eqvSV q r.1 r'.1 && eqvH q r.2 r'.2) = true) : Eqv E r r' := by
  simp only [Bool.and_eq_true] at h
  exact ⟨fun ρ v hv => eqvSV_ok hq h.1 hv, fun ρ F w H => eqvH_ok hq h.2 H⟩
theorem Summ.conv {P : Program} {σ : Summ} (h : σ.ok P) {t' : Tree (SV × Heap Empty)} (hc : ∀ (E : Env) (K : SV × Heap Empty → Prop), @Tree.holds E _ K t' → @Tree.holds E _ (fun r => ∃ r', K r' ∧ Eqv E r r') σ.t) : Summ.ok P ⟨σ.g, σ.ps, σ.hp, t'⟩ :=
  ⟨h.1, fun E ρ F w argv K H ha hK => Calls.mono (h.2 E ρ F w argv _ H ha (hc E K hK)) fun e w' he => by
    obtain ⟨s, h', v, ρ', F', ⟨r', k1, k2, k3⟩, rfl, g2, g3, g4⟩ := he
    exact ⟨r'.1, r'.2, v, ρ', F', k1, rfl, k2 _ _ g2, k3 _ _ _ g3, g4⟩⟩

end Go.Proofs.Ytafemlljemhkhaa.Sx
