/-
  THE SYMBOLIC EXECUTOR, part F: the operations that neither read nor write memory, in one function, and that it is right.
-/
import Derived.Test.YtafemlljemhkhaaSxE
namespace Go.Proofs.Ytafemlljemhkhaa.Sx
open Go
set_option linter.unusedSectionVars false
set_option linter.unusedVariables false
set_option linter.unusedSimpArgs false
variable [Env]

/-- A binary operation. -/
def binS (P : Program) (op : BinOp) (t : TypeId) (x y : SV) : Tree SV :=
  match asI x, asI y with
  | some (k, a), some (k', b) =>
    match op with
    | .shl | .shr => mkBr (mkCmp .geq b (.lit 0)) (.leaf (.w (.one (.b (.int k (mkOp op k a b)))))) (.fail 20)
    | .add | .sub | .mul | .and | .or | .xor | .andNot => if k = k' then .leaf (.w (.one (.b (.int k (mkOp op k a b))))) else .fail 21
    | .quo | .rem => if k = k' then mkBr (mkCmp .neq b (.lit 0)) (.leaf (.w (.one (.b (.int k (mkOp op k a b)))))) (.fail 22) else .fail 21
    | _ => if k = k' then .leaf (.w (.one (.b (.bool (mkCmp op a b))))) else .fail 21
  | none, none =>
    match op, eqS P t x y with
    | .eql, some e => .leaf (.w (.one (.b (.bool e))))
    | .neq, some e => .leaf (.w (.one (.b (.bool (mkNot e)))))
    | _, _ => .fail 23
  | _, _ => .fail 24

theorem eqGuard_int {P : Program} (op : BinOp) (t : TypeId) (x y : Operand) (k k' : IntKind) (a b : Int) : Gives P (eqGuard op t x y (.int k a) (.int k' b)) () := by
  intro w; cases op <;> simp [eqGuard]

theorem asI_none {ρ : Rho} {s : SV} {v : Value} (h : asI s = none) (hs : s.is ρ v) (hne : s ≠ .unk) (k : IntKind) (n : Int) (hv : v = .int k n) : (∃ x, s = .w (.one (.b x)) ∧ (x = .unk ∨ ∃ m, x = .ref m)) := by
  subst hv
  unfold asI at h
  cases s with
  | unk => exact absurd rfl hne
  | tup l => obtain ⟨_, h1, _⟩ := hs; cases h1
  | w x =>
    cases x with
    | agg l => obtain ⟨_, h1, _⟩ := hs; cases h1
    | one c =>
      cases c with
      | fn => obtain ⟨_, _, h1, _⟩ := hs; cases h1
      | b x =>
        cases x
        case unk => exact ⟨_, rfl, .inl rfl⟩
        case ref m => exact ⟨_, rfl, .inr ⟨m, rfl⟩⟩
        case int => simp at h
        case bool => cases hs
        case nilp => cases hs
        case nils => cases hs
        case nilf => cases hs
        case ptr => obtain ⟨_, _, h1⟩ := hs; cases h1
        case sl => obtain ⟨_, _, h1⟩ := hs; cases h1
        case isl => obtain ⟨_, _, h1, _⟩ := hs; cases h1

theorem eqS_binOp {P : Program} {t : TypeId} {x y : SV} {e : BE} (h : eqS P t x y = some e) (hx0 : asI x = none) {ρ : Rho} {u v : Value} (hx : x.is ρ u) (hy : y.is ρ v) :
    Gives P (Go.binOp .eql t u v) (.bool e.val) ∧ Gives P (Go.binOp .neq t u v) (.bool (!e.val)) := by
  have hq := (eqS_gives h hx hy).1
  have key : (∀ k n, u ≠ .int k n) ∧ (∀ k n, u ≠ .float k n) ∧ (∀ k n m, u ≠ .complex k n m) ∧ (∀ s, u ≠ .string s) := by
    unfold eqS at h
    split at h
    · unfold eqSC at h
      split at h
      case h_1 => cases hx; exact ⟨by simp, by simp, by simp, by simp⟩
      case h_2 => simp [asI] at hx0
      case h_3 => cases hx; exact ⟨by simp, by simp, by simp, by simp⟩
      case h_4 => cases hx; exact ⟨by simp, by simp, by simp, by simp⟩
      case h_5 => obtain ⟨b, _, rfl⟩ := hx; exact ⟨by simp, by simp, by simp, by simp⟩
      case h_6 => cases hx; exact ⟨by simp, by simp, by simp, by simp⟩
      case h_7 => cases hx; exact ⟨by simp, by simp, by simp, by simp⟩
      case h_8 => obtain ⟨b, _, rfl⟩ := hx; exact ⟨by simp, by simp, by simp, by simp⟩
      case h_9 => cases hx; exact ⟨by simp, by simp, by simp, by simp⟩
      case h_10 => cases hx; exact ⟨by simp, by simp, by simp, by simp⟩
      case h_11 => obtain ⟨b, c, rfl, _⟩ := hx; exact ⟨by simp, by simp, by simp, by simp⟩
      case h_12 => cases h
    · obtain ⟨us, rfl, _⟩ := hx; exact ⟨by simp, by simp, by simp, by simp⟩
    · cases h
  obtain ⟨k1, k2, k3, k4⟩ := key
  constructor
  · intro w
    have : Go.binOp .eql t u v = (do pure (.bool (← Op.equal t u v))) := by
      unfold Go.binOp
      split <;> first | rfl | (exact absurd rfl (k1 _ _)) | (exact absurd rfl (k2 _ _)) | (exact absurd rfl (k3 _ _ _)) | (exact absurd rfl (k4 _)) | simp_all
    rw [this]; simp [hq w]
  · intro w
    have : Go.binOp .neq t u v = (do pure (.bool (!(← Op.equal t u v)))) := by
      unfold Go.binOp
      split <;> first | rfl | (exact absurd rfl (k1 _ _)) | (exact absurd rfl (k2 _ _)) | (exact absurd rfl (k3 _ _ _)) | (exact absurd rfl (k4 _)) | simp_all
    rw [this]; simp [hq w]

theorem binS_gives {P : Program} {op : BinOp} {t : TypeId} {x y : SV} {ρ : Rho} {u v : Value} (hx : x.is ρ u) (hy : y.is ρ v) {K : SV → Prop} (h : (binS P op t x y).holds K) (a b : Operand) :
    ∃ s r, K s ∧ s.is ρ r ∧ Gives P (do eqGuard op t a b u v; Go.binOp op t u v) r := by
  unfold binS at h
  split at h
  · rename_i k e k' e' h1 h2
    obtain rfl := asI_is h1 hx
    obtain rfl := asI_is h2 hy
    have G := eqGuard_int (P := P) op t a b k k' e.val e'.val
    cases op <;> dsimp only at h
    case shl =>
      obtain ⟨ht, hf⟩ := mkBr_holds h
      simp only [mkCmp_val, cmpVal, IE.val] at ht hf
      by_cases hy0 : e'.val ≥ 0
      · refine ⟨_, .int k (binVal .shl k e.val e'.val), ht (by simpa using hy0), ?_, G.bind fun w => ?_⟩
        · show _ = _; rw [mkOp_val]
        · have : ¬ e'.val < 0 := by omega
          simp [Go.binOp, Op.shift, this, binVal]
      · exact (hf (by simpa using hy0)).elim
    case shr =>
      obtain ⟨ht, hf⟩ := mkBr_holds h
      simp only [mkCmp_val, cmpVal, IE.val] at ht hf
      by_cases hy0 : e'.val ≥ 0
      · refine ⟨_, .int k (binVal .shr k e.val e'.val), ht (by simpa using hy0), ?_, G.bind fun w => ?_⟩
        · show _ = _; rw [mkOp_val]
        · have : ¬ e'.val < 0 := by omega
          simp [Go.binOp, Op.shift, this, binVal]
      · exact (hf (by simpa using hy0)).elim
    case quo =>
      split at h
      · rename_i hk; subst hk
        obtain ⟨ht, hf⟩ := mkBr_holds h
        simp only [mkCmp_val, cmpVal, IE.val] at ht hf
        by_cases hy0 : e'.val = 0
        · exact (hf (by simp [hy0])).elim
        · refine ⟨_, .int k (binVal .quo k e.val e'.val), ht (by simpa using hy0), ?_, G.bind fun w => ?_⟩
          · show _ = _; rw [mkOp_val]
          · simp [Go.binOp, Op.intDiv, hy0, binVal]
      · exact h.elim
    case rem =>
      split at h
      · rename_i hk; subst hk
        obtain ⟨ht, hf⟩ := mkBr_holds h
        simp only [mkCmp_val, cmpVal, IE.val] at ht hf
        by_cases hy0 : e'.val = 0
        · exact (hf (by simp [hy0])).elim
        · refine ⟨_, .int k (binVal .rem k e.val e'.val), ht (by simpa using hy0), ?_, G.bind fun w => ?_⟩
          · show _ = _; rw [mkOp_val]
          · simp [Go.binOp, Op.intDiv, hy0, binVal]
      · exact h.elim
    case add =>
      split at h
      · rename_i hk; subst hk
        refine ⟨_, .int k (binVal .add k e.val e'.val), h, ?_, G.bind fun w => ?_⟩
        · show _ = _; rw [mkOp_val]
        · simp [Go.binOp, Op.intArith, binVal]
      · exact h.elim
    case sub =>
      split at h
      · rename_i hk; subst hk
        refine ⟨_, .int k (binVal .sub k e.val e'.val), h, ?_, G.bind fun w => ?_⟩
        · show _ = _; rw [mkOp_val]
        · simp [Go.binOp, Op.intArith, binVal]
      · exact h.elim
    case mul =>
      split at h
      · rename_i hk; subst hk
        refine ⟨_, .int k (binVal .mul k e.val e'.val), h, ?_, G.bind fun w => ?_⟩
        · show _ = _; rw [mkOp_val]
        · simp [Go.binOp, Op.intArith, binVal]
      · exact h.elim
    case and =>
      split at h
      · rename_i hk; subst hk
        refine ⟨_, .int k (binVal .and k e.val e'.val), h, ?_, G.bind fun w => ?_⟩
        · show _ = _; rw [mkOp_val]
        · simp [Go.binOp, Op.intBits, binVal]
      · exact h.elim
    case or =>
      split at h
      · rename_i hk; subst hk
        refine ⟨_, .int k (binVal .or k e.val e'.val), h, ?_, G.bind fun w => ?_⟩
        · show _ = _; rw [mkOp_val]
        · simp [Go.binOp, Op.intBits, binVal]
      · exact h.elim
    case xor =>
      split at h
      · rename_i hk; subst hk
        refine ⟨_, .int k (binVal .xor k e.val e'.val), h, ?_, G.bind fun w => ?_⟩
        · show _ = _; rw [mkOp_val]
        · simp [Go.binOp, Op.intBits, binVal]
      · exact h.elim
    case andNot =>
      split at h
      · rename_i hk; subst hk
        refine ⟨_, .int k (binVal .andNot k e.val e'.val), h, ?_, G.bind fun w => ?_⟩
        · show _ = _; rw [mkOp_val]
        · simp [Go.binOp, Op.intBits, binVal]
      · exact h.elim
    case eql =>
      split at h
      · rename_i hk; subst hk
        refine ⟨_, .bool (cmpVal .eql e.val e'.val), h, ?_, G.bind fun w => ?_⟩
        · show _ = _; rw [mkCmp_val]
        · simp [Go.binOp, Op.intCmp, cmpVal]
      · exact h.elim
    case neq =>
      split at h
      · rename_i hk; subst hk
        refine ⟨_, .bool (cmpVal .neq e.val e'.val), h, ?_, G.bind fun w => ?_⟩
        · show _ = _; rw [mkCmp_val]
        · simp [Go.binOp, Op.intCmp, cmpVal]
      · exact h.elim
    case lss =>
      split at h
      · rename_i hk; subst hk
        refine ⟨_, .bool (cmpVal .lss e.val e'.val), h, ?_, G.bind fun w => ?_⟩
        · show _ = _; rw [mkCmp_val]
        · simp [Go.binOp, Op.intCmp, cmpVal]
      · exact h.elim
    case leq =>
      split at h
      · rename_i hk; subst hk
        refine ⟨_, .bool (cmpVal .leq e.val e'.val), h, ?_, G.bind fun w => ?_⟩
        · show _ = _; rw [mkCmp_val]
        · simp [Go.binOp, Op.intCmp, cmpVal]
      · exact h.elim
    case gtr =>
      split at h
      · rename_i hk; subst hk
        refine ⟨_, .bool (cmpVal .gtr e.val e'.val), h, ?_, G.bind fun w => ?_⟩
        · show _ = _; rw [mkCmp_val]
        · simp [Go.binOp, Op.intCmp, cmpVal]
      · exact h.elim
    case geq =>
      split at h
      · rename_i hk; subst hk
        refine ⟨_, .bool (cmpVal .geq e.val e'.val), h, ?_, G.bind fun w => ?_⟩
        · show _ = _; rw [mkCmp_val]
        · simp [Go.binOp, Op.intCmp, cmpVal]
      · exact h.elim
  · rename_i h1 h2
    split at h
    · rename_i e he
      obtain ⟨g1, g2⟩ := eqS_gives he hx hy
      exact ⟨_, _, h, rfl, (g2 _ a b).bind (eqS_binOp he h1 hx hy).1⟩
    · rename_i e he
      obtain ⟨g1, g2⟩ := eqS_gives he hx hy
      refine ⟨_, .bool (!e.val), h, ?_, (g2 _ a b).bind (eqS_binOp he h1 hx hy).2⟩
      show _ = _; rw [mkNot_val]
    · exact h.elim
  · exact h.elim

end Go.Proofs.Ytafemlljemhkhaa.Sx
