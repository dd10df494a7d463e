/-
  A claim's begin, the slot that it looks at, handles put together: told by the one table.
-/
import Derived.Test.YtafemlljemhkhaaSxSh
namespace Go.Proofs.Ytafemlljemhkhaa.Sx
open Go
set_option linter.unusedSectionVars false
set_option linter.unusedVariables false
set_option linter.unusedSimpArgs false
set_option maxRecDepth 1000000
namespace Ck
open Bk Sm
def claimX (f a : SC) : SO Empty := .cells 114 [f, xi 1100, a, xi 1102, xu 1103, xu 1104, xi 1105] 0
def c0 : SV := .w (.one (.b (.ptr 194 (.lit 0))))
def i4 (e : IE) : SC := .b (.int .i64 e)
def begE : IE := .ite (.cmpI .geq (.atom 1100) (.lit 1)) (.ite (.cmpI .leq (.atom 1100) (.atom 1110)) (.atom 1100) (.lit 1)) (.lit 1)
def begF : IE := .fn 34 (.consL (.atom 1100) (.consL (.lit 0) (.consL (.atom 1110) .nilL)))
theorem beg_val (E : Env) (h0 : 1 ≤ E.i 1110) (h1 : E.i 1110 ≤ 64) : @IE.val E begE = @IE.val E begF := by
  show iteI (ofB (decide (E.i 1100 ≥ 1))) (iteI (ofB (decide (E.i 1100 ≤ E.i 1110))) (E.i 1100) 1) 1 = atF (E.i 1100) 0 (E.i 1110)
  simp only [iteI_ofB, decide_eq_true_eq]
  unfold atF
  have key : ∀ x : Int, 1 ≤ x → x ≤ E.i 1110 → IntKind.i64.wrap (Int.tmod (IntKind.i64.wrap (IntKind.i64.wrap (x - 1) + 0)) (E.i 1110) + 1) = x := fun x hx hm => by
    rw [wrap_small (x := x - 1) (by omega) (by omega), wrap_small (x := x - 1 + 0) (by omega) (by omega), Int.tmod_eq_emod_of_nonneg (by omega), Int.emod_eq_of_lt (by omega) (by omega), wrap_small (by omega) (by omega)]
    omega
  by_cases a : E.i 1100 ≥ 1 <;> by_cases b : E.i 1100 ≤ E.i 1110
  · rw [if_pos a, if_pos b, if_neg (by omega), key _ a b]
  · rw [if_pos a, if_neg b, if_pos (by omega), key 1 (by omega) h0]
  · rw [if_neg a, if_pos (by omega), key 1 (by omega) h0]
  · rw [if_neg a, if_pos (by omega), key 1 (by omega) h0]
def t_beg (e : IE) : Tree (SV × Heap Empty) := .leaf (.tup [], [(194, claimX (.b .unk) (i4 e))])
def h0 : Heap Empty := [(194, claimX (.b .unk) (i4 (.lit 0)))]
def h1 : Heap Empty := [(194, claimX (.b .unk) (xi 1101))]
def t_beg0 : Tree (SV × Heap Empty) := .req (.cmp .leq (.lit 1) (.atom 1110)) (.req (.cmp .leq (.atom 1110) (.lit 64)) (t_beg begF))
def t_beg1 : Tree (SV × Heap Empty) := .req (.cmp .lss (.lit 0) (.atom 1101)) (t_beg (.atom 1101))
def beg1E : IE := .ite (.cmpI .gtr (.atom 1101) (.lit 0)) (.atom 1101) begE
theorem beg1_val (E : Env) (h : 0 < E.i 1101) : @IE.val E beg1E = @IE.val E (.atom 1101) := by
  show iteI (ofB (decide (E.i 1101 > 0))) (E.i 1101) _ = E.i 1101
  rw [iteI_ofB, if_pos (decide_eq_true h)]
theorem e_beg0 [Env] : base7 104 [c0, wi 1110] [] h0 1 = t_beg begE := by kernel_rfl
def s_beg0 : Summ := ⟨104, [c0, wi 1110], h0, t_beg0⟩
theorem ok_beg0 : s_beg0.ok Try.prog := Summ.conv (Summ.of (c := @base7) @base7_ok (enters_of Try.func104 (by kernel_rfl)) @e_beg0) fun E K hK => ⟨_, hK.2.2, Eqv.of (q := ⟨[(begE, begF)], [], []⟩) ⟨cc (beg_val E (of_decide_eq_true hK.1) (of_decide_eq_true hK.2.1)) nn, nn, nn⟩ (by kernel_rfl)⟩
theorem e_beg1 [Env] : base7 104 [c0, wi 1110] [] h1 1 = t_beg beg1E := by kernel_rfl
def s_beg1 : Summ := ⟨104, [c0, wi 1110], h1, t_beg1⟩
theorem ok_beg1 : s_beg1.ok Try.prog := Summ.conv (Summ.of (c := @base7) @base7_ok (enters_of Try.func104 (by kernel_rfl)) @e_beg1) fun E K hK => ⟨_, hK.2, Eqv.of (q := ⟨[(beg1E, .atom 1101)], [], []⟩) ⟨cc (beg1_val E (of_decide_eq_true hK.1)) nn, nn, nn⟩ (by kernel_rfl)⟩
/-! the document's slot -/
def rcL : SV := .w (.agg [xi 1100, xi 1102, uk, uk, uk, uk])
def atM (e : IE) : IE := .op .add .i64 (.op .rem .i64 (.op .add .i64 e (.atom 1102)) (.atom 1110)) (.lit 1)
def atE : IE := .ite (.cmpI .lss (.atom 1100) (.lit 1)) (atM (.lit 0)) (.ite (.cmpI .gtr (.atom 1100) (.atom 1110)) (atM (.lit 0)) (atM (.op .sub .i64 (.atom 1100) (.lit 1))))
def atX : IE := .fn 34 (.consL (.atom 1100) (.consL (.atom 1102) (.consL (.atom 1110) .nilL)))
def lo : BE := .cmp .lss (.atom 1100) (.lit 1)
def hi : BE := .cmp .gtr (.atom 1100) (.atom 1110)
def nz : BE := .cmp .neq (.atom 1110) (.lit 0)
def z : BE := .not nz
theorem at_val (E : Env) : @IE.val E atE = @IE.val E atX := by
  show iteI (ofB (decide (E.i 1100 < 1))) (IntKind.i64.wrap (Int.tmod (IntKind.i64.wrap (0 + E.i 1102)) (E.i 1110) + 1)) (iteI (ofB (decide (E.i 1100 > E.i 1110))) (IntKind.i64.wrap (Int.tmod (IntKind.i64.wrap (0 + E.i 1102)) (E.i 1110) + 1)) (IntKind.i64.wrap (Int.tmod (IntKind.i64.wrap (IntKind.i64.wrap (E.i 1100 - 1) + E.i 1102)) (E.i 1110) + 1))) = atF (E.i 1100) (E.i 1102) (E.i 1110)
  simp only [iteI_ofB, decide_eq_true_eq]
  unfold atF
  have w0 : IntKind.i64.wrap (1 - 1) = 0 := by rfl
  by_cases h : E.i 1100 < 1
  · rw [if_pos h, if_pos (.inl h), w0]
  · by_cases h2 : E.i 1100 > E.i 1110
    · rw [if_neg h, if_pos h2, if_pos (.inr h2), w0]
    · rw [if_neg h, if_neg h2, if_neg (by omega)]
def t_at0 : Tree (SV × Heap Empty) := .req (.not (.and lo z)) (.req (.not (.and (.not lo) (.and hi z))) (.req (.not (.and (.not lo) (.and (.not hi) z))) (.leaf (.w (.one (i4 atE)), []))))
def t_at : Tree (SV × Heap Empty) := .req nz (.leaf (.w (.one (i4 atX)), []))
theorem e_at [Env] : base7 80 [rcL, wi 1110] [] [] 1 = t_at0 := by kernel_rfl
def s_at : Summ := ⟨80, [rcL, wi 1110], [], t_at⟩
theorem ok_at : s_at.ok Try.prog := Summ.conv (Summ.of (c := @base7) @base7_ok (enters_of Try.func80 (by kernel_rfl)) @e_at) fun E K hK => by
  obtain ⟨h1, h2⟩ := hK
  have hz : BE.val z = false := by
    show (!(BE.val nz)) = false
    rw [h1]; rfl
  refine ⟨?_, ?_, ?_, _, h2, Eqv.of (q := ⟨[(atE, atX)], [], []⟩) ⟨cc (at_val E) nn, nn, nn⟩ (by kernel_rfl)⟩
  all_goals simp only [BE.val, hz, Bool.and_false, Bool.not_false]
/-! handles -/
theorem minI_eq (x y : Int) : minI x y = min x y := by unfold minI; by_cases h : y < x <;> simp only [h, if_true, if_false] <;> omega
theorem maxI_eq (x y : Int) : maxI x y = max x y := by unfold maxI; by_cases h : y > x <;> simp only [h, if_true, if_false] <;> omega
theorem clampR (x m : Int) (hm : 0 ≤ m) : (maxI 0 (minI x m) == x) = decide (0 ≤ x ∧ x ≤ m) := by
  rw [maxI_eq, minI_eq]
  by_cases h : 0 ≤ x ∧ x ≤ m
  · rw [decide_eq_true h, beq_iff_eq]; omega
  · rw [decide_eq_false h, beq_eq_false_iff_ne]; omega
theorem packB (i g : Int) : (decide (0 ≤ i ∧ i ≤ 4294967295) && decide (0 ≤ g ∧ g ≤ 1073741823)) = decide (packP i g) := by
  by_cases h : packP i g
  · rw [decide_eq_true h, decide_eq_true ⟨h.1, h.2.1⟩, decide_eq_true ⟨h.2.2.1, h.2.2.2⟩]; rfl
  · rw [decide_eq_false h]
    by_cases k : 0 ≤ i ∧ i ≤ 4294967295
    · rw [decide_eq_false (p := 0 ≤ g ∧ g ≤ 1073741823) (fun m => h ⟨k.1, k.2, m.1, m.2⟩), Bool.and_false]
    · rw [decide_eq_false k, Bool.false_and]
def pkF : IE := .fn 26 (.consL (.atom 1100) (.consL (.atom 1101) (.consL (.lit 0) .nilL)))
def pkQ : BE := .cmp .neq (.fn 27 (.consL (.atom 1100) (.consL (.atom 1101) (.consL (.lit 0) .nilL)))) (.lit 0)
def pkI : IE := .ite (.notI (.andI (.cmpI .eql (.mx (.lit 0) (.mn (.atom 1100) (.lit 4294967295))) (.atom 1100)) (.cmpI .eql (.mx (.lit 0) (.mn (.atom 1101) (.lit 1073741823))) (.atom 1101)))) (.lit 0) (.op .or .u64 (.op .or .u64 (.lit 9223372036854775808) (.op .shl .u64 (.conv .u64 (.atom 1101)) (.lit 32))) (.conv .u64 (.atom 1100)))
def pkB : BE := .and (.cmp .eql (.mx (.lit 0) (.mn (.atom 1100) (.lit 4294967295))) (.atom 1100)) (.cmp .eql (.mx (.lit 0) (.mn (.atom 1101) (.lit 1073741823))) (.atom 1101))
theorem pkB_val (E : Env) : @BE.val E pkB = @BE.val E pkQ := by
  show ((maxI 0 (minI (E.i 1100) 4294967295) == E.i 1100) && (maxI 0 (minI (E.i 1101) 1073741823) == E.i 1101)) = (ofP (packP (E.i 1100) (E.i 1101)) != 0)
  rw [clampR _ _ (by omega), clampR _ _ (by omega), packB, ofP_ne]
theorem or_pack (i g : Int) (h : packP i g) : binVal .or .u64 (binVal .or .u64 9223372036854775808 (binVal .shl .u64 g 32)) i = 9223372036854775808 + 4294967296 * g + i := by
  obtain ⟨a, b, c, d⟩ := h
  have q : binVal .shl .u64 g 32 = 4294967296 * g := by
    show IntKind.u64.wrap (g * (2 : Int) ^ (min (Int.toNat 32) IntKind.u64.bits)) = _
    rw [show (2 : Int) ^ (min (Int.toNat 32) IntKind.u64.bits) = 4294967296 from rfl, wrap_u]
    omega
  rw [q]
  have e0 : (BitVec.ofInt 64 9223372036854775808).toNat = 2 ^ 63 * 1 := by rfl
  have e1 : (BitVec.ofInt 64 (4294967296 * g)).toNat = 2 ^ 32 * g.toNat := by rw [BitVec.toNat_ofInt]; omega
  have e2 : (BitVec.ofInt 64 i).toNat = i.toNat := by rw [BitVec.toNat_ofInt]; omega
  have s1 : binVal .or .u64 9223372036854775808 (4294967296 * g) = 9223372036854775808 + 4294967296 * g := by
    show IntKind.u64.wrap (BitVec.ofInt 64 9223372036854775808 ||| BitVec.ofInt 64 (4294967296 * g)).toNat = _
    rw [BitVec.toNat_or, e0, e1, ← Nat.two_pow_add_eq_or_of_lt (i := 63) (b := 2 ^ 32 * g.toNat) (by omega), wrap_u]
    omega
  rw [s1]
  show IntKind.u64.wrap (BitVec.ofInt 64 (9223372036854775808 + 4294967296 * g) ||| BitVec.ofInt 64 i).toNat = _
  have e3 : (BitVec.ofInt 64 (9223372036854775808 + 4294967296 * g)).toNat = 2 ^ 32 * (2147483648 + g.toNat) := by rw [BitVec.toNat_ofInt]; omega
  rw [BitVec.toNat_or, e3, e2, ← Nat.two_pow_add_eq_or_of_lt (by omega), wrap_u]
  omega
theorem pkI_val (E : Env) : @IE.val E pkI = @IE.val E pkF := by
  show iteI (ofB (ofB (ofB (maxI 0 (minI (E.i 1100) 4294967295) == E.i 1100) != 0 && ofB (maxI 0 (minI (E.i 1101) 1073741823) == E.i 1101) != 0) == 0)) 0 (binVal .or .u64 (binVal .or .u64 9223372036854775808 (binVal .shl .u64 (IntKind.u64.wrap (E.i 1101)) 32)) (IntKind.u64.wrap (E.i 1100))) = packF (E.i 1100) (E.i 1101) 0
  rw [ofB_bne, ofB_bne, clampR _ _ (by omega), clampR _ _ (by omega), packB, iteI_ofB]
  unfold packF
  by_cases h : packP (E.i 1100) (E.i 1101)
  · have h' := h
    obtain ⟨a, b, c, d⟩ := h'
    rw [decide_eq_true h, if_neg (by decide), if_pos h, if_pos rfl, wrap_u, wrap_u, Int.emod_eq_of_lt (by omega) (by omega), Int.emod_eq_of_lt (by omega) (by omega), or_pack _ _ h]
  · rw [decide_eq_false h, if_pos (by decide), if_neg h]
def wf : SV := .w (.one (.b (.bool (.lit false))))
def t_pack (e : IE) (b : BE) : Tree (SV × Heap Empty) := .leaf (.tup [.one (.b (.int .u64 e)), .one (.b (.bool b))], [])
theorem e_pack [Env] : base7 127 [wi 1100, wi 1101, wf] [] [] 1 = t_pack pkI pkB := by kernel_rfl
def s_pack : Summ := ⟨127, [wi 1100, wi 1101, wf], [], t_pack pkF pkQ⟩
theorem ok_pack : s_pack.ok Try.prog := Summ.conv (Summ.of (c := @base7) @base7_ok (enters_of Try.func127 (by kernel_rfl)) @e_pack) fun E K hK => ⟨_, hK, Eqv.of (q := ⟨[(pkI, pkF)], [], [(pkB, pkQ)]⟩) ⟨cc (pkI_val E) nn, nn, cc (pkB_val E) nn⟩ (by kernel_rfl)⟩
def ofI : IE := .ite (.cmpI .lss (.atom 1100) (.lit 0)) (.lit 0) (.ite (.cmpI .gtr (.atom 1100) (.lit 4294967295)) (.lit 0) (.ite (.cmpI .lss (.atom 1101) (.lit 0)) (.lit 0) (.ite (.cmpI .gtr (.atom 1101) (.lit 1073741823)) (.lit 0) (.op .add .u64 (.op .add .u64 (.lit 9223372036854775808) (.op .mul .u64 (.lit 4294967296) (.conv .u64 (.atom 1101)))) (.conv .u64 (.atom 1100))))))
theorem of_key (i g W : Int) (w : packP i g → W = 9223372036854775808 + 4294967296 * g + i) : iteI (ofB (cmpVal .lss i 0)) 0 (iteI (ofB (cmpVal .gtr i 4294967295)) 0 (iteI (ofB (cmpVal .lss g 0)) 0 (iteI (ofB (cmpVal .gtr g 1073741823)) 0 W))) = packF i g 0 := by
  simp only [cmpVal, iteI_ofB, decide_eq_true_eq]
  unfold packF
  by_cases h : packP i g
  · rw [if_pos h, if_pos rfl, ← w h]
    obtain ⟨a, b, c, d⟩ := h
    rw [if_neg (by omega), if_neg (by omega), if_neg (by omega), if_neg (by omega)]
  · rw [if_neg h]
    unfold packP at h
    repeat' split
    all_goals omega
theorem ofI_val (E : Env) : @IE.val E ofI = @IE.val E pkF := of_key (E.i 1100) (E.i 1101) _ fun h => by
  obtain ⟨a, b, c, d⟩ := h
  show IntKind.u64.wrap (IntKind.u64.wrap (9223372036854775808 + IntKind.u64.wrap (4294967296 * IntKind.u64.wrap (E.i 1101))) + IntKind.u64.wrap (E.i 1100)) = _
  simp only [wrap_u]
  omega
def t_of (e : IE) : Tree (SV × Heap Empty) := .leaf (.w (.one (.b (.int .u64 e))), [])
theorem e_of [Env] : base7 85 [wi 1100, wi 1101] [] [] 1 = t_of ofI := by kernel_rfl
def s_of : Summ := ⟨85, [wi 1100, wi 1101], [], t_of pkF⟩
theorem ok_of : s_of.ok Try.prog := Summ.conv (Summ.of (c := @base7) @base7_ok (enters_of Try.func85 (by kernel_rfl)) @e_of) fun E K hK => ⟨_, hK, Eqv.of (q := ⟨[(ofI, pkF)], [], []⟩) ⟨cc (ofI_val E) nn, nn, nn⟩ (by kernel_rfl)⟩
def su0 : List Summ := []
theorem su0_ok : ∀ σ ∈ su0, σ.ok Try.prog := nn
def su1 : List Summ := s_beg0 :: s_beg1 :: su0
theorem su1_ok : ∀ σ ∈ su1, σ.ok Try.prog := cc ok_beg0 (cc ok_beg1 su0_ok)
def su2 : List Summ := s_at :: su1
theorem su2_ok : ∀ σ ∈ su2, σ.ok Try.prog := cc ok_at su1_ok
def su3 : List Summ := s_pack :: su2
theorem su3_ok : ∀ σ ∈ su3, σ.ok Try.prog := cc ok_pack su2_ok
def su4 : List Summ := s_of :: su3
theorem su4_ok : ∀ σ ∈ su4, σ.ok Try.prog := cc ok_of su3_ok
def sums : List Summ := su4
theorem sums_ok : ∀ σ ∈ sums, σ.ok Try.prog := su4_ok
end Ck
def sumsK : List Summ := Ck.sums ++ sums7
theorem sumsK_ok : ∀ σ ∈ sumsK, σ.ok Try.prog := fun σ h => (List.mem_append.1 h).elim (Ck.sums_ok σ) (sums7_ok σ)
noncomputable def baseK [Env] : CallF Empty := callF Try.prog (withS sumsK sums3) (extraS Try.prog) noL 100 50
theorem baseK_ok [Env] : CallOk Try.prog baseK := callF_ok ⟨mixed_ok, (withS_ok sumsK_ok sums3_ok).2, names_ok, (withS_ok sumsK_ok sums3_ok).1, extraS_ok _, fun _ _ _ _ _ _ _ _ _ _ _ _ _ _ _ _ h => (by cases h)⟩ 100 50
noncomputable def baseKu [Env] : CallF Empty := callU Try.prog baseK (extraS Try.prog) noL 100
theorem baseKu_ok [Env] : CallOk Try.prog baseKu := callU_ok mixed_ok baseK_ok (extraS_ok _) names_ok (fun _ _ _ _ _ _ _ _ _ _ _ _ _ _ _ _ h => (by cases h))

end Go.Proofs.Ytafemlljemhkhaa.Sx
