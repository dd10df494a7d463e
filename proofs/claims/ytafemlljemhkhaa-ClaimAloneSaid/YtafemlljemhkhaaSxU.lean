/-
  PURE FUNCTIONS OF THE PROGRAM, and what the table says of them.
-/
import Derived.Test.YtafemlljemhkhaaSxT
import Derived.Test.YtafemlljemhkhaaProg
import Derived.KernelRfl
namespace Go.Proofs.Ytafemlljemhkhaa.Sx
open Go
set_option linter.unusedSectionVars false
set_option linter.unusedVariables false
set_option linter.unusedSimpArgs false
set_option maxRecDepth 100000

def noG : SumF Empty := fun _ _ _ _ _ => none
def noL : Nat → LoopF Empty := fun _ _ _ _ _ => none
theorem namesOk : (Try.prog.funcs.all fun fn => !(fn.name == "runtime.NumGoroutine")) = true := by kernel_rfl
theorem names_ok (g : Nat) (fn : Func) (h : Try.prog.funcs[g]? = some fn) : (fn.name == "runtime.NumGoroutine") = false := by
  obtain ⟨hlt, rfl⟩ := Array.getElem?_eq_some_iff.1 h
  have := (Array.all_eq_true.1 namesOk) g hlt
  simpa using this
theorem mixed_ok : Try.prog.follows .mixedOrders = true := by kernel_rfl
noncomputable def base [Env] : CallF Empty := callF Try.prog noG (extraS Try.prog) noL 100 50
theorem base_ok [Env] : CallOk Try.prog base := callF_ok ⟨mixed_ok, fun _ _ _ _ _ _ h => (by cases h), names_ok, fun _ _ _ _ _ _ _ _ _ _ _ h => (by cases h), extraS_ok _, fun _ _ _ _ _ _ _ _ _ _ _ _ _ _ _ _ h => (by cases h)⟩ 100 50

def ai (i : Nat) : SC := .b (.int .i64 (.atom i))
def au (i : Nat) : SC := .b (.int .u64 (.atom i))
def cfgA : SV := .w (.agg [ai 0, ai 1, ai 2, ai 3, ai 4, ai 5, ai 6])
def cfg2A : List SV := [cfgA, .w (.one (ai 7)), .w (.one (ai 8))]
def resI (k : IntKind) (e : IE) : SV := .w (.one (.b (.int k e)))
def resB (e : IE) : SV := .w (.one (.b (.bool (.cmp .neq e (.lit 0)))))

theorem wrap_small {x : Int} (h0 : -9223372036854775808 ≤ x) (h1 : x ≤ 9223372036854775807) : IntKind.i64.wrap x = x := by
  unfold IntKind.wrap
  simp only [IntKind.bits, IntKind.signed]
  by_cases h : 0 ≤ x
  · have h2 : x % (2 ^ 64 : Int) = x := Int.emod_eq_of_lt h (by omega)
    simp only [h2]
    rw [if_neg]
    simp
    omega
  · have h2 : x % (2 ^ 64 : Int) = x + 2 ^ 64 := by omega
    simp only [h2]
    rw [if_pos]
    · omega
    · simp; omega
theorem wrap_u {x : Int} : IntKind.u64.wrap x = x % 18446744073709551616 := by
  unfold IntKind.wrap
  simp [IntKind.bits, IntKind.signed]
theorem iteI_ofB {α : Type} (b : Bool) (x y : α) : iteI (ofB b) x y = if b = true then x else y := by cases b <;> rfl
theorem ofB_bne (b : Bool) : (ofB b != 0) = b := by cases b <;> rfl
theorem ofB_beq (b : Bool) : (ofB b == 0) = !b := by cases b <;> rfl
theorem mul_le_of {a b m n : Int} (h0 : 0 ≤ a) (h1 : a ≤ m) (h2 : 0 ≤ b) (h3 : b ≤ n) (hm : 0 ≤ m) : 0 ≤ a * b ∧ a * b ≤ m * n :=
  ⟨Int.mul_nonneg h0 h2, Int.mul_le_mul h1 h3 h2 hm⟩

def rng (i : Nat) (lo hi : Int) : BE := .cmp .eql (.atom i) (.mx (.lit lo) (.mn (.atom i) (.lit hi)))
def right1 : BE := .and (rng 0 1 8) (.and (rng 1 1 8) (.and (rng 2 1 64) (.and (rng 3 1 6) (.and (rng 4 1 64) (.and (rng 5 1 64) (rng 6 0 1073741823))))))
theorem rng_val [Env] (i : Nat) (lo hi : Int) (h : lo ≤ hi) : (rng i lo hi).val = decide (lo ≤ Env.i i ∧ Env.i i ≤ hi) := by
  simp only [rng, BE.val, IE.val, cmpVal]
  generalize Env.i i = x
  rw [Bool.eq_iff_iff, beq_iff_eq, decide_eq_true_eq]
  unfold maxI minI
  by_cases c1 : hi < x
  · rw [if_pos c1]
    by_cases c2 : hi > lo
    · rw [if_pos c2]; omega
    · rw [if_neg c2]; omega
  · rw [if_neg c1]
    by_cases c2 : x > lo
    · rw [if_pos c2]; omega
    · rw [if_neg c2]; omega
theorem right1_val [Env] : right1.val = decide (rightP (Env.i 0) (Env.i 1) (Env.i 2) (Env.i 3) (Env.i 4) (Env.i 5) (Env.i 6)) := by
  simp only [right1, BE.val, rng_val _ 1 8 (by omega), rng_val _ 1 64 (by omega), rng_val _ 1 6 (by omega), rng_val _ 0 1073741823 (by omega)]
  rw [Bool.eq_iff_iff, decide_eq_true_eq]
  simp only [Bool.and_eq_true, decide_eq_true_eq, rightP, and_assoc]
def right2 : BE := .and (.not (.cmp .lss (.atom 0) (.lit (1)))) (.and (.not (.cmp .gtr (.atom 0) (.lit (8)))) (.and (.not (.cmp .lss (.atom 1) (.lit (1)))) (.and (.not (.cmp .gtr (.atom 1) (.lit (8)))) (.and (.not (.cmp .lss (.atom 2) (.lit (1)))) (.and (.not (.cmp .gtr (.atom 2) (.lit (64)))) (.and (.not (.cmp .lss (.atom 3) (.lit (1)))) (.and (.not (.cmp .gtr (.atom 3) (.lit (6)))) (.and (.cmp .geq (.atom 4) (.lit (1))) (.and (.cmp .leq (.atom 4) (.lit (64))) (.and (.cmp .geq (.atom 5) (.lit (1))) (.and (.cmp .leq (.atom 5) (.lit (64))) (.and (.cmp .geq (.atom 6) (.lit (0))) (.cmp .leq (.atom 6) (.lit (1073741823)))))))))))))))
theorem right2_val [Env] : right2.val = decide (rightP (Env.i 0) (Env.i 1) (Env.i 2) (Env.i 3) (Env.i 4) (Env.i 5) (Env.i 6)) := by
  simp only [right2, BE.val, IE.val]
  simp only [cmpVal]
  rw [Bool.eq_iff_iff, decide_eq_true_eq]
  simp only [Bool.and_eq_true, Bool.not_eq_true', decide_eq_true_eq, decide_eq_false_iff_not, rightP]
  omega
theorem nine {l : List Int} (h : l.length = 9) : l = [l.getD 0 0, l.getD 1 0, l.getD 2 0, l.getD 3 0, l.getD 4 0, l.getD 5 0, l.getD 6 0, l.getD 7 0, l.getD 8 0] := by
  match l, h with
  | [_, _, _, _, _, _, _, _, _], _ => rfl
theorem seven {l : List Int} (h : l.length = 7) : l = [l.getD 0 0, l.getD 1 0, l.getD 2 0, l.getD 3 0, l.getD 4 0, l.getD 5 0, l.getD 6 0] := by
  match l, h with
  | [_, _, _, _, _, _, _], _ => rfl
theorem single {l : List Int} (h : l.length = 1) : l = [l.getD 0 0] := by
  match l, h with
  | [_], _ => rfl

theorem enters51 : enters Try.prog 68 := ⟨Try.f68, Try.func68, by kernel_rfl, by kernel_rfl⟩
theorem eval51 [Env] : base 68 [cfgA] [] [] 1 = .leaf (.w (.one (.b (.bool right1))), []) := by kernel_rfl
theorem pure51 : PureOk Try.prog 68 [cfgA] 7 (fun _ => []) (fun a => resB (.fn 1 a)) :=
  PureOk.of (c := @base) (r0 := .w (.one (.b (.bool right1)))) @base_ok @eval51 enters51 (fun _ _ _ _ _ _ p hp => by cases hp) fun l hl _ E a hal ρ ρ' v hv => by
    have h1 : v = .bool (@BE.val (envOf l) right1) := hv
    rw [@right1_val (envOf l)] at h1
    show v = .bool (BE.val (.cmp .neq (.fn 1 a) (.lit 0)))
    rw [h1, BE.val, IE.val, IE.val, hal]
    conv => rhs; rw [seven hl]
    show _ = Value.bool (cmpVal .neq (if rightP _ _ _ _ _ _ _ then 1 else 0) 0)
    congr 1
    show decide (rightP _ _ _ _ _ _ _) = _
    by_cases hR : rightP (l.getD 0 0) (l.getD 1 0) (l.getD 2 0) (l.getD 3 0) (l.getD 4 0) (l.getD 5 0) (l.getD 6 0)
    · rw [if_pos hR]; exact decide_eq_true hR
    · rw [if_neg hR]; exact decide_eq_false hR

theorem enters41 : enters Try.prog 63 := ⟨Try.f63, Try.func63, by kernel_rfl, by kernel_rfl⟩
theorem eval41 [Env] : base 63 [cfgA] [] [] 1 = .leaf (.w (.one (.b (.bool right2))), []) := by kernel_rfl
theorem pure41 : PureOk Try.prog 63 [cfgA] 7 (fun _ => []) (fun a => resB (.fn 1 a)) :=
  PureOk.of (c := @base) (r0 := .w (.one (.b (.bool right2)))) @base_ok @eval41 enters41 (fun _ _ _ _ _ _ p hp => by cases hp) fun l hl _ E a hal ρ ρ' v hv => by
    have h1 : v = .bool (@BE.val (envOf l) right2) := hv
    rw [@right2_val (envOf l)] at h1
    show v = .bool (BE.val (.cmp .neq (.fn 1 a) (.lit 0)))
    rw [h1, BE.val, IE.val, IE.val, hal]
    conv => rhs; rw [seven hl]
    show _ = Value.bool (cmpVal .neq (if rightP _ _ _ _ _ _ _ then 1 else 0) 0)
    congr 1
    show decide (rightP _ _ _ _ _ _ _) = _
    by_cases hR : rightP (l.getD 0 0) (l.getD 1 0) (l.getD 2 0) (l.getD 3 0) (l.getD 4 0) (l.getD 5 0) (l.getD 6 0)
    · rw [if_pos hR]; exact decide_eq_true hR
    · rw [if_neg hR]; exact decide_eq_false hR

def e52 : IE := .ite (.notI right1.toI) (.lit (0)) (.op .add .i64 (.op .add .i64 (.lit (1)) (.op .mul .i64 (.atom 0) (.atom 1))) (.op .mul .i64 (.op .add .i64 (.atom 2) (.lit (1))) (.op .add .i64 (.lit (6)) (.atom 3))))
theorem eval52 [Env] : base 69 [cfgA] [] [] 1 = .leaf (resI .i64 e52, []) := by kernel_rfl
theorem e52_val [Env] : e52.val = lenF (Env.i 0) (Env.i 1) (Env.i 2) (Env.i 3) (Env.i 4) (Env.i 5) (Env.i 6) := by
  have hr := right1.toI_val
  rw [right1_val] at hr
  unfold e52
  simp only [IE.val, hr, binVal]
  simp only [cmpVal, iteI_ofB, ofB_bne, ofB_beq, Bool.and_eq_true, Bool.not_eq_true', Bool.not_eq_false', decide_eq_true_eq, decide_eq_false_iff_not, Bool.and_eq_false_imp, Bool.not_and, Bool.or_eq_true]
  unfold lenF
  by_cases hR : rightP (Env.i 0) (Env.i 1) (Env.i 2) (Env.i 3) (Env.i 4) (Env.i 5) (Env.i 6)
  · have hR0 := hR
    obtain ⟨t1, t2, s1, s2, c1, c2, h1, h2, _⟩ := hR0
    obtain ⟨p1, p2⟩ := mul_le_of (m := 8) (n := 8) (by omega) t2 (by omega : 0 ≤ Env.i 1) s2 (by omega)
    have w3 : IntKind.i64.wrap (6 + Env.i 3) = 6 + Env.i 3 := wrap_small (by omega) (by omega)
    have w4 : IntKind.i64.wrap (Env.i 2 + 1) = Env.i 2 + 1 := wrap_small (by omega) (by omega)
    obtain ⟨q1, q2⟩ := mul_le_of (m := 65) (n := 12) (by omega : 0 ≤ Env.i 2 + 1) (by omega) (by omega : 0 ≤ 6 + Env.i 3) (by omega) (by omega)
    simp only [hR, not_true_eq_false, if_false, if_true]
    rw [w3, w4, wrap_small (x := Env.i 0 * Env.i 1) (by omega) (by omega), wrap_small (x := (Env.i 2 + 1) * (6 + Env.i 3)) (by omega) (by omega), wrap_small (x := 1 + Env.i 0 * Env.i 1) (by omega) (by omega), wrap_small (by omega) (by omega)]
  · simp only [hR, not_false_eq_true, if_true, false_and, if_false]
theorem enters52 : enters Try.prog 69 := ⟨Try.f69, Try.func69, by kernel_rfl, by kernel_rfl⟩
theorem pure52 : PureOk Try.prog 69 [cfgA] 7 (fun _ => []) (fun a => resI .i64 (.fn 2 a)) :=
  PureOk.of (c := @base) (r0 := resI .i64 e52) @base_ok @eval52 enters52 (fun _ _ _ _ _ _ p hp => by cases hp) fun l hl _ E a hal ρ ρ' v hv => by
    have h1 : v = .int .i64 (@IE.val (envOf l) e52) := hv
    rw [@e52_val (envOf l)] at h1
    show v = .int .i64 (IE.val (.fn 2 a))
    rw [h1, IE.val, hal]
    conv => rhs; rw [seven hl]
    rfl

def e44 : IE := .ite (.notI right2.toI) (.lit (0)) (.op .add .i64 (.op .add .i64 (.lit (1)) (.op .mul .i64 (.atom 0) (.atom 1))) (.op .mul .i64 (.op .add .i64 (.atom 2) (.lit (1))) (.op .add .i64 (.lit (6)) (.atom 3))))
theorem eval44 [Env] : base 64 [cfgA] [] [] 1 = .leaf (resI .i64 e44, []) := by kernel_rfl
theorem e44_val [Env] : e44.val = lenF (Env.i 0) (Env.i 1) (Env.i 2) (Env.i 3) (Env.i 4) (Env.i 5) (Env.i 6) := by
  have hr := right2.toI_val
  rw [right2_val] at hr
  unfold e44
  simp only [IE.val, hr, binVal]
  simp only [cmpVal, iteI_ofB, ofB_bne, ofB_beq, Bool.and_eq_true, Bool.not_eq_true', Bool.not_eq_false', decide_eq_true_eq, decide_eq_false_iff_not, Bool.and_eq_false_imp, Bool.not_and, Bool.or_eq_true]
  unfold lenF
  by_cases hR : rightP (Env.i 0) (Env.i 1) (Env.i 2) (Env.i 3) (Env.i 4) (Env.i 5) (Env.i 6)
  · have hR0 := hR
    obtain ⟨t1, t2, s1, s2, c1, c2, h1, h2, _⟩ := hR0
    obtain ⟨p1, p2⟩ := mul_le_of (m := 8) (n := 8) (by omega) t2 (by omega : 0 ≤ Env.i 1) s2 (by omega)
    have w3 : IntKind.i64.wrap (6 + Env.i 3) = 6 + Env.i 3 := wrap_small (by omega) (by omega)
    have w4 : IntKind.i64.wrap (Env.i 2 + 1) = Env.i 2 + 1 := wrap_small (by omega) (by omega)
    obtain ⟨q1, q2⟩ := mul_le_of (m := 65) (n := 12) (by omega : 0 ≤ Env.i 2 + 1) (by omega) (by omega : 0 ≤ 6 + Env.i 3) (by omega) (by omega)
    simp only [hR, not_true_eq_false, if_false, if_true]
    rw [w3, w4, wrap_small (x := Env.i 0 * Env.i 1) (by omega) (by omega), wrap_small (x := (Env.i 2 + 1) * (6 + Env.i 3)) (by omega) (by omega), wrap_small (x := 1 + Env.i 0 * Env.i 1) (by omega) (by omega), wrap_small (by omega) (by omega)]
  · simp only [hR, not_false_eq_true, if_true, false_and, if_false]
theorem enters44 : enters Try.prog 64 := ⟨Try.f64, Try.func64, by kernel_rfl, by kernel_rfl⟩
theorem pure44 : PureOk Try.prog 64 [cfgA] 7 (fun _ => []) (fun a => resI .i64 (.fn 2 a)) :=
  PureOk.of (c := @base) (r0 := resI .i64 e44) @base_ok @eval44 enters44 (fun _ _ _ _ _ _ p hp => by cases hp) fun l hl _ E a hal ρ ρ' v hv => by
    have h1 : v = .int .i64 (@IE.val (envOf l) e44) := hv
    rw [@e44_val (envOf l)] at h1
    show v = .int .i64 (IE.val (.fn 2 a))
    rw [h1, IE.val, hal]
    conv => rhs; rw [seven hl]
    rfl

def e48 : IE := .ite (.notI right1.toI) (.lit (-1)) (.ite (.notI (.andI (.cmpI .geq (.atom 7) (.lit (0))) (.cmpI .leq (.atom 7) (.atom 2)))) (.lit (-1)) (.ite (.notI (.andI (.cmpI .geq (.atom 8) (.lit (0))) (.cmpI .leq (.atom 8) (.op .sub .i64 (.op .add .i64 (.lit (6)) (.atom 3)) (.lit (1)))))) (.lit (-1)) (.op .add .i64 (.op .add .i64 (.op .add .i64 (.lit (1)) (.op .mul .i64 (.atom 0) (.atom 1))) (.op .mul .i64 (.atom 7) (.op .add .i64 (.lit (6)) (.atom 3)))) (.atom 8))))
theorem eval48 [Env] : base 71 cfg2A [] [] 1 = .leaf (resI .i64 e48, []) := by kernel_rfl
theorem e48_val [Env] : e48.val = cellF (Env.i 0) (Env.i 1) (Env.i 2) (Env.i 3) (Env.i 4) (Env.i 5) (Env.i 6) (Env.i 7) (Env.i 8) := by
  have hr := right1.toI_val
  rw [right1_val] at hr
  unfold e48
  simp only [IE.val, hr, binVal]
  simp only [cmpVal, iteI_ofB, ofB_bne, ofB_beq, Bool.and_eq_true, Bool.not_eq_true', Bool.not_eq_false', decide_eq_true_eq, decide_eq_false_iff_not, Bool.and_eq_false_imp, Bool.not_and, Bool.or_eq_true]
  unfold cellF
  by_cases hR : rightP (Env.i 0) (Env.i 1) (Env.i 2) (Env.i 3) (Env.i 4) (Env.i 5) (Env.i 6)
  · have hR0 := hR
    obtain ⟨t1, t2, s1, s2, c1, c2, h1, h2, _⟩ := hR0
    obtain ⟨p1, p2⟩ := mul_le_of (m := 8) (n := 8) (by omega) t2 (by omega : 0 ≤ Env.i 1) s2 (by omega)
    have w3 : IntKind.i64.wrap (6 + Env.i 3) = 6 + Env.i 3 := wrap_small (by omega) (by omega)
    have w4 : IntKind.i64.wrap (6 + Env.i 3 - 1) = 6 + Env.i 3 - 1 := wrap_small (by omega) (by omega)
    simp only [hR, not_true_eq_false, if_false, true_and, w3, w4]
    by_cases hA : 0 ≤ Env.i 7 ∧ Env.i 7 ≤ Env.i 2 ∧ 0 ≤ Env.i 8 ∧ Env.i 8 < 6 + Env.i 3
    · rw [if_pos hA]
      obtain ⟨a1, a2, a3, a4⟩ := hA
      obtain ⟨q1, q2⟩ := mul_le_of (m := 64) (n := 12) a1 (by omega) (by omega : 0 ≤ 6 + Env.i 3) (by omega) (by omega)
      repeat rw [if_neg (by omega)]
      rw [wrap_small (x := Env.i 0 * Env.i 1) (by omega) (by omega), wrap_small (x := Env.i 7 * (6 + Env.i 3)) (by omega) (by omega), wrap_small (x := 1 + Env.i 0 * Env.i 1) (by omega) (by omega), wrap_small (x := 1 + Env.i 0 * Env.i 1 + Env.i 7 * (6 + Env.i 3)) (by omega) (by omega), wrap_small (by omega) (by omega)]
    · rw [if_neg hA]
      repeat' split
      all_goals first | rfl | omega
  · simp only [hR, not_false_eq_true, if_true, false_and, if_false]
theorem enters48 : enters Try.prog 71 := ⟨Try.f71, Try.func71, by kernel_rfl, by kernel_rfl⟩
theorem pure48 : PureOk Try.prog 71 cfg2A 9 (fun _ => []) (fun a => resI .i64 (.fn 4 a)) :=
  PureOk.of (c := @base) (r0 := resI .i64 e48) @base_ok @eval48 enters48 (fun _ _ _ _ _ _ p hp => by cases hp) fun l hl _ E a hal ρ ρ' v hv => by
    have h1 : v = .int .i64 (@IE.val (envOf l) e48) := hv
    rw [@e48_val (envOf l)] at h1
    show v = .int .i64 (IE.val (.fn 4 a))
    rw [h1, IE.val, hal]
    conv => rhs; rw [nine hl]
    rfl

def e59 : IE := .ite (.notI right2.toI) (.lit (-1)) (.ite (.cmpI .lss (.atom 7) (.lit (0))) (.lit (-1)) (.ite (.cmpI .gtr (.atom 7) (.atom 2)) (.lit (-1)) (.ite (.cmpI .lss (.atom 8) (.lit (0))) (.lit (-1)) (.ite (.cmpI .geq (.atom 8) (.op .add .i64 (.lit (6)) (.atom 3))) (.lit (-1)) (.op .add .i64 (.op .add .i64 (.op .add .i64 (.lit (1)) (.op .mul .i64 (.atom 0) (.atom 1))) (.op .mul .i64 (.atom 7) (.op .add .i64 (.lit (6)) (.atom 3)))) (.atom 8))))))
theorem eval59 [Env] : base 116 cfg2A [] [] 1 = .leaf (resI .i64 e59, []) := by kernel_rfl
theorem e59_val [Env] : e59.val = cellF (Env.i 0) (Env.i 1) (Env.i 2) (Env.i 3) (Env.i 4) (Env.i 5) (Env.i 6) (Env.i 7) (Env.i 8) := by
  have hr := right2.toI_val
  rw [right2_val] at hr
  unfold e59
  simp only [IE.val, hr, binVal]
  simp only [cmpVal, iteI_ofB, ofB_bne, ofB_beq, Bool.and_eq_true, Bool.not_eq_true', Bool.not_eq_false', decide_eq_true_eq, decide_eq_false_iff_not, Bool.and_eq_false_imp, Bool.not_and, Bool.or_eq_true]
  unfold cellF
  by_cases hR : rightP (Env.i 0) (Env.i 1) (Env.i 2) (Env.i 3) (Env.i 4) (Env.i 5) (Env.i 6)
  · have hR0 := hR
    obtain ⟨t1, t2, s1, s2, c1, c2, h1, h2, _⟩ := hR0
    obtain ⟨p1, p2⟩ := mul_le_of (m := 8) (n := 8) (by omega) t2 (by omega : 0 ≤ Env.i 1) s2 (by omega)
    have w3 : IntKind.i64.wrap (6 + Env.i 3) = 6 + Env.i 3 := wrap_small (by omega) (by omega)
    simp only [hR, not_true_eq_false, if_false, true_and, w3]
    by_cases hA : 0 ≤ Env.i 7 ∧ Env.i 7 ≤ Env.i 2 ∧ 0 ≤ Env.i 8 ∧ Env.i 8 < 6 + Env.i 3
    · rw [if_pos hA]
      obtain ⟨a1, a2, a3, a4⟩ := hA
      obtain ⟨q1, q2⟩ := mul_le_of (m := 64) (n := 12) a1 (by omega) (by omega : 0 ≤ 6 + Env.i 3) (by omega) (by omega)
      repeat rw [if_neg (by omega)]
      rw [wrap_small (x := Env.i 0 * Env.i 1) (by omega) (by omega), wrap_small (x := Env.i 7 * (6 + Env.i 3)) (by omega) (by omega), wrap_small (x := 1 + Env.i 0 * Env.i 1) (by omega) (by omega), wrap_small (x := 1 + Env.i 0 * Env.i 1 + Env.i 7 * (6 + Env.i 3)) (by omega) (by omega), wrap_small (by omega) (by omega)]
    · rw [if_neg hA]
      repeat' split
      all_goals first | rfl | omega
  · simp only [hR, not_false_eq_true, if_true, false_and, if_false]
theorem enters59 : enters Try.prog 116 := ⟨Try.f116, Try.func116, by kernel_rfl, by kernel_rfl⟩
theorem pure59 : PureOk Try.prog 116 cfg2A 9 (fun _ => []) (fun a => resI .i64 (.fn 4 a)) :=
  PureOk.of (c := @base) (r0 := resI .i64 e59) @base_ok @eval59 enters59 (fun _ _ _ _ _ _ p hp => by cases hp) fun l hl _ E a hal ρ ρ' v hv => by
    have h1 : v = .int .i64 (@IE.val (envOf l) e59) := hv
    rw [@e59_val (envOf l)] at h1
    show v = .int .i64 (IE.val (.fn 4 a))
    rw [h1, IE.val, hal]
    conv => rhs; rw [nine hl]
    rfl

def e56 : IE := .ite (.notI right1.toI) (.lit (-1)) (.ite (.notI (.andI (.cmpI .geq (.atom 7) (.lit (0))) (.cmpI .leq (.atom 7) (.op .sub .i64 (.atom 0) (.lit (1)))))) (.lit (-1)) (.ite (.notI (.andI (.cmpI .geq (.atom 8) (.lit (0))) (.cmpI .leq (.atom 8) (.op .sub .i64 (.atom 1) (.lit (1)))))) (.lit (-1)) (.op .add .i64 (.op .add .i64 (.lit (1)) (.op .mul .i64 (.atom 7) (.atom 1))) (.atom 8))))
theorem eval56 [Env] : base 91 cfg2A [] [] 1 = .leaf (resI .i64 e56, []) := by kernel_rfl
theorem e56_val [Env] : e56.val = reservedF (Env.i 0) (Env.i 1) (Env.i 2) (Env.i 3) (Env.i 4) (Env.i 5) (Env.i 6) (Env.i 7) (Env.i 8) := by
  have hr := right1.toI_val
  rw [right1_val] at hr
  unfold e56
  simp only [IE.val, hr, binVal]
  simp only [cmpVal, iteI_ofB, ofB_bne, ofB_beq, Bool.and_eq_true, Bool.not_eq_true', Bool.not_eq_false', decide_eq_true_eq, decide_eq_false_iff_not, Bool.and_eq_false_imp, Bool.not_and, Bool.or_eq_true]
  unfold reservedF
  by_cases hR : rightP (Env.i 0) (Env.i 1) (Env.i 2) (Env.i 3) (Env.i 4) (Env.i 5) (Env.i 6)
  · have hR0 := hR
    obtain ⟨t1, t2, s1, s2, c1, c2, h1, h2, _⟩ := hR0
    have w3 : IntKind.i64.wrap (Env.i 0 - 1) = Env.i 0 - 1 := wrap_small (by omega) (by omega)
    have w4 : IntKind.i64.wrap (Env.i 1 - 1) = Env.i 1 - 1 := wrap_small (by omega) (by omega)
    simp only [hR, not_true_eq_false, if_false, true_and, w3, w4]
    by_cases hA : 0 ≤ Env.i 7 ∧ Env.i 7 < Env.i 0 ∧ 0 ≤ Env.i 8 ∧ Env.i 8 < Env.i 1
    · rw [if_pos hA]
      obtain ⟨a1, a2, a3, a4⟩ := hA
      obtain ⟨q1, q2⟩ := mul_le_of (m := 8) (n := 8) a1 (by omega) (by omega : 0 ≤ Env.i 1) (by omega) (by omega)
      repeat rw [if_neg (by omega)]
      rw [wrap_small (x := Env.i 7 * Env.i 1) (by omega) (by omega), wrap_small (x := 1 + Env.i 7 * Env.i 1) (by omega) (by omega), wrap_small (by omega) (by omega)]
    · rw [if_neg hA]
      repeat' split
      all_goals first | rfl | omega
  · simp only [hR, not_false_eq_true, if_true, false_and, if_false]
theorem enters56 : enters Try.prog 91 := ⟨Try.f91, Try.func91, by kernel_rfl, by kernel_rfl⟩
theorem pure56 : PureOk Try.prog 91 cfg2A 9 (fun _ => []) (fun a => resI .i64 (.fn 3 a)) :=
  PureOk.of (c := @base) (r0 := resI .i64 e56) @base_ok @eval56 enters56 (fun _ _ _ _ _ _ p hp => by cases hp) fun l hl _ E a hal ρ ρ' v hv => by
    have h1 : v = .int .i64 (@IE.val (envOf l) e56) := hv
    rw [@e56_val (envOf l)] at h1
    show v = .int .i64 (IE.val (.fn 3 a))
    rw [h1, IE.val, hal]
    conv => rhs; rw [nine hl]
    rfl

def e62 : IE := .ite (.notI right2.toI) (.lit (-1)) (.ite (.cmpI .lss (.atom 7) (.lit (0))) (.lit (-1)) (.ite (.cmpI .geq (.atom 7) (.atom 0)) (.lit (-1)) (.ite (.cmpI .lss (.atom 8) (.lit (0))) (.lit (-1)) (.ite (.cmpI .geq (.atom 8) (.atom 1)) (.lit (-1)) (.op .add .i64 (.op .add .i64 (.lit (1)) (.op .mul .i64 (.atom 7) (.atom 1))) (.atom 8))))))
theorem eval62 [Env] : base 124 cfg2A [] [] 1 = .leaf (resI .i64 e62, []) := by kernel_rfl
theorem e62_val [Env] : e62.val = reservedF (Env.i 0) (Env.i 1) (Env.i 2) (Env.i 3) (Env.i 4) (Env.i 5) (Env.i 6) (Env.i 7) (Env.i 8) := by
  have hr := right2.toI_val
  rw [right2_val] at hr
  unfold e62
  simp only [IE.val, hr, binVal]
  simp only [cmpVal, iteI_ofB, ofB_bne, ofB_beq, Bool.and_eq_true, Bool.not_eq_true', Bool.not_eq_false', decide_eq_true_eq, decide_eq_false_iff_not, Bool.and_eq_false_imp, Bool.not_and, Bool.or_eq_true]
  unfold reservedF
  by_cases hR : rightP (Env.i 0) (Env.i 1) (Env.i 2) (Env.i 3) (Env.i 4) (Env.i 5) (Env.i 6)
  · have hR0 := hR
    obtain ⟨t1, t2, s1, s2, c1, c2, h1, h2, _⟩ := hR0
    simp only [hR, not_true_eq_false, if_false, true_and]
    by_cases hA : 0 ≤ Env.i 7 ∧ Env.i 7 < Env.i 0 ∧ 0 ≤ Env.i 8 ∧ Env.i 8 < Env.i 1
    · rw [if_pos hA]
      obtain ⟨a1, a2, a3, a4⟩ := hA
      obtain ⟨q1, q2⟩ := mul_le_of (m := 8) (n := 8) a1 (by omega) (by omega : 0 ≤ Env.i 1) (by omega) (by omega)
      repeat rw [if_neg (by omega)]
      rw [wrap_small (x := Env.i 7 * Env.i 1) (by omega) (by omega), wrap_small (x := 1 + Env.i 7 * Env.i 1) (by omega) (by omega), wrap_small (by omega) (by omega)]
    · rw [if_neg hA]
      repeat' split
      all_goals first | rfl | omega
  · simp only [hR, not_false_eq_true, if_true, false_and, if_false]
theorem enters62 : enters Try.prog 124 := ⟨Try.f124, Try.func124, by kernel_rfl, by kernel_rfl⟩
theorem pure62 : PureOk Try.prog 124 cfg2A 9 (fun _ => []) (fun a => resI .i64 (.fn 3 a)) :=
  PureOk.of (c := @base) (r0 := resI .i64 e62) @base_ok @eval62 enters62 (fun _ _ _ _ _ _ p hp => by cases hp) fun l hl _ E a hal ρ ρ' v hv => by
    have h1 : v = .int .i64 (@IE.val (envOf l) e62) := hv
    rw [@e62_val (envOf l)] at h1
    show v = .int .i64 (IE.val (.fn 3 a))
    rw [h1, IE.val, hal]
    conv => rhs; rw [nine hl]
    rfl

end Go.Proofs.Ytafemlljemhkhaa.Sx
