import Derived.Test.YtafemlljemhkhaaPSxT
import Derived.Test.YtafemlljemhkhaaProg
import Derived.KernelRfl
namespace Go.Proofs.Ytafemlljemhkhaa.Sx
open Go
set_option linter.unusedSectionVars false
set_option linter.unusedVariables false
set_option linter.unusedSimpArgs false
set_option maxRecDepth 100000
def noG : SumF Empty := fun _ _ _ _ _ => none
def noL : Nat → LoopF Empty := fun _ _ _ _ _ => none
theorem namesOk : (Try.prog.funcs.all fun fn => !(fn.name == "runtime.NumGoroutine")) = true := by kernel_rfl
theorem names_ok (g : Nat) (fn : Func) (h : Try.prog.funcs[g]? = some fn) : (fn.name == "runtime.NumGoroutine") = false := by
  obtain ⟨hlt,rfl⟩ := Array.getElem?_eq_some_iff.1 h
  have := (Array.all_eq_true.1 namesOk) g hlt
  simpa using this
theorem mixed_ok : Try.prog.follows .mixedOrders = true := by kernel_rfl
noncomputable def base [Env] : CallF Empty := callF Try.prog noG (extraS Try.prog) noL 100 50
theorem base_ok [Env] : CallOk Try.prog base := callF_ok ⟨mixed_ok,fun _ _ _ _ _ _ h => (by cases h),names_ok,fun _ _ _ _ _ _ _ _ _ _ _ h => (by cases h),extraS_ok _,fun _ _ _ _ _ _ _ _ _ _ _ _ _ _ _ _ h => (by cases h)⟩ 100 50
def ai (i : Nat) : SC := .b (.int .i64 (.atom i))
def au (i : Nat) : SC := .b (.int .u64 (.atom i))
def cfgA : SV := .w (.agg [ai 0,ai 1,ai 2,ai 3,ai 4,ai 5,ai 6])
def cfg2A : List SV := [cfgA, .w (.one (ai 7)), .w (.one (ai 8))]
def resI (k : IntKind) (e : IE) : SV := .w (.one (.b (.int k e)))
def resB (e : IE) : SV := .w (.one (.b (.bool (.cmp .neq e (.lit 0)))))
theorem wrap_small {x : Int} (h0 : -9223372036854775808 ≤ x) (h1 : x ≤ 9223372036854775807) : IntKind.i64.wrap x = x := by
  unfold IntKind.wrap
  simp only [IntKind.bits,IntKind.signed]
  by_cases h : 0 ≤ x
  · have h2 : x % (2 ^ 64 : Int) = x := Int.emod_eq_of_lt h (by omega)
    simp only [h2]
    rw [if_neg]
    simp
    omega
  · have h2 : x % (2 ^ 64 : Int) = x + 2 ^ 64 := by omega
    simp only [h2]
    rw [if_pos]
    · omega
    · simp; omega
theorem wrap_u {x : Int} : IntKind.u64.wrap x = x % 18446744073709551616 := by
  unfold IntKind.wrap
  simp [IntKind.bits,IntKind.signed]
theorem iteI_ofB {α : Type} (b : Bool) (x y : α) : iteI (ofB b) x y = if b = true then x else y := by cases b <;> rfl
theorem ofB_bne (b : Bool) : (ofB b != 0) = b := by cases b <;> rfl
theorem ofB_beq (b : Bool) : (ofB b == 0) = !b := by cases b <;> rfl
theorem mul_le_of {a b m n : Int} (h0 : 0 ≤ a) (h1 : a ≤ m) (h2 : 0 ≤ b) (h3 : b ≤ n) (hm : 0 ≤ m) : 0 ≤ a * b ∧ a * b ≤ m * n :=
  ⟨Int.mul_nonneg h0 h2,Int.mul_le_mul h1 h3 h2 hm⟩
def rng (i : Nat) (lo hi : Int) : BE := .cmp .eql (.atom i) (.mx (.lit lo) (.mn (.atom i) (.lit hi)))
def right1 : BE := .and (rng 0 1 8) (.and (rng 1 1 8) (.and (rng 2 1 64) (.and (rng 3 1 6) (.and (rng 4 1 64) (.and (rng 5 1 64) (rng 6 0 1073741823))))))
theorem rng_val [Env] (i : Nat) (lo hi : Int) (h : lo ≤ hi) : (rng i lo hi).val = decide (lo ≤ Env.i i ∧ Env.i i ≤ hi) := by
  simp only [rng,BE.val,IE.val,cmpVal]
  generalize Env.i i = x
  rw [Bool.eq_iff_iff,beq_iff_eq,decide_eq_true_eq]
  unfold maxI minI
  by_cases c1 : hi < x
  · rw [if_pos c1]
    by_cases c2 : hi > lo
    · rw [if_pos c2]; omega
    · rw [if_neg c2]; omega
  · rw [if_neg c1]
    by_cases c2 : x > lo
    · rw [if_pos c2]; omega
    · rw [if_neg c2]; omega
theorem right1_val [Env] : right1.val = decide (rightP (Env.i 0) (Env.i 1) (Env.i 2) (Env.i 3) (Env.i 4) (Env.i 5) (Env.i 6)) := by
  simp only [right1,BE.val,rng_val _ 1 8 (by omega),rng_val _ 1 64 (by omega),rng_val _ 1 6 (by omega),rng_val _ 0 1073741823 (by omega)]
  rw [Bool.eq_iff_iff,decide_eq_true_eq]
  simp only [Bool.and_eq_true,decide_eq_true_eq,rightP,and_assoc]
def right2 : BE := .and (.not (.cmp .lss (.atom 0) (.lit (1)))) (.and (.not (.cmp .gtr (.atom 0) (.lit (8)))) (.and (.not (.cmp .lss (.atom 1) (.lit (1)))) (.and (.not (.cmp .gtr (.atom 1) (.lit (8)))) (.and (.not (.cmp .lss (.atom 2) (.lit (1)))) (.and (.not (.cmp .gtr (.atom 2) (.lit (64)))) (.and (.not (.cmp .lss (.atom 3) (.lit (1)))) (.and (.not (.cmp .gtr (.atom 3) (.lit (6)))) (.and (.cmp .geq (.atom 4) (.lit (1))) (.and (.cmp .leq (.atom 4) (.lit (64))) (.and (.cmp .geq (.atom 5) (.lit (1))) (.and (.cmp .leq (.atom 5) (.lit (64))) (.and (.cmp .geq (.atom 6) (.lit (0))) (.cmp .leq (.atom 6) (.lit (1073741823)))))))))))))))
theorem right2_val [Env] : right2.val = decide (rightP (Env.i 0) (Env.i 1) (Env.i 2) (Env.i 3) (Env.i 4) (Env.i 5) (Env.i 6)) := by
  simp only [right2,BE.val,IE.val]
  simp only [cmpVal]
  rw [Bool.eq_iff_iff,decide_eq_true_eq]
  simp only [Bool.and_eq_true,Bool.not_eq_true',decide_eq_true_eq,decide_eq_false_iff_not,rightP]
  omega
theorem nine {l : List Int} (h : l.length = 9) : l = [l.getD 0 0, l.getD 1 0, l.getD 2 0, l.getD 3 0, l.getD 4 0, l.getD 5 0, l.getD 6 0, l.getD 7 0, l.getD 8 0] := by
  match l,h with
  | [_,_,_,_,_,_,_,_,_],_ => rfl
theorem seven {l : List Int} (h : l.length = 7) : l = [l.getD 0 0, l.getD 1 0, l.getD 2 0, l.getD 3 0, l.getD 4 0, l.getD 5 0, l.getD 6 0] := by
  match l,h with
  | [_,_,_,_,_,_,_],_ => rfl
theorem single {l : List Int} (h : l.length = 1) : l = [l.getD 0 0] := by
  match l,h with
  | [_],_ => rfl
theorem enters51 : enters Try.prog 68 := ⟨Try.f68,Try.func68,by kernel_rfl,by kernel_rfl⟩
theorem eval51 [Env] : base 68 [cfgA] [] [] 1 = .leaf (.w (.one (.b (.bool right1))), []) := by kernel_rfl
theorem pure51 : PureOk Try.prog 68 [cfgA] 7 (fun _ => []) (fun a => resB (.fn 1 a)) :=
  PureOk.of (c := @base) (r0 := .w (.one (.b (.bool right1)))) @base_ok @eval51 enters51 (fun _ _ _ _ _ _ p hp => by cases hp) fun l hl _ E a hal ρ ρ' v hv => by
    have h1 : v = .bool (@BE.val (envOf l) right1) := hv
    rw [@right1_val (envOf l)] at h1
    show v = .bool (BE.val (.cmp .neq (.fn 1 a) (.lit 0)))
    rw [h1,BE.val,IE.val,IE.val,hal]
    conv => rhs; rw [seven hl]
    show _ = Value.bool (cmpVal .neq (if rightP _ _ _ _ _ _ _ then 1 else 0) 0)
    congr 1
    show decide (rightP _ _ _ _ _ _ _) = _
    by_cases hR : rightP (l.getD 0 0) (l.getD 1 0) (l.getD 2 0) (l.getD 3 0) (l.getD 4 0) (l.getD 5 0) (l.getD 6 0)
    · rw [if_pos hR]; exact decide_eq_true hR
    · rw [if_neg hR]; exact decide_eq_false hR
theorem enters41 : enters Try.prog 63 := ⟨Try.f63,Try.func63,by kernel_rfl,by kernel_rfl⟩
theorem eval41 [Env] : base 63 [cfgA] [] [] 1 = .leaf (.w (.one (.b (.bool right2))), []) := by kernel_rfl
theorem pure41 : PureOk Try.prog 63 [cfgA] 7 (fun _ => []) (fun a => resB (.fn 1 a)) :=
  PureOk.of (c := @base) (r0 := .w (.one (.b (.bool right2)))) @base_ok @eval41 enters41 (fun _ _ _ _ _ _ p hp => by cases hp) fun l hl _ E a hal ρ ρ' v hv => by
    have h1 : v = .bool (@BE.val (envOf l) right2) := hv
    rw [@right2_val (envOf l)] at h1
    show v = .bool (BE.val (.cmp .neq (.fn 1 a) (.lit 0)))
    rw [h1,BE.val,IE.val,IE.val,hal]
    conv => rhs; rw [seven hl]
    show _ = Value.bool (cmpVal .neq (if rightP _ _ _ _ _ _ _ then 1 else 0) 0)
    congr 1
    show decide (rightP _ _ _ _ _ _ _) = _
    by_cases hR : rightP (l.getD 0 0) (l.getD 1 0) (l.getD 2 0) (l.getD 3 0) (l.getD 4 0) (l.getD 5 0) (l.getD 6 0)
    · rw [if_pos hR]; exact decide_eq_true hR
    · rw [if_neg hR]; exact decide_eq_false hR
def e52 : IE := .ite (.notI right1.toI) (.lit (0)) (.op .add .i64 (.op .add .i64 (.lit (1)) (.op .mul .i64 (.atom 0) (.atom 1))) (.op .mul .i64 (.op .add .i64 (.atom 2) (.lit (1))) (.op .add .i64 (.lit (6)) (.atom 3))))
theorem eval52 [Env] : base 69 [cfgA] [] [] 1 = .leaf (resI .i64 e52, []) := by kernel_rfl
theorem e52_val [Env] : e52.val = lenF (Env.i 0) (Env.i 1) (Env.i 2) (Env.i 3) (Env.i 4) (Env.i 5) (Env.i 6) := by
  have hr := right1.toI_val
  rw [right1_val] at hr
  unfold e52
  simp only [IE.val,hr,binVal]
  simp only [cmpVal,iteI_ofB,ofB_bne,ofB_beq,Bool.and_eq_true,Bool.not_eq_true',Bool.not_eq_false',decide_eq_true_eq,decide_eq_false_iff_not,Bool.and_eq_false_imp,Bool.not_and,Bool.or_eq_true]
  unfold lenF
  by_cases hR : rightP (Env.i 0) (Env.i 1) (Env.i 2) (Env.i 3) (Env.i 4) (Env.i 5) (Env.i 6)
  · have hR0 := hR
    obtain ⟨t1,t2,s1,s2,c1,c2,h1,h2,_⟩ := hR0
    obtain ⟨p1,p2⟩ := mul_le_of (m := 8) (n := 8) (by omega) t2 (by omega : 0 ≤ Env.i 1) s2 (by omega)
    have w3 : IntKind.i64.wrap (6 + Env.i 3) = 6 + Env.i 3 := wrap_small (by omega) (by omega)
    have w4 : IntKind.i64.wrap (Env.i 2 + 1) = Env.i 2 + 1 := wrap_small (by omega) (by omega)
    obtain ⟨q1,q2⟩ := mul_le_of (m := 65) (n := 12) (by omega : 0 ≤ Env.i 2 + 1) (by omega) (by omega : 0 ≤ 6 + Env.i 3) (by omega) (by omega)
    simp only [hR,not_true_eq_false,if_false,if_true]
    rw [w3,w4,wrap_small (x := Env.i 0 * Env.i 1) (by omega) (by omega),wrap_small (x := (Env.i 2 + 1) * (6 + Env.i 3)) (by omega) (by omega),wrap_small (x := 1 + Env.i 0 * Env.i 1) (by omega) (by omega),wrap_small (by omega) (by omega)]
  · simp only [hR,not_false_eq_true,if_true,false_and,if_false]
theorem enters52 : enters Try.prog 69 := ⟨Try.f69,Try.func69,by kernel_rfl,by kernel_rfl⟩
theorem pure52 : PureOk Try.prog 69 [cfgA] 7 (fun _ => []) (fun a => resI .i64 (.fn 2 a)) :=
  PureOk.of (c := @base) (r0 := resI .i64 e52) @base_ok @eval52 enters52 (fun _ _ _ _ _ _ p hp => by cases hp) fun l hl _ E a hal ρ ρ' v hv => by
    have h1 : v = .int .i64 (@IE.val (envOf l) e52) := hv
    rw [@e52_val (envOf l)] at h1
    show v = .int .i64 (IE.val (.fn 2 a))
    rw [h1,IE.val,hal]
    conv => rhs; rw [seven hl]
    rfl
def e44 : IE := .ite (.notI right2.toI) (.lit (0)) (.op .add .i64 (.op .add .i64 (.lit (1)) (.op .mul .i64 (.atom 0) (.atom 1))) (.op .mul .i64 (.op .add .i64 (.atom 2) (.lit (1))) (.op .add .i64 (.lit (6)) (.atom 3))))
theorem eval44 [Env] : base 64 [cfgA] [] [] 1 = .leaf (resI .i64 e44, []) := by kernel_rfl
theorem e44_val [Env] : e44.val = lenF (Env.i 0) (Env.i 1) (Env.i 2) (Env.i 3) (Env.i 4) (Env.i 5) (Env.i 6) := by
  have hr := right2.toI_val
  rw [right2_val] at hr
  unfold e44
  simp only [IE.val,hr,binVal]
  simp only [cmpVal,iteI_ofB,ofB_bne,ofB_beq,Bool.and_eq_true,Bool.not_eq_true',Bool.not_eq_false',decide_eq_true_eq,decide_eq_false_iff_not,Bool.and_eq_false_imp,Bool.not_and,Bool.or_eq_true]
  unfold lenF
  by_cases hR : rightP (Env.i 0) (Env.i 1) (Env.i 2) (Env.i 3) (Env.i 4) (Env.i 5) (Env.i 6)
  · have hR0 := hR
    obtain ⟨t1,t2,s1,s2,c1,c2,h1,h2,_⟩ := hR0
    obtain ⟨p1,p2⟩ := mul_le_of (m := 8) (n := 8) (by omega) t2 (by omega : 0 ≤ Env.i 1) s2 (by omega)
    have w3 : IntKind.i64.wrap (6 + Env.i 3) = 6 + Env.i 3 := wrap_small (by omega) (by omega)
    have w4 : IntKind.i64.wrap (Env.i 2 + 1) = Env.i 2 + 1 := wrap_small (by omega) (by omega)
    obtain ⟨q1,q2⟩ := mul_le_of (m := 65) (n := 12) (by omega : 0 ≤ Env.i 2 + 1) (by omega) (by omega : 0 ≤ 6 + Env.i 3) (by omega) (by omega)
    simp only [hR,not_true_eq_false,if_false,if_true]
    rw [w3,w4,wrap_small (x := Env.i 0 * Env.i 1) (by omega) (by omega),wrap_small (x := (Env.i 2 + 1) * (6 + Env.i 3)) (by omega) (by omega),wrap_small (x := 1 + Env.i 0 * Env.i 1) (by omega) (by omega),wrap_small (by omega) (by omega)]
  · simp only [hR,not_false_eq_true,if_true,false_and,if_false]
theorem enters44 : enters Try.prog 64 := ⟨Try.f64,Try.func64,by kernel_rfl,by kernel_rfl⟩
theorem pure44 : PureOk Try.prog 64 [cfgA] 7 (fun _ => []) (fun a => resI .i64 (.fn 2 a)) :=
  PureOk.of (c := @base) (r0 := resI .i64 e44) @base_ok @eval44 enters44 (fun _ _ _ _ _ _ p hp => by cases hp) fun l hl _ E a hal ρ ρ' v hv => by
    have h1 : v = .int .i64 (@IE.val (envOf l) e44) := hv
    rw [@e44_val (envOf l)] at h1
    show v = .int .i64 (IE.val (.fn 2 a))
    rw [h1,IE.val,hal]
    conv => rhs; rw [seven hl]
    rfl
def e48 : IE := .ite (.notI right1.toI) (.lit (-1)) (.ite (.notI (.andI (.cmpI .geq (.atom 7) (.lit (0))) (.cmpI .leq (.atom 7) (.atom 2)))) (.lit (-1)) (.ite (.notI (.andI (.cmpI .geq (.atom 8) (.lit (0))) (.cmpI .leq (.atom 8) (.op .sub .i64 (.op .add .i64 (.lit (6)) (.atom 3)) (.lit (1)))))) (.lit (-1)) (.op .add .i64 (.op .add .i64 (.op .add .i64 (.lit (1)) (.op .mul .i64 (.atom 0) (.atom 1))) (.op .mul .i64 (.atom 7) (.op .add .i64 (.lit (6)) (.atom 3)))) (.atom 8))))
theorem eval48 [Env] : base 71 cfg2A [] [] 1 = .leaf (resI .i64 e48, []) := by kernel_rfl
theorem e48_val [Env] : e48.val = cellF (Env.i 0) (Env.i 1) (Env.i 2) (Env.i 3) (Env.i 4) (Env.i 5) (Env.i 6) (Env.i 7) (Env.i 8) := by
  have hr := right1.toI_val
  rw [right1_val] at hr
  unfold e48
  simp only [IE.val,hr,binVal]
  simp only [cmpVal,iteI_ofB,ofB_bne,ofB_beq,Bool.and_eq_true,Bool.not_eq_true',Bool.not_eq_false',decide_eq_true_eq,decide_eq_false_iff_not,Bool.and_eq_false_imp,Bool.not_and,Bool.or_eq_true]
  unfold cellF
  by_cases hR : rightP (Env.i 0) (Env.i 1) (Env.i 2) (Env.i 3) (Env.i 4) (Env.i 5) (Env.i 6)
  · have hR0 := hR
    obtain ⟨t1,t2,s1,s2,c1,c2,h1,h2,_⟩ := hR0
    obtain ⟨p1,p2⟩ := mul_le_of (m := 8) (n := 8) (by omega) t2 (by omega : 0 ≤ Env.i 1) s2 (by omega)
    have w3 : IntKind.i64.wrap (6 + Env.i 3) = 6 + Env.i 3 := wrap_small (by omega) (by omega)
    have w4 : IntKind.i64.wrap (6 + Env.i 3 - 1) = 6 + Env.i 3 - 1 := wrap_small (by omega) (by omega)
    simp only [hR,not_true_eq_false,if_false,true_and,w3,w4]
    by_cases hA : 0 ≤ Env.i 7 ∧ Env.i 7 ≤ Env.i 2 ∧ 0 ≤ Env.i 8 ∧ Env.i 8 < 6 + Env.i 3
    · rw [if_pos hA]
      obtain ⟨a1,a2,a3,a4⟩ := hA
      obtain ⟨q1,q2⟩ := mul_le_of (m := 64) (n := 12) a1 (by omega) (by omega : 0 ≤ 6 + Env.i 3) (by omega) (by omega)
      repeat rw [if_neg (by omega)]
      rw [wrap_small (x := Env.i 0 * Env.i 1) (by omega) (by omega),wrap_small (x := Env.i 7 * (6 + Env.i 3)) (by omega) (by omega),wrap_small (x := 1 + Env.i 0 * Env.i 1) (by omega) (by omega),wrap_small (x := 1 + Env.i 0 * Env.i 1 + Env.i 7 * (6 + Env.i 3)) (by omega) (by omega),wrap_small (by omega) (by omega)]
    · rw [if_neg hA]
      repeat' split
      all_goals first | rfl | omega
  · simp only [hR,not_false_eq_true,if_true,false_and,if_false]
theorem enters48 : enters Try.prog 71 := ⟨Try.f71,Try.func71,by kernel_rfl,by kernel_rfl⟩
theorem pure48 : PureOk Try.prog 71 cfg2A 9 (fun _ => []) (fun a => resI .i64 (.fn 4 a)) :=
  PureOk.of (c := @base) (r0 := resI .i64 e48) @base_ok @eval48 enters48 (fun _ _ _ _ _ _ p hp => by cases hp) fun l hl _ E a hal ρ ρ' v hv => by
    have h1 : v = .int .i64 (@IE.val (envOf l) e48) := hv
    rw [@e48_val (envOf l)] at h1
    show v = .int .i64 (IE.val (.fn 4 a))
    rw [h1,IE.val,hal]
    conv => rhs; rw [nine hl]
    rfl
def e59 : IE := .ite (.notI right2.toI) (.lit (-1)) (.ite (.cmpI .lss (.atom 7) (.lit (0))) (.lit (-1)) (.ite (.cmpI .gtr (.atom 7) (.atom 2)) (.lit (-1)) (.ite (.cmpI .lss (.atom 8) (.lit (0))) (.lit (-1)) (.ite (.cmpI .geq (.atom 8) (.op .add .i64 (.lit (6)) (.atom 3))) (.lit (-1)) (.op .add .i64 (.op .add .i64 (.op .add .i64 (.lit (1)) (.op .mul .i64 (.atom 0) (.atom 1))) (.op .mul .i64 (.atom 7) (.op .add .i64 (.lit (6)) (.atom 3)))) (.atom 8))))))
theorem eval59 [Env] : base 116 cfg2A [] [] 1 = .leaf (resI .i64 e59, []) := by kernel_rfl
theorem e59_val [Env] : e59.val = cellF (Env.i 0) (Env.i 1) (Env.i 2) (Env.i 3) (Env.i 4) (Env.i 5) (Env.i 6) (Env.i 7) (Env.i 8) := by
  have hr := right2.toI_val
  rw [right2_val] at hr
  unfold e59
  simp only [IE.val,hr,binVal]
  simp only [cmpVal,iteI_ofB,ofB_bne,ofB_beq,Bool.and_eq_true,Bool.not_eq_true',Bool.not_eq_false',decide_eq_true_eq,decide_eq_false_iff_not,Bool.and_eq_false_imp,Bool.not_and,Bool.or_eq_true]
  unfold cellF
  by_cases hR : rightP (Env.i 0) (Env.i 1) (Env.i 2) (Env.i 3) (Env.i 4) (Env.i 5) (Env.i 6)
  · have hR0 := hR
    obtain ⟨t1,t2,s1,s2,c1,c2,h1,h2,_⟩ := hR0
    obtain ⟨p1,p2⟩ := mul_le_of (m := 8) (n := 8) (by omega) t2 (by omega : 0 ≤ Env.i 1) s2 (by omega)
    have w3 : IntKind.i64.wrap (6 + Env.i 3) = 6 + Env.i 3 := wrap_small (by omega) (by omega)
    simp only [hR,not_true_eq_false,if_false,true_and,w3]
    by_cases hA : 0 ≤ Env.i 7 ∧ Env.i 7 ≤ Env.i 2 ∧ 0 ≤ Env.i 8 ∧ Env.i 8 < 6 + Env.i 3
    · rw [if_pos hA]
      obtain ⟨a1,a2,a3,a4⟩ := hA
      obtain ⟨q1,q2⟩ := mul_le_of (m := 64) (n := 12) a1 (by omega) (by omega : 0 ≤ 6 + Env.i 3) (by omega) (by omega)
      repeat rw [if_neg (by omega)]
      rw [wrap_small (x := Env.i 0 * Env.i 1) (by omega) (by omega),wrap_small (x := Env.i 7 * (6 + Env.i 3)) (by omega) (by omega),wrap_small (x := 1 + Env.i 0 * Env.i 1) (by omega) (by omega),wrap_small (x := 1 + Env.i 0 * Env.i 1 + Env.i 7 * (6 + Env.i 3)) (by omega) (by omega),wrap_small (by omega) (by omega)]
    · rw [if_neg hA]
      repeat' split
      all_goals first | rfl | omega
  · simp only [hR,not_false_eq_true,if_true,false_and,if_false]
theorem enters59 : enters Try.prog 116 := ⟨Try.f116,Try.func116,by kernel_rfl,by kernel_rfl⟩
theorem pure59 : PureOk Try.prog 116 cfg2A 9 (fun _ => []) (fun a => resI .i64 (.fn 4 a)) :=
  PureOk.of (c := @base) (r0 := resI .i64 e59) @base_ok @eval59 enters59 (fun _ _ _ _ _ _ p hp => by cases hp) fun l hl _ E a hal ρ ρ' v hv => by
    have h1 : v = .int .i64 (@IE.val (envOf l) e59) := hv
    rw [@e59_val (envOf l)] at h1
    show v = .int .i64 (IE.val (.fn 4 a))
    rw [h1,IE.val,hal]
    conv => rhs; rw [nine hl]
    rfl
def e56 : IE := .ite (.notI right1.toI) (.lit (-1)) (.ite (.notI (.andI (.cmpI .geq (.atom 7) (.lit (0))) (.cmpI .leq (.atom 7) (.op .sub .i64 (.atom 0) (.lit (1)))))) (.lit (-1)) (.ite (.notI (.andI (.cmpI .geq (.atom 8) (.lit (0))) (.cmpI .leq (.atom 8) (.op .sub .i64 (.atom 1) (.lit (1)))))) (.lit (-1)) (.op .add .i64 (.op .add .i64 (.lit (1)) (.op .mul .i64 (.atom 7) (.atom 1))) (.atom 8))))
theorem eval56 [Env] : base 91 cfg2A [] [] 1 = .leaf (resI .i64 e56, []) := by kernel_rfl
theorem e56_val [Env] : e56.val = reservedF (Env.i 0) (Env.i 1) (Env.i 2) (Env.i 3) (Env.i 4) (Env.i 5) (Env.i 6) (Env.i 7) (Env.i 8) := by
  have hr := right1.toI_val
  rw [right1_val] at hr
  unfold e56
  simp only [IE.val,hr,binVal]
  simp only [cmpVal,iteI_ofB,ofB_bne,ofB_beq,Bool.and_eq_true,Bool.not_eq_true',Bool.not_eq_false',decide_eq_true_eq,decide_eq_false_iff_not,Bool.and_eq_false_imp,Bool.not_and,Bool.or_eq_true]
  unfold reservedF
  by_cases hR : rightP (Env.i 0) (Env.i 1) (Env.i 2) (Env.i 3) (Env.i 4) (Env.i 5) (Env.i 6)
  · have hR0 := hR
    obtain ⟨t1,t2,s1,s2,c1,c2,h1,h2,_⟩ := hR0
    have w3 : IntKind.i64.wrap (Env.i 0 - 1) = Env.i 0 - 1 := wrap_small (by omega) (by omega)
    have w4 : IntKind.i64.wrap (Env.i 1 - 1) = Env.i 1 - 1 := wrap_small (by omega) (by omega)
    simp only [hR,not_true_eq_false,if_false,true_and,w3,w4]
    by_cases hA : 0 ≤ Env.i 7 ∧ Env.i 7 < Env.i 0 ∧ 0 ≤ Env.i 8 ∧ Env.i 8 < Env.i 1
    · rw [if_pos hA]
      obtain ⟨a1,a2,a3,a4⟩ := hA
      obtain ⟨q1,q2⟩ := mul_le_of (m := 8) (n := 8) a1 (by omega) (by omega : 0 ≤ Env.i 1) (by omega) (by omega)
      repeat rw [if_neg (by omega)]
      rw [wrap_small (x := Env.i 7 * Env.i 1) (by omega) (by omega),wrap_small (x := 1 + Env.i 7 * Env.i 1) (by omega) (by omega),wrap_small (by omega) (by omega)]
    · rw [if_neg hA]
      repeat' split
      all_goals first | rfl | omega
  · simp only [hR,not_false_eq_true,if_true,false_and,if_false]
theorem enters56 : enters Try.prog 91 := ⟨Try.f91,Try.func91,by kernel_rfl,by kernel_rfl⟩
theorem pure56 : PureOk Try.prog 91 cfg2A 9 (fun _ => []) (fun a => resI .i64 (.fn 3 a)) :=
  PureOk.of (c := @base) (r0 := resI .i64 e56) @base_ok @eval56 enters56 (fun _ _ _ _ _ _ p hp => by cases hp) fun l hl _ E a hal ρ ρ' v hv => by
    have h1 : v = .int .i64 (@IE.val (envOf l) e56) := hv
    rw [@e56_val (envOf l)] at h1
    show v = .int .i64 (IE.val (.fn 3 a))
    rw [h1,IE.val,hal]
    conv => rhs; rw [nine hl]
    rfl
def e62 : IE := .ite (.notI right2.toI) (.lit (-1)) (.ite (.cmpI .lss (.atom 7) (.lit (0))) (.lit (-1)) (.ite (.cmpI .geq (.atom 7) (.atom 0)) (.lit (-1)) (.ite (.cmpI .lss (.atom 8) (.lit (0))) (.lit (-1)) (.ite (.cmpI .geq (.atom 8) (.atom 1)) (.lit (-1)) (.op .add .i64 (.op .add .i64 (.lit (1)) (.op .mul .i64 (.atom 7) (.atom 1))) (.atom 8))))))
theorem eval62 [Env] : base 124 cfg2A [] [] 1 = .leaf (resI .i64 e62, []) := by kernel_rfl
theorem e62_val [Env] : e62.val = reservedF (Env.i 0) (Env.i 1) (Env.i 2) (Env.i 3) (Env.i 4) (Env.i 5) (Env.i 6) (Env.i 7) (Env.i 8) := by
  have hr := right2.toI_val
  rw [right2_val] at hr
  unfold e62
  simp only [IE.val,hr,binVal]
  simp only [cmpVal,iteI_ofB,ofB_bne,ofB_beq,Bool.and_eq_true,Bool.not_eq_true',Bool.not_eq_false',decide_eq_true_eq,decide_eq_false_iff_not,Bool.and_eq_false_imp,Bool.not_and,Bool.or_eq_true]
  unfold reservedF
  by_cases hR : rightP (Env.i 0) (Env.i 1) (Env.i 2) (Env.i 3) (Env.i 4) (Env.i 5) (Env.i 6)
  · have hR0 := hR
    obtain ⟨t1,t2,s1,s2,c1,c2,h1,h2,_⟩ := hR0
    simp only [hR,not_true_eq_false,if_false,true_and]
    by_cases hA : 0 ≤ Env.i 7 ∧ Env.i 7 < Env.i 0 ∧ 0 ≤ Env.i 8 ∧ Env.i 8 < Env.i 1
    · rw [if_pos hA]
      obtain ⟨a1,a2,a3,a4⟩ := hA
      obtain ⟨q1,q2⟩ := mul_le_of (m := 8) (n := 8) a1 (by omega) (by omega : 0 ≤ Env.i 1) (by omega) (by omega)
      repeat rw [if_neg (by omega)]
      rw [wrap_small (x := Env.i 7 * Env.i 1) (by omega) (by omega),wrap_small (x := 1 + Env.i 7 * Env.i 1) (by omega) (by omega),wrap_small (by omega) (by omega)]
    · rw [if_neg hA]
      repeat' split
      all_goals first | rfl | omega
  · simp only [hR,not_false_eq_true,if_true,false_and,if_false]
theorem enters62 : enters Try.prog 124 := ⟨Try.f124,Try.func124,by kernel_rfl,by kernel_rfl⟩
theorem pure62 : PureOk Try.prog 124 cfg2A 9 (fun _ => []) (fun a => resI .i64 (.fn 3 a)) :=
  PureOk.of (c := @base) (r0 := resI .i64 e62) @base_ok @eval62 enters62 (fun _ _ _ _ _ _ p hp => by cases hp) fun l hl _ E a hal ρ ρ' v hv => by
    have h1 : v = .int .i64 (@IE.val (envOf l) e62) := hv
    rw [@e62_val (envOf l)] at h1
    show v = .int .i64 (IE.val (.fn 3 a))
    rw [h1,IE.val,hal]
    conv => rhs; rw [nine hl]
    rfl
end Go.Proofs.Ytafemlljemhkhaa.Sx
namespace Go.Proofs.Ytafemlljemhkhaa.Sx
open Go
set_option linter.unusedSectionVars false
set_option linter.unusedVariables false
set_option linter.unusedSimpArgs false
def SB.beq : SB → SB → Bool
  | .int k e, .int k' e' => decide (k = k') && IE.beq e e'
  | .bool b, .bool b' => BE.beq b b'
  | _,_ => false
theorem SB.beq_eq {x y : SB} (h : SB.beq x y = true) : x = y := by
  unfold SB.beq at h
  split at h
  · simp only [Bool.and_eq_true,decide_eq_true_eq] at h; rw [h.1,IE.beq_eq h.2]
  · rw [BE.beq_eq h]
  · cases h
def SC.beqL : List SC → List SC → Bool
  | [], [] => true
  | .b x :: l, .b y :: m => SB.beq x y && SC.beqL l m
  | _,_ => false
theorem SC.beqL_eq : ∀ {l m : List SC}, SC.beqL l m = true → l = m
  | [], [],_ => rfl
  | .b x :: l, .b y :: m, h => by
    simp only [SC.beqL,Bool.and_eq_true] at h
    rw [SB.beq_eq h.1,SC.beqL_eq h.2]
  | [],_ :: _,h => by cases h
  | .b _ :: _, [],h => by cases h
  | .fn _ _ _ :: _, [],h => by cases h
  | .fn _ _ _ :: _, .b _ :: _,h => by cases h
  | .fn _ _ _ :: _, .fn _ _ _ :: _,h => by cases h
  | .b _ :: _, .fn _ _ _ :: _,h => by cases h
def SV.beq : SV → SV → Bool
  | .w (.one (.b x)), .w (.one (.b y)) => SB.beq x y
  | .w (.agg l), .w (.agg m) => SC.beqL l m
  | _,_ => false
theorem SV.beq_eq {x y : SV} (h : SV.beq x y = true) : x = y := by
  unfold SV.beq at h
  split at h
  · rw [SB.beq_eq h]
  · rw [SC.beqL_eq h]
  · cases h
def SV.beqL : List SV → List SV → Bool
  | [], [] => true
  | x :: l,y :: m => SV.beq x y && SV.beqL l m
  | _,_ => false
theorem SV.beqL_eq : ∀ {l m : List SV}, SV.beqL l m = true → l = m
  | [], [],_ => rfl
  | x :: l, y :: m, h => by
    simp only [SV.beqL,Bool.and_eq_true] at h
    rw [SV.beq_eq h.1,SV.beqL_eq h.2]
  | [],_ :: _,h => by cases h
  | _ :: _, [],h => by cases h
structure PEntry where
  g : Nat
  args0 : List SV
  len : Nat
  pre : List IE → List BE
  res : IE → SV
def PEntry.ok (P : Program) (e : PEntry) : Prop := PureOk P e.g e.args0 e.len e.pre e.res
def litsE : IE → Option (List Int)
  | .nilL => some []
  | .consL (.lit n) l => match litsE l with
    | some m => some (n :: m)
    | none => none
  | _ => none
theorem litsE_lst [Env] : ∀ {a : IE} {l : List Int}, litsE a = some l → a.lst = l := by
  intro a
  induction a <;> intro l h <;> (try (simp only [litsE,reduceCtorEq] at h; done))
  case nilL => simp only [litsE,Option.some.injEq] at h; subst h; simp [IE.lst]
  case consL x l ih1 ih2 =>
    cases x <;> simp only [litsE,reduceCtorEq] at h
    split at h
    · rename_i n m hm
      cases h
      simp only [IE.lst,IE.val,ih2 hm]
    · cases h
def mkFn (id : Nat) (a : IE) : IE := match litsE a with
  | some l => .lit (funs id l)
  | none => .fn id a
theorem mkFn_val [Env] (id : Nat) (a : IE) : (mkFn id a).val = (IE.fn id a).val := by
  unfold mkFn
  split
  · rename_i l h; simp only [IE.val,litsE_lst h]
  · rfl
def foldSV : SV → SV
  | .w (.one (.b (.int k (.fn id a)))) => .w (.one (.b (.int k (mkFn id a))))
  | .w (.one (.b (.bool (.cmp .neq (.fn id a) (.lit 0))))) => .w (.one (.b (.bool (mkCmp .neq (mkFn id a) (.lit 0)))))
  | x => x
theorem foldSV_is [Env] {ρ : Rho} {x : SV} {v : Value} (h : x.is ρ v) : (foldSV x).is ρ v := by
  unfold foldSV
  split
  · show v = .int _ _; rw [mkFn_val]; exact h
  · show v = .bool _; rw [mkCmp_val,mkFn_val]; exact h
  · exact h
def foldBE : BE → BE
  | .cmp o a b => mkCmp o a b
  | x => x
theorem foldBE_val [Env] (p : BE) : (foldBE p).val = p.val := by
  unfold foldBE
  split
  · rw [mkCmp_val]; rfl
  · rfl
def mkReq {L : Type} (p : BE) (t : Tree L) : Tree L := match foldBE p with
  | .lit true => t
  | q => .req q t
theorem mkReq_holds [Env] {L : Type} {Q : L → Prop} {p : BE} {t : Tree L} (h : (mkReq p t).holds Q) : p.val = true ∧ t.holds Q := by
  rw [← foldBE_val]
  unfold mkReq at h
  split at h
  · rename_i he; rw [he]; exact ⟨rfl,h⟩
  · exact h
def reqB {L : Type} : List BE → Tree L → Tree L
  | [],t => t
  | p :: ps,t => mkReq p (reqB ps t)
theorem reqB_holds [Env] {L : Type} {Q : L → Prop} {t : Tree L} : ∀ {ps : List BE}, (reqB ps t).holds Q → (∀ p ∈ ps, p.val = true) ∧ t.holds Q
  | [],h => ⟨by simp,h⟩
  | p :: ps, h => by
    obtain ⟨h1,h2⟩ := mkReq_holds h
    exact ⟨fun q hq => by rcases List.mem_cons.1 hq with rfl | hq; exact h1; exact (reqB_holds h2).1 q hq,(reqB_holds h2).2⟩
def findE (g : Nat) : List PEntry → Option PEntry
  | [] => none
  | e :: l => bif Nat.beq e.g g then some e else findE g l
theorem findE_spec {g : Nat} : ∀ {l : List PEntry} {e : PEntry}, findE g l = some e → e ∈ l ∧ e.g = g
  | [],e,h => by cases h
  | x :: l, e, h => by
    simp only [findE] at h
    cases hb : Nat.beq x.g g with
    | true => rw [hb] at h; cases h; exact ⟨List.mem_cons_self ..,Nat.eq_of_beq_eq_true hb⟩
    | false => rw [hb] at h; obtain ⟨h1,h2⟩ := findE_spec (l := l) h; exact ⟨List.mem_cons_of_mem _ h1,h2⟩
def pureG (l : List PEntry) : SumF Empty := fun g args prot h nm =>
  match findE g l,flatA args with
  | some e,some es => if (SV.beqL (atomA 0 args) e.args0 && Nat.beq es.length e.len) = true then some (reqB (e.pre es) (.leaf (foldSV (e.res (listE es)),h))) else none
  | _,_ => none
theorem pureG_ok [Env] {P : Program} {l : List PEntry} (h : ∀ e ∈ l, e.ok P) : SumOk P (pureG l) ∧ ∀ g args prot hp nm t, pureG l g args prot hp nm = some t → enters P g := by
  constructor
  · intro g args prot hp nm t ρ F w argv K ht H ha hK
    unfold pureG at ht
    split at ht
    · rename_i e es he hes
      split at ht
      · rename_i hc
        simp only [Bool.and_eq_true] at hc
        cases ht
        obtain ⟨h1,h2⟩ := reqB_holds hK
        obtain ⟨hm,rfl⟩ := findE_spec he
        exact PureOk.sum (h e hm) hes (SV.beqL_eq hc.1) (Nat.eq_of_beq_eq_true hc.2) H ha h1 (fun ρ v => foldSV_is) h2
      · cases ht
    · cases ht
  · intro g args prot hp nm t ht
    unfold pureG at ht
    split at ht
    · rename_i e es he hes
      obtain ⟨hm,rfl⟩ := findE_spec he
      exact (h e hm).enter
    · cases ht
end Go.Proofs.Ytafemlljemhkhaa.Sx
namespace Go.Proofs.Ytafemlljemhkhaa.Sx
open Go
set_option linter.unusedSectionVars false
set_option linter.unusedVariables false
set_option linter.unusedSimpArgs false
set_option maxRecDepth 100000
theorem and_mask (x : Int) : ((BitVec.ofInt 64 x &&& BitVec.ofInt 64 4294967295).toNat : Int) = x % 4294967296 := by
  have h1 : (BitVec.ofInt 64 4294967295).toNat = 2 ^ 32 - 1 := by rfl
  rw [BitVec.toNat_and,h1,Nat.and_two_pow_sub_one_eq_mod,BitVec.toNat_ofInt]
  omega
def wordPre (es : List IE) : List BE := match es with
  | [a] => [.cmp .geq a (.lit 0), .cmp .lss a (.lit 18446744073709551616)]
  | _ => []
theorem wordPre_same (E E' : Env) (es es' : List IE) (h : es.map (@IE.val E) = es'.map (@IE.val E')) (hp : ∀ p ∈ wordPre es, @BE.val E p = true) : ∀ p ∈ wordPre es', @BE.val E' p = true := by
  match es,es',h with
  | [], [],_ => intro p hq; cases hq
  | [a], [b], h =>
    simp only [List.map_cons,List.map_nil,List.cons.injEq,and_true] at h
    intro p hq
    simp only [wordPre,List.mem_cons,List.not_mem_nil,or_false] at hq
    have h1 := hp _ (by simp only [wordPre]; exact List.mem_cons_self ..)
    have h2 := hp _ (by simp only [wordPre]; exact List.mem_cons_of_mem _ (List.mem_cons_self ..))
    simp only [BE.val,IE.val,h] at h1 h2
    rcases hq with rfl | rfl <;> simp only [BE.val,IE.val] <;> assumption
  | _ :: _ :: _, [],h => simp at h
  | _ :: _ :: _, [_],h => simp at h
  | [_],_ :: _ :: _,h => simp at h
  | _ :: _ :: _,_ :: _ :: _,h => intro p hq; cases hq
theorem wordPre_rng {l : List Int} (hl : l.length = 1) (h : ∀ (E : Env) (es : List IE), es.map IE.val = l → ∀ p ∈ wordPre es, p.val = true) : 0 ≤ l.getD 0 0 ∧ l.getD 0 0 < 18446744073709551616 := by
  have h0 := h (envOf l) [.atom 0] (by
    conv => rhs; rw [single hl]
    rfl)
  have h1 := h0 _ (by simp only [wordPre]; exact List.mem_cons_self ..)
  have h2 := h0 _ (by simp only [wordPre]; exact List.mem_cons_of_mem _ (List.mem_cons_self ..))
  simp only [BE.val,IE.val] at h1 h2
  simp only [cmpVal,decide_eq_true_eq] at h1 h2
  exact ⟨h1,h2⟩
def e101 : IE := .conv .i64 (.op .and .u64 (.op .shr .u64 (.atom 0) (.lit 0)) (.lit 4294967295))
theorem e101_val [Env] : e101.val = Env.i 0 % 4294967296 := by
  unfold e101
  simp only [IE.val,binVal]
  rw [show (min (Int.toNat 0) IntKind.u64.bits) = 0 from rfl,Int.pow_zero,Int.fdiv_one]
  rw [show IntKind.u64.bits = 64 from rfl,and_mask,wrap_u,wrap_small] <;> omega
def e49 : IE := .conv .i64 (.op .rem .u64 (.atom 0) (.lit 4294967296))
theorem e49_val [Env] (h : 0 ≤ Env.i 0) : e49.val = Env.i 0 % 4294967296 := by
  unfold e49
  simp only [IE.val,binVal]
  rw [Int.tmod_eq_emod_of_nonneg h,wrap_small] <;> omega
theorem enters101 : enters Try.prog 21 := ⟨Try.f21,Try.func21,by kernel_rfl,by kernel_rfl⟩
theorem eval101 [Env] : base 21 [.w (.one (au 0))] [] [] 1 = .leaf (resI .i64 e101, []) := by kernel_rfl
theorem pure101 : PureOk Try.prog 21 [.w (.one (au 0))] 1 (fun _ => []) (fun a => resI .i64 (.fn 5 a)) :=
  PureOk.of (c := @base) (r0 := resI .i64 e101) @base_ok @eval101 enters101 (fun _ _ _ _ _ _ p hp => by cases hp) fun l hl hp E a hal ρ ρ' v hv => by
    have h1 : v = .int .i64 (@IE.val (envOf l) e101) := hv
    rw [@e101_val (envOf l)] at h1
    show v = .int .i64 (IE.val (.fn 5 a))
    rw [h1,IE.val,hal]
    conv => rhs; rw [single hl]
    rfl
theorem enters49 : enters Try.prog 62 := ⟨Try.f62,Try.func62,by kernel_rfl,by kernel_rfl⟩
theorem eval49 [Env] : base 62 [.w (.one (au 0))] [] [] 1 = .leaf (resI .i64 e49, []) := by kernel_rfl
theorem pure49 : PureOk Try.prog 62 [.w (.one (au 0))] 1 wordPre (fun a => resI .i64 (.fn 5 a)) :=
  PureOk.of (c := @base) (r0 := resI .i64 e49) @base_ok @eval49 enters49 wordPre_same fun l hl hp E a hal ρ ρ' v hv => by
    have h1 : v = .int .i64 (@IE.val (envOf l) e49) := hv
    obtain ⟨r0,r1⟩ := wordPre_rng hl hp
    rw [@e49_val (envOf l) r0] at h1
    show v = .int .i64 (IE.val (.fn 5 a))
    rw [h1,IE.val,hal]
    conv => rhs; rw [single hl]
    rfl
noncomputable def pu0 : List PEntry := []
theorem pu0_ok : ∀ e ∈ pu0,e.ok Try.prog := fun e h => by cases h
theorem pu_cons {e : PEntry} {l : List PEntry} (he : e.ok Try.prog) (hl : ∀ x ∈ l,x.ok Try.prog) : ∀ x ∈ e :: l,x.ok Try.prog := List.forall_mem_cons.2 ⟨he,hl⟩
noncomputable def pu1 : List PEntry := ⟨71,cfg2A,9,fun _ => [],fun a => resI .i64 (.fn 4 a)⟩ :: pu0
theorem pu1_ok : ∀ e ∈ pu1,e.ok Try.prog := pu_cons pure48 pu0_ok
noncomputable def pu2 : List PEntry := ⟨68, [cfgA],7,fun _ => [],fun a => resB (.fn 1 a)⟩ :: pu1
theorem pu2_ok : ∀ e ∈ pu2,e.ok Try.prog := pu_cons pure51 pu1_ok
noncomputable def pu3 : List PEntry := ⟨63, [cfgA],7,fun _ => [],fun a => resB (.fn 1 a)⟩ :: pu2
theorem pu3_ok : ∀ e ∈ pu3,e.ok Try.prog := pu_cons pure41 pu2_ok
noncomputable def pu4 : List PEntry := ⟨64, [cfgA],7,fun _ => [],fun a => resI .i64 (.fn 2 a)⟩ :: pu3
theorem pu4_ok : ∀ e ∈ pu4,e.ok Try.prog := pu_cons pure44 pu3_ok
noncomputable def pu5 : List PEntry := ⟨69, [cfgA],7,fun _ => [],fun a => resI .i64 (.fn 2 a)⟩ :: pu4
theorem pu5_ok : ∀ e ∈ pu5,e.ok Try.prog := pu_cons pure52 pu4_ok
noncomputable def pu6 : List PEntry := ⟨116,cfg2A,9,fun _ => [],fun a => resI .i64 (.fn 4 a)⟩ :: pu5
theorem pu6_ok : ∀ e ∈ pu6,e.ok Try.prog := pu_cons pure59 pu5_ok
noncomputable def pu7 : List PEntry := ⟨91,cfg2A,9,fun _ => [],fun a => resI .i64 (.fn 3 a)⟩ :: pu6
theorem pu7_ok : ∀ e ∈ pu7,e.ok Try.prog := pu_cons pure56 pu6_ok
noncomputable def pu8 : List PEntry := ⟨124,cfg2A,9,fun _ => [],fun a => resI .i64 (.fn 3 a)⟩ :: pu7
theorem pu8_ok : ∀ e ∈ pu8,e.ok Try.prog := pu_cons pure62 pu7_ok
noncomputable def pu9 : List PEntry := ⟨21, [.w (.one (au 0))],1,fun _ => [],fun a => resI .i64 (.fn 5 a)⟩ :: pu8
theorem pu9_ok : ∀ e ∈ pu9,e.ok Try.prog := pu_cons pure101 pu8_ok
noncomputable def pu10 : List PEntry := ⟨62, [.w (.one (au 0))],1,wordPre,fun a => resI .i64 (.fn 5 a)⟩ :: pu9
theorem pu10_ok : ∀ e ∈ pu10,e.ok Try.prog := pu_cons pure49 pu9_ok
noncomputable def pu11 : List PEntry := pu10
theorem pu11_ok : ∀ e ∈ pu11,e.ok Try.prog := pu10_ok
noncomputable def pu12 : List PEntry := pu11
theorem pu12_ok : ∀ e ∈ pu12,e.ok Try.prog := pu11_ok
noncomputable def pures : List PEntry := pu12
theorem pures_ok : ∀ e ∈ pures,e.ok Try.prog := pu12_ok
end Go.Proofs.Ytafemlljemhkhaa.Sx
