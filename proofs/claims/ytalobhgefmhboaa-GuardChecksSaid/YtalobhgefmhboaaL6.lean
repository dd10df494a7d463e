/-
  The law GuardChecks, run on unknowns, from one loop's head to the next.
-/
import Derived.Test.YtalobhgefmhboaaSxY4
import Derived.Test.YtalobhgefmhboaaSxFs
namespace Go.Proofs.Ytalobhgefmhboaa.Sx.L6
open Go Go.Proofs.Ytalobhgefmhboaa.Sx
set_option linter.unusedSectionVars false
set_option linter.unusedVariables false
set_option maxRecDepth 1000000

def X6 : IE := .op .add .u64 (.conv .u64 (.atom 1040)) (.lit 1)
def pr6 : List BE := [lq (.lit 0) (.atom 1040), lq (.atom 1040) (.atom 7), lq (.atom 7) (.lit 100)]

def pks6 : List PK := [cfgK, .one (.int .i64), .one (.int .i64)]
def I0 : SS Empty := SS.mk [.unk, .w (.one (.b (.int .i64 (.atom 7)))), .unk, .unk, .unk, .unk, .w (.one (.b (.bool (.lit false)))), .w (.one (.b (.ptr 2251902901288996 (.lit (0))))), .unk, .w (.one (.b (.ptr 17182490630 (.lit (0))))), .tup [], .tup [], .tup [], .tup [], .tup [], .tup [], .unk, .unk, .unk, .unk, .unk, .unk, .unk, .unk, .unk, .unk, .unk, .unk, .unk, .unk, .unk, .unk, .unk, .unk, .unk, .unk, .unk, .unk, .unk, .unk, .unk, .unk, .unk, .unk, .unk, .unk, .w (.one (.b (.int .i64 (.atom 7)))), .w (.one (.b (.int .i64 (.atom 1040)))), .unk, .unk, .unk, .unk, .tup [], .tup [], .tup [], .tup [], .tup [], .tup [], .tup [], .tup [], .tup [], .unk, .tup [], .tup [], .tup [], .tup [], .tup [], .tup [], .tup [], .unk, .tup [], .tup [], .tup [], .tup [], .tup [], .tup [], .tup [], .tup [], .tup [], .tup [], .tup [], .tup [], .tup [], .tup [], .tup [], .tup [], .tup [], .tup [], .tup [], .tup [], .tup [], .tup [], .tup [], .tup [], .tup [], .tup [], .tup [], .tup [], .tup [], .tup [], .tup [], .tup [], .tup [], .tup [], .tup [], .tup []] [(2251902901288996, SO.cells 92 [.b (.int .i64 (.atom 0)), .b (.int .i64 (.atom 1)), .b (.int .i64 (.atom 2)), .b (.int .i64 (.atom 3)), .b (.int .i64 (.atom 4)), .b (.int .i64 (.atom 5)), .b (.int .i64 (.atom 6)), .b (.ptr 295161417077750759434 (.lit (0)))] 0), (17182490630, SO.cells 39 [.b (.int .i64 (.lit (0))), .b (.int .u64 (.lit (0))), .b (.int .i64 (.atom 8))] 0), (295161417077750759434, SO.cells 117 [.b (.sl 295161417077750759430 (.lit (0)) (.nat (.fn 2 cfgL)) (.nat (.fn 2 cfgL))), .b (.int .i64 (.atom 1040)), .b (.int .i64 (.atom 1041)), .b (.int .i64 (.lit (0))), .b (.int .u64 (.lit (0))), .b (.int .u64 (.atom 1042)), .b (.int .u64 (.atom 1043)), .b (.bool (.atom 1044))] 0), (295161417077750759430, SO.row .u64 32 (.latom 1045))] 32
def F0 : List BE := [.cmp .leq (.atom 1040) (.atom 7), .cmp .eql (.get (.latom 1045) (.lit 0) 0) (.op .add .u64 (.conv .u64 (.atom 1040)) (.lit 1)), .cmp .leq (.lit 0) (.atom 1040), .cmp .eql (.len (.latom 1045)) (.nat (.fn 2 cfgL))] ++ [.cmp .leq (.atom 7) (.lit (100)), .cmp .leq (.lit (0)) (.atom 7), .cmp .eql (.nat (.fn 2 cfgL)) (.fn 2 cfgL), .cmp .leq (.lit (16)) (.fn 2 cfgL), .cmp .leq (.fn 2 cfgL) (.lit (845)), .cmp .eql (.nat (.fn 2 cfgL)) (.fn 2 cfgL), .cmp .eql (.nat (.fn 2 cfgL)) (.fn 2 cfgL), .cmp .leq (.lit (16)) (.fn 2 cfgL), .cmp .leq (.fn 2 cfgL) (.lit (845)), .cmp .eql (.nat (.fn 2 cfgL)) (.fn 2 cfgL), .cmp .eql (.nat (.fn 2 cfgL)) (.fn 2 cfgL), .cmp .leq (.lit (1)) (.atom 0), .cmp .leq (.atom 0) (.lit (8)), .cmp .leq (.lit (1)) (.atom 1), .cmp .leq (.atom 1) (.lit (8)), .cmp .leq (.lit (1)) (.atom 2), .cmp .leq (.atom 2) (.lit (64)), .cmp .leq (.lit (1)) (.atom 3), .cmp .leq (.atom 3) (.lit (6)), .cmp .leq (.lit (1)) (.atom 4), .cmp .leq (.atom 4) (.lit (64)), .cmp .leq (.lit (1)) (.atom 5), .cmp .leq (.atom 5) (.lit (64)), .cmp .leq (.lit (0)) (.atom 6), .cmp .leq (.atom 6) (.lit (1073741823)), .cmp .leq (.lit (1)) (.atom 0), .cmp .leq (.atom 0) (.lit (8)), .cmp .leq (.lit (1)) (.atom 1), .cmp .leq (.atom 1) (.lit (8)), .cmp .leq (.lit (1)) (.atom 2), .cmp .leq (.atom 2) (.lit (64)), .cmp .leq (.lit (1)) (.atom 3), .cmp .leq (.atom 3) (.lit (6)), .cmp .leq (.lit (1)) (.atom 4), .cmp .leq (.atom 4) (.lit (64)), .cmp .leq (.lit (1)) (.atom 5), .cmp .leq (.atom 5) (.lit (64)), .cmp .leq (.lit (0)) (.atom 6), .cmp .leq (.atom 6) (.lit (1073741823)), .cmp .neq (.fn 1 cfgL) (.lit (0)), .cmp .leq (.lit (Int.negSucc 9223372036854775807)) (.atom 0), .cmp .leq (.atom 0) (.lit (9223372036854775807)), .cmp .leq (.lit (Int.negSucc 9223372036854775807)) (.atom 1), .cmp .leq (.atom 1) (.lit (9223372036854775807)), .cmp .leq (.lit (Int.negSucc 9223372036854775807)) (.atom 2), .cmp .leq (.atom 2) (.lit (9223372036854775807)), .cmp .leq (.lit (Int.negSucc 9223372036854775807)) (.atom 3), .cmp .leq (.atom 3) (.lit (9223372036854775807)), .cmp .leq (.lit (Int.negSucc 9223372036854775807)) (.atom 4), .cmp .leq (.atom 4) (.lit (9223372036854775807)), .cmp .leq (.lit (Int.negSucc 9223372036854775807)) (.atom 5), .cmp .leq (.atom 5) (.lit (9223372036854775807)), .cmp .leq (.lit (Int.negSucc 9223372036854775807)) (.atom 6), .cmp .leq (.atom 6) (.lit (9223372036854775807)), .cmp .leq (.lit (Int.negSucc 9223372036854775807)) (.atom 7), .cmp .leq (.atom 7) (.lit (9223372036854775807)), .cmp .leq (.lit (Int.negSucc 9223372036854775807)) (.atom 8), .cmp .leq (.atom 8) (.lit (9223372036854775807))]
def cuts : List Cut := [⟨[0, 1, 0, 1, 1, 1, 1], I0, F0, [((.atom 7), (.atom 1040))]⟩]
def ths : Ths := [(pr6, .cmp .eql (.op .add .u64 X6 (.lit 1)) (.op .add .u64 (.conv .u64 (.op .add .i64 (.atom 1040) (.lit 1))) (.lit 1))), (pr6, ands [lq (.lit 1) X6, .cmp .neq (.op .add .u64 X6 (.lit 1)) X6]),
  ([lq (.lit 0) (.atom 1040), ls (.atom 1040) (.atom 7), lq (.atom 7) (.lit 100)], lq (.op .add .i64 (.atom 1040) (.lit 1)) (.atom 7)), ([lq (.atom 1040) (.atom 7), lq (.atom 7) (.atom 1040)], .cmp .eql (.atom 1040) (.atom 7))]
theorem ths_ok : ThsOk ths := by
  intro E t ht hp
  letI := E
  have hx0 : (IE.atom 1040).val = E.i 1040 := rfl
  have hx7 : (IE.atom 7).val = E.i 7 := rfl
  have hX : 0 ≤ E.i 1040 → E.i 1040 ≤ 100 → X6.val = E.i 1040 + 1 := fun h1 h2 => by
    show IntKind.u64.wrap (IntKind.u64.wrap (E.i 1040) + 1) = _
    rw [wrap_u, wrap_u]; omega
  have hY : 0 ≤ E.i 1040 → E.i 1040 ≤ 100 → (IE.op .add .u64 X6 (.lit 1)).val = E.i 1040 + 2 := fun h1 h2 => by
    show IntKind.u64.wrap (X6.val + 1) = _
    rw [wrap_u, hX h1 h2]; omega
  have hI : 0 ≤ E.i 1040 → E.i 1040 ≤ 100 → (IE.op .add .i64 (.atom 1040) (.lit 1)).val = E.i 1040 + 1 := fun h1 h2 => by
    show IntKind.i64.wrap (E.i 1040 + 1) = _
    exact wrap_small (by omega) (by omega)
  simp only [ths, List.mem_cons, List.not_mem_nil, or_false] at ht
  rcases ht with rfl | rfl | rfl | rfl
  · have p1 := (lq_val _ _).1 (hp (lq (.lit 0) (.atom 1040)) (by simp [pr6]))
    have p2 := (lq_val _ _).1 (hp (lq (.atom 1040) (.atom 7)) (by simp [pr6]))
    have p3 := (lq_val _ _).1 (hp (lq (.atom 7) (.lit 100)) (by simp [pr6]))
    rw [lit_val] at p1 p3
    have e1 : (IE.op .add .u64 (.conv .u64 (.op .add .i64 (.atom 1040) (.lit 1))) (.lit 1)).val = E.i 1040 + 2 := by
      show IntKind.u64.wrap (IntKind.u64.wrap (IE.op .add .i64 (.atom 1040) (.lit 1)).val + 1) = _
      rw [wrap_u, wrap_u, hI (by omega) (by omega)]; omega
    show ((IE.op .add .u64 X6 (.lit 1)).val == (IE.op .add .u64 (.conv .u64 (.op .add .i64 (.atom 1040) (.lit 1))) (.lit 1)).val) = true
    rw [e1, hY (by omega) (by omega), beq_iff_eq]
  · have p1 := (lq_val _ _).1 (hp (lq (.lit 0) (.atom 1040)) (by simp [pr6]))
    have p2 := (lq_val _ _).1 (hp (lq (.atom 1040) (.atom 7)) (by simp [pr6]))
    have p3 := (lq_val _ _).1 (hp (lq (.atom 7) (.lit 100)) (by simp [pr6]))
    rw [lit_val] at p1 p3
    refine ands_val fun b hb => ?_
    simp only [List.mem_cons, List.not_mem_nil, or_false] at hb
    rcases hb with rfl | rfl
    · rw [lq_val, lit_val, hX (by omega) (by omega)]; omega
    · show ((IE.op .add .u64 X6 (.lit 1)).val != X6.val) = true
      rw [hX (by omega) (by omega), hY (by omega) (by omega)]
      simp
  · have p1 := (lq_val _ _).1 (hp (lq (.lit 0) (.atom 1040)) (by simp))
    have p2 := (ls_val _ _).1 (hp (ls (.atom 1040) (.atom 7)) (by simp))
    have p3 := (lq_val _ _).1 (hp (lq (.atom 7) (.lit 100)) (by simp))
    rw [lit_val] at p1 p3
    show (lq _ _).val = true
    rw [lq_val, hI (by omega) (by omega)]; omega
  · have p1 := (lq_val _ _).1 (hp (lq (.atom 1040) (.atom 7)) (by simp))
    have p2 := (lq_val _ _).1 (hp (lq (.atom 7) (.atom 1040)) (by simp))
    show ((IE.atom 1040).val == (IE.atom 7).val) = true
    rw [beq_iff_eq]; omega
theorem heads : (cuts.all fun k => isLoop (subAt (rootOf Try.f6) k.p) && Nat.ble k.ms.length 9) = true := by kernel_rfl
theorem starts [Env] : solveQ ths (leafQ ths Try.prog Try.f6.results cuts none) (rngFacts pks6 0) (segStart Try.prog base3 (extraS Try.prog) 65536 (rootOf Try.f6) cuts Try.f6.ntmps (symArgs pks6 0 0) (symHeap pks6 0 0)) = true := by kernel_rfl
def cut0 : Cut := ⟨[0, 1, 0, 1, 1, 1, 1], I0, F0, [((.atom 7), (.atom 1040))]⟩
theorem run0 [Env] : solveQ ths (leafQ ths Try.prog Try.f6.results cuts (some cut0.ms)) cut0.fs (segAt Try.prog base3 (extraS Try.prog) 65536 (rootOf Try.f6) cuts cut0) = true := by kernel_rfl
theorem runs [Env] : ∀ k ∈ cuts, solveQ ths (leafQ ths Try.prog Try.f6.results cuts (some k.ms)) k.fs (segAt Try.prog base3 (extraS Try.prog) 65536 (rootOf Try.f6) cuts k) = true := by
  intro k hk
  simp only [cuts, List.mem_cons, List.not_mem_nil, or_false] at hk
  rcases hk with rfl
  · exact run0
theorem law (E : Env) (ρ : Rho) (F : Nat → Nat → Prop) (w : World) (argv : Array Value) (h1 : symRng E pks6 0 0) (h2 : @HeapOk E Empty _ ρ F (symHeap pks6 0 0) w) (h3 : All2 (@SV.is E ρ) (symArgs pks6 0 0) argv.toList) :
    Calls Try.prog 6 argv w fun e w' => e = .returned (.bool true) ∧ ∃ ρ' F', Reach ρ F w ρ' F' w' :=
  floydQ mixed_ok (c := @base3) @base3_ok (x := extraS Try.prog) (fun {_} => extraS_ok _) Try.func6 (by kernel_rfl : Try.f6.body = some (rootOf Try.f6)) ths_ok heads @runs @starts E (rngFacts_ok E h1) h2 h3
end Go.Proofs.Ytalobhgefmhboaa.Sx.L6
