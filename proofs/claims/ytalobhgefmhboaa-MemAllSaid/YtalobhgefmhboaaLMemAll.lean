/-
  The law MemAll, run on unknowns, from one loop's head to the next.
-/
import Derived.Test.YtalobhgefmhboaaSxSg
namespace Go.Proofs.Ytalobhgefmhboaa.Sx.LMemAll
open Go Go.Proofs.Ytalobhgefmhboaa.Sx
set_option linter.unusedSectionVars false
set_option linter.unusedVariables false
set_option linter.unusedSimpArgs false
set_option maxRecDepth 1000000

def pks : List PK := [cfgK, .sl [.int .u64], .sl [.int .i64, .int .i64, .int .i64, .int .u64, .int .u64, .int .u64]]
def I0 : SS Empty := (SS.mk [.unk, .unk, .unk, .unk, .unk, .unk, (.w (.one (.b (.bool (.lit false))))), (.w (.one (.b (.ptr 2251937258143780 (.lit 0))))), (.w (.one (.b (.ptr 131090 (.lit 0))))), .unk, .unk, .unk, .unk, .unk, .unk, .unk, .unk, .unk, .unk, .unk, .unk, .unk, .unk, .unk, .unk, .unk, .unk, .unk, .unk, .unk, .unk, .unk, (.w (.one (.b (.isl 3 (.atom 9) (.atom 10))))), (.w (.one (.b (.int .i64 (.nat (.atom 10)))))), (.w (.one (.b (.int .i64 (.atom 1169))))), .unk, .unk, .unk, .unk, .unk, .unk, .unk, .unk, .unk, .unk, .unk, .unk, .unk, .unk, .unk, .unk, .unk, .unk, .unk, .unk, .unk, .unk, .unk, .unk, .unk, .unk, .unk, .unk, .unk, .unk, .unk, .unk, (.tup [])] [(2251937258143780, (.cells 92 [(.b (.int .i64 (.atom 0))), (.b (.int .i64 (.atom 1))), (.b (.int .i64 (.atom 2))), (.b (.int .i64 (.atom 3))), (.b (.int .i64 (.atom 4))), (.b (.int .i64 (.atom 5))), (.b (.int .i64 (.atom 6))), (.b (.ptr 295165920299421007882 (.lit 0)))] 0)), (131090, (.cells 51 [(.b (.int .i64 (.atom 0))), (.b (.int .i64 (.atom 1))), (.b (.int .i64 (.atom 2))), (.b (.int .i64 (.atom 3))), (.b (.int .i64 (.atom 4))), (.b (.int .i64 (.atom 5))), (.b (.int .i64 (.atom 6))), (.b (.isl 295165920608655507462 (.lit 0) (.len (.latom 1178)))), (.b (.int .i64 (.atom 1171))), (.b (.int .i64 (.atom 1172))), (.b (.int .i64 (.atom 1173))), (.b (.int .u64 (.atom 1174))), (.b (.int .u64 (.atom 1175))), (.b (.int .u64 (.atom 1176))), (.b (.bool (.atom 1177)))] 0)), (3, (.tab [(.int .i64), (.int .i64), (.int .i64), (.int .u64), (.int .u64), (.int .u64)] (.atom 9) (.atom 10) 1)), (295165920299421007882, (.cells 117 [(.b (.sl 295165920299421007878 (.lit 0) (.len (.latom 1178)) (.len (.latom 1178)))), (.b (.int .i64 (.atom 1171))), (.b (.int .i64 (.atom 1172))), (.b (.int .i64 (.atom 1173))), (.b (.int .u64 (.atom 1174))), (.b (.int .u64 (.atom 1175))), (.b (.int .u64 (.atom 1176))), (.b (.bool (.atom 1177)))] 0)), (295165920608655507462, (.row .u64 32 (.latom 1178))), (295165920299421007878, (.row .u64 32 (.latom 1178)))] 23)
def F0 : List BE := [.cmp .leq (.lit 0) (.atom 1169), (.cmp .eql (.len (.latom 1178)) (.nat (.atom 8))), (.cmp .eql (.nat (.atom 10)) (.atom 10)), (.cmp .leq (.nat (.atom 10)) (.lit 60)), (.cmp .leq (.nat (.atom 8)) (.lit 400)), (.cmp .leq (.lit 16) (.fn 2 cfgL)), (.cmp .leq (.fn 2 cfgL) (.lit 845)), (.cmp .eql (.nat (.fn 2 cfgL)) (.fn 2 cfgL)), (.cmp .eql (.nat (.atom 8)) (.atom 8)), (.cmp .eql (.nat (.atom 8)) (.fn 2 cfgL)), (.cmp .leq (.lit 1) (.atom 0)), (.cmp .leq (.atom 0) (.lit 8)), (.cmp .leq (.lit 1) (.atom 1)), (.cmp .leq (.atom 1) (.lit 8)), (.cmp .leq (.lit 1) (.atom 2)), (.cmp .leq (.atom 2) (.lit 64)), (.cmp .leq (.lit 1) (.atom 3)), (.cmp .leq (.atom 3) (.lit 6)), (.cmp .leq (.lit 1) (.atom 4)), (.cmp .leq (.atom 4) (.lit 64)), (.cmp .leq (.lit 1) (.atom 5)), (.cmp .leq (.atom 5) (.lit 64)), (.cmp .leq (.lit 0) (.atom 6)), (.cmp .leq (.atom 6) (.lit 1073741823)), (.cmp .neq (.fn 1 cfgL) (.lit 0)), (.cmp .leq (.lit 0) (.atom 7)), (.cmp .leq (.lit 0) (.atom 8)), (.cmp .leq (.lit 0) (.atom 9)), (.cmp .leq (.lit 0) (.atom 10))]
def cut0 : Cut := ⟨[0, 1, 0, 1, 1, 1], I0, F0, [((.nat (.atom 10)), (.atom 1169))]⟩
def cuts : List Cut := [cut0]
def ths : Ths := []
theorem ths_ok : ThsOk ths := fun E t h _ => by cases h
theorem heads : (cuts.all fun k => isLoop (subAt (rootOf Try.f13) k.p) && Nat.ble k.ms.length 9) = true := by kernel_rfl
def obS : List Ob := []
theorem eS [Env] : oweStart (tabsOf pks 0) ths [0] Try.prog Try.f13 (rootOf Try.f13) base6 (extraS Try.prog) cuts (rngFacts pks 0) (symArgs pks 0 0) (symHeap pks 0 0) = obS := by kernel_rfl
def ob0_0 : List Ob := []
theorem e0_0 [Env] : oweAt (tabsOf pks 0) ths [0] Try.prog Try.f13 (rootOf Try.f13) base6 (extraS Try.prog) cuts cut0 (ithPart (.tab 1 (.atom 1169) 0) 11 0) = ob0_0 := by kernel_rfl
def ob0_1 : List Ob := []
theorem e0_1 [Env] : oweAt (tabsOf pks 0) ths [0] Try.prog Try.f13 (rootOf Try.f13) base6 (extraS Try.prog) cuts cut0 (ithPart (.tab 1 (.atom 1169) 0) 11 1) = ob0_1 := by kernel_rfl
def ob0_2 : List Ob := []
theorem e0_2 [Env] : oweAt (tabsOf pks 0) ths [0] Try.prog Try.f13 (rootOf Try.f13) base6 (extraS Try.prog) cuts cut0 (ithPart (.tab 1 (.atom 1169) 0) 11 2) = ob0_2 := by kernel_rfl
def ob0_3 : List Ob := []
theorem e0_3 [Env] : oweAt (tabsOf pks 0) ths [0] Try.prog Try.f13 (rootOf Try.f13) base6 (extraS Try.prog) cuts cut0 (ithPart (.tab 1 (.atom 1169) 0) 11 3) = ob0_3 := by kernel_rfl
def ob0_4 : List Ob := []
theorem e0_4 [Env] : oweAt (tabsOf pks 0) ths [0] Try.prog Try.f13 (rootOf Try.f13) base6 (extraS Try.prog) cuts cut0 (ithPart (.tab 1 (.atom 1169) 0) 11 4) = ob0_4 := by kernel_rfl
def ob0_5 : List Ob := []
theorem e0_5 [Env] : oweAt (tabsOf pks 0) ths [0] Try.prog Try.f13 (rootOf Try.f13) base6 (extraS Try.prog) cuts cut0 (ithPart (.tab 1 (.atom 1169) 0) 11 5) = ob0_5 := by kernel_rfl
def ob0_6 : List Ob := []
theorem e0_6 [Env] : oweAt (tabsOf pks 0) ths [0] Try.prog Try.f13 (rootOf Try.f13) base6 (extraS Try.prog) cuts cut0 (ithPart (.tab 1 (.atom 1169) 0) 11 6) = ob0_6 := by kernel_rfl
def ob0_7 : List Ob := []
theorem e0_7 [Env] : oweAt (tabsOf pks 0) ths [0] Try.prog Try.f13 (rootOf Try.f13) base6 (extraS Try.prog) cuts cut0 (ithPart (.tab 1 (.atom 1169) 0) 11 7) = ob0_7 := by kernel_rfl
def ob0_8 : List Ob := []
theorem e0_8 [Env] : oweAt (tabsOf pks 0) ths [0] Try.prog Try.f13 (rootOf Try.f13) base6 (extraS Try.prog) cuts cut0 (ithPart (.tab 1 (.atom 1169) 0) 11 8) = ob0_8 := by kernel_rfl
def ob0_9 : List Ob := []
theorem e0_9 [Env] : oweAt (tabsOf pks 0) ths [0] Try.prog Try.f13 (rootOf Try.f13) base6 (extraS Try.prog) cuts cut0 (ithPart (.tab 1 (.atom 1169) 0) 11 9) = ob0_9 := by kernel_rfl
def ob0_10 : List Ob := []
theorem e0_10 [Env] : oweAt (tabsOf pks 0) ths [0] Try.prog Try.f13 (rootOf Try.f13) base6 (extraS Try.prog) cuts cut0 (ithPart (.tab 1 (.atom 1169) 0) 11 10) = ob0_10 := by kernel_rfl
def ob0_11 : List Ob := []
theorem e0_11 [Env] : oweAt (tabsOf pks 0) ths [0] Try.prog Try.f13 (rootOf Try.f13) base6 (extraS Try.prog) cuts cut0 (ithPart (.tab 1 (.atom 1169) 0) 11 11) = ob0_11 := by kernel_rfl
def Phi : Nat → Env → Prop := fun _ _ => True
theorem part0 (E : Env) (hfs : ∀ b ∈ cut0.fs, @BE.val E b = true) (hphi : Phi 0 E) (htab : TabR (tabsOf pks 0) E) : ∃ ex : List BE, (∀ b ∈ ex, @BE.val E b = true) ∧ Owed E Phi (oweAt (tabsOf pks 0) ths [0] Try.prog Try.f13 (rootOf Try.f13) base6 (extraS Try.prog) cuts cut0 ex) :=
  partsI (Q := fun ex => Owed E Phi (oweAt (tabsOf pks 0) ths [0] Try.prog Try.f13 (rootOf Try.f13) base6 (extraS Try.prog) cuts cut0 ex)) (.tab 1 (.atom 1169) 0) 11 fun k hk => by
    match k, hk with
    | 0, _ => exact Owed.eq (@e0_0 E) True.intro
    | 1, _ => exact Owed.eq (@e0_1 E) True.intro
    | 2, _ => exact Owed.eq (@e0_2 E) True.intro
    | 3, _ => exact Owed.eq (@e0_3 E) True.intro
    | 4, _ => exact Owed.eq (@e0_4 E) True.intro
    | 5, _ => exact Owed.eq (@e0_5 E) True.intro
    | 6, _ => exact Owed.eq (@e0_6 E) True.intro
    | 7, _ => exact Owed.eq (@e0_7 E) True.intro
    | 8, _ => exact Owed.eq (@e0_8 E) True.intro
    | 9, _ => exact Owed.eq (@e0_9 E) True.intro
    | 10, _ => exact Owed.eq (@e0_10 E) True.intro
    | 11, _ => exact Owed.eq (@e0_11 E) True.intro
    | _ + 12, hk => exact absurd hk (Nat.not_le.2 (Nat.lt_of_lt_of_le (Nat.lt_succ_self 11) (Nat.le_add_left 12 _)))
theorem runsM (E : Env) (i : Nat) (k : Cut) (hi : cuts[i]? = some k) (hfs : ∀ b ∈ k.fs, @BE.val E b = true) (hphi : Phi i E) (htab : TabR (tabsOf pks 0) E) : ∃ ex : List BE, (∀ b ∈ ex, @BE.val E b = true) ∧ Owed E Phi (oweAt (tabsOf pks 0) ths [0] Try.prog Try.f13 (rootOf Try.f13) base6 (extraS Try.prog) cuts k ex) := by
  match i, hi with
  | 0, hi => obtain rfl : cut0 = k := Option.some.inj (show some cut0 = some k from hi); exact part0 E hfs hphi htab
  | n + 1, hi => exact absurd hi (by simp [cuts])
theorem startM (E : Env) (h1 : symRng E pks 0 0) : Owed E Phi (oweStart (tabsOf pks 0) ths [0] Try.prog Try.f13 (rootOf Try.f13) base6 (extraS Try.prog) cuts (rngFacts pks 0) (symArgs pks 0 0) (symHeap pks 0 0)) := Owed.eq (@eS E) True.intro
theorem trOk : ∀ i ∈ ([0] : List Nat), ∀ E, Phi i E := fun _ _ _ => trivial
theorem bodyOk : Try.f13.body = some (rootOf Try.f13) := by kernel_rfl
theorem law (E : Env) (ρ : Rho) (F : Nat → Nat → Prop) (w : World) (argv : Array Value) (h1 : symRng E pks 0 0) (h2 : @HeapOk E Empty _ ρ F (symHeap pks 0 0) w) (h3 : All2 (@SV.is E ρ) (symArgs pks 0 0) argv.toList) :
    Calls Try.prog 13 argv w fun e w' => e = .returned (.bool true) ∧ ∃ ρ' F', Reach ρ F w ρ' F' w' :=
  floydM (ts := tabsOf pks 0) mixed_ok (c := @base6) @base6_ok (x := extraS Try.prog) (fun {_} => extraS_ok _) Try.func13 bodyOk ths_ok (tr := [0]) (Φ := Phi) trOk heads runsM E (tabsOf_ok E h1) (rngFacts_ok E h1) (startM E h1) h2 h3
end Go.Proofs.Ytalobhgefmhboaa.Sx.LMemAll
