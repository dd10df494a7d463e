/-
  The law SweepOwn, run on unknowns, from one loop's head to the next.
-/
import Derived.Test.YtafemlljemhkhaaSxAl
import Derived.Test.YtafemlljemhkhaaSxSqt
import Derived.Test.YtafemlljemhkhaaSxY6
import Derived.Test.YtafemlljemhkhaaSxCl2
import Derived.Test.YtafemlljemhkhaaSxFr
namespace Go.Proofs.Ytafemlljemhkhaa.Sx.LSweepOwn
open Go Go.Proofs.Ytafemlljemhkhaa.Sx
set_option linter.unusedSectionVars false
set_option linter.unusedVariables false
set_option linter.unusedSimpArgs false
set_option maxRecDepth 1000000

def A0 : IE := (.consL (.lit 300) (.consL (.atom 0) (.consL (.atom 1) (.consL (.atom 2) (.consL (.atom 3) (.consL (.atom 4) (.consL (.atom 5) (.consL (.atom 6) (.consL (.atom 1019) (.consL (.atom 1020) (.consL (.lit 0) (.consL (.atom 1021) (.consL (.atom 1022) (.consL (.atom 1023) (.consL (.lit 0) (.consL (.atom 1024) (.consL (.atom 1025) (.consL (.cmpI .neq (.atom 1026) (.lit 0)) (.consL (.len (.consL (.lit 0) (.consL (.lit 0) (.consL (.len (.fnL 7901 (.tabL 0 (.atom 8) 3))) (.consL (.lit 0) (.fnL 7901 (.tabL 0 (.atom 8) 3))))))) (.catL (.consL (.lit 0) (.consL (.lit 0) (.consL (.len (.fnL 7901 (.tabL 0 (.atom 8) 3))) (.consL (.lit 0) (.fnL 7901 (.tabL 0 (.atom 8) 3)))))) (.latom 1027)))))))))))))))))))))
def pks : List PK := [cfgK, .sl [.int .u64, .int .u64, .int .u64], .sl [.int .u64]]
def I0 : SS Empty := (SS.mk [.unk, .unk, .unk, (.w (.one (.b (.ptr 131072 (.lit 0))))), .unk, .unk, .unk, (.w (.one (.b (.ptr 17180917760 (.lit 0))))), .unk, .unk, (.w (.one (.b (.ptr 17183277056 (.lit 0))))), (.w (.one (.b (.ptr 17183539206 (.lit 0))))), .unk, .unk, .unk, .unk, .unk, .unk, .unk, .unk, .unk, .unk, .unk, .unk, .unk, .unk, .unk, .unk, .unk, .unk, .unk, .unk, .unk, .unk, .unk, .unk, .unk, .unk, .unk, .unk, .unk, .unk, .unk, .unk, .unk, .unk, .unk, .unk, .unk, .unk, .unk, .unk, .unk, .unk, .unk, .unk, (.w (.one (.b (.isl 3 (.atom 9) (.atom 10))))), (.w (.one (.b (.int .i64 (.nat (.atom 10)))))), (.w (.one (.b (.int .i64 (.atom 1018))))), .unk, .unk, .unk, .unk, .unk, .unk, .unk, .unk, .unk, .unk, .unk, .unk, .unk, .unk, .unk, .unk, .unk, .unk, .unk, .unk, .unk, .unk, .unk, .unk, .unk, .unk, .unk, .unk, .unk, .unk, .unk, .unk, .unk, .unk, .unk, .unk, .unk, .unk, .unk, .unk] [(131072, (.cells 23 [(.b (.int .i64 (.atom 0))), (.b (.int .i64 (.atom 1))), (.b (.int .i64 (.atom 2))), (.b (.int .i64 (.atom 3))), (.b (.int .i64 (.atom 4))), (.b (.int .i64 (.atom 5))), (.b (.int .i64 (.atom 6)))] 0)), (17180917760, (.cells 122 [(.b (.int .i64 (.atom 0))), (.b (.int .i64 (.atom 1))), (.b (.int .i64 (.atom 2))), (.b (.int .i64 (.atom 3))), (.b (.int .i64 (.atom 4))), (.b (.int .i64 (.atom 5))), (.b (.int .i64 (.atom 6))), (.b (.ptr 17180917764 (.lit 0)))] 0)), (17183277056, (.mach 0 (.consL (.lit 1003) (.consL (.lit 0) (.consL (.lit 0) (.consL (.len (.fnL 7901 (.tabL 0 (.atom 8) 3))) (.consL (.lit 0) (.fnL 7901 (.tabL 0 (.atom 8) 3))))))))), (17183539206, (.cells 105 [(.b (.int .i64 (.atom 1019))), (.b (.int .u64 (.atom 1020))), (.b (.int .i64 (.lit 0)))] 0)), (3, (.tab [(.int .u64)] (.atom 9) (.atom 10) 1)), (17180917764, (.cells 130 [(.b (.sl 17180917766 (.lit 0) (.len (.latom 1027)) (.len (.latom 1027)))), (.b (.int .i64 (.atom 1021))), (.b (.int .i64 (.atom 1022))), (.b (.int .i64 (.atom 1023))), (.b (.int .u64 (.lit 0))), (.b (.int .u64 (.atom 1024))), (.b (.int .u64 (.atom 1025))), (.b (.bool (.atom 1026)))] 0)), (17180917766, (.row .u64 27 (.latom 1027)))] 42)
def F0 : List BE := [.cmp .leq (.lit 0) (.atom 1018), (.cmp .eql (.len (.latom 1027)) (.nat (.fn 2 cfgL))), (.cmp .leq (.atom 4) (.fn 50 (.consL (.len (.fnL 7901 (.tabL 0 (.atom 8) 3))) (.consL (.lit 3) .nilL)))), (.cmp .eql (.nat (.atom 10)) (.atom 10)), (.cmp .leq (.nat (.atom 10)) (.lit 70)), (.cmp .leq (.lit 1) (.atom 0)), (.cmp .leq (.atom 0) (.lit 8)), (.cmp .leq (.lit 1) (.atom 1)), (.cmp .leq (.atom 1) (.lit 8)), (.cmp .leq (.lit 1) (.atom 2)), (.cmp .leq (.atom 2) (.lit 64)), (.cmp .leq (.lit 1) (.atom 3)), (.cmp .leq (.atom 3) (.lit 6)), (.cmp .leq (.lit 1) (.atom 4)), (.cmp .leq (.atom 4) (.lit 64)), (.cmp .leq (.lit 1) (.atom 5)), (.cmp .leq (.atom 5) (.lit 64)), (.cmp .leq (.lit 0) (.atom 6)), (.cmp .leq (.atom 6) (.lit 1073741823)), (.cmp .neq (.fn 1 cfgL) (.lit 0)), (.cmp .leq (.atom 8) (.atom 2)), (.cmp .leq (.lit 0) (.atom 7)), (.cmp .leq (.lit 0) (.atom 8)), (.cmp .leq (.lit 0) (.atom 9)), (.cmp .leq (.lit 0) (.atom 10))]
def rw0 : List (IE × IE) := []
def cut0 : Cut := ⟨[0, 1, 0, 1, 1, 1, 1], I0, F0, [((.lit 2), (.lit 0)), ((.nat (.atom 10)), (.atom 1018))]⟩
def I1 : SS Empty := (SS.mk [.unk, .unk, .unk, .unk, .unk, .unk, .unk, (.w (.one (.b (.ptr 17180917760 (.lit 0))))), .unk, .unk, (.w (.one (.b (.ptr 17183277056 (.lit 0))))), (.w (.one (.b (.ptr 17183539206 (.lit 0))))), .unk, .unk, .unk, .unk, .unk, .unk, .unk, .unk, .unk, .unk, .unk, .unk, .unk, .unk, .unk, .unk, .unk, .unk, .unk, .unk, .unk, .unk, .unk, .unk, .unk, .unk, .unk, .unk, .unk, .unk, .unk, .unk, .unk, .unk, .unk, .unk, .unk, .unk, .unk, .unk, .unk, .unk, .unk, .unk, .unk, .unk, .unk, .unk, .unk, .unk, .unk, .unk, .unk, .unk, .unk, .unk, .unk, .unk, .unk, .unk, (.w (.one (.b (.int .i64 (.atom 1))))), (.w (.one (.b (.int .i64 (.atom 1200))))), .unk, .unk, .unk, .unk, .unk, .unk, .unk, .unk, .unk, .unk, .unk, .unk, .unk, .unk, .unk, .unk, .unk, .unk, .unk, .unk, .unk, .unk, .unk, .unk, .unk] [(17180917760, (.cells 122 [(.b (.int .i64 (.atom 0))), (.b (.int .i64 (.atom 1))), (.b (.int .i64 (.atom 2))), (.b (.int .i64 (.atom 3))), (.b (.int .i64 (.atom 4))), (.b (.int .i64 (.atom 5))), (.b (.int .i64 (.atom 6))), (.b (.ptr 17180917764 (.lit 0)))] 0)), (17183277056, (.mach 0 (.consL (.lit 1003) (.fnL 4200 A0)))), (17183539206, (.cells 105 [(.b (.int .i64 (.fn 4207 A0))), (.b (.int .u64 (.fn 4208 A0))), (.b (.int .i64 (.lit 0)))] 0)), (17180917764, (.cells 130 [(.b (.sl 17180917766 (.lit 0) (.len (.latom 1027)) (.len (.latom 1027)))), (.b (.int .i64 (.atom 1201))), (.b (.int .i64 (.atom 1202))), (.b (.int .i64 (.atom 1203))), (.b (.int .u64 (.atom 1204))), (.b (.int .u64 (.atom 1205))), (.b (.int .u64 (.atom 1206))), (.b (.bool (.atom 1207)))] 0)), (17180917766, (.row .u64 27 (.putL (.latom 1027) (.lit 0) (.fnL 4201 A0))))] 50)
def F1 : List BE := [.cmp .leq (.lit 0) (.atom 1200), (.cmp .leq (.nat (.atom 10)) (.atom 1018)), (.cmp .leq (.atom 4) (.fn 50 (.consL (.len (.fnL 7901 (.tabL 0 (.atom 8) 3))) (.consL (.lit 3) .nilL)))), (.cmp .eql (.nat (.atom 10)) (.atom 10)), (.cmp .leq (.nat (.atom 10)) (.lit 70)), (.cmp .leq (.lit 1) (.atom 0)), (.cmp .leq (.atom 0) (.lit 8)), (.cmp .leq (.lit 1) (.atom 1)), (.cmp .leq (.atom 1) (.lit 8)), (.cmp .leq (.lit 1) (.atom 2)), (.cmp .leq (.atom 2) (.lit 64)), (.cmp .leq (.lit 1) (.atom 3)), (.cmp .leq (.atom 3) (.lit 6)), (.cmp .leq (.lit 1) (.atom 4)), (.cmp .leq (.atom 4) (.lit 64)), (.cmp .leq (.lit 1) (.atom 5)), (.cmp .leq (.atom 5) (.lit 64)), (.cmp .leq (.lit 0) (.atom 6)), (.cmp .leq (.atom 6) (.lit 1073741823)), (.cmp .neq (.fn 1 cfgL) (.lit 0)), (.cmp .leq (.atom 8) (.atom 2)), (.cmp .leq (.lit 0) (.atom 7)), (.cmp .leq (.lit 0) (.atom 8)), (.cmp .leq (.lit 0) (.atom 9)), (.cmp .leq (.lit 0) (.atom 10))]
def rw1 : List (IE × IE) := []
def cut1 : Cut := ⟨[0, 1, 0, 1, 1, 1, 1, 1, 1], I1, F1, [((.lit 1), (.lit 0)), ((.atom 1), (.atom 1200))]⟩
def cuts : List Cut := [cut0, cut1]
def ths : Ths := []
theorem ths_ok : ThsOk ths := fun E t h _ => by cases h
theorem heads : (cuts.all fun k => isLoop (subAt (rootOf Try.f13) k.p) && Nat.ble k.ms.length 9) = true := by kernel_rfl
def obS : List Ob := [(.need (.cmp .leq (.len .nilL) (.lit 1000000)) [(.not (.and (.cmp .neq (.fn 1 cfgL) (.lit 0)) (.cmp .leq (.atom 8) (.atom 2))))]), (.need (.cmp .leq (.len (.fnL 7901 (.tabL 0 (.atom 8) 3))) (.lit 1000000)) [(.and (.cmp .neq (.fn 1 cfgL) (.lit 0)) (.cmp .leq (.atom 8) (.atom 2)))]), (.need (.cmp .eql (.len (.fnL 7900 (.consL (.atom 0) (.consL (.atom 1) (.consL (.atom 2) (.consL (.atom 3) (.consL (.atom 4) (.consL (.atom 5) (.consL (.atom 6) (.consL (.atom 8) .nilL)))))))))) (.nat (.fn 2 cfgL))) [(.cmp .leq (.atom 4) (.fn 50 (.consL (.len (.fnL 7901 (.tabL 0 (.atom 8) 3))) (.consL (.lit 3) .nilL)))), (.not (.cmp .gtr (.nat (.atom 10)) (.lit 70))), (.cmp .leq (.len (.fnL 7901 (.tabL 0 (.atom 8) 3))) (.lit 1000000)), (.and (.cmp .neq (.fn 1 cfgL) (.lit 0)) (.cmp .leq (.atom 8) (.atom 2)))]), (.at_ 0 [(1026, (.cmpI .neq (.fn 7906 (.consL (.atom 0) (.consL (.atom 1) (.consL (.atom 2) (.consL (.atom 3) (.consL (.atom 4) (.consL (.atom 5) (.consL (.atom 6) (.consL (.atom 8) .nilL))))))))) (.lit 0))), (1025, (.fn 7905 (.consL (.atom 0) (.consL (.atom 1) (.consL (.atom 2) (.consL (.atom 3) (.consL (.atom 4) (.consL (.atom 5) (.consL (.atom 6) (.consL (.atom 8) .nilL)))))))))), (1024, (.fn 7904 (.consL (.atom 0) (.consL (.atom 1) (.consL (.atom 2) (.consL (.atom 3) (.consL (.atom 4) (.consL (.atom 5) (.consL (.atom 6) (.consL (.atom 8) .nilL)))))))))), (1023, (.fn 7902 (.consL (.atom 0) (.consL (.atom 1) (.consL (.atom 2) (.consL (.atom 3) (.consL (.atom 4) (.consL (.atom 5) (.consL (.atom 6) (.consL (.atom 8) .nilL)))))))))), (1022, (.fn 7901 (.consL (.atom 0) (.consL (.atom 1) (.consL (.atom 2) (.consL (.atom 3) (.consL (.atom 4) (.consL (.atom 5) (.consL (.atom 6) (.consL (.atom 8) .nilL)))))))))), (1021, (.fn 7900 (.consL (.atom 0) (.consL (.atom 1) (.consL (.atom 2) (.consL (.atom 3) (.consL (.atom 4) (.consL (.atom 5) (.consL (.atom 6) (.consL (.atom 8) .nilL)))))))))), (1020, (.lit 0)), (1019, (.lit 0)), (1018, (.lit 0))] [(1027, (.fnL 7900 (.consL (.atom 0) (.consL (.atom 1) (.consL (.atom 2) (.consL (.atom 3) (.consL (.atom 4) (.consL (.atom 5) (.consL (.atom 6) (.consL (.atom 8) .nilL))))))))))] [(.cmp .leq (.atom 4) (.fn 50 (.consL (.len (.fnL 7901 (.tabL 0 (.atom 8) 3))) (.consL (.lit 3) .nilL)))), (.not (.cmp .gtr (.nat (.atom 10)) (.lit 70))), (.cmp .leq (.len (.fnL 7901 (.tabL 0 (.atom 8) 3))) (.lit 1000000)), (.and (.cmp .neq (.fn 1 cfgL) (.lit 0)) (.cmp .leq (.atom 8) (.atom 2)))])]
theorem eS [Env] : oweStartR (tabsOf pks 0) ths [] Try.prog Try.f13 (rootOf Try.f13) baseW (extraG Try.prog) cuts (rngFacts pks 0) (symArgs pks 0 0) (symHeap pks 0 0) = obS := by kernel_rfl
def ob0_0 : List Ob := [(.need (.cmp .leq (.lit 0) (.atom 1019)) [(.and (.cmp .eql (.nat (.atom 9)) (.nat (.atom 9))) (.cmp .lss (.nat (.atom 1018)) (.nat (.atom 10)))), (.cmp .lss (.atom 1018) (.nat (.atom 10))), (.cmp .geq (.atom 1018) (.lit 0)), (.cmp .lss (.atom 1018) (.nat (.atom 10)))]), (.at_ 0 [(1026, (.cmpI .neq (.fn 12 (.consL (.fn 3 (.consL (.atom 0) (.consL (.atom 1) (.consL (.atom 2) (.consL (.atom 3) (.consL (.atom 4) (.consL (.atom 5) (.consL (.atom 6) (.consL (.lit 0) (.consL (.atom 1019) .nilL)))))))))) (.latom 1027))) (.lit 0))), (1025, (.fn 14 (.consL (.tab 1 (.atom 1018) 0) (.consL (.fn 3 (.consL (.atom 0) (.consL (.atom 1) (.consL (.atom 2) (.consL (.atom 3) (.consL (.atom 4) (.consL (.atom 5) (.consL (.atom 6) (.consL (.lit 0) (.consL (.atom 1019) .nilL)))))))))) (.latom 1027))))), (1024, (.fn 10 (.consL (.fn 3 (.consL (.atom 0) (.consL (.atom 1) (.consL (.atom 2) (.consL (.atom 3) (.consL (.atom 4) (.consL (.atom 5) (.consL (.atom 6) (.consL (.lit 0) (.consL (.atom 1019) .nilL)))))))))) (.latom 1027)))), (1023, (.fn 3 (.consL (.atom 0) (.consL (.atom 1) (.consL (.atom 2) (.consL (.atom 3) (.consL (.atom 4) (.consL (.atom 5) (.consL (.atom 6) (.consL (.lit 0) (.consL (.atom 1019) .nilL))))))))))), (1022, (.lit 2)), (1021, (.op .add .i64 (.atom 1021) (.lit 1))), (1020, (.tab 1 (.atom 1018) 0)), (1019, (.op .add .i64 (.atom 1019) (.lit 1))), (1018, (.op .add .i64 (.atom 1018) (.lit 1)))] [(1027, (.putL (.latom 1027) (.fn 13 (.consL (.fn 3 (.consL (.atom 0) (.consL (.atom 1) (.consL (.atom 2) (.consL (.atom 3) (.consL (.atom 4) (.consL (.atom 5) (.consL (.atom 6) (.consL (.lit 0) (.consL (.atom 1019) .nilL)))))))))) (.latom 1027))) (.consL (.tab 1 (.atom 1018) 0) .nilL)))] [(.cmp .lss (.atom 1019) (.atom 1)), (.cmp .leq (.lit 0) (.atom 1019)), (.and (.cmp .eql (.nat (.atom 9)) (.nat (.atom 9))) (.cmp .lss (.nat (.atom 1018)) (.nat (.atom 10)))), (.cmp .lss (.atom 1018) (.nat (.atom 10))), (.cmp .geq (.atom 1018) (.lit 0)), (.cmp .lss (.atom 1018) (.nat (.atom 10)))]), (.at_ 0 [(1026, (.cmpI .neq (.fn 12 (.consL (.fn 3 (.consL (.atom 0) (.consL (.atom 1) (.consL (.atom 2) (.consL (.atom 3) (.consL (.atom 4) (.consL (.atom 5) (.consL (.atom 6) (.consL (.lit 0) (.consL (.lit 0) .nilL)))))))))) (.latom 1027))) (.lit 0))), (1025, (.fn 14 (.consL (.tab 1 (.atom 1018) 0) (.consL (.fn 3 (.consL (.atom 0) (.consL (.atom 1) (.consL (.atom 2) (.consL (.atom 3) (.consL (.atom 4) (.consL (.atom 5) (.consL (.atom 6) (.consL (.lit 0) (.consL (.lit 0) .nilL)))))))))) (.latom 1027))))), (1024, (.fn 10 (.consL (.fn 3 (.consL (.atom 0) (.consL (.atom 1) (.consL (.atom 2) (.consL (.atom 3) (.consL (.atom 4) (.consL (.atom 5) (.consL (.atom 6) (.consL (.lit 0) (.consL (.lit 0) .nilL)))))))))) (.latom 1027)))), (1023, (.fn 3 (.consL (.atom 0) (.consL (.atom 1) (.consL (.atom 2) (.consL (.atom 3) (.consL (.atom 4) (.consL (.atom 5) (.consL (.atom 6) (.consL (.lit 0) (.consL (.lit 0) .nilL))))))))))), (1022, (.lit 2)), (1021, (.op .add .i64 (.atom 1021) (.lit 1))), (1020, (.tab 1 (.atom 1018) 0)), (1019, (.lit 1)), (1018, (.op .add .i64 (.atom 1018) (.lit 1)))] [(1027, (.putL (.latom 1027) (.fn 13 (.consL (.fn 3 (.consL (.atom 0) (.consL (.atom 1) (.consL (.atom 2) (.consL (.atom 3) (.consL (.atom 4) (.consL (.atom 5) (.consL (.atom 6) (.consL (.lit 0) (.consL (.lit 0) .nilL)))))))))) (.latom 1027))) (.consL (.tab 1 (.atom 1018) 0) .nilL)))] [(.cmp .leq (.atom 1) (.atom 1019)), (.cmp .leq (.lit 0) (.atom 1019)), (.and (.cmp .eql (.nat (.atom 9)) (.nat (.atom 9))) (.cmp .lss (.nat (.atom 1018)) (.nat (.atom 10)))), (.cmp .lss (.atom 1018) (.nat (.atom 10))), (.cmp .geq (.atom 1018) (.lit 0)), (.cmp .lss (.atom 1018) (.nat (.atom 10)))]), (.need (.cmp .leq (.len (.fnL 7901 (.tabL 0 (.atom 8) 3))) (.lit 10000)) [(.cmp .leq (.nat (.atom 10)) (.atom 1018))]), (.need (.cmp .neq (.fn 7999 (.fnL 7901 (.tabL 0 (.atom 8) 3))) (.lit 0)) [(.cmp .leq (.len (.fnL 7901 (.tabL 0 (.atom 8) 3))) (.lit 10000)), (.cmp .leq (.nat (.atom 10)) (.atom 1018))]), (.need (.cmp .neq (.fn 7999 (.latom 1027)) (.lit 0)) [(.cmp .neq (.fn 7999 (.fnL 7901 (.tabL 0 (.atom 8) 3))) (.lit 0)), (.cmp .leq (.len (.fnL 7901 (.tabL 0 (.atom 8) 3))) (.lit 10000)), (.cmp .leq (.nat (.atom 10)) (.atom 1018))]), (.at_ 1 [(1207, (.cmpI .neq (.fn 4206 A0) (.lit 0))), (1206, (.fn 4205 A0)), (1205, (.fn 4204 A0)), (1204, (.fn 4203 A0)), (1203, (.fn 4202 A0)), (1202, (.fn 4201 A0)), (1201, (.fn 4200 A0)), (1026, (.atom 1026)), (1025, (.atom 1025)), (1024, (.atom 1024)), (1023, (.atom 1023)), (1022, (.atom 1022)), (1021, (.atom 1021)), (1020, (.atom 1020)), (1019, (.atom 1019)), (1200, (.lit 0))] [(1027, (.latom 1027))] [(.cmp .neq (.fn 7999 (.latom 1027)) (.lit 0)), (.cmp .neq (.fn 7999 (.fnL 7901 (.tabL 0 (.atom 8) 3))) (.lit 0)), (.cmp .leq (.len (.fnL 7901 (.tabL 0 (.atom 8) 3))) (.lit 10000)), (.cmp .leq (.nat (.atom 10)) (.atom 1018))])]
theorem e0_0 [Env] : oweAtR (tabsOf pks 0) ths [] Try.prog Try.f13 (rootOf Try.f13) baseW (extraG Try.prog) cuts cut0 [] rw0 = ob0_0 := by kernel_rfl
def ob1_0 : List Ob := [(.need (.lit false) [(.cmp .neq (.fn 10 (.consL (.fn 3 (.consL (.atom 0) (.consL (.atom 1) (.consL (.atom 2) (.consL (.atom 3) (.consL (.atom 4) (.consL (.atom 5) (.consL (.atom 6) (.consL (.lit 0) (.consL (.atom 1200) .nilL)))))))))) (.putL (.latom 1027) (.lit 0) (.fnL 4201 A0)))) (.lit 0)), (.cmp .lss (.atom 1200) (.atom 1))]), (.at_ 1 [(1207, (.cmpI .neq (.fn 12 (.consL (.fn 3 (.consL (.atom 0) (.consL (.atom 1) (.consL (.atom 2) (.consL (.atom 3) (.consL (.atom 4) (.consL (.atom 5) (.consL (.atom 6) (.consL (.lit 0) (.consL (.atom 1200) .nilL)))))))))) (.putL (.latom 1027) (.lit 0) (.fnL 4201 A0)))) (.lit 0))), (1206, (.fn 10 (.consL (.fn 3 (.consL (.atom 0) (.consL (.atom 1) (.consL (.atom 2) (.consL (.atom 3) (.consL (.atom 4) (.consL (.atom 5) (.consL (.atom 6) (.consL (.lit 0) (.consL (.atom 1200) .nilL)))))))))) (.putL (.latom 1027) (.lit 0) (.fnL 4201 A0))))), (1205, (.fn 10 (.consL (.fn 3 (.consL (.atom 0) (.consL (.atom 1) (.consL (.atom 2) (.consL (.atom 3) (.consL (.atom 4) (.consL (.atom 5) (.consL (.atom 6) (.consL (.lit 0) (.consL (.atom 1200) .nilL)))))))))) (.putL (.latom 1027) (.lit 0) (.fnL 4201 A0))))), (1204, (.lit 0)), (1203, (.fn 3 (.consL (.atom 0) (.consL (.atom 1) (.consL (.atom 2) (.consL (.atom 3) (.consL (.atom 4) (.consL (.atom 5) (.consL (.atom 6) (.consL (.lit 0) (.consL (.atom 1200) .nilL))))))))))), (1202, (.lit 1)), (1201, (.op .add .i64 (.atom 1201) (.lit 1))), (1026, (.atom 1026)), (1025, (.atom 1025)), (1024, (.atom 1024)), (1023, (.atom 1023)), (1022, (.atom 1022)), (1021, (.atom 1021)), (1020, (.atom 1020)), (1019, (.atom 1019)), (1200, (.op .add .i64 (.atom 1200) (.lit 1)))] [(1027, (.latom 1027))] [(.cmp .eql (.fn 10 (.consL (.fn 3 (.consL (.atom 0) (.consL (.atom 1) (.consL (.atom 2) (.consL (.atom 3) (.consL (.atom 4) (.consL (.atom 5) (.consL (.atom 6) (.consL (.lit 0) (.consL (.atom 1200) .nilL)))))))))) (.putL (.latom 1027) (.lit 0) (.fnL 4201 A0)))) (.lit 0)), (.cmp .lss (.atom 1200) (.atom 1))]), (.need (.cmp .leq (.len (.fnL 4200 A0)) (.lit 1000000)) [(.cmp .eql (.get (.fnL 4200 A0) (.lit 0) 0) (.lit 3)), (.cmp .leq (.atom 1) (.atom 1200))]), (.need (.cmp .eql (.fn 4208 A0) (.lit 0)) [(.cmp .eql (.fn 50 (.consL (.len (.fnL 7200 (.fnL 4200 A0))) (.consL (.lit 3) .nilL))) (.lit 0)), (.cmp .leq (.len (.fnL 4200 A0)) (.lit 1000000)), (.cmp .eql (.get (.fnL 4200 A0) (.lit 0) 0) (.lit 3)), (.cmp .leq (.atom 1) (.atom 1200))]), (.need (.lit false) [(.cmp .neq (.fn 50 (.consL (.len (.fnL 7200 (.fnL 4200 A0))) (.consL (.lit 3) .nilL))) (.lit 0)), (.cmp .leq (.len (.fnL 4200 A0)) (.lit 1000000)), (.cmp .eql (.get (.fnL 4200 A0) (.lit 0) 0) (.lit 3)), (.cmp .leq (.atom 1) (.atom 1200))]), (.need (.lit false) [(.cmp .neq (.get (.fnL 4200 A0) (.lit 0) 0) (.lit 3)), (.cmp .leq (.atom 1) (.atom 1200))])]
theorem e1_0 [Env] : oweAtR (tabsOf pks 0) ths [] Try.prog Try.f13 (rootOf Try.f13) baseW (extraG Try.prog) cuts cut1 [] rw1 = ob1_0 := by kernel_rfl
theorem f0_0 (E : Env) (h : ∀ b ∈ cut0.fs, @BE.val E b = true) : @BE.val E (.cmp .leq (.lit 0) (.atom 1018)) = true := h _ (List.mem_of_getElem? (i := 0) rfl)
theorem f0_1 (E : Env) (h : ∀ b ∈ cut0.fs, @BE.val E b = true) : @BE.val E ((.cmp .eql (.len (.latom 1027)) (.nat (.fn 2 cfgL)))) = true := h _ (List.mem_of_getElem? (i := 1) rfl)
theorem f0_2 (E : Env) (h : ∀ b ∈ cut0.fs, @BE.val E b = true) : @BE.val E ((.cmp .leq (.atom 4) (.fn 50 (.consL (.len (.fnL 7901 (.tabL 0 (.atom 8) 3))) (.consL (.lit 3) .nilL))))) = true := h _ (List.mem_of_getElem? (i := 2) rfl)
theorem f0_3 (E : Env) (h : ∀ b ∈ cut0.fs, @BE.val E b = true) : @BE.val E ((.cmp .eql (.nat (.atom 10)) (.atom 10))) = true := h _ (List.mem_of_getElem? (i := 3) rfl)
theorem f0_4 (E : Env) (h : ∀ b ∈ cut0.fs, @BE.val E b = true) : @BE.val E ((.cmp .leq (.nat (.atom 10)) (.lit 70))) = true := h _ (List.mem_of_getElem? (i := 4) rfl)
theorem f0_5 (E : Env) (h : ∀ b ∈ cut0.fs, @BE.val E b = true) : @BE.val E ((.cmp .leq (.lit 1) (.atom 0))) = true := h _ (List.mem_of_getElem? (i := 5) rfl)
theorem f0_6 (E : Env) (h : ∀ b ∈ cut0.fs, @BE.val E b = true) : @BE.val E ((.cmp .leq (.atom 0) (.lit 8))) = true := h _ (List.mem_of_getElem? (i := 6) rfl)
theorem f0_7 (E : Env) (h : ∀ b ∈ cut0.fs, @BE.val E b = true) : @BE.val E ((.cmp .leq (.lit 1) (.atom 1))) = true := h _ (List.mem_of_getElem? (i := 7) rfl)
theorem f0_8 (E : Env) (h : ∀ b ∈ cut0.fs, @BE.val E b = true) : @BE.val E ((.cmp .leq (.atom 1) (.lit 8))) = true := h _ (List.mem_of_getElem? (i := 8) rfl)
theorem f0_9 (E : Env) (h : ∀ b ∈ cut0.fs, @BE.val E b = true) : @BE.val E ((.cmp .leq (.lit 1) (.atom 2))) = true := h _ (List.mem_of_getElem? (i := 9) rfl)
theorem f0_10 (E : Env) (h : ∀ b ∈ cut0.fs, @BE.val E b = true) : @BE.val E ((.cmp .leq (.atom 2) (.lit 64))) = true := h _ (List.mem_of_getElem? (i := 10) rfl)
theorem f0_11 (E : Env) (h : ∀ b ∈ cut0.fs, @BE.val E b = true) : @BE.val E ((.cmp .leq (.lit 1) (.atom 3))) = true := h _ (List.mem_of_getElem? (i := 11) rfl)
theorem f0_12 (E : Env) (h : ∀ b ∈ cut0.fs, @BE.val E b = true) : @BE.val E ((.cmp .leq (.atom 3) (.lit 6))) = true := h _ (List.mem_of_getElem? (i := 12) rfl)
theorem f0_13 (E : Env) (h : ∀ b ∈ cut0.fs, @BE.val E b = true) : @BE.val E ((.cmp .leq (.lit 1) (.atom 4))) = true := h _ (List.mem_of_getElem? (i := 13) rfl)
theorem f0_14 (E : Env) (h : ∀ b ∈ cut0.fs, @BE.val E b = true) : @BE.val E ((.cmp .leq (.atom 4) (.lit 64))) = true := h _ (List.mem_of_getElem? (i := 14) rfl)
theorem f0_15 (E : Env) (h : ∀ b ∈ cut0.fs, @BE.val E b = true) : @BE.val E ((.cmp .leq (.lit 1) (.atom 5))) = true := h _ (List.mem_of_getElem? (i := 15) rfl)
theorem f0_16 (E : Env) (h : ∀ b ∈ cut0.fs, @BE.val E b = true) : @BE.val E ((.cmp .leq (.atom 5) (.lit 64))) = true := h _ (List.mem_of_getElem? (i := 16) rfl)
theorem f0_17 (E : Env) (h : ∀ b ∈ cut0.fs, @BE.val E b = true) : @BE.val E ((.cmp .leq (.lit 0) (.atom 6))) = true := h _ (List.mem_of_getElem? (i := 17) rfl)
theorem f0_18 (E : Env) (h : ∀ b ∈ cut0.fs, @BE.val E b = true) : @BE.val E ((.cmp .leq (.atom 6) (.lit 1073741823))) = true := h _ (List.mem_of_getElem? (i := 18) rfl)
theorem f0_19 (E : Env) (h : ∀ b ∈ cut0.fs, @BE.val E b = true) : @BE.val E ((.cmp .neq (.fn 1 cfgL) (.lit 0))) = true := h _ (List.mem_of_getElem? (i := 19) rfl)
theorem f0_20 (E : Env) (h : ∀ b ∈ cut0.fs, @BE.val E b = true) : @BE.val E ((.cmp .leq (.atom 8) (.atom 2))) = true := h _ (List.mem_of_getElem? (i := 20) rfl)
theorem f0_21 (E : Env) (h : ∀ b ∈ cut0.fs, @BE.val E b = true) : @BE.val E ((.cmp .leq (.lit 0) (.atom 7))) = true := h _ (List.mem_of_getElem? (i := 21) rfl)
theorem f0_22 (E : Env) (h : ∀ b ∈ cut0.fs, @BE.val E b = true) : @BE.val E ((.cmp .leq (.lit 0) (.atom 8))) = true := h _ (List.mem_of_getElem? (i := 22) rfl)
theorem f0_23 (E : Env) (h : ∀ b ∈ cut0.fs, @BE.val E b = true) : @BE.val E ((.cmp .leq (.lit 0) (.atom 9))) = true := h _ (List.mem_of_getElem? (i := 23) rfl)
theorem f0_24 (E : Env) (h : ∀ b ∈ cut0.fs, @BE.val E b = true) : @BE.val E ((.cmp .leq (.lit 0) (.atom 10))) = true := h _ (List.mem_of_getElem? (i := 24) rfl)
theorem f1_0 (E : Env) (h : ∀ b ∈ cut1.fs, @BE.val E b = true) : @BE.val E (.cmp .leq (.lit 0) (.atom 1200)) = true := h _ (List.mem_of_getElem? (i := 0) rfl)
theorem f1_1 (E : Env) (h : ∀ b ∈ cut1.fs, @BE.val E b = true) : @BE.val E ((.cmp .leq (.nat (.atom 10)) (.atom 1018))) = true := h _ (List.mem_of_getElem? (i := 1) rfl)
theorem f1_2 (E : Env) (h : ∀ b ∈ cut1.fs, @BE.val E b = true) : @BE.val E ((.cmp .leq (.atom 4) (.fn 50 (.consL (.len (.fnL 7901 (.tabL 0 (.atom 8) 3))) (.consL (.lit 3) .nilL))))) = true := h _ (List.mem_of_getElem? (i := 2) rfl)
theorem f1_3 (E : Env) (h : ∀ b ∈ cut1.fs, @BE.val E b = true) : @BE.val E ((.cmp .eql (.nat (.atom 10)) (.atom 10))) = true := h _ (List.mem_of_getElem? (i := 3) rfl)
theorem f1_4 (E : Env) (h : ∀ b ∈ cut1.fs, @BE.val E b = true) : @BE.val E ((.cmp .leq (.nat (.atom 10)) (.lit 70))) = true := h _ (List.mem_of_getElem? (i := 4) rfl)
theorem f1_5 (E : Env) (h : ∀ b ∈ cut1.fs, @BE.val E b = true) : @BE.val E ((.cmp .leq (.lit 1) (.atom 0))) = true := h _ (List.mem_of_getElem? (i := 5) rfl)
theorem f1_6 (E : Env) (h : ∀ b ∈ cut1.fs, @BE.val E b = true) : @BE.val E ((.cmp .leq (.atom 0) (.lit 8))) = true := h _ (List.mem_of_getElem? (i := 6) rfl)
theorem f1_7 (E : Env) (h : ∀ b ∈ cut1.fs, @BE.val E b = true) : @BE.val E ((.cmp .leq (.lit 1) (.atom 1))) = true := h _ (List.mem_of_getElem? (i := 7) rfl)
theorem f1_8 (E : Env) (h : ∀ b ∈ cut1.fs, @BE.val E b = true) : @BE.val E ((.cmp .leq (.atom 1) (.lit 8))) = true := h _ (List.mem_of_getElem? (i := 8) rfl)
theorem f1_9 (E : Env) (h : ∀ b ∈ cut1.fs, @BE.val E b = true) : @BE.val E ((.cmp .leq (.lit 1) (.atom 2))) = true := h _ (List.mem_of_getElem? (i := 9) rfl)
theorem f1_10 (E : Env) (h : ∀ b ∈ cut1.fs, @BE.val E b = true) : @BE.val E ((.cmp .leq (.atom 2) (.lit 64))) = true := h _ (List.mem_of_getElem? (i := 10) rfl)
theorem f1_11 (E : Env) (h : ∀ b ∈ cut1.fs, @BE.val E b = true) : @BE.val E ((.cmp .leq (.lit 1) (.atom 3))) = true := h _ (List.mem_of_getElem? (i := 11) rfl)
theorem f1_12 (E : Env) (h : ∀ b ∈ cut1.fs, @BE.val E b = true) : @BE.val E ((.cmp .leq (.atom 3) (.lit 6))) = true := h _ (List.mem_of_getElem? (i := 12) rfl)
theorem f1_13 (E : Env) (h : ∀ b ∈ cut1.fs, @BE.val E b = true) : @BE.val E ((.cmp .leq (.lit 1) (.atom 4))) = true := h _ (List.mem_of_getElem? (i := 13) rfl)
theorem f1_14 (E : Env) (h : ∀ b ∈ cut1.fs, @BE.val E b = true) : @BE.val E ((.cmp .leq (.atom 4) (.lit 64))) = true := h _ (List.mem_of_getElem? (i := 14) rfl)
theorem f1_15 (E : Env) (h : ∀ b ∈ cut1.fs, @BE.val E b = true) : @BE.val E ((.cmp .leq (.lit 1) (.atom 5))) = true := h _ (List.mem_of_getElem? (i := 15) rfl)
theorem f1_16 (E : Env) (h : ∀ b ∈ cut1.fs, @BE.val E b = true) : @BE.val E ((.cmp .leq (.atom 5) (.lit 64))) = true := h _ (List.mem_of_getElem? (i := 16) rfl)
theorem f1_17 (E : Env) (h : ∀ b ∈ cut1.fs, @BE.val E b = true) : @BE.val E ((.cmp .leq (.lit 0) (.atom 6))) = true := h _ (List.mem_of_getElem? (i := 17) rfl)
theorem f1_18 (E : Env) (h : ∀ b ∈ cut1.fs, @BE.val E b = true) : @BE.val E ((.cmp .leq (.atom 6) (.lit 1073741823))) = true := h _ (List.mem_of_getElem? (i := 18) rfl)
theorem f1_19 (E : Env) (h : ∀ b ∈ cut1.fs, @BE.val E b = true) : @BE.val E ((.cmp .neq (.fn 1 cfgL) (.lit 0))) = true := h _ (List.mem_of_getElem? (i := 19) rfl)
theorem f1_20 (E : Env) (h : ∀ b ∈ cut1.fs, @BE.val E b = true) : @BE.val E ((.cmp .leq (.atom 8) (.atom 2))) = true := h _ (List.mem_of_getElem? (i := 20) rfl)
theorem f1_21 (E : Env) (h : ∀ b ∈ cut1.fs, @BE.val E b = true) : @BE.val E ((.cmp .leq (.lit 0) (.atom 7))) = true := h _ (List.mem_of_getElem? (i := 21) rfl)
theorem f1_22 (E : Env) (h : ∀ b ∈ cut1.fs, @BE.val E b = true) : @BE.val E ((.cmp .leq (.lit 0) (.atom 8))) = true := h _ (List.mem_of_getElem? (i := 22) rfl)
theorem f1_23 (E : Env) (h : ∀ b ∈ cut1.fs, @BE.val E b = true) : @BE.val E ((.cmp .leq (.lit 0) (.atom 9))) = true := h _ (List.mem_of_getElem? (i := 23) rfl)
theorem f1_24 (E : Env) (h : ∀ b ∈ cut1.fs, @BE.val E b = true) : @BE.val E ((.cmp .leq (.lit 0) (.atom 10))) = true := h _ (List.mem_of_getElem? (i := 24) rfl)
open St
def P (E : Env) : Prop := 0 ≤ E.i 1019 ∧ wordsP (E.l 1027) ∧ ((E.l 1027).length : Int) = lenF (E.i 0) (E.i 1) (E.i 2) (E.i 3) (E.i 4) (E.i 5) (E.i 6) ∧ (∀ a b, 0 ≤ a ∧ a < E.i 0 → 0 ≤ b ∧ b < E.i 1 → a ≠ 0 → hadF (reservedF (E.i 0) (E.i 1) (E.i 2) (E.i 3) (E.i 4) (E.i 5) (E.i 6) a b) (E.l 1027) = 0)
def Phi : Nat → Env → Prop
  | 0, E => P E
  | 1, E => P E
  | _, _ => True

def YY : IE := .consL (.atom 0) (.consL (.atom 1) (.consL (.atom 2) (.consL (.atom 3) (.consL (.atom 4) (.consL (.atom 5) (.consL (.atom 6) (.consL (.atom 1019) (.consL (.atom 1020) (.consL (.lit 0) (.consL (.atom 1021) (.consL (.atom 1022) (.consL (.atom 1023) (.consL (.lit 0) (.consL (.atom 1024) (.consL (.atom 1025) (.consL (.cmpI .neq (.atom 1026) (.lit 0)) (.consL (.len FF) (.catL FF (.latom 1027)))))))))))))))))))
def XX : IE := .consL (.lit 300) YY
theorem YY_val (E : Env) : ∃ B : Bnk, decW (@IE.lst E YY) = ⟨Cl E, ⟨E.i 1019, E.i 1020, 0⟩, B, (⟨0, 0, @IE.lst E LL, [], []⟩ : Swp).enc⟩ ∧ B.row = E.l 1027 := by
  have h := decY E (.atom 0) (.atom 1) (.atom 2) (.atom 3) (.atom 4) (.atom 5) (.atom 6) (.atom 1019) (.atom 1020) (.lit 0) (.atom 1021) (.atom 1022) (.atom 1023) (.lit 0) (.atom 1024) (.atom 1025) (.cmpI .neq (.atom 1026) (.lit 0)) FF (.latom 1027)
  rw [← FF_eq]
  exact ⟨_, h, rfl⟩
def Q (C : Cfg) (R : List Int) : Prop := wordsP R ∧ (R.length : Int) = lenF C.t C.s C.c C.h C.k C.e C.l ∧ (∀ a b, 0 ≤ a ∧ a < C.t → 0 ≤ b ∧ b < C.s → a ≠ 0 → hadF (C.res a b) R = 0)
theorem res_ne {C : Cfg} (hr : C.right) {a b th j : Int} (ha : 0 ≤ a ∧ a < C.t) (hb : 0 ≤ b ∧ b < C.s) (hne : a ≠ th) : C.res a b ≠ C.res th j := fun e => by
  by_cases hc : (0 ≤ th ∧ th < C.t) ∧ (0 ≤ j ∧ j < C.s)
  · exact hne (reserved_inj hr ha hb hc.1 hc.2 e).1
  · have h4 : C.res th j = -1 := if_neg (fun hh => hc ⟨⟨hh.2.1, hh.2.2.1⟩, hh.2.2.2⟩)
    have h5 := (reserved_rng hr ha.1 ha.2 hb.1 hb.2).1
    rw [h4] at e
    unfold Cfg.res at e
    omega
theorem Q_pub {C : Cfg} {R : List Int} (hr : C.right) (h : Q C R) {x : Int} (j : Int) (hx : 0 ≤ x ∧ x < 18446744073709551616) : Q C (setF (C.res 0 j) x R) := by
  refine ⟨wordsP_set h.1 hx _, by rw [setF_length]; exact h.2.1, fun a b ha hb hne => ?_⟩
  rw [hadF_setF, if_neg (fun hc => res_ne hr ha hb hne hc.2)]
  exact h.2.2 a b ha hb hne
theorem res (E : Env) (h : Fac E) (hk : E.i 4 ≤ E.i 8) (hp : P E) : ∃ f : Swp, @IE.lst E (.fnL 4200 XX) = f.enc ∧ f.tag = 3 ∧ f.enc.length ≤ 1000 ∧ f.l = [] ∧ @IE.val E (.fn 4208 XX) = 0 ∧ (@IE.lst E (.fnL 4201 XX)).length = (E.l 1027).length ∧ ∀ k, 0 ≤ k ∧ k < E.i 1 → hadF ((Cl E).res 0 k) (@IE.lst E (.fnL 4201 XX)) = 0 := by
  obtain ⟨B, hw, hB⟩ := YY_val E
  have hl := h.len
  have hn := h.nums
  have hle := h.le
  have hle64 := h.le64
  have hr := h.right
  have o : @IE.lst E (.fnL 4200 XX) = _ := outL_of (q := .lit 300) hw 0 (by decide)
  have o1 : @IE.lst E (.fnL 4201 XX) = _ := outL_of (q := .lit 300) hw 1 (by decide)
  have o8 : @IE.val E (.fn 4208 XX) = _ := out_of (q := .lit 300) hw 8 (by decide)
  have hm : 300 ≤ (@IE.val E (.lit 300)).toNat := by show 300 ≤ (300 : Int).toNat; decide
  obtain ⟨B', hrun, hrow⟩ := swp_many hr (G := ⟨E.i 1019, E.i 1020, 0⟩) (B := B) (l := @IE.lst E LL) (show E.i 4 ≤ ((@IE.lst E LL).length : Int) / 3 by omega) (by omega) hm
  rw [hrun] at o o1 o8
  have hp2 : (B.row.length : Int) = lenF (Cl E).t (Cl E).s (Cl E).c (Cl E).h (Cl E).k (Cl E).e (Cl E).l := by rw [hB]; exact hp.2.2.1
  have hz := saw_zero hr (th := 0) (r := B.row) ⟨by decide, hn.1⟩ hp2 (fun a b ha hb hne => by rw [hB]; exact hp.2.2.2 a b ha hb hne)
  have hsl : (((Cl E).saw 0 B.row).length : Int) = E.i 0 * E.i 1 := saw_len (Cl E) hr 0 B.row
  have e1 : (Cl E).kept 0 B.row (@IE.lst E LL) = [] := split_zero hz _
  have hr1 : @IE.lst E (.fnL 4201 XX) = (Cl E).freed ((Cl E).gone 0 B.row (@IE.lst E LL)) ((Cl E).clr 0 (Cl E).s.toNat B.row) := o1.trans hrow
  refine ⟨_, o, rfl, ?_, e1, o8, ?_, fun k hk => ?_⟩
  · show (Swp.enc ⟨3, 0, (Cl E).kept 0 B.row (@IE.lst E LL), (Cl E).saw 0 B.row, []⟩).length ≤ 1000
    rw [e1]
    simp only [Swp.enc, List.length_cons, List.length_append, List.length_nil]
    omega
  · rw [hr1, free_len, clr_len, hB]
  · rw [hr1, free_res hr ⟨by decide, hn.1⟩ hk, clr_res hr (th := 0) ⟨by decide, hn.1⟩ ⟨by decide, hn.1⟩ hk hp2, if_pos rfl]
theorem cnt3 (E : Env) (h : Fac E) : @IE.val E (.fn 50 (.consL (.len LL) (.consL (.lit 3) .nilL))) = E.i 8 := by
  have := h.len
  show ((@IE.lst E LL).length : Int) / 3 = _
  omega
theorem tab3 {E : Env} (h : TabR (tabsOf pks 0) E) : TabR [(0, 0, 0, 18446744073709551615), (0, 1, 0, 18446744073709551615), (0, 2, 0, 18446744073709551615)] E := fun p hp => h p (List.mem_append_left [(1, 0, 0, 18446744073709551615)] hp)
theorem fac (E : Env) (h1 : symRng E pks 0 0) {e : BE} (h : @BE.val E e = true) (he : e = .and (.cmp .neq (.fn 1 (.consL (.atom 0) (.consL (.atom 1) (.consL (.atom 2) (.consL (.atom 3) (.consL (.atom 4) (.consL (.atom 5) (.consL (.atom 6) .nilL)))))))) (.lit 0)) (.cmp .leq (.atom 8) (.atom 2))) : Fac E :=
  Fac.of he h (of_decide_eq_true (rngFacts_ok E h1 (.cmp .leq (.lit 0) (.atom 8)) (List.mem_of_getElem? (i := 15) rfl))) (tab3 (tabsOf_ok E h1))
theorem runS (E : Env) (h1 : symRng E pks 0 0) : ObsOk E Phi obS := ⟨
  (fun hc => decide_eq_true (show ((0 : Nat) : Int) ≤ 1000000 by omega)),
  (fun hc => decide_eq_true (by have h := fac E h1 hc.1 rfl; have := h.len; have := h.le; have := h.le64; show ((@IE.lst E LL).length : Int) ≤ 1000000; omega)),
  (fun hc => by
    refine decide_eq_true (show ((@IE.lst E (.fnL 7900 cN)).length : Int) = (((lenF (Cl E).t (Cl E).s (Cl E).c (Cl E).h (Cl E).k (Cl E).e (Cl E).l).toNat : Nat) : Int) from ?_)
    rw [row_eq, SlS.slotsF_len]),
  (fun hc => by
    have h := fac E h1 hc.2.2.2.1 rfl
    have hr := h.right
    refine (show (0 : Int) ≤ 0 ∧ Q (Cl E) (@IE.lst E (.fnL 7900 cN)) from ⟨Int.le_refl 0, h.wordsR, ?_, fun a b ha hb _ => ?_⟩)
    · rw [row_eq]; exact slots_len _ hr _
    · rw [row_eq]; exact slots_res hr ha hb _),
  trivial⟩
theorem run0_0 (E : Env) (hfs : ∀ b ∈ cut0.fs, @BE.val E b = true) (hphi : Phi 0 E) (htab : TabR (tabsOf pks 0) E) : ObsOk E Phi ob0_0 := by
  have q19 := hfs _ (List.mem_of_getElem? (i := 19) rfl)
  have q20 : E.i 8 ≤ E.i 2 := of_decide_eq_true (hfs (.cmp .leq (.atom 8) (.atom 2)) (List.mem_of_getElem? (i := 20) rfl))
  have q22 : 0 ≤ E.i 8 := of_decide_eq_true (hfs (.cmp .leq (.lit 0) (.atom 8)) (List.mem_of_getElem? (i := 22) rfl))
  have h : Fac E := Fac.of rfl (show (@BE.val E (.cmp .neq (.fn 1 cfgL) (.lit 0)) && decide (E.i 8 ≤ E.i 2)) = true by rw [q19, decide_eq_true q20]; rfl) q22 (tab3 htab)
  have hr := h.right
  have hn := h.nums
  have hl := h.len
  have hle := h.le
  have hle64 := h.le64
  have hp : P E := hphi
  have hq : Q (Cl E) (E.l 1027) := hp.2
  have ht := htab (1, 0, 0, 18446744073709551615) (List.mem_append_right [(0, 0, 0, 18446744073709551615), (0, 1, 0, 18446744073709551615), (0, 2, 0, 18446744073709551615)] (List.mem_cons_self ..)) (E.i 1018).toNat
  have hx : 0 ≤ E.t 1 (E.i 1018).toNat 0 ∧ E.t 1 (E.i 1018).toNat 0 < 18446744073709551616 := ⟨ht.1, by have := ht.2; simp only at this; omega⟩
  have pub : ∀ j : Int, Q (Cl E) (writeL (E.l 1027) (funs 13 ((Cl E).res 0 j :: E.l 1027)).toNat [E.t 1 (E.i 1018).toNat 0]) := fun j => by
    rw [show writeL (E.l 1027) (funs 13 ((Cl E).res 0 j :: E.l 1027)).toNat [E.t 1 (E.i 1018).toNat 0] = setF ((Cl E).res 0 j) (E.t 1 (E.i 1018).toNat 0) (E.l 1027) from putsetF _ _ _]
    exact Q_pub hr hq j hx
  exact ⟨
    (fun hc => decide_eq_true hp.1),
    (fun hc => by
      have hlt : E.i 1019 < E.i 1 := of_decide_eq_true hc.1
      have h0 := hp.1
      exact (show 0 ≤ IntKind.i64.wrap (E.i 1019 + 1) ∧ Q (Cl E) (writeL (E.l 1027) (funs 13 ((Cl E).res 0 (E.i 1019) :: E.l 1027)).toNat [E.t 1 (E.i 1018).toNat 0]) from ⟨by rw [i64_small (by omega) (by omega)]; omega, pub _⟩)),
    (fun hc => (show (0 : Int) ≤ 1 ∧ Q (Cl E) (writeL (E.l 1027) (funs 13 ((Cl E).res 0 0 :: E.l 1027)).toNat [E.t 1 (E.i 1018).toNat 0]) from ⟨by decide, pub 0⟩)),
    (fun hc => decide_eq_true (show ((@IE.lst E LL).length : Int) ≤ 10000 by omega)),
    (fun hc => (ofP_ne _).trans (decide_eq_true h.wordsL)),
    (fun hc => (ofP_ne _).trans (decide_eq_true hq.1)),
    (fun hc => hp), trivial⟩
theorem run1_0 (E : Env) (hfs : ∀ b ∈ cut1.fs, @BE.val E b = true) (hphi : Phi 1 E) (htab : TabR (tabsOf pks 0) E) : ObsOk E Phi ob1_0 := by
  have q0 : 0 ≤ E.i 1200 := of_decide_eq_true (hfs (.cmp .leq (.lit 0) (.atom 1200)) (List.mem_of_getElem? (i := 0) rfl))
  have q2 : E.i 4 ≤ @IE.val E (.fn 50 (.consL (.len LL) (.consL (.lit 3) .nilL))) := of_decide_eq_true (hfs (.cmp .leq (.atom 4) (.fn 50 (.consL (.len LL) (.consL (.lit 3) .nilL)))) (List.mem_of_getElem? (i := 2) rfl))
  have q19 := hfs _ (List.mem_of_getElem? (i := 19) rfl)
  have q20 : E.i 8 ≤ E.i 2 := of_decide_eq_true (hfs (.cmp .leq (.atom 8) (.atom 2)) (List.mem_of_getElem? (i := 20) rfl))
  have q22 : 0 ≤ E.i 8 := of_decide_eq_true (hfs (.cmp .leq (.lit 0) (.atom 8)) (List.mem_of_getElem? (i := 22) rfl))
  have h : Fac E := Fac.of rfl (show (@BE.val E (.cmp .neq (.fn 1 cfgL) (.lit 0)) && decide (E.i 8 ≤ E.i 2)) = true by rw [q19, decide_eq_true q20]; rfl) q22 (tab3 htab)
  have hp : P E := hphi
  rw [cnt3 E h] at q2
  obtain ⟨f, hf, ht, hl, hnil, h8, hlen, hz⟩ := res E h q2 hp
  have hK : @IE.lst E (.fnL 7200 (.fnL 4200 XX)) = [] := (kept_of hf).trans hnil
  have hput : writeL (E.l 1027) (0 : Int).toNat (@IE.lst E (.fnL 4201 XX)) = @IE.lst E (.fnL 4201 XX) := writeL_whole _ _ hlen
  exact ⟨
    (fun hc => by
      have hlt : E.i 1200 < E.i 1 := of_decide_eq_true hc.2.1
      have hne : hadF ((Cl E).res 0 (E.i 1200)) (writeL (E.l 1027) (0 : Int).toNat (@IE.lst E (.fnL 4201 XX))) ≠ 0 := bne_iff_ne.1 hc.1
      rw [hput] at hne
      exact absurd (hz _ ⟨q0, hlt⟩) hne),
    (fun hc => hp),
    (fun hc => by
      refine decide_eq_true (show ((@IE.lst E (.fnL 4200 XX)).length : Int) ≤ 1000000 from ?_)
      rw [hf]; omega),
    (fun hc => decide_eq_true h8),
    (fun hc => by
      have hne : ((@IE.lst E (.fnL 7200 (.fnL 4200 XX))).length : Int) / 3 ≠ 0 := bne_iff_ne.1 hc.1
      rw [hK] at hne
      exact absurd rfl hne),
    (fun hc => by
      have hne : (@IE.lst E (.fnL 4200 XX)).getD 0 0 ≠ 3 := bne_iff_ne.1 hc.1
      rw [hf] at hne
      exact absurd ht hne), trivial⟩
theorem part0 (E : Env) (hfs : ∀ b ∈ cut0.fs, @BE.val E b = true) (hphi : Phi 0 E) (htab : TabR (tabsOf pks 0) E) : ∃ (ex : List BE) (rw : List (IE × IE)), (∀ b ∈ ex, @BE.val E b = true) ∧ Owed E Phi (oweAtR (tabsOf pks 0) ths [] Try.prog Try.f13 (rootOf Try.f13) baseW (extraG Try.prog) cuts cut0 ex rw) :=
  ⟨[], rw0, Bk.nn, Owed.eq (@e0_0 E) (run0_0 E hfs hphi htab)⟩
theorem part1 (E : Env) (hfs : ∀ b ∈ cut1.fs, @BE.val E b = true) (hphi : Phi 1 E) (htab : TabR (tabsOf pks 0) E) : ∃ (ex : List BE) (rw : List (IE × IE)), (∀ b ∈ ex, @BE.val E b = true) ∧ Owed E Phi (oweAtR (tabsOf pks 0) ths [] Try.prog Try.f13 (rootOf Try.f13) baseW (extraG Try.prog) cuts cut1 ex rw) :=
  ⟨[], rw1, Bk.nn, Owed.eq (@e1_0 E) (run1_0 E hfs hphi htab)⟩
theorem runsM (E : Env) (i : Nat) (k : Cut) (hi : cuts[i]? = some k) (hfs : ∀ b ∈ k.fs, @BE.val E b = true) (hphi : Phi i E) (htab : TabR (tabsOf pks 0) E) : ∃ (ex : List BE) (rw : List (IE × IE)), (∀ b ∈ ex, @BE.val E b = true) ∧ Owed E Phi (oweAtR (tabsOf pks 0) ths [] Try.prog Try.f13 (rootOf Try.f13) baseW (extraG Try.prog) cuts k ex rw) := by
  match i, hi with
  | 0, hi => obtain rfl : cut0 = k := Option.some.inj (show some cut0 = some k from hi); exact part0 E hfs hphi htab
  | 1, hi => obtain rfl : cut1 = k := Option.some.inj (show some cut1 = some k from hi); exact part1 E hfs hphi htab
  | n + 2, hi => exact absurd hi (by simp [cuts])
theorem startM (E : Env) (h1 : symRng E pks 0 0) : Owed E Phi (oweStartR (tabsOf pks 0) ths [] Try.prog Try.f13 (rootOf Try.f13) baseW (extraG Try.prog) cuts (rngFacts pks 0) (symArgs pks 0 0) (symHeap pks 0 0)) := Owed.eq (@eS E) (runS E h1)
theorem trOk : ∀ i ∈ ([] : List Nat), ∀ E, Phi i E := fun i h => by cases h
theorem bodyOk : Try.f13.body = some (rootOf Try.f13) := by kernel_rfl
theorem law (E : Env) (ρ : Rho) (F : Nat → Nat → Prop) (w : World) (argv : Array Value) (h1 : symRng E pks 0 0) (h2 : @HeapOk E Empty _ ρ F (symHeap pks 0 0) w) (h3 : All2 (@SV.is E ρ) (symArgs pks 0 0) argv.toList) :
    Calls Try.prog 13 argv w fun e w' => e = .returned (.bool true) ∧ ∃ ρ' F', Reach ρ F w ρ' F' w' :=
  floydRM (ts := tabsOf pks 0) mixed_ok (c := @baseW) @baseW_ok (x := extraG Try.prog) (fun {_} => extraG_ok _) Try.func13 bodyOk ths_ok (tr := []) (Φ := Phi) trOk heads runsM E (tabsOf_ok E h1) (rngFacts_ok E h1) (startM E h1) h2 h3
end Go.Proofs.Ytafemlljemhkhaa.Sx.LSweepOwn
