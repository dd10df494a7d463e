/-
  The law GuardClears, run on unknowns, from one loop's head to the next.
-/
import Derived.Test.YtalobhgefmhboaaSxSh
import Derived.Test.YtalobhgefmhboaaSxY6
import Derived.Test.YtalobhgefmhboaaSxCell
namespace Go.Proofs.Ytalobhgefmhboaa.Sx.LGuardClears
open Go Go.Proofs.Ytalobhgefmhboaa.Sx
set_option linter.unusedSectionVars false
set_option linter.unusedVariables false
set_option linter.unusedSimpArgs false
set_option maxRecDepth 1000000

def pks : List PK := [cfgK, .sl [.int .u64], .one (.int .u64)]
def I0 : SS Empty := (SS.mk [.unk, .unk, (.w (.one (.b (.int .u64 (.atom 9))))), (.w (.one (.b (.ptr 131072 (.lit 0))))), .unk, .unk, (.w (.one (.b (.bool (.lit false))))), (.w (.one (.b (.ptr 2251902901288996 (.lit 0))))), .unk, (.w (.one (.b (.ptr 17182228486 (.lit 0))))), .unk, .unk, (.tup []), (.tup []), (.tup []), (.tup []), .unk, .unk, .unk, .unk, .unk, .unk, .unk, .unk, .unk, .unk, .unk, .unk, .unk, .unk, .unk, .unk, .unk, .unk, .unk, .unk, .unk, .unk, .unk, .unk, .unk, .unk, (.w (.one (.b (.isl 1 (.atom 7) (.atom 8))))), (.w (.one (.b (.int .i64 (.nat (.atom 8)))))), (.w (.one (.b (.int .i64 (.atom 1016))))), .unk, .unk, .unk, .unk, .unk, .unk, .unk, .unk, (.tup []), (.tup []), (.tup []), (.tup []), (.tup []), (.tup []), (.tup []), (.tup []), .unk, (.tup []), (.tup []), (.tup []), (.tup []), (.tup []), (.tup []), (.tup []), (.tup []), (.tup []), (.tup []), (.tup []), (.tup []), (.tup []), (.tup []), (.tup []), (.tup []), (.tup []), (.tup []), (.tup []), (.tup []), (.tup []), (.tup []), (.tup []), (.tup []), (.tup []), (.tup []), (.tup []), (.tup []), (.tup []), (.tup []), (.tup []), (.tup []), (.tup []), (.tup []), (.tup []), (.tup []), (.tup []), (.tup []), (.tup []), (.tup []), (.tup [])] [(131072, (.cells 23 [(.b (.int .i64 (.atom 0))), (.b (.int .i64 (.atom 1))), (.b (.int .i64 (.atom 2))), (.b (.int .i64 (.atom 3))), (.b (.int .i64 (.atom 4))), (.b (.int .i64 (.atom 5))), (.b (.int .i64 (.atom 6)))] 0)), (2251902901288996, (.cells 92 [(.b (.int .i64 (.atom 0))), (.b (.int .i64 (.atom 1))), (.b (.int .i64 (.atom 2))), (.b (.int .i64 (.atom 3))), (.b (.int .i64 (.atom 4))), (.b (.int .i64 (.atom 5))), (.b (.int .i64 (.atom 6))), (.b (.ptr 295161417077750759434 (.lit 0)))] 0)), (17182228486, (.cells 39 [(.b (.int .i64 (.atom 1017))), (.b (.int .u64 (.atom 1018))), (.b (.int .i64 (.lit 0)))] 0)), (1, (.tab [(.int .u64)] (.atom 7) (.atom 8) 0)), (295161417077750759434, (.cells 117 [(.b (.sl 295161417077750759430 (.lit 0) (.len (.latom 1024)) (.len (.latom 1024)))), (.b (.int .i64 (.atom 1016))), (.b (.int .i64 (.atom 1019))), (.b (.int .i64 (.atom 1020))), (.b (.int .u64 (.lit 0))), (.b (.int .u64 (.atom 1021))), (.b (.int .u64 (.atom 1022))), (.b (.bool (.atom 1023)))] 0)), (295161417077750759430, (.row .u64 32 (.latom 1024)))] 29)
def F0 : List BE := [(.cmp .leq (.lit 0) (.atom 1017)), .cmp .leq (.lit 0) (.atom 1016), (.cmp .eql (.len (.latom 1024)) (.nat (.fn 2 cfgL))), (.cmp .eql (.nat (.atom 8)) (.atom 8)), (.cmp .leq (.nat (.atom 8)) (.lit 40)), (.cmp .leq (.lit 16) (.fn 2 cfgL)), (.cmp .leq (.fn 2 cfgL) (.lit 845)), (.cmp .eql (.nat (.fn 2 cfgL)) (.fn 2 cfgL)), (.cmp .leq (.lit 1) (.atom 0)), (.cmp .leq (.atom 0) (.lit 8)), (.cmp .leq (.lit 1) (.atom 1)), (.cmp .leq (.atom 1) (.lit 8)), (.cmp .leq (.lit 1) (.atom 2)), (.cmp .leq (.atom 2) (.lit 64)), (.cmp .leq (.lit 1) (.atom 3)), (.cmp .leq (.atom 3) (.lit 6)), (.cmp .leq (.lit 1) (.atom 4)), (.cmp .leq (.atom 4) (.lit 64)), (.cmp .leq (.lit 1) (.atom 5)), (.cmp .leq (.atom 5) (.lit 64)), (.cmp .leq (.lit 0) (.atom 6)), (.cmp .leq (.atom 6) (.lit 1073741823)), (.cmp .neq (.fn 1 cfgL) (.lit 0)), (.cmp .leq (.lit 0) (.atom 7)), (.cmp .leq (.lit 0) (.atom 8)), (.cmp .leq (.lit 0) (.atom 9)), (.cmp .leq (.atom 9) (.lit 18446744073709551615))]
def cut0 : Cut := ⟨[0, 1, 0, 1, 1, 1, 1], I0, F0, [((.lit 3), (.lit 0)), ((.nat (.atom 8)), (.atom 1016))]⟩
def I1 : SS Empty := (SS.mk [.unk, .unk, (.w (.one (.b (.int .u64 (.atom 9))))), (.w (.one (.b (.ptr 131072 (.lit 0))))), .unk, .unk, (.w (.one (.b (.bool (.lit false))))), (.w (.one (.b (.ptr 2251902901288996 (.lit 0))))), .unk, (.w (.one (.b (.ptr 17182228486 (.lit 0))))), .unk, .unk, .unk, (.tup []), (.tup []), (.tup []), .unk, .unk, .unk, .unk, .unk, .unk, .unk, .unk, .unk, .unk, .unk, .unk, .unk, .unk, .unk, .unk, .unk, .unk, .unk, .unk, .unk, .unk, .unk, .unk, .unk, .unk, .unk, .unk, .unk, .unk, .unk, .unk, .unk, .unk, .unk, .unk, .unk, .unk, (.w (.one (.b (.int .i64 (.atom 1))))), (.w (.one (.b (.int .i64 (.atom 1210))))), .unk, .unk, .unk, .unk, .unk, .unk, .unk, (.tup []), (.tup []), (.tup []), (.tup []), (.tup []), (.tup []), (.tup []), (.tup []), (.tup []), (.tup []), (.tup []), (.tup []), (.tup []), (.tup []), (.tup []), (.tup []), (.tup []), (.tup []), (.tup []), (.tup []), (.tup []), (.tup []), (.tup []), (.tup []), (.tup []), (.tup []), (.tup []), (.tup []), (.tup []), (.tup []), (.tup []), (.tup []), (.tup []), (.tup []), (.tup []), (.tup []), (.tup []), (.tup []), (.tup []), (.tup [])] [(131072, (.cells 23 [(.b (.int .i64 (.atom 0))), (.b (.int .i64 (.atom 1))), (.b (.int .i64 (.atom 2))), (.b (.int .i64 (.atom 3))), (.b (.int .i64 (.atom 4))), (.b (.int .i64 (.atom 5))), (.b (.int .i64 (.atom 6)))] 0)), (2251902901288996, (.cells 92 [(.b (.int .i64 (.atom 0))), (.b (.int .i64 (.atom 1))), (.b (.int .i64 (.atom 2))), (.b (.int .i64 (.atom 3))), (.b (.int .i64 (.atom 4))), (.b (.int .i64 (.atom 5))), (.b (.int .i64 (.atom 6))), (.b (.ptr 295161417077750759434 (.lit 0)))] 0)), (17182228486, (.cells 39 [(.b (.int .i64 (.atom 1211))), (.b (.int .u64 (.atom 1212))), (.b (.int .i64 (.lit 0)))] 0)), (295161417077750759434, (.cells 117 [(.b (.sl 295161417077750759430 (.lit 0) (.len (.latom 1219)) (.len (.latom 1219)))), (.b (.int .i64 (.atom 1213))), (.b (.int .i64 (.atom 1214))), (.b (.int .i64 (.atom 1215))), (.b (.int .u64 (.lit 0))), (.b (.int .u64 (.atom 1216))), (.b (.int .u64 (.atom 1217))), (.b (.bool (.atom 1218)))] 0)), (295161417077750759430, (.row .u64 32 (.latom 1219)))] 33)
def F1 : List BE := [(.cmp .leq (.lit 0) (.atom 1211)), .cmp .leq (.lit 0) (.atom 1210), (.cmp .eql (.len (.latom 1219)) (.nat (.fn 2 cfgL))), (.cmp .leq (.nat (.atom 8)) (.atom 1016)), (.cmp .leq (.lit 0) (.atom 1017)), (.cmp .leq (.lit 0) (.atom 1016)), (.cmp .eql (.len (.latom 1024)) (.nat (.fn 2 cfgL))), (.cmp .eql (.nat (.atom 8)) (.atom 8)), (.cmp .leq (.nat (.atom 8)) (.lit 40)), (.cmp .leq (.lit 16) (.fn 2 cfgL)), (.cmp .leq (.fn 2 cfgL) (.lit 845)), (.cmp .eql (.nat (.fn 2 cfgL)) (.fn 2 cfgL)), (.cmp .leq (.lit 1) (.atom 0)), (.cmp .leq (.atom 0) (.lit 8)), (.cmp .leq (.lit 1) (.atom 1)), (.cmp .leq (.atom 1) (.lit 8)), (.cmp .leq (.lit 1) (.atom 2)), (.cmp .leq (.atom 2) (.lit 64)), (.cmp .leq (.lit 1) (.atom 3)), (.cmp .leq (.atom 3) (.lit 6)), (.cmp .leq (.lit 1) (.atom 4)), (.cmp .leq (.atom 4) (.lit 64)), (.cmp .leq (.lit 1) (.atom 5)), (.cmp .leq (.atom 5) (.lit 64)), (.cmp .leq (.lit 0) (.atom 6)), (.cmp .leq (.atom 6) (.lit 1073741823)), (.cmp .neq (.fn 1 cfgL) (.lit 0)), (.cmp .leq (.lit 0) (.atom 7)), (.cmp .leq (.lit 0) (.atom 8)), (.cmp .leq (.lit 0) (.atom 9)), (.cmp .leq (.atom 9) (.lit 18446744073709551615))]
def cut1 : Cut := ⟨[0, 1, 0, 1, 1, 1, 1, 1], I1, F1, [((.lit 2), (.lit 0)), ((.atom 1), (.atom 1210))]⟩
def I2 : SS Empty := (SS.mk [.unk, .unk, (.w (.one (.b (.int .u64 (.atom 9))))), .unk, .unk, .unk, (.w (.one (.b (.bool (.lit false))))), (.w (.one (.b (.ptr 2251902901288996 (.lit 0))))), .unk, (.w (.one (.b (.ptr 17182228486 (.lit 0))))), .unk, .unk, .unk, .unk, (.tup []), (.tup []), .unk, .unk, .unk, .unk, .unk, .unk, .unk, .unk, .unk, .unk, .unk, .unk, .unk, .unk, .unk, .unk, .unk, .unk, .unk, .unk, .unk, .unk, .unk, .unk, .unk, .unk, .unk, .unk, .unk, .unk, .unk, .unk, .unk, .unk, .unk, .unk, .unk, .unk, .unk, .unk, .unk, .unk, .unk, .unk, .unk, .unk, .unk, .unk, (.w (.one (.b (.int .i64 (.atom 1))))), (.w (.one (.b (.int .i64 (.atom 1400))))), .unk, .unk, .unk, .unk, .unk, .unk, .unk, (.tup []), (.tup []), (.tup []), (.tup []), (.tup []), (.tup []), (.tup []), (.tup []), (.tup []), (.tup []), (.tup []), (.tup []), (.tup []), (.tup []), (.tup []), (.tup []), (.tup []), (.tup []), (.tup []), (.tup []), (.tup []), (.tup []), (.tup []), (.tup []), (.tup []), (.tup []), (.tup []), (.tup []), (.tup []), (.tup [])] [(2251902901288996, (.cells 92 [(.b (.int .i64 (.atom 0))), (.b (.int .i64 (.atom 1))), (.b (.int .i64 (.atom 2))), (.b (.int .i64 (.atom 3))), (.b (.int .i64 (.atom 4))), (.b (.int .i64 (.atom 5))), (.b (.int .i64 (.atom 6))), (.b (.ptr 295161417077750759434 (.lit 0)))] 0)), (17182228486, (.cells 39 [(.b (.int .i64 (.atom 1211))), (.b (.int .u64 (.atom 1212))), (.b (.int .i64 (.lit 0)))] 0)), (295161417077750759434, (.cells 117 [(.b (.sl 295161417077750759430 (.lit 0) (.len (.latom 1219)) (.len (.latom 1219)))), (.b (.int .i64 (.atom 1401))), (.b (.int .i64 (.atom 1402))), (.b (.int .i64 (.atom 1403))), (.b (.int .u64 (.lit 0))), (.b (.int .u64 (.atom 1404))), (.b (.int .u64 (.atom 1405))), (.b (.bool (.atom 1406)))] 0)), (295161417077750759430, (.row .u64 32 (.latom 1219)))] 37)
def F2 : List BE := [(.cmp .leq (.lit 0) (.atom 1211)), .cmp .leq (.lit 0) (.atom 1400), (.cmp .eql (.len (.latom 1219)) (.nat (.fn 2 cfgL))), (.cmp .leq (.atom 1) (.atom 1210)), (.cmp .leq (.lit 0) (.atom 1211)), (.cmp .leq (.lit 0) (.atom 1210)), (.cmp .eql (.len (.latom 1219)) (.nat (.fn 2 cfgL))), (.cmp .leq (.nat (.atom 8)) (.atom 1016)), (.cmp .leq (.lit 0) (.atom 1017)), (.cmp .leq (.lit 0) (.atom 1016)), (.cmp .eql (.len (.latom 1024)) (.nat (.fn 2 cfgL))), (.cmp .eql (.nat (.atom 8)) (.atom 8)), (.cmp .leq (.nat (.atom 8)) (.lit 40)), (.cmp .leq (.lit 16) (.fn 2 cfgL)), (.cmp .leq (.fn 2 cfgL) (.lit 845)), (.cmp .eql (.nat (.fn 2 cfgL)) (.fn 2 cfgL)), (.cmp .leq (.lit 1) (.atom 0)), (.cmp .leq (.atom 0) (.lit 8)), (.cmp .leq (.lit 1) (.atom 1)), (.cmp .leq (.atom 1) (.lit 8)), (.cmp .leq (.lit 1) (.atom 2)), (.cmp .leq (.atom 2) (.lit 64)), (.cmp .leq (.lit 1) (.atom 3)), (.cmp .leq (.atom 3) (.lit 6)), (.cmp .leq (.lit 1) (.atom 4)), (.cmp .leq (.atom 4) (.lit 64)), (.cmp .leq (.lit 1) (.atom 5)), (.cmp .leq (.atom 5) (.lit 64)), (.cmp .leq (.lit 0) (.atom 6)), (.cmp .leq (.atom 6) (.lit 1073741823)), (.cmp .neq (.fn 1 cfgL) (.lit 0)), (.cmp .leq (.lit 0) (.atom 7)), (.cmp .leq (.lit 0) (.atom 8)), (.cmp .leq (.lit 0) (.atom 9)), (.cmp .leq (.atom 9) (.lit 18446744073709551615))]
def cut2 : Cut := ⟨[0, 1, 0, 1, 1, 1, 1, 1, 1], I2, F2, [((.lit 1), (.lit 0)), ((.atom 1), (.atom 1400))]⟩
def cuts : List Cut := [cut0, cut1, cut2]
def ths : Ths := []
theorem ths_ok : ThsOk ths := fun E t h _ => by cases h
theorem heads : (cuts.all fun k => isLoop (subAt (rootOf Try.f4) k.p) && Nat.ble k.ms.length 9) = true := by kernel_rfl
def obS : List Ob := []
theorem eS [Env] : oweStart (tabsOf pks 0) ths [0] Try.prog Try.f4 (rootOf Try.f4) base7 (extraS Try.prog) cuts (rngFacts pks 0) (symArgs pks 0 0) (symHeap pks 0 0) = obS := by kernel_rfl
def ob0_0 : List Ob := [(.at_ 1 [(1218, (.cmpI .neq (.atom 1023) (.lit 0))), (1217, (.atom 1022)), (1216, (.atom 1021)), (1215, (.atom 1020)), (1214, (.atom 1019)), (1213, (.atom 1016)), (1212, (.atom 1018)), (1211, (.atom 1017)), (1210, (.lit 0))] [(1219, (.latom 1024))] [(.cmp .leq (.nat (.atom 8)) (.atom 1016))])]
theorem e0_0 [Env] : oweAt (tabsOf pks 0) ths [0] Try.prog Try.f4 (rootOf Try.f4) base7 (extraS Try.prog) cuts cut0 [] = ob0_0 := by kernel_rfl
def ob1_0 : List Ob := [(.at_ 1 [(1218, (.cmpI .neq (.fn 12 (.consL (.fn 3 (.consL (.atom 0) (.consL (.atom 1) (.consL (.atom 2) (.consL (.atom 3) (.consL (.atom 4) (.consL (.atom 5) (.consL (.atom 6) (.consL (.lit 0) (.consL (.atom 1210) .nilL)))))))))) (.latom 1219))) (.lit 0))), (1217, (.fn 14 (.consL (.lit 0) (.consL (.fn 3 (.consL (.atom 0) (.consL (.atom 1) (.consL (.atom 2) (.consL (.atom 3) (.consL (.atom 4) (.consL (.atom 5) (.consL (.atom 6) (.consL (.lit 0) (.consL (.atom 1210) .nilL)))))))))) (.latom 1219))))), (1216, (.fn 10 (.consL (.fn 3 (.consL (.atom 0) (.consL (.atom 1) (.consL (.atom 2) (.consL (.atom 3) (.consL (.atom 4) (.consL (.atom 5) (.consL (.atom 6) (.consL (.lit 0) (.consL (.atom 1210) .nilL)))))))))) (.latom 1219)))), (1215, (.fn 3 (.consL (.atom 0) (.consL (.atom 1) (.consL (.atom 2) (.consL (.atom 3) (.consL (.atom 4) (.consL (.atom 5) (.consL (.atom 6) (.consL (.lit 0) (.consL (.atom 1210) .nilL))))))))))), (1214, (.lit 2)), (1213, (.op .add .i64 (.atom 1213) (.lit 1))), (1212, (.lit 0)), (1211, (.lit 0)), (1210, (.op .add .i64 (.atom 1210) (.lit 1)))] [(1219, (.putL (.latom 1219) (.fn 13 (.consL (.fn 3 (.consL (.atom 0) (.consL (.atom 1) (.consL (.atom 2) (.consL (.atom 3) (.consL (.atom 4) (.consL (.atom 5) (.consL (.atom 6) (.consL (.lit 0) (.consL (.atom 1210) .nilL)))))))))) (.latom 1219))) (.consL (.lit 0) .nilL)))] [(.cmp .eql (.atom 1210) (.op .sub .i64 (.atom 1) (.lit 1))), (.cmp .lss (.atom 1210) (.atom 1))]), (.at_ 1 [(1218, (.cmpI .neq (.fn 12 (.consL (.fn 3 (.consL (.atom 0) (.consL (.atom 1) (.consL (.atom 2) (.consL (.atom 3) (.consL (.atom 4) (.consL (.atom 5) (.consL (.atom 6) (.consL (.lit 0) (.consL (.atom 1210) .nilL)))))))))) (.latom 1219))) (.lit 0))), (1217, (.fn 14 (.consL (.lit 0) (.consL (.fn 3 (.consL (.atom 0) (.consL (.atom 1) (.consL (.atom 2) (.consL (.atom 3) (.consL (.atom 4) (.consL (.atom 5) (.consL (.atom 6) (.consL (.lit 0) (.consL (.atom 1210) .nilL)))))))))) (.latom 1219))))), (1216, (.fn 10 (.consL (.fn 3 (.consL (.atom 0) (.consL (.atom 1) (.consL (.atom 2) (.consL (.atom 3) (.consL (.atom 4) (.consL (.atom 5) (.consL (.atom 6) (.consL (.lit 0) (.consL (.atom 1210) .nilL)))))))))) (.latom 1219)))), (1215, (.fn 3 (.consL (.atom 0) (.consL (.atom 1) (.consL (.atom 2) (.consL (.atom 3) (.consL (.atom 4) (.consL (.atom 5) (.consL (.atom 6) (.consL (.lit 0) (.consL (.atom 1210) .nilL))))))))))), (1214, (.lit 2)), (1213, (.op .add .i64 (.atom 1213) (.lit 1))), (1212, (.atom 1212)), (1211, (.atom 1211)), (1210, (.op .add .i64 (.atom 1210) (.lit 1)))] [(1219, (.putL (.latom 1219) (.fn 13 (.consL (.fn 3 (.consL (.atom 0) (.consL (.atom 1) (.consL (.atom 2) (.consL (.atom 3) (.consL (.atom 4) (.consL (.atom 5) (.consL (.atom 6) (.consL (.lit 0) (.consL (.atom 1210) .nilL)))))))))) (.latom 1219))) (.consL (.lit 0) .nilL)))] [(.cmp .neq (.atom 1210) (.op .sub .i64 (.atom 1) (.lit 1))), (.cmp .lss (.atom 1210) (.atom 1))]), (.at_ 2 [(1406, (.cmpI .neq (.atom 1218) (.lit 0))), (1405, (.atom 1217)), (1404, (.atom 1216)), (1403, (.atom 1215)), (1402, (.atom 1214)), (1401, (.atom 1213)), (1212, (.atom 1212)), (1211, (.atom 1211)), (1400, (.lit 0))] [(1219, (.latom 1219))] [(.cmp .leq (.atom 1) (.atom 1210))])]
theorem e1_0 [Env] : oweAt (tabsOf pks 0) ths [0] Try.prog Try.f4 (rootOf Try.f4) base7 (extraS Try.prog) cuts cut1 [] = ob1_0 := by kernel_rfl
def ob2_0 : List Ob := [(.need (.lit false) [(.cmp .neq (.fn 10 (.consL (.fn 3 (.consL (.atom 0) (.consL (.atom 1) (.consL (.atom 2) (.consL (.atom 3) (.consL (.atom 4) (.consL (.atom 5) (.consL (.atom 6) (.consL (.lit 0) (.consL (.atom 1400) .nilL)))))))))) (.latom 1219))) (.lit 0)), (.cmp .lss (.atom 1400) (.atom 1))]), (.at_ 2 [(1406, (.cmpI .neq (.fn 12 (.consL (.fn 3 (.consL (.atom 0) (.consL (.atom 1) (.consL (.atom 2) (.consL (.atom 3) (.consL (.atom 4) (.consL (.atom 5) (.consL (.atom 6) (.consL (.lit 0) (.consL (.atom 1400) .nilL)))))))))) (.latom 1219))) (.lit 0))), (1405, (.fn 10 (.consL (.fn 3 (.consL (.atom 0) (.consL (.atom 1) (.consL (.atom 2) (.consL (.atom 3) (.consL (.atom 4) (.consL (.atom 5) (.consL (.atom 6) (.consL (.lit 0) (.consL (.atom 1400) .nilL)))))))))) (.latom 1219)))), (1404, (.fn 10 (.consL (.fn 3 (.consL (.atom 0) (.consL (.atom 1) (.consL (.atom 2) (.consL (.atom 3) (.consL (.atom 4) (.consL (.atom 5) (.consL (.atom 6) (.consL (.lit 0) (.consL (.atom 1400) .nilL)))))))))) (.latom 1219)))), (1403, (.fn 3 (.consL (.atom 0) (.consL (.atom 1) (.consL (.atom 2) (.consL (.atom 3) (.consL (.atom 4) (.consL (.atom 5) (.consL (.atom 6) (.consL (.lit 0) (.consL (.atom 1400) .nilL))))))))))), (1402, (.lit 1)), (1401, (.op .add .i64 (.atom 1401) (.lit 1))), (1212, (.atom 1212)), (1211, (.atom 1211)), (1400, (.op .add .i64 (.atom 1400) (.lit 1)))] [(1219, (.latom 1219))] [(.cmp .eql (.fn 10 (.consL (.fn 3 (.consL (.atom 0) (.consL (.atom 1) (.consL (.atom 2) (.consL (.atom 3) (.consL (.atom 4) (.consL (.atom 5) (.consL (.atom 6) (.consL (.lit 0) (.consL (.atom 1400) .nilL)))))))))) (.latom 1219))) (.lit 0)), (.cmp .lss (.atom 1400) (.atom 1))]), (.need (.lit false) [(.cmp .neq (.fn 10 (.consL (.fn 3 (.consL (.atom 0) (.consL (.atom 1) (.consL (.atom 2) (.consL (.atom 3) (.consL (.atom 4) (.consL (.atom 5) (.consL (.atom 6) (.consL (.lit 0) (.consL (.lit 0) .nilL)))))))))) (.putL (.latom 1219) (.fn 13 (.consL (.fn 3 (.consL (.atom 0) (.consL (.atom 1) (.consL (.atom 2) (.consL (.atom 3) (.consL (.atom 4) (.consL (.atom 5) (.consL (.atom 6) (.consL (.lit 0) (.consL (.atom 1211) .nilL)))))))))) (.latom 1219))) (.consL (.atom 9) .nilL)))) (.atom 9)), (.cmp .eql (.atom 1212) (.lit 0)), (.cmp .lss (.atom 1211) (.atom 1)), (.cmp .leq (.atom 1) (.atom 1400))]), (.need (.lit false) [(.cmp .neq (.atom 1212) (.lit 0)), (.cmp .lss (.atom 1211) (.atom 1)), (.cmp .leq (.atom 1) (.atom 1400))]), (.need (.lit false) [(.cmp .eql (.atom 1212) (.lit 0)), (.cmp .leq (.atom 1) (.atom 1211)), (.cmp .leq (.atom 1) (.atom 1400))]), (.need (.lit false) [(.cmp .neq (.atom 1212) (.lit 0)), (.cmp .leq (.atom 1) (.atom 1211)), (.cmp .leq (.atom 1) (.atom 1400))])]
theorem e2_0 [Env] : oweAt (tabsOf pks 0) ths [0] Try.prog Try.f4 (rootOf Try.f4) base7 (extraS Try.prog) cuts cut2 [] = ob2_0 := by kernel_rfl
theorem f1_0 (E : Env) (h : ∀ b ∈ cut1.fs, @BE.val E b = true) : @BE.val E ((.cmp .leq (.lit 0) (.atom 1211))) = true := h _ (List.mem_of_getElem? (i := 0) rfl)
theorem f1_1 (E : Env) (h : ∀ b ∈ cut1.fs, @BE.val E b = true) : @BE.val E (.cmp .leq (.lit 0) (.atom 1210)) = true := h _ (List.mem_of_getElem? (i := 1) rfl)
theorem f1_2 (E : Env) (h : ∀ b ∈ cut1.fs, @BE.val E b = true) : @BE.val E ((.cmp .eql (.len (.latom 1219)) (.nat (.fn 2 cfgL)))) = true := h _ (List.mem_of_getElem? (i := 2) rfl)
theorem f1_3 (E : Env) (h : ∀ b ∈ cut1.fs, @BE.val E b = true) : @BE.val E ((.cmp .leq (.nat (.atom 8)) (.atom 1016))) = true := h _ (List.mem_of_getElem? (i := 3) rfl)
theorem f1_4 (E : Env) (h : ∀ b ∈ cut1.fs, @BE.val E b = true) : @BE.val E ((.cmp .leq (.lit 0) (.atom 1017))) = true := h _ (List.mem_of_getElem? (i := 4) rfl)
theorem f1_5 (E : Env) (h : ∀ b ∈ cut1.fs, @BE.val E b = true) : @BE.val E ((.cmp .leq (.lit 0) (.atom 1016))) = true := h _ (List.mem_of_getElem? (i := 5) rfl)
theorem f1_6 (E : Env) (h : ∀ b ∈ cut1.fs, @BE.val E b = true) : @BE.val E ((.cmp .eql (.len (.latom 1024)) (.nat (.fn 2 cfgL)))) = true := h _ (List.mem_of_getElem? (i := 6) rfl)
theorem f1_7 (E : Env) (h : ∀ b ∈ cut1.fs, @BE.val E b = true) : @BE.val E ((.cmp .eql (.nat (.atom 8)) (.atom 8))) = true := h _ (List.mem_of_getElem? (i := 7) rfl)
theorem f1_8 (E : Env) (h : ∀ b ∈ cut1.fs, @BE.val E b = true) : @BE.val E ((.cmp .leq (.nat (.atom 8)) (.lit 40))) = true := h _ (List.mem_of_getElem? (i := 8) rfl)
theorem f1_9 (E : Env) (h : ∀ b ∈ cut1.fs, @BE.val E b = true) : @BE.val E ((.cmp .leq (.lit 16) (.fn 2 cfgL))) = true := h _ (List.mem_of_getElem? (i := 9) rfl)
theorem f1_10 (E : Env) (h : ∀ b ∈ cut1.fs, @BE.val E b = true) : @BE.val E ((.cmp .leq (.fn 2 cfgL) (.lit 845))) = true := h _ (List.mem_of_getElem? (i := 10) rfl)
theorem f1_11 (E : Env) (h : ∀ b ∈ cut1.fs, @BE.val E b = true) : @BE.val E ((.cmp .eql (.nat (.fn 2 cfgL)) (.fn 2 cfgL))) = true := h _ (List.mem_of_getElem? (i := 11) rfl)
theorem f1_12 (E : Env) (h : ∀ b ∈ cut1.fs, @BE.val E b = true) : @BE.val E ((.cmp .leq (.lit 1) (.atom 0))) = true := h _ (List.mem_of_getElem? (i := 12) rfl)
theorem f1_13 (E : Env) (h : ∀ b ∈ cut1.fs, @BE.val E b = true) : @BE.val E ((.cmp .leq (.atom 0) (.lit 8))) = true := h _ (List.mem_of_getElem? (i := 13) rfl)
theorem f1_14 (E : Env) (h : ∀ b ∈ cut1.fs, @BE.val E b = true) : @BE.val E ((.cmp .leq (.lit 1) (.atom 1))) = true := h _ (List.mem_of_getElem? (i := 14) rfl)
theorem f1_15 (E : Env) (h : ∀ b ∈ cut1.fs, @BE.val E b = true) : @BE.val E ((.cmp .leq (.atom 1) (.lit 8))) = true := h _ (List.mem_of_getElem? (i := 15) rfl)
theorem f1_16 (E : Env) (h : ∀ b ∈ cut1.fs, @BE.val E b = true) : @BE.val E ((.cmp .leq (.lit 1) (.atom 2))) = true := h _ (List.mem_of_getElem? (i := 16) rfl)
theorem f1_17 (E : Env) (h : ∀ b ∈ cut1.fs, @BE.val E b = true) : @BE.val E ((.cmp .leq (.atom 2) (.lit 64))) = true := h _ (List.mem_of_getElem? (i := 17) rfl)
theorem f1_18 (E : Env) (h : ∀ b ∈ cut1.fs, @BE.val E b = true) : @BE.val E ((.cmp .leq (.lit 1) (.atom 3))) = true := h _ (List.mem_of_getElem? (i := 18) rfl)
theorem f1_19 (E : Env) (h : ∀ b ∈ cut1.fs, @BE.val E b = true) : @BE.val E ((.cmp .leq (.atom 3) (.lit 6))) = true := h _ (List.mem_of_getElem? (i := 19) rfl)
theorem f1_20 (E : Env) (h : ∀ b ∈ cut1.fs, @BE.val E b = true) : @BE.val E ((.cmp .leq (.lit 1) (.atom 4))) = true := h _ (List.mem_of_getElem? (i := 20) rfl)
theorem f1_21 (E : Env) (h : ∀ b ∈ cut1.fs, @BE.val E b = true) : @BE.val E ((.cmp .leq (.atom 4) (.lit 64))) = true := h _ (List.mem_of_getElem? (i := 21) rfl)
theorem f1_22 (E : Env) (h : ∀ b ∈ cut1.fs, @BE.val E b = true) : @BE.val E ((.cmp .leq (.lit 1) (.atom 5))) = true := h _ (List.mem_of_getElem? (i := 22) rfl)
theorem f1_23 (E : Env) (h : ∀ b ∈ cut1.fs, @BE.val E b = true) : @BE.val E ((.cmp .leq (.atom 5) (.lit 64))) = true := h _ (List.mem_of_getElem? (i := 23) rfl)
theorem f1_24 (E : Env) (h : ∀ b ∈ cut1.fs, @BE.val E b = true) : @BE.val E ((.cmp .leq (.lit 0) (.atom 6))) = true := h _ (List.mem_of_getElem? (i := 24) rfl)
theorem f1_25 (E : Env) (h : ∀ b ∈ cut1.fs, @BE.val E b = true) : @BE.val E ((.cmp .leq (.atom 6) (.lit 1073741823))) = true := h _ (List.mem_of_getElem? (i := 25) rfl)
theorem f1_26 (E : Env) (h : ∀ b ∈ cut1.fs, @BE.val E b = true) : @BE.val E ((.cmp .neq (.fn 1 cfgL) (.lit 0))) = true := h _ (List.mem_of_getElem? (i := 26) rfl)
theorem f1_27 (E : Env) (h : ∀ b ∈ cut1.fs, @BE.val E b = true) : @BE.val E ((.cmp .leq (.lit 0) (.atom 7))) = true := h _ (List.mem_of_getElem? (i := 27) rfl)
theorem f1_28 (E : Env) (h : ∀ b ∈ cut1.fs, @BE.val E b = true) : @BE.val E ((.cmp .leq (.lit 0) (.atom 8))) = true := h _ (List.mem_of_getElem? (i := 28) rfl)
theorem f1_29 (E : Env) (h : ∀ b ∈ cut1.fs, @BE.val E b = true) : @BE.val E ((.cmp .leq (.lit 0) (.atom 9))) = true := h _ (List.mem_of_getElem? (i := 29) rfl)
theorem f1_30 (E : Env) (h : ∀ b ∈ cut1.fs, @BE.val E b = true) : @BE.val E ((.cmp .leq (.atom 9) (.lit 18446744073709551615))) = true := h _ (List.mem_of_getElem? (i := 30) rfl)
theorem f2_0 (E : Env) (h : ∀ b ∈ cut2.fs, @BE.val E b = true) : @BE.val E ((.cmp .leq (.lit 0) (.atom 1211))) = true := h _ (List.mem_of_getElem? (i := 0) rfl)
theorem f2_1 (E : Env) (h : ∀ b ∈ cut2.fs, @BE.val E b = true) : @BE.val E (.cmp .leq (.lit 0) (.atom 1400)) = true := h _ (List.mem_of_getElem? (i := 1) rfl)
theorem f2_2 (E : Env) (h : ∀ b ∈ cut2.fs, @BE.val E b = true) : @BE.val E ((.cmp .eql (.len (.latom 1219)) (.nat (.fn 2 cfgL)))) = true := h _ (List.mem_of_getElem? (i := 2) rfl)
theorem f2_3 (E : Env) (h : ∀ b ∈ cut2.fs, @BE.val E b = true) : @BE.val E ((.cmp .leq (.atom 1) (.atom 1210))) = true := h _ (List.mem_of_getElem? (i := 3) rfl)
theorem f2_4 (E : Env) (h : ∀ b ∈ cut2.fs, @BE.val E b = true) : @BE.val E ((.cmp .leq (.lit 0) (.atom 1211))) = true := h _ (List.mem_of_getElem? (i := 4) rfl)
theorem f2_5 (E : Env) (h : ∀ b ∈ cut2.fs, @BE.val E b = true) : @BE.val E ((.cmp .leq (.lit 0) (.atom 1210))) = true := h _ (List.mem_of_getElem? (i := 5) rfl)
theorem f2_6 (E : Env) (h : ∀ b ∈ cut2.fs, @BE.val E b = true) : @BE.val E ((.cmp .eql (.len (.latom 1219)) (.nat (.fn 2 cfgL)))) = true := h _ (List.mem_of_getElem? (i := 6) rfl)
theorem f2_7 (E : Env) (h : ∀ b ∈ cut2.fs, @BE.val E b = true) : @BE.val E ((.cmp .leq (.nat (.atom 8)) (.atom 1016))) = true := h _ (List.mem_of_getElem? (i := 7) rfl)
theorem f2_8 (E : Env) (h : ∀ b ∈ cut2.fs, @BE.val E b = true) : @BE.val E ((.cmp .leq (.lit 0) (.atom 1017))) = true := h _ (List.mem_of_getElem? (i := 8) rfl)
theorem f2_9 (E : Env) (h : ∀ b ∈ cut2.fs, @BE.val E b = true) : @BE.val E ((.cmp .leq (.lit 0) (.atom 1016))) = true := h _ (List.mem_of_getElem? (i := 9) rfl)
theorem f2_10 (E : Env) (h : ∀ b ∈ cut2.fs, @BE.val E b = true) : @BE.val E ((.cmp .eql (.len (.latom 1024)) (.nat (.fn 2 cfgL)))) = true := h _ (List.mem_of_getElem? (i := 10) rfl)
theorem f2_11 (E : Env) (h : ∀ b ∈ cut2.fs, @BE.val E b = true) : @BE.val E ((.cmp .eql (.nat (.atom 8)) (.atom 8))) = true := h _ (List.mem_of_getElem? (i := 11) rfl)
theorem f2_12 (E : Env) (h : ∀ b ∈ cut2.fs, @BE.val E b = true) : @BE.val E ((.cmp .leq (.nat (.atom 8)) (.lit 40))) = true := h _ (List.mem_of_getElem? (i := 12) rfl)
theorem f2_13 (E : Env) (h : ∀ b ∈ cut2.fs, @BE.val E b = true) : @BE.val E ((.cmp .leq (.lit 16) (.fn 2 cfgL))) = true := h _ (List.mem_of_getElem? (i := 13) rfl)
theorem f2_14 (E : Env) (h : ∀ b ∈ cut2.fs, @BE.val E b = true) : @BE.val E ((.cmp .leq (.fn 2 cfgL) (.lit 845))) = true := h _ (List.mem_of_getElem? (i := 14) rfl)
theorem f2_15 (E : Env) (h : ∀ b ∈ cut2.fs, @BE.val E b = true) : @BE.val E ((.cmp .eql (.nat (.fn 2 cfgL)) (.fn 2 cfgL))) = true := h _ (List.mem_of_getElem? (i := 15) rfl)
theorem f2_16 (E : Env) (h : ∀ b ∈ cut2.fs, @BE.val E b = true) : @BE.val E ((.cmp .leq (.lit 1) (.atom 0))) = true := h _ (List.mem_of_getElem? (i := 16) rfl)
theorem f2_17 (E : Env) (h : ∀ b ∈ cut2.fs, @BE.val E b = true) : @BE.val E ((.cmp .leq (.atom 0) (.lit 8))) = true := h _ (List.mem_of_getElem? (i := 17) rfl)
theorem f2_18 (E : Env) (h : ∀ b ∈ cut2.fs, @BE.val E b = true) : @BE.val E ((.cmp .leq (.lit 1) (.atom 1))) = true := h _ (List.mem_of_getElem? (i := 18) rfl)
theorem f2_19 (E : Env) (h : ∀ b ∈ cut2.fs, @BE.val E b = true) : @BE.val E ((.cmp .leq (.atom 1) (.lit 8))) = true := h _ (List.mem_of_getElem? (i := 19) rfl)
theorem f2_20 (E : Env) (h : ∀ b ∈ cut2.fs, @BE.val E b = true) : @BE.val E ((.cmp .leq (.lit 1) (.atom 2))) = true := h _ (List.mem_of_getElem? (i := 20) rfl)
theorem f2_21 (E : Env) (h : ∀ b ∈ cut2.fs, @BE.val E b = true) : @BE.val E ((.cmp .leq (.atom 2) (.lit 64))) = true := h _ (List.mem_of_getElem? (i := 21) rfl)
theorem f2_22 (E : Env) (h : ∀ b ∈ cut2.fs, @BE.val E b = true) : @BE.val E ((.cmp .leq (.lit 1) (.atom 3))) = true := h _ (List.mem_of_getElem? (i := 22) rfl)
theorem f2_23 (E : Env) (h : ∀ b ∈ cut2.fs, @BE.val E b = true) : @BE.val E ((.cmp .leq (.atom 3) (.lit 6))) = true := h _ (List.mem_of_getElem? (i := 23) rfl)
theorem f2_24 (E : Env) (h : ∀ b ∈ cut2.fs, @BE.val E b = true) : @BE.val E ((.cmp .leq (.lit 1) (.atom 4))) = true := h _ (List.mem_of_getElem? (i := 24) rfl)
theorem f2_25 (E : Env) (h : ∀ b ∈ cut2.fs, @BE.val E b = true) : @BE.val E ((.cmp .leq (.atom 4) (.lit 64))) = true := h _ (List.mem_of_getElem? (i := 25) rfl)
theorem f2_26 (E : Env) (h : ∀ b ∈ cut2.fs, @BE.val E b = true) : @BE.val E ((.cmp .leq (.lit 1) (.atom 5))) = true := h _ (List.mem_of_getElem? (i := 26) rfl)
theorem f2_27 (E : Env) (h : ∀ b ∈ cut2.fs, @BE.val E b = true) : @BE.val E ((.cmp .leq (.atom 5) (.lit 64))) = true := h _ (List.mem_of_getElem? (i := 27) rfl)
theorem f2_28 (E : Env) (h : ∀ b ∈ cut2.fs, @BE.val E b = true) : @BE.val E ((.cmp .leq (.lit 0) (.atom 6))) = true := h _ (List.mem_of_getElem? (i := 28) rfl)
theorem f2_29 (E : Env) (h : ∀ b ∈ cut2.fs, @BE.val E b = true) : @BE.val E ((.cmp .leq (.atom 6) (.lit 1073741823))) = true := h _ (List.mem_of_getElem? (i := 29) rfl)
theorem f2_30 (E : Env) (h : ∀ b ∈ cut2.fs, @BE.val E b = true) : @BE.val E ((.cmp .neq (.fn 1 cfgL) (.lit 0))) = true := h _ (List.mem_of_getElem? (i := 30) rfl)
theorem f2_31 (E : Env) (h : ∀ b ∈ cut2.fs, @BE.val E b = true) : @BE.val E ((.cmp .leq (.lit 0) (.atom 7))) = true := h _ (List.mem_of_getElem? (i := 31) rfl)
theorem f2_32 (E : Env) (h : ∀ b ∈ cut2.fs, @BE.val E b = true) : @BE.val E ((.cmp .leq (.lit 0) (.atom 8))) = true := h _ (List.mem_of_getElem? (i := 32) rfl)
theorem f2_33 (E : Env) (h : ∀ b ∈ cut2.fs, @BE.val E b = true) : @BE.val E ((.cmp .leq (.lit 0) (.atom 9))) = true := h _ (List.mem_of_getElem? (i := 33) rfl)
theorem f2_34 (E : Env) (h : ∀ b ∈ cut2.fs, @BE.val E b = true) : @BE.val E ((.cmp .leq (.atom 9) (.lit 18446744073709551615))) = true := h _ (List.mem_of_getElem? (i := 34) rfl)
theorem f0_0 (E : Env) (h : ∀ b ∈ cut0.fs, @BE.val E b = true) : @BE.val E ((.cmp .leq (.lit 0) (.atom 1017))) = true := h _ (List.mem_of_getElem? (i := 0) rfl)
theorem f0_1 (E : Env) (h : ∀ b ∈ cut0.fs, @BE.val E b = true) : @BE.val E (.cmp .leq (.lit 0) (.atom 1016)) = true := h _ (List.mem_of_getElem? (i := 1) rfl)
theorem f0_2 (E : Env) (h : ∀ b ∈ cut0.fs, @BE.val E b = true) : @BE.val E ((.cmp .eql (.len (.latom 1024)) (.nat (.fn 2 cfgL)))) = true := h _ (List.mem_of_getElem? (i := 2) rfl)
theorem f0_3 (E : Env) (h : ∀ b ∈ cut0.fs, @BE.val E b = true) : @BE.val E ((.cmp .eql (.nat (.atom 8)) (.atom 8))) = true := h _ (List.mem_of_getElem? (i := 3) rfl)
theorem f0_4 (E : Env) (h : ∀ b ∈ cut0.fs, @BE.val E b = true) : @BE.val E ((.cmp .leq (.nat (.atom 8)) (.lit 40))) = true := h _ (List.mem_of_getElem? (i := 4) rfl)
theorem f0_5 (E : Env) (h : ∀ b ∈ cut0.fs, @BE.val E b = true) : @BE.val E ((.cmp .leq (.lit 16) (.fn 2 cfgL))) = true := h _ (List.mem_of_getElem? (i := 5) rfl)
theorem f0_6 (E : Env) (h : ∀ b ∈ cut0.fs, @BE.val E b = true) : @BE.val E ((.cmp .leq (.fn 2 cfgL) (.lit 845))) = true := h _ (List.mem_of_getElem? (i := 6) rfl)
theorem f0_7 (E : Env) (h : ∀ b ∈ cut0.fs, @BE.val E b = true) : @BE.val E ((.cmp .eql (.nat (.fn 2 cfgL)) (.fn 2 cfgL))) = true := h _ (List.mem_of_getElem? (i := 7) rfl)
theorem f0_8 (E : Env) (h : ∀ b ∈ cut0.fs, @BE.val E b = true) : @BE.val E ((.cmp .leq (.lit 1) (.atom 0))) = true := h _ (List.mem_of_getElem? (i := 8) rfl)
theorem f0_9 (E : Env) (h : ∀ b ∈ cut0.fs, @BE.val E b = true) : @BE.val E ((.cmp .leq (.atom 0) (.lit 8))) = true := h _ (List.mem_of_getElem? (i := 9) rfl)
theorem f0_10 (E : Env) (h : ∀ b ∈ cut0.fs, @BE.val E b = true) : @BE.val E ((.cmp .leq (.lit 1) (.atom 1))) = true := h _ (List.mem_of_getElem? (i := 10) rfl)
theorem f0_11 (E : Env) (h : ∀ b ∈ cut0.fs, @BE.val E b = true) : @BE.val E ((.cmp .leq (.atom 1) (.lit 8))) = true := h _ (List.mem_of_getElem? (i := 11) rfl)
theorem f0_12 (E : Env) (h : ∀ b ∈ cut0.fs, @BE.val E b = true) : @BE.val E ((.cmp .leq (.lit 1) (.atom 2))) = true := h _ (List.mem_of_getElem? (i := 12) rfl)
theorem f0_13 (E : Env) (h : ∀ b ∈ cut0.fs, @BE.val E b = true) : @BE.val E ((.cmp .leq (.atom 2) (.lit 64))) = true := h _ (List.mem_of_getElem? (i := 13) rfl)
theorem f0_14 (E : Env) (h : ∀ b ∈ cut0.fs, @BE.val E b = true) : @BE.val E ((.cmp .leq (.lit 1) (.atom 3))) = true := h _ (List.mem_of_getElem? (i := 14) rfl)
theorem f0_15 (E : Env) (h : ∀ b ∈ cut0.fs, @BE.val E b = true) : @BE.val E ((.cmp .leq (.atom 3) (.lit 6))) = true := h _ (List.mem_of_getElem? (i := 15) rfl)
theorem f0_16 (E : Env) (h : ∀ b ∈ cut0.fs, @BE.val E b = true) : @BE.val E ((.cmp .leq (.lit 1) (.atom 4))) = true := h _ (List.mem_of_getElem? (i := 16) rfl)
theorem f0_17 (E : Env) (h : ∀ b ∈ cut0.fs, @BE.val E b = true) : @BE.val E ((.cmp .leq (.atom 4) (.lit 64))) = true := h _ (List.mem_of_getElem? (i := 17) rfl)
theorem f0_18 (E : Env) (h : ∀ b ∈ cut0.fs, @BE.val E b = true) : @BE.val E ((.cmp .leq (.lit 1) (.atom 5))) = true := h _ (List.mem_of_getElem? (i := 18) rfl)
theorem f0_19 (E : Env) (h : ∀ b ∈ cut0.fs, @BE.val E b = true) : @BE.val E ((.cmp .leq (.atom 5) (.lit 64))) = true := h _ (List.mem_of_getElem? (i := 19) rfl)
theorem f0_20 (E : Env) (h : ∀ b ∈ cut0.fs, @BE.val E b = true) : @BE.val E ((.cmp .leq (.lit 0) (.atom 6))) = true := h _ (List.mem_of_getElem? (i := 20) rfl)
theorem f0_21 (E : Env) (h : ∀ b ∈ cut0.fs, @BE.val E b = true) : @BE.val E ((.cmp .leq (.atom 6) (.lit 1073741823))) = true := h _ (List.mem_of_getElem? (i := 21) rfl)
theorem f0_22 (E : Env) (h : ∀ b ∈ cut0.fs, @BE.val E b = true) : @BE.val E ((.cmp .neq (.fn 1 cfgL) (.lit 0))) = true := h _ (List.mem_of_getElem? (i := 22) rfl)
theorem f0_23 (E : Env) (h : ∀ b ∈ cut0.fs, @BE.val E b = true) : @BE.val E ((.cmp .leq (.lit 0) (.atom 7))) = true := h _ (List.mem_of_getElem? (i := 23) rfl)
theorem f0_24 (E : Env) (h : ∀ b ∈ cut0.fs, @BE.val E b = true) : @BE.val E ((.cmp .leq (.lit 0) (.atom 8))) = true := h _ (List.mem_of_getElem? (i := 24) rfl)
theorem f0_25 (E : Env) (h : ∀ b ∈ cut0.fs, @BE.val E b = true) : @BE.val E ((.cmp .leq (.lit 0) (.atom 9))) = true := h _ (List.mem_of_getElem? (i := 25) rfl)
theorem f0_26 (E : Env) (h : ∀ b ∈ cut0.fs, @BE.val E b = true) : @BE.val E ((.cmp .leq (.atom 9) (.lit 18446744073709551615))) = true := h _ (List.mem_of_getElem? (i := 26) rfl)

def Phi : Nat → Env → Prop
  | 1, E => (∀ j, 0 ≤ j → j < E.i 1210 → hadF (rsvE E 0 j) (E.l 1219) = 0) ∧ (E.i 1 ≤ E.i 1210 → E.i 1211 = 0 ∧ E.i 1212 = 0)
  | 2, E => (∀ j, 0 ≤ j → j < E.i 1 → hadF (rsvE E 0 j) (E.l 1219) = 0) ∧ E.i 1211 = 0 ∧ E.i 1212 = 0
  | _, _ => True

theorem right_of {E : Env} (h : @BE.val E (.cmp .neq (.fn 1 cfgL) (.lit 0)) = true) : rightE E := @isW_val E cfgL _ _ _ _ _ _ _ rfl h
theorem lenR_of {E : Env} {R : Nat} (h : @BE.val E (.cmp .eql (.len (.latom R)) (.nat (.fn 2 cfgL))) = true) (h2 : @BE.val E (.cmp .eql (.nat (.fn 2 cfgL)) (.fn 2 cfgL)) = true) : ((E.l R).length : Int) = lenE E := by
  have h1 : ((E.l R).length : Int) = ((lenE E).toNat : Int) := eq_of_beq h
  have h3 : ((lenE E).toNat : Int) = lenE E := eq_of_beq h2
  rw [h1, h3]
theorem run0_0 (E : Env) (hfs : ∀ b ∈ cut0.fs, @BE.val E b = true) (hphi : Phi 0 E) (htab : TabR (tabsOf pks 0) E) : ObsOk E Phi ob0_0 := by
  have h1 : (1 : Int) ≤ E.i 1 := of_decide_eq_true (f0_10 E hfs)
  refine ⟨fun _ => ⟨fun j h2 h3 => ?_, fun h2 => ?_⟩, trivial⟩
  · have h3' : j < (0 : Int) := h3
    omega
  · have h2' : E.i 1 ≤ (0 : Int) := h2
    omega
theorem run1_0 (E : Env) (hfs : ∀ b ∈ cut1.fs, @BE.val E b = true) (hphi : Phi 1 E) (htab : TabR (tabsOf pks 0) E) : ObsOk E Phi ob1_0 := by
  have hr : rightE E := right_of (f1_26 E hfs)
  have hl : ((E.l 1219).length : Int) = lenE E := lenR_of (f1_2 E hfs) (f1_11 E hfs)
  have t1 : (1 : Int) ≤ E.i 0 := hr.1
  have s2 : E.i 1 ≤ (8 : Int) := hr.2.2.2.1
  have r0 : (0 : Int) ≤ E.i 1210 := of_decide_eq_true (f1_1 E hfs)
  have step : E.i 1210 < E.i 1 → ∀ j, 0 ≤ j → j < IntKind.i64.wrap (E.i 1210 + 1) → hadF (rsvE E 0 j) (updF (rsvE E 0 (E.i 1210)) 0 (E.l 1219)) = 0 := by
    intro hlt j h2 h3
    rw [wrap64_small (by omega) (by omega)] at h3
    by_cases e : j = E.i 1210
    · subst e
      exact hadF_same (rsvE_in hr ⟨Int.le_refl _, by omega⟩ ⟨r0, hlt⟩ hl) rfl
    · have hne : rsvE E 0 j ≠ rsvE E 0 (E.i 1210) := fun he => e (reserved_inj hr ⟨Int.le_refl _, by omega⟩ ⟨h2, by omega⟩ ⟨Int.le_refl _, by omega⟩ ⟨r0, hlt⟩ he).2
      rw [hadF_other hne]
      exact hphi.1 j h2 (by omega)
  refine ⟨fun hc => ?_, fun hc => ?_, fun hc => ?_, trivial⟩
  · have hlt : E.i 1210 < E.i 1 := of_decide_eq_true hc.2.1
    exact ⟨step hlt, fun _ => ⟨rfl, rfl⟩⟩
  · have hlt : E.i 1210 < E.i 1 := of_decide_eq_true hc.2.1
    refine ⟨step hlt, fun h2 => ?_⟩
    have h2' : E.i 1 ≤ IntKind.i64.wrap (E.i 1210 + 1) := h2
    have hne : (E.i 1210 != IntKind.i64.wrap (E.i 1 - 1)) = true := hc.1
    rw [wrap64_small (by omega) (by omega)] at h2' hne
    have hne' : E.i 1210 ≠ E.i 1 - 1 := by simpa using hne
    omega
  · have hle : E.i 1 ≤ E.i 1210 := of_decide_eq_true hc.1
    exact ⟨fun j h2 h3 => hphi.1 j h2 (by have h3' : j < E.i 1 := h3; omega), (hphi.2 hle).1, (hphi.2 hle).2⟩
theorem run2_0 (E : Env) (hfs : ∀ b ∈ cut2.fs, @BE.val E b = true) (hphi : Phi 2 E) (htab : TabR (tabsOf pks 0) E) : ObsOk E Phi ob2_0 := by
  have hr : rightE E := right_of (f2_30 E hfs)
  have hl : ((E.l 1219).length : Int) = lenE E := lenR_of (f2_2 E hfs) (f2_15 E hfs)
  have t1 : (1 : Int) ≤ E.i 0 := hr.1
  have s1 : (1 : Int) ≤ E.i 1 := hr.2.2.1
  have r0 : (0 : Int) ≤ E.i 1400 := of_decide_eq_true (f2_1 E hfs)
  obtain ⟨p1, p2, p3⟩ := hphi
  refine ⟨fun hc => ?_, fun hc => ⟨p1, p2, p3⟩, fun hc => ?_, fun hc => ?_, fun hc => ?_, fun hc => ?_, trivial⟩
  · exfalso
    have h1 : (hadF (rsvE E 0 (E.i 1400)) (E.l 1219) != 0) = true := hc.1
    rw [p1 (E.i 1400) r0 (of_decide_eq_true hc.2.1)] at h1
    cases h1
  · exfalso
    have h1 : (hadF (rsvE E 0 0) (updF (rsvE E 0 (E.i 1211)) (E.i 9) (E.l 1219)) != E.i 9) = true := hc.1
    rw [p2, hadF_same (rsvE_in hr ⟨Int.le_refl _, by omega⟩ ⟨Int.le_refl _, by omega⟩ hl) rfl] at h1
    simp at h1
  · exfalso
    have h1 : (E.i 1212 != 0) = true := hc.1
    rw [p3] at h1
    cases h1
  · exfalso
    have h1 : E.i 1 ≤ E.i 1211 := of_decide_eq_true hc.2.1
    omega
  · exfalso
    have h1 : (E.i 1212 != 0) = true := hc.1
    rw [p3] at h1
    cases h1
theorem part0 (E : Env) (hfs : ∀ b ∈ cut0.fs, @BE.val E b = true) (hphi : Phi 0 E) (htab : TabR (tabsOf pks 0) E) : ∃ ex : List BE, (∀ b ∈ ex, @BE.val E b = true) ∧ Owed E Phi (oweAt (tabsOf pks 0) ths [0] Try.prog Try.f4 (rootOf Try.f4) base7 (extraS Try.prog) cuts cut0 ex) :=
  ⟨[], Bk.nn, Owed.eq (@e0_0 E) (run0_0 E hfs hphi htab)⟩
theorem part1 (E : Env) (hfs : ∀ b ∈ cut1.fs, @BE.val E b = true) (hphi : Phi 1 E) (htab : TabR (tabsOf pks 0) E) : ∃ ex : List BE, (∀ b ∈ ex, @BE.val E b = true) ∧ Owed E Phi (oweAt (tabsOf pks 0) ths [0] Try.prog Try.f4 (rootOf Try.f4) base7 (extraS Try.prog) cuts cut1 ex) :=
  ⟨[], Bk.nn, Owed.eq (@e1_0 E) (run1_0 E hfs hphi htab)⟩
theorem part2 (E : Env) (hfs : ∀ b ∈ cut2.fs, @BE.val E b = true) (hphi : Phi 2 E) (htab : TabR (tabsOf pks 0) E) : ∃ ex : List BE, (∀ b ∈ ex, @BE.val E b = true) ∧ Owed E Phi (oweAt (tabsOf pks 0) ths [0] Try.prog Try.f4 (rootOf Try.f4) base7 (extraS Try.prog) cuts cut2 ex) :=
  ⟨[], Bk.nn, Owed.eq (@e2_0 E) (run2_0 E hfs hphi htab)⟩
theorem runsM (E : Env) (i : Nat) (k : Cut) (hi : cuts[i]? = some k) (hfs : ∀ b ∈ k.fs, @BE.val E b = true) (hphi : Phi i E) (htab : TabR (tabsOf pks 0) E) : ∃ ex : List BE, (∀ b ∈ ex, @BE.val E b = true) ∧ Owed E Phi (oweAt (tabsOf pks 0) ths [0] Try.prog Try.f4 (rootOf Try.f4) base7 (extraS Try.prog) cuts k ex) := by
  match i, hi with
  | 0, hi => obtain rfl : cut0 = k := Option.some.inj (show some cut0 = some k from hi); exact part0 E hfs hphi htab
  | 1, hi => obtain rfl : cut1 = k := Option.some.inj (show some cut1 = some k from hi); exact part1 E hfs hphi htab
  | 2, hi => obtain rfl : cut2 = k := Option.some.inj (show some cut2 = some k from hi); exact part2 E hfs hphi htab
  | n + 3, hi => exact absurd hi (by simp [cuts])
theorem startM (E : Env) (h1 : symRng E pks 0 0) : Owed E Phi (oweStart (tabsOf pks 0) ths [0] Try.prog Try.f4 (rootOf Try.f4) base7 (extraS Try.prog) cuts (rngFacts pks 0) (symArgs pks 0 0) (symHeap pks 0 0)) := Owed.eq (@eS E) True.intro
theorem trOk : ∀ i ∈ ([0] : List Nat), ∀ E, Phi i E := fun i hi E => by
  rcases List.mem_cons.1 hi with rfl | h
  · exact trivial
  · cases h
theorem bodyOk : Try.f4.body = some (rootOf Try.f4) := by kernel_rfl
theorem law (E : Env) (ρ : Rho) (F : Nat → Nat → Prop) (w : World) (argv : Array Value) (h1 : symRng E pks 0 0) (h2 : @HeapOk E Empty _ ρ F (symHeap pks 0 0) w) (h3 : All2 (@SV.is E ρ) (symArgs pks 0 0) argv.toList) :
    Calls Try.prog 4 argv w fun e w' => e = .returned (.bool true) ∧ ∃ ρ' F', Reach ρ F w ρ' F' w' :=
  floydM (ts := tabsOf pks 0) mixed_ok (c := @base7) @base7_ok (x := extraS Try.prog) (fun {_} => extraS_ok _) Try.func4 bodyOk ths_ok (tr := [0]) (Φ := Phi) trOk heads runsM E (tabsOf_ok E h1) (rngFacts_ok E h1) (startM E h1) h2 h3
end Go.Proofs.Ytalobhgefmhboaa.Sx.LGuardClears
