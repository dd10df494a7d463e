/-
  The law MemApart, run on unknowns, from one loop's head to the next.
-/
import Derived.Test.YtalobhgefmhboaaSxSh
import Derived.Test.YtalobhgefmhboaaSxY6
import Derived.Test.YtalobhgefmhboaaSxCel2
namespace Go.Proofs.Ytalobhgefmhboaa.Sx.LMemApart
open Go Go.Proofs.Ytalobhgefmhboaa.Sx
set_option linter.unusedSectionVars false
set_option linter.unusedVariables false
set_option linter.unusedSimpArgs false
set_option maxRecDepth 1000000

def pks : List PK := [cfgK, .sl [.int .u64]]
def I0 : SS Empty := (SS.mk [.unk, (.w (.one (.b (.isl 1 (.atom 7) (.atom 8))))), (.w (.one (.b (.ptr 131072 (.lit 0))))), .unk, (.w (.one (.b (.bool (.lit false))))), (.w (.one (.b (.ptr 2251902901288996 (.lit 0))))), .unk, (.w (.one (.b (.int .i64 (.atom 1000))))), .unk, .unk, (.tup []), (.tup []), (.tup []), (.tup []), .unk, .unk, .unk, .unk, .unk, .unk, .unk, .unk, .unk, .unk, .unk, .unk, .unk, .unk, .unk, .unk, .unk, .unk, (.w (.one (.b (.int .i64 (.atom 0))))), (.w (.one (.b (.int .i64 (.atom 1001))))), .unk, .unk, .unk, .unk, .unk, .unk, .unk, .unk, .unk, .unk, .unk, .unk, .unk, .unk, .unk, .unk, .unk, .unk, .unk, .unk, .unk, .unk, .unk, (.tup []), (.tup []), (.tup []), (.tup []), (.tup []), (.tup []), (.tup []), (.tup []), (.tup []), (.tup []), (.tup []), (.tup []), (.tup []), (.tup []), (.tup []), (.tup []), (.tup []), (.tup []), (.tup []), (.tup []), (.tup []), (.tup []), (.tup []), (.tup []), (.tup []), (.tup []), (.tup []), (.tup []), (.tup []), (.tup []), (.tup []), (.tup []), (.tup []), (.tup []), (.tup []), (.tup []), (.tup []), (.tup []), (.tup []), (.tup []), (.tup []), (.tup []), (.tup []), (.tup []), (.tup []), (.tup []), (.tup []), (.tup [])] [(1, (.tab [(.int .u64)] (.atom 7) (.atom 8) 0)), (131072, (.cells 23 [(.b (.int .i64 (.atom 0))), (.b (.int .i64 (.atom 1))), (.b (.int .i64 (.atom 2))), (.b (.int .i64 (.atom 3))), (.b (.int .i64 (.atom 4))), (.b (.int .i64 (.atom 5))), (.b (.int .i64 (.atom 6)))] 0)), (2251902901288996, (.cells 92 [(.b (.int .i64 (.atom 0))), (.b (.int .i64 (.atom 1))), (.b (.int .i64 (.atom 2))), (.b (.int .i64 (.atom 3))), (.b (.int .i64 (.atom 4))), (.b (.int .i64 (.atom 5))), (.b (.int .i64 (.atom 6))), (.b (.ptr 295161417077750759434 (.lit 0)))] 0)), (295161417077750759434, (.cells 117 [(.b (.sl 295161417077750759430 (.lit 0) (.len (.latom 1009)) (.len (.latom 1009)))), (.b (.int .i64 (.atom 1003))), (.b (.int .i64 (.atom 1004))), (.b (.int .i64 (.atom 1005))), (.b (.int .u64 (.lit 0))), (.b (.int .u64 (.atom 1006))), (.b (.int .u64 (.atom 1007))), (.b (.bool (.atom 1008)))] 0)), (295161417077750759430, (.row .u64 32 (.latom 1009)))] 24)
def F0 : List BE := [.cmp .leq (.lit 0) (.atom 1001), (.cmp .eql (.len (.latom 1009)) (.nat (.fn 2 cfgL))), (.cmp .eql (.nat (.atom 8)) (.atom 8)), (.cmp .leq (.nat (.atom 8)) (.lit 70)), (.cmp .leq (.lit 16) (.fn 2 cfgL)), (.cmp .leq (.fn 2 cfgL) (.lit 845)), (.cmp .eql (.nat (.fn 2 cfgL)) (.fn 2 cfgL)), (.cmp .leq (.lit 1) (.atom 0)), (.cmp .leq (.atom 0) (.lit 8)), (.cmp .leq (.lit 1) (.atom 1)), (.cmp .leq (.atom 1) (.lit 8)), (.cmp .leq (.lit 1) (.atom 2)), (.cmp .leq (.atom 2) (.lit 64)), (.cmp .leq (.lit 1) (.atom 3)), (.cmp .leq (.atom 3) (.lit 6)), (.cmp .leq (.lit 1) (.atom 4)), (.cmp .leq (.atom 4) (.lit 64)), (.cmp .leq (.lit 1) (.atom 5)), (.cmp .leq (.atom 5) (.lit 64)), (.cmp .leq (.lit 0) (.atom 6)), (.cmp .leq (.atom 6) (.lit 1073741823)), (.cmp .neq (.fn 1 cfgL) (.lit 0)), (.cmp .leq (.lit 0) (.atom 7)), (.cmp .leq (.lit 0) (.atom 8))]
def cut0 : Cut := ⟨[0, 1, 0, 1, 1, 1, 1], I0, F0, [((.lit 2), (.lit 0)), ((.atom 0), (.atom 1001))]⟩
def I1 : SS Empty := (SS.mk [.unk, (.w (.one (.b (.isl 1 (.atom 7) (.atom 8))))), (.w (.one (.b (.ptr 131072 (.lit 0))))), .unk, (.w (.one (.b (.bool (.lit false))))), (.w (.one (.b (.ptr 2251902901288996 (.lit 0))))), .unk, (.w (.one (.b (.int .i64 (.atom 1247))))), (.w (.one (.b (.int .i64 (.atom 1001))))), .unk, (.tup []), (.tup []), (.tup []), (.tup []), .unk, .unk, .unk, .unk, .unk, .unk, .unk, .unk, .unk, .unk, .unk, .unk, .unk, .unk, .unk, .unk, .unk, .unk, (.w (.one (.b (.int .i64 (.atom 0))))), (.w (.one (.b (.int .i64 (.atom 1001))))), (.w (.one (.b (.bool (.lit true))))), (.w (.one (.b (.int .i64 (.atom 1001))))), (.w (.one (.b (.ptr 131072 (.lit 1))))), (.w (.one (.b (.int .i64 (.atom 1))))), (.w (.one (.b (.int .i64 (.atom 1248))))), .unk, .unk, .unk, .unk, .unk, .unk, .unk, .unk, .unk, .unk, .unk, .unk, .unk, .unk, .unk, .unk, .unk, .unk, (.tup []), (.tup []), (.tup []), (.tup []), (.tup []), (.tup []), (.tup []), (.tup []), (.tup []), (.tup []), (.tup []), (.tup []), (.tup []), (.tup []), (.tup []), (.tup []), (.tup []), (.tup []), (.tup []), (.tup []), (.tup []), (.tup []), (.tup []), (.tup []), (.tup []), (.tup []), (.tup []), (.tup []), (.tup []), (.tup []), (.tup []), (.tup []), (.tup []), (.tup []), (.tup []), (.tup []), (.tup []), (.tup []), (.tup []), (.tup []), (.tup []), (.tup []), (.tup []), (.tup []), (.tup []), (.tup []), (.tup []), (.tup [])] [(1, (.tab [(.int .u64)] (.atom 7) (.atom 8) 0)), (131072, (.cells 23 [(.b (.int .i64 (.atom 0))), (.b (.int .i64 (.atom 1))), (.b (.int .i64 (.atom 2))), (.b (.int .i64 (.atom 3))), (.b (.int .i64 (.atom 4))), (.b (.int .i64 (.atom 5))), (.b (.int .i64 (.atom 6)))] 0)), (2251902901288996, (.cells 92 [(.b (.int .i64 (.atom 0))), (.b (.int .i64 (.atom 1))), (.b (.int .i64 (.atom 2))), (.b (.int .i64 (.atom 3))), (.b (.int .i64 (.atom 4))), (.b (.int .i64 (.atom 5))), (.b (.int .i64 (.atom 6))), (.b (.ptr 295161417077750759434 (.lit 0)))] 0)), (295161417077750759434, (.cells 117 [(.b (.sl 295161417077750759430 (.lit 0) (.len (.latom 1255)) (.len (.latom 1255)))), (.b (.int .i64 (.atom 1249))), (.b (.int .i64 (.atom 1250))), (.b (.int .i64 (.atom 1251))), (.b (.int .u64 (.lit 0))), (.b (.int .u64 (.atom 1252))), (.b (.int .u64 (.atom 1253))), (.b (.bool (.atom 1254)))] 0)), (295161417077750759430, (.row .u64 32 (.latom 1255)))] 30)
def F1 : List BE := [.cmp .leq (.lit 0) (.atom 1248), (.cmp .leq (.lit 0) (.atom 1001)), (.cmp .eql (.len (.latom 1255)) (.nat (.fn 2 cfgL))), (.cmp .lss (.atom 1001) (.atom 0)), (.cmp .eql (.nat (.atom 8)) (.atom 8)), (.cmp .leq (.nat (.atom 8)) (.lit 70)), (.cmp .leq (.lit 16) (.fn 2 cfgL)), (.cmp .leq (.fn 2 cfgL) (.lit 845)), (.cmp .eql (.nat (.fn 2 cfgL)) (.fn 2 cfgL)), (.cmp .leq (.lit 1) (.atom 0)), (.cmp .leq (.atom 0) (.lit 8)), (.cmp .leq (.lit 1) (.atom 1)), (.cmp .leq (.atom 1) (.lit 8)), (.cmp .leq (.lit 1) (.atom 2)), (.cmp .leq (.atom 2) (.lit 64)), (.cmp .leq (.lit 1) (.atom 3)), (.cmp .leq (.atom 3) (.lit 6)), (.cmp .leq (.lit 1) (.atom 4)), (.cmp .leq (.atom 4) (.lit 64)), (.cmp .leq (.lit 1) (.atom 5)), (.cmp .leq (.atom 5) (.lit 64)), (.cmp .leq (.lit 0) (.atom 6)), (.cmp .leq (.atom 6) (.lit 1073741823)), (.cmp .neq (.fn 1 cfgL) (.lit 0)), (.cmp .leq (.lit 0) (.atom 7)), (.cmp .leq (.lit 0) (.atom 8))]
def cut1 : Cut := ⟨[0, 1, 1, 0, 0, 1, 1, 0, 0, 1, 0, 1, 1, 1, 1], I1, F1, [((.lit 2), (.lit 0)), ((.atom 0), (.atom 1001)), ((.atom 1), (.atom 1248))]⟩
def I2 : SS Empty := (SS.mk [.unk, (.w (.one (.b (.isl 1 (.atom 7) (.atom 8))))), (.w (.one (.b (.ptr 131072 (.lit 0))))), .unk, (.w (.one (.b (.bool (.lit false))))), (.w (.one (.b (.ptr 2251902901288996 (.lit 0))))), .unk, (.w (.one (.b (.int .i64 (.atom 1400))))), .unk, .unk, .unk, .unk, .unk, (.tup []), .unk, .unk, .unk, .unk, .unk, .unk, .unk, .unk, .unk, .unk, .unk, .unk, .unk, .unk, .unk, .unk, .unk, .unk, .unk, .unk, .unk, .unk, .unk, .unk, .unk, .unk, .unk, .unk, .unk, .unk, .unk, .unk, .unk, .unk, .unk, .unk, .unk, .unk, .unk, .unk, .unk, .unk, .unk, .unk, (.w (.one (.b (.int .i64 (.atom 0))))), (.w (.one (.b (.int .i64 (.atom 1401))))), .unk, .unk, .unk, .unk, .unk, .unk, .unk, .unk, .unk, .unk, .unk, .unk, .unk, .unk, .unk, .unk, .unk, .unk, .unk, .unk, .unk, .unk, .unk, .unk, .unk, (.tup []), (.tup []), (.tup []), (.tup []), (.tup []), (.tup []), (.tup []), (.tup []), (.tup []), (.tup []), (.tup []), (.tup []), (.tup []), (.tup []), (.tup []), (.tup []), (.tup []), (.tup []), (.tup []), (.tup [])] [(1, (.tab [(.int .u64)] (.atom 7) (.atom 8) 0)), (131072, (.cells 23 [(.b (.int .i64 (.atom 0))), (.b (.int .i64 (.atom 1))), (.b (.int .i64 (.atom 2))), (.b (.int .i64 (.atom 3))), (.b (.int .i64 (.atom 4))), (.b (.int .i64 (.atom 5))), (.b (.int .i64 (.atom 6)))] 0)), (2251902901288996, (.cells 92 [(.b (.int .i64 (.atom 0))), (.b (.int .i64 (.atom 1))), (.b (.int .i64 (.atom 2))), (.b (.int .i64 (.atom 3))), (.b (.int .i64 (.atom 4))), (.b (.int .i64 (.atom 5))), (.b (.int .i64 (.atom 6))), (.b (.ptr 295161417077750759434 (.lit 0)))] 0)), (295161417077750759434, (.cells 117 [(.b (.sl 295161417077750759430 (.lit 0) (.len (.latom 1009)) (.len (.latom 1009)))), (.b (.int .i64 (.atom 1402))), (.b (.int .i64 (.atom 1403))), (.b (.int .i64 (.atom 1404))), (.b (.int .u64 (.lit 0))), (.b (.int .u64 (.atom 1405))), (.b (.int .u64 (.atom 1406))), (.b (.bool (.atom 1407)))] 0)), (295161417077750759430, (.row .u64 32 (.latom 1009)))] 29)
def F2 : List BE := [.cmp .leq (.lit 0) (.atom 1401), (.cmp .eql (.len (.latom 1009)) (.nat (.fn 2 cfgL))), (.cmp .leq (.atom 0) (.atom 1001)), (.cmp .eql (.nat (.atom 8)) (.atom 8)), (.cmp .leq (.nat (.atom 8)) (.lit 70)), (.cmp .leq (.lit 16) (.fn 2 cfgL)), (.cmp .leq (.fn 2 cfgL) (.lit 845)), (.cmp .eql (.nat (.fn 2 cfgL)) (.fn 2 cfgL)), (.cmp .leq (.lit 1) (.atom 0)), (.cmp .leq (.atom 0) (.lit 8)), (.cmp .leq (.lit 1) (.atom 1)), (.cmp .leq (.atom 1) (.lit 8)), (.cmp .leq (.lit 1) (.atom 2)), (.cmp .leq (.atom 2) (.lit 64)), (.cmp .leq (.lit 1) (.atom 3)), (.cmp .leq (.atom 3) (.lit 6)), (.cmp .leq (.lit 1) (.atom 4)), (.cmp .leq (.atom 4) (.lit 64)), (.cmp .leq (.lit 1) (.atom 5)), (.cmp .leq (.atom 5) (.lit 64)), (.cmp .leq (.lit 0) (.atom 6)), (.cmp .leq (.atom 6) (.lit 1073741823)), (.cmp .neq (.fn 1 cfgL) (.lit 0)), (.cmp .leq (.lit 0) (.atom 7)), (.cmp .leq (.lit 0) (.atom 8))]
def cut2 : Cut := ⟨[0, 1, 0, 1, 1, 1, 1, 1, 1], I2, F2, [((.lit 1), (.lit 0)), ((.atom 0), (.atom 1401))]⟩
def I3 : SS Empty := (SS.mk [.unk, (.w (.one (.b (.isl 1 (.atom 7) (.atom 8))))), (.w (.one (.b (.ptr 131072 (.lit 0))))), .unk, (.w (.one (.b (.bool (.lit false))))), (.w (.one (.b (.ptr 2251902901288996 (.lit 0))))), .unk, (.w (.one (.b (.int .i64 (.atom 1653))))), .unk, .unk, (.w (.one (.b (.int .i64 (.atom 1401))))), .unk, .unk, (.tup []), .unk, .unk, .unk, .unk, .unk, .unk, .unk, .unk, .unk, .unk, .unk, .unk, .unk, .unk, .unk, .unk, .unk, .unk, .unk, .unk, .unk, .unk, .unk, .unk, .unk, .unk, .unk, .unk, .unk, .unk, .unk, .unk, .unk, .unk, .unk, .unk, .unk, .unk, .unk, .unk, .unk, .unk, .unk, .unk, (.w (.one (.b (.int .i64 (.atom 0))))), (.w (.one (.b (.int .i64 (.atom 1401))))), (.w (.one (.b (.bool (.lit true))))), (.w (.one (.b (.int .i64 (.atom 1401))))), (.w (.one (.b (.ptr 131072 (.lit 1))))), (.w (.one (.b (.int .i64 (.atom 1))))), (.w (.one (.b (.int .i64 (.atom 1654))))), .unk, .unk, .unk, .unk, .unk, .unk, .unk, .unk, .unk, .unk, .unk, .unk, .unk, .unk, .unk, .unk, .unk, .unk, .unk, .unk, (.tup []), (.tup []), (.tup []), (.tup []), (.tup []), (.tup []), (.tup []), (.tup []), (.tup []), (.tup []), (.tup []), (.tup []), (.tup []), (.tup []), (.tup []), (.tup []), (.tup []), (.tup []), (.tup []), (.tup [])] [(1, (.tab [(.int .u64)] (.atom 7) (.atom 8) 0)), (131072, (.cells 23 [(.b (.int .i64 (.atom 0))), (.b (.int .i64 (.atom 1))), (.b (.int .i64 (.atom 2))), (.b (.int .i64 (.atom 3))), (.b (.int .i64 (.atom 4))), (.b (.int .i64 (.atom 5))), (.b (.int .i64 (.atom 6)))] 0)), (2251902901288996, (.cells 92 [(.b (.int .i64 (.atom 0))), (.b (.int .i64 (.atom 1))), (.b (.int .i64 (.atom 2))), (.b (.int .i64 (.atom 3))), (.b (.int .i64 (.atom 4))), (.b (.int .i64 (.atom 5))), (.b (.int .i64 (.atom 6))), (.b (.ptr 295161417077750759434 (.lit 0)))] 0)), (295161417077750759434, (.cells 117 [(.b (.sl 295161417077750759430 (.lit 0) (.len (.latom 1009)) (.len (.latom 1009)))), (.b (.int .i64 (.atom 1655))), (.b (.int .i64 (.atom 1656))), (.b (.int .i64 (.atom 1657))), (.b (.int .u64 (.lit 0))), (.b (.int .u64 (.atom 1658))), (.b (.int .u64 (.atom 1659))), (.b (.bool (.atom 1660)))] 0)), (295161417077750759430, (.row .u64 32 (.latom 1009)))] 35)
def F3 : List BE := [.cmp .leq (.lit 0) (.atom 1654), (.cmp .leq (.lit 0) (.atom 1401)), (.cmp .eql (.len (.latom 1009)) (.nat (.fn 2 cfgL))), (.cmp .lss (.atom 1401) (.atom 0)), (.cmp .leq (.atom 0) (.atom 1001)), (.cmp .eql (.nat (.atom 8)) (.atom 8)), (.cmp .leq (.nat (.atom 8)) (.lit 70)), (.cmp .leq (.lit 16) (.fn 2 cfgL)), (.cmp .leq (.fn 2 cfgL) (.lit 845)), (.cmp .eql (.nat (.fn 2 cfgL)) (.fn 2 cfgL)), (.cmp .leq (.lit 1) (.atom 0)), (.cmp .leq (.atom 0) (.lit 8)), (.cmp .leq (.lit 1) (.atom 1)), (.cmp .leq (.atom 1) (.lit 8)), (.cmp .leq (.lit 1) (.atom 2)), (.cmp .leq (.atom 2) (.lit 64)), (.cmp .leq (.lit 1) (.atom 3)), (.cmp .leq (.atom 3) (.lit 6)), (.cmp .leq (.lit 1) (.atom 4)), (.cmp .leq (.atom 4) (.lit 64)), (.cmp .leq (.lit 1) (.atom 5)), (.cmp .leq (.atom 5) (.lit 64)), (.cmp .leq (.lit 0) (.atom 6)), (.cmp .leq (.atom 6) (.lit 1073741823)), (.cmp .neq (.fn 1 cfgL) (.lit 0)), (.cmp .leq (.lit 0) (.atom 7)), (.cmp .leq (.lit 0) (.atom 8))]
def cut3 : Cut := ⟨[0, 1, 1, 0, 0, 1, 1, 0, 0, 1, 0, 1, 1, 1, 1, 1, 1], I3, F3, [((.lit 1), (.lit 0)), ((.atom 0), (.atom 1401)), ((.atom 1), (.atom 1654))]⟩
def cuts : List Cut := [cut0, cut1, cut2, cut3]
def ths : Ths := []
theorem ths_ok : ThsOk ths := fun E t h _ => by cases h
theorem heads : (cuts.all fun k => isLoop (subAt (rootOf Try.f9) k.p) && Nat.ble k.ms.length 9) = true := by kernel_rfl
def obS : List Ob := [(.at_ 0 [(1008, (.lit 0)), (1007, (.lit 0)), (1006, (.lit 0)), (1005, (.lit 0)), (1004, (.lit 0)), (1003, (.lit 0)), (1001, (.lit 0)), (1000, (.lit 0))] [(1009, (.putL (.putL (.putL (.rep (.fn 2 cfgL) 1) (.lit 0) (.consL (.lit 1) .nilL)) (.at_ (.lit 0) (.fn 4 (.consL (.atom 0) (.consL (.atom 1) (.consL (.atom 2) (.consL (.atom 3) (.consL (.atom 4) (.consL (.atom 5) (.consL (.atom 6) (.consL (.lit 0) (.consL (.lit 0) .nilL)))))))))) 1 0) (.consL (.lit 1) .nilL)) (.at_ (.lit 0) (.fn 4 (.consL (.atom 0) (.consL (.atom 1) (.consL (.atom 2) (.consL (.atom 3) (.consL (.atom 4) (.consL (.atom 5) (.consL (.atom 6) (.consL (.lit 0) (.consL (.lit 4) .nilL)))))))))) 1 0) (.consL (.conv .u64 (.atom 3)) .nilL)))] [(.not (.cmp .gtr (.nat (.atom 8)) (.lit 70))), (.cmp .eql (.nat (.fn 2 cfgL)) (.fn 2 cfgL)), (.cmp .neq (.fn 1 cfgL) (.lit 0))])]
theorem eS [Env] : oweStart (tabsOf pks 0) ths [] Try.prog Try.f9 (rootOf Try.f9) base7 (extraS Try.prog) cuts (rngFacts pks 0) (symArgs pks 0 0) (symHeap pks 0 0) = obS := by kernel_rfl
def ob0_0 : List Ob := [(.at_ 1 [(1254, (.cmpI .neq (.atom 1008) (.lit 0))), (1253, (.atom 1007)), (1252, (.atom 1006)), (1251, (.atom 1005)), (1250, (.atom 1004)), (1249, (.atom 1003)), (1248, (.lit 0)), (1001, (.atom 1001)), (1247, (.atom 1000))] [(1255, (.latom 1009))] [(.cmp .lss (.atom 1001) (.atom 0))]), (.at_ 2 [(1407, (.cmpI .neq (.atom 1008) (.lit 0))), (1406, (.atom 1007)), (1405, (.atom 1006)), (1404, (.atom 1005)), (1403, (.atom 1004)), (1402, (.atom 1003)), (1401, (.lit 0)), (1400, (.lit 0))] [(1009, (.latom 1009))] [(.cmp .leq (.atom 0) (.atom 1001))])]
theorem e0_0 [Env] : oweAt (tabsOf pks 0) ths [] Try.prog Try.f9 (rootOf Try.f9) base7 (extraS Try.prog) cuts cut0 [] = ob0_0 := by kernel_rfl
def ob1_0 : List Ob := [(.at_ 1 [(1254, (.cmpI .neq (.fn 12 (.consL (.fn 3 (.consL (.atom 0) (.consL (.atom 1) (.consL (.atom 2) (.consL (.atom 3) (.consL (.atom 4) (.consL (.atom 5) (.consL (.atom 6) (.consL (.atom 1001) (.consL (.atom 1248) .nilL)))))))))) (.latom 1255))) (.lit 0))), (1253, (.fn 14 (.consL (.tab 0 (.atom 1247) 0) (.consL (.fn 3 (.consL (.atom 0) (.consL (.atom 1) (.consL (.atom 2) (.consL (.atom 3) (.consL (.atom 4) (.consL (.atom 5) (.consL (.atom 6) (.consL (.atom 1001) (.consL (.atom 1248) .nilL)))))))))) (.latom 1255))))), (1252, (.fn 10 (.consL (.fn 3 (.consL (.atom 0) (.consL (.atom 1) (.consL (.atom 2) (.consL (.atom 3) (.consL (.atom 4) (.consL (.atom 5) (.consL (.atom 6) (.consL (.atom 1001) (.consL (.atom 1248) .nilL)))))))))) (.latom 1255)))), (1251, (.fn 3 (.consL (.atom 0) (.consL (.atom 1) (.consL (.atom 2) (.consL (.atom 3) (.consL (.atom 4) (.consL (.atom 5) (.consL (.atom 6) (.consL (.atom 1001) (.consL (.atom 1248) .nilL))))))))))), (1250, (.lit 2)), (1249, (.op .add .i64 (.atom 1249) (.lit 1))), (1248, (.op .add .i64 (.atom 1248) (.lit 1))), (1001, (.atom 1001)), (1247, (.op .add .i64 (.atom 1247) (.lit 1)))] [(1255, (.putL (.latom 1255) (.fn 13 (.consL (.fn 3 (.consL (.atom 0) (.consL (.atom 1) (.consL (.atom 2) (.consL (.atom 3) (.consL (.atom 4) (.consL (.atom 5) (.consL (.atom 6) (.consL (.atom 1001) (.consL (.atom 1248) .nilL)))))))))) (.latom 1255))) (.consL (.tab 0 (.atom 1247) 0) .nilL)))] [(.and (.cmp .eql (.nat (.atom 7)) (.nat (.atom 7))) (.cmp .lss (.nat (.atom 1247)) (.nat (.atom 8)))), (.cmp .lss (.atom 1247) (.nat (.atom 8))), (.cmp .geq (.atom 1247) (.lit 0)), (.cmp .lss (.atom 1247) (.nat (.atom 8))), (.cmp .lss (.atom 1248) (.atom 1))]), (.bad 42 [(.not (.cmp .geq (.atom 1247) (.lit 0))), (.cmp .lss (.atom 1247) (.nat (.atom 8))), (.cmp .lss (.atom 1248) (.atom 1))]), (.at_ 1 [(1254, (.cmpI .neq (.atom 1254) (.lit 0))), (1253, (.atom 1253)), (1252, (.atom 1252)), (1251, (.atom 1251)), (1250, (.atom 1250)), (1249, (.atom 1249)), (1248, (.op .add .i64 (.atom 1248) (.lit 1))), (1001, (.atom 1001)), (1247, (.op .add .i64 (.atom 1247) (.lit 1)))] [(1255, (.latom 1255))] [(.cmp .leq (.nat (.atom 8)) (.atom 1247)), (.cmp .lss (.atom 1248) (.atom 1))]), (.at_ 0 [(1008, (.cmpI .neq (.atom 1254) (.lit 0))), (1007, (.atom 1253)), (1006, (.atom 1252)), (1005, (.atom 1251)), (1004, (.atom 1250)), (1003, (.atom 1249)), (1001, (.op .add .i64 (.atom 1001) (.lit 1))), (1000, (.atom 1247))] [(1009, (.latom 1255))] [(.cmp .leq (.atom 1) (.atom 1248))])]
theorem e1_0 [Env] : oweAt (tabsOf pks 0) ths [] Try.prog Try.f9 (rootOf Try.f9) base7 (extraS Try.prog) cuts cut1 [] = ob1_0 := by kernel_rfl
def ob2_0 : List Ob := [(.at_ 3 [(1660, (.cmpI .neq (.atom 1407) (.lit 0))), (1659, (.atom 1406)), (1658, (.atom 1405)), (1657, (.atom 1404)), (1656, (.atom 1403)), (1655, (.atom 1402)), (1654, (.lit 0)), (1401, (.atom 1401)), (1653, (.atom 1400))] [(1009, (.latom 1009))] [(.cmp .lss (.atom 1401) (.atom 0))]), (.need (.cmp .eql (.fn 10 (.consL (.lit 0) (.putL (.latom 1009) (.fn 13 (.consL (.lit 0) (.latom 1009))) (.consL (.fn 17 (.consL (.lit 1) (.consL (.lit 0) (.latom 1009)))) .nilL)))) (.op .add .u64 (.fn 10 (.consL (.lit 0) (.latom 1009))) (.lit 1))) [(.cmp .eql (.fn 10 (.consL (.lit 0) (.latom 1009))) (.lit 1)), (.cmp .leq (.atom 0) (.atom 1401))]), (.need (.lit false) [(.cmp .neq (.fn 10 (.consL (.lit 0) (.latom 1009))) (.lit 1)), (.cmp .leq (.atom 0) (.atom 1401))])]
theorem e2_0 [Env] : oweAt (tabsOf pks 0) ths [] Try.prog Try.f9 (rootOf Try.f9) base7 (extraS Try.prog) cuts cut2 [] = ob2_0 := by kernel_rfl
def ob3_0 : List Ob := [(.need (.lit false) [(.cmp .neq (.fn 10 (.consL (.fn 3 (.consL (.atom 0) (.consL (.atom 1) (.consL (.atom 2) (.consL (.atom 3) (.consL (.atom 4) (.consL (.atom 5) (.consL (.atom 6) (.consL (.atom 1401) (.consL (.atom 1654) .nilL)))))))))) (.latom 1009))) (.tab 0 (.atom 1653) 0)), (.and (.cmp .eql (.nat (.atom 7)) (.nat (.atom 7))) (.cmp .lss (.nat (.atom 1653)) (.nat (.atom 8)))), (.cmp .lss (.atom 1653) (.nat (.atom 8))), (.cmp .geq (.atom 1653) (.lit 0)), (.cmp .lss (.atom 1653) (.nat (.atom 8))), (.cmp .lss (.atom 1654) (.atom 1))]), (.at_ 3 [(1660, (.cmpI .neq (.fn 12 (.consL (.fn 3 (.consL (.atom 0) (.consL (.atom 1) (.consL (.atom 2) (.consL (.atom 3) (.consL (.atom 4) (.consL (.atom 5) (.consL (.atom 6) (.consL (.atom 1401) (.consL (.atom 1654) .nilL)))))))))) (.latom 1009))) (.lit 0))), (1659, (.fn 10 (.consL (.fn 3 (.consL (.atom 0) (.consL (.atom 1) (.consL (.atom 2) (.consL (.atom 3) (.consL (.atom 4) (.consL (.atom 5) (.consL (.atom 6) (.consL (.atom 1401) (.consL (.atom 1654) .nilL)))))))))) (.latom 1009)))), (1658, (.fn 10 (.consL (.fn 3 (.consL (.atom 0) (.consL (.atom 1) (.consL (.atom 2) (.consL (.atom 3) (.consL (.atom 4) (.consL (.atom 5) (.consL (.atom 6) (.consL (.atom 1401) (.consL (.atom 1654) .nilL)))))))))) (.latom 1009)))), (1657, (.fn 3 (.consL (.atom 0) (.consL (.atom 1) (.consL (.atom 2) (.consL (.atom 3) (.consL (.atom 4) (.consL (.atom 5) (.consL (.atom 6) (.consL (.atom 1401) (.consL (.atom 1654) .nilL))))))))))), (1656, (.lit 1)), (1655, (.op .add .i64 (.atom 1655) (.lit 1))), (1654, (.op .add .i64 (.atom 1654) (.lit 1))), (1401, (.atom 1401)), (1653, (.op .add .i64 (.atom 1653) (.lit 1)))] [(1009, (.latom 1009))] [(.cmp .eql (.fn 10 (.consL (.fn 3 (.consL (.atom 0) (.consL (.atom 1) (.consL (.atom 2) (.consL (.atom 3) (.consL (.atom 4) (.consL (.atom 5) (.consL (.atom 6) (.consL (.atom 1401) (.consL (.atom 1654) .nilL)))))))))) (.latom 1009))) (.tab 0 (.atom 1653) 0)), (.and (.cmp .eql (.nat (.atom 7)) (.nat (.atom 7))) (.cmp .lss (.nat (.atom 1653)) (.nat (.atom 8)))), (.cmp .lss (.atom 1653) (.nat (.atom 8))), (.cmp .geq (.atom 1653) (.lit 0)), (.cmp .lss (.atom 1653) (.nat (.atom 8))), (.cmp .lss (.atom 1654) (.atom 1))]), (.bad 42 [(.not (.cmp .geq (.atom 1653) (.lit 0))), (.cmp .lss (.atom 1653) (.nat (.atom 8))), (.cmp .lss (.atom 1654) (.atom 1))]), (.need (.lit false) [(.cmp .neq (.fn 10 (.consL (.fn 3 (.consL (.atom 0) (.consL (.atom 1) (.consL (.atom 2) (.consL (.atom 3) (.consL (.atom 4) (.consL (.atom 5) (.consL (.atom 6) (.consL (.atom 1401) (.consL (.atom 1654) .nilL)))))))))) (.latom 1009))) (.lit 0)), (.cmp .leq (.nat (.atom 8)) (.atom 1653)), (.cmp .lss (.atom 1654) (.atom 1))]), (.at_ 3 [(1660, (.cmpI .neq (.fn 12 (.consL (.fn 3 (.consL (.atom 0) (.consL (.atom 1) (.consL (.atom 2) (.consL (.atom 3) (.consL (.atom 4) (.consL (.atom 5) (.consL (.atom 6) (.consL (.atom 1401) (.consL (.atom 1654) .nilL)))))))))) (.latom 1009))) (.lit 0))), (1659, (.fn 10 (.consL (.fn 3 (.consL (.atom 0) (.consL (.atom 1) (.consL (.atom 2) (.consL (.atom 3) (.consL (.atom 4) (.consL (.atom 5) (.consL (.atom 6) (.consL (.atom 1401) (.consL (.atom 1654) .nilL)))))))))) (.latom 1009)))), (1658, (.fn 10 (.consL (.fn 3 (.consL (.atom 0) (.consL (.atom 1) (.consL (.atom 2) (.consL (.atom 3) (.consL (.atom 4) (.consL (.atom 5) (.consL (.atom 6) (.consL (.atom 1401) (.consL (.atom 1654) .nilL)))))))))) (.latom 1009)))), (1657, (.fn 3 (.consL (.atom 0) (.consL (.atom 1) (.consL (.atom 2) (.consL (.atom 3) (.consL (.atom 4) (.consL (.atom 5) (.consL (.atom 6) (.consL (.atom 1401) (.consL (.atom 1654) .nilL))))))))))), (1656, (.lit 1)), (1655, (.op .add .i64 (.atom 1655) (.lit 1))), (1654, (.op .add .i64 (.atom 1654) (.lit 1))), (1401, (.atom 1401)), (1653, (.op .add .i64 (.atom 1653) (.lit 1)))] [(1009, (.latom 1009))] [(.cmp .eql (.fn 10 (.consL (.fn 3 (.consL (.atom 0) (.consL (.atom 1) (.consL (.atom 2) (.consL (.atom 3) (.consL (.atom 4) (.consL (.atom 5) (.consL (.atom 6) (.consL (.atom 1401) (.consL (.atom 1654) .nilL)))))))))) (.latom 1009))) (.lit 0)), (.cmp .leq (.nat (.atom 8)) (.atom 1653)), (.cmp .lss (.atom 1654) (.atom 1))]), (.at_ 2 [(1407, (.cmpI .neq (.atom 1660) (.lit 0))), (1406, (.atom 1659)), (1405, (.atom 1658)), (1404, (.atom 1657)), (1403, (.atom 1656)), (1402, (.atom 1655)), (1401, (.op .add .i64 (.atom 1401) (.lit 1))), (1400, (.atom 1653))] [(1009, (.latom 1009))] [(.cmp .leq (.atom 1) (.atom 1654))])]
theorem e3_0 [Env] : oweAt (tabsOf pks 0) ths [] Try.prog Try.f9 (rootOf Try.f9) base7 (extraS Try.prog) cuts cut3 [] = ob3_0 := by kernel_rfl
theorem f0_0 (E : Env) (h : ∀ b ∈ cut0.fs, @BE.val E b = true) : @BE.val E (.cmp .leq (.lit 0) (.atom 1001)) = true := h _ (List.mem_of_getElem? (i := 0) rfl)
theorem f0_1 (E : Env) (h : ∀ b ∈ cut0.fs, @BE.val E b = true) : @BE.val E ((.cmp .eql (.len (.latom 1009)) (.nat (.fn 2 cfgL)))) = true := h _ (List.mem_of_getElem? (i := 1) rfl)
theorem f0_2 (E : Env) (h : ∀ b ∈ cut0.fs, @BE.val E b = true) : @BE.val E ((.cmp .eql (.nat (.atom 8)) (.atom 8))) = true := h _ (List.mem_of_getElem? (i := 2) rfl)
theorem f0_3 (E : Env) (h : ∀ b ∈ cut0.fs, @BE.val E b = true) : @BE.val E ((.cmp .leq (.nat (.atom 8)) (.lit 70))) = true := h _ (List.mem_of_getElem? (i := 3) rfl)
theorem f0_4 (E : Env) (h : ∀ b ∈ cut0.fs, @BE.val E b = true) : @BE.val E ((.cmp .leq (.lit 16) (.fn 2 cfgL))) = true := h _ (List.mem_of_getElem? (i := 4) rfl)
theorem f0_5 (E : Env) (h : ∀ b ∈ cut0.fs, @BE.val E b = true) : @BE.val E ((.cmp .leq (.fn 2 cfgL) (.lit 845))) = true := h _ (List.mem_of_getElem? (i := 5) rfl)
theorem f0_6 (E : Env) (h : ∀ b ∈ cut0.fs, @BE.val E b = true) : @BE.val E ((.cmp .eql (.nat (.fn 2 cfgL)) (.fn 2 cfgL))) = true := h _ (List.mem_of_getElem? (i := 6) rfl)
theorem f0_7 (E : Env) (h : ∀ b ∈ cut0.fs, @BE.val E b = true) : @BE.val E ((.cmp .leq (.lit 1) (.atom 0))) = true := h _ (List.mem_of_getElem? (i := 7) rfl)
theorem f0_8 (E : Env) (h : ∀ b ∈ cut0.fs, @BE.val E b = true) : @BE.val E ((.cmp .leq (.atom 0) (.lit 8))) = true := h _ (List.mem_of_getElem? (i := 8) rfl)
theorem f0_9 (E : Env) (h : ∀ b ∈ cut0.fs, @BE.val E b = true) : @BE.val E ((.cmp .leq (.lit 1) (.atom 1))) = true := h _ (List.mem_of_getElem? (i := 9) rfl)
theorem f0_10 (E : Env) (h : ∀ b ∈ cut0.fs, @BE.val E b = true) : @BE.val E ((.cmp .leq (.atom 1) (.lit 8))) = true := h _ (List.mem_of_getElem? (i := 10) rfl)
theorem f0_11 (E : Env) (h : ∀ b ∈ cut0.fs, @BE.val E b = true) : @BE.val E ((.cmp .leq (.lit 1) (.atom 2))) = true := h _ (List.mem_of_getElem? (i := 11) rfl)
theorem f0_12 (E : Env) (h : ∀ b ∈ cut0.fs, @BE.val E b = true) : @BE.val E ((.cmp .leq (.atom 2) (.lit 64))) = true := h _ (List.mem_of_getElem? (i := 12) rfl)
theorem f0_13 (E : Env) (h : ∀ b ∈ cut0.fs, @BE.val E b = true) : @BE.val E ((.cmp .leq (.lit 1) (.atom 3))) = true := h _ (List.mem_of_getElem? (i := 13) rfl)
theorem f0_14 (E : Env) (h : ∀ b ∈ cut0.fs, @BE.val E b = true) : @BE.val E ((.cmp .leq (.atom 3) (.lit 6))) = true := h _ (List.mem_of_getElem? (i := 14) rfl)
theorem f0_15 (E : Env) (h : ∀ b ∈ cut0.fs, @BE.val E b = true) : @BE.val E ((.cmp .leq (.lit 1) (.atom 4))) = true := h _ (List.mem_of_getElem? (i := 15) rfl)
theorem f0_16 (E : Env) (h : ∀ b ∈ cut0.fs, @BE.val E b = true) : @BE.val E ((.cmp .leq (.atom 4) (.lit 64))) = true := h _ (List.mem_of_getElem? (i := 16) rfl)
theorem f0_17 (E : Env) (h : ∀ b ∈ cut0.fs, @BE.val E b = true) : @BE.val E ((.cmp .leq (.lit 1) (.atom 5))) = true := h _ (List.mem_of_getElem? (i := 17) rfl)
theorem f0_18 (E : Env) (h : ∀ b ∈ cut0.fs, @BE.val E b = true) : @BE.val E ((.cmp .leq (.atom 5) (.lit 64))) = true := h _ (List.mem_of_getElem? (i := 18) rfl)
theorem f0_19 (E : Env) (h : ∀ b ∈ cut0.fs, @BE.val E b = true) : @BE.val E ((.cmp .leq (.lit 0) (.atom 6))) = true := h _ (List.mem_of_getElem? (i := 19) rfl)
theorem f0_20 (E : Env) (h : ∀ b ∈ cut0.fs, @BE.val E b = true) : @BE.val E ((.cmp .leq (.atom 6) (.lit 1073741823))) = true := h _ (List.mem_of_getElem? (i := 20) rfl)
theorem f0_21 (E : Env) (h : ∀ b ∈ cut0.fs, @BE.val E b = true) : @BE.val E ((.cmp .neq (.fn 1 cfgL) (.lit 0))) = true := h _ (List.mem_of_getElem? (i := 21) rfl)
theorem f0_22 (E : Env) (h : ∀ b ∈ cut0.fs, @BE.val E b = true) : @BE.val E ((.cmp .leq (.lit 0) (.atom 7))) = true := h _ (List.mem_of_getElem? (i := 22) rfl)
theorem f0_23 (E : Env) (h : ∀ b ∈ cut0.fs, @BE.val E b = true) : @BE.val E ((.cmp .leq (.lit 0) (.atom 8))) = true := h _ (List.mem_of_getElem? (i := 23) rfl)
theorem f1_0 (E : Env) (h : ∀ b ∈ cut1.fs, @BE.val E b = true) : @BE.val E (.cmp .leq (.lit 0) (.atom 1248)) = true := h _ (List.mem_of_getElem? (i := 0) rfl)
theorem f1_1 (E : Env) (h : ∀ b ∈ cut1.fs, @BE.val E b = true) : @BE.val E ((.cmp .leq (.lit 0) (.atom 1001))) = true := h _ (List.mem_of_getElem? (i := 1) rfl)
theorem f1_2 (E : Env) (h : ∀ b ∈ cut1.fs, @BE.val E b = true) : @BE.val E ((.cmp .eql (.len (.latom 1255)) (.nat (.fn 2 cfgL)))) = true := h _ (List.mem_of_getElem? (i := 2) rfl)
theorem f1_3 (E : Env) (h : ∀ b ∈ cut1.fs, @BE.val E b = true) : @BE.val E ((.cmp .lss (.atom 1001) (.atom 0))) = true := h _ (List.mem_of_getElem? (i := 3) rfl)
theorem f1_4 (E : Env) (h : ∀ b ∈ cut1.fs, @BE.val E b = true) : @BE.val E ((.cmp .eql (.nat (.atom 8)) (.atom 8))) = true := h _ (List.mem_of_getElem? (i := 4) rfl)
theorem f1_5 (E : Env) (h : ∀ b ∈ cut1.fs, @BE.val E b = true) : @BE.val E ((.cmp .leq (.nat (.atom 8)) (.lit 70))) = true := h _ (List.mem_of_getElem? (i := 5) rfl)
theorem f1_6 (E : Env) (h : ∀ b ∈ cut1.fs, @BE.val E b = true) : @BE.val E ((.cmp .leq (.lit 16) (.fn 2 cfgL))) = true := h _ (List.mem_of_getElem? (i := 6) rfl)
theorem f1_7 (E : Env) (h : ∀ b ∈ cut1.fs, @BE.val E b = true) : @BE.val E ((.cmp .leq (.fn 2 cfgL) (.lit 845))) = true := h _ (List.mem_of_getElem? (i := 7) rfl)
theorem f1_8 (E : Env) (h : ∀ b ∈ cut1.fs, @BE.val E b = true) : @BE.val E ((.cmp .eql (.nat (.fn 2 cfgL)) (.fn 2 cfgL))) = true := h _ (List.mem_of_getElem? (i := 8) rfl)
theorem f1_9 (E : Env) (h : ∀ b ∈ cut1.fs, @BE.val E b = true) : @BE.val E ((.cmp .leq (.lit 1) (.atom 0))) = true := h _ (List.mem_of_getElem? (i := 9) rfl)
theorem f1_10 (E : Env) (h : ∀ b ∈ cut1.fs, @BE.val E b = true) : @BE.val E ((.cmp .leq (.atom 0) (.lit 8))) = true := h _ (List.mem_of_getElem? (i := 10) rfl)
theorem f1_11 (E : Env) (h : ∀ b ∈ cut1.fs, @BE.val E b = true) : @BE.val E ((.cmp .leq (.lit 1) (.atom 1))) = true := h _ (List.mem_of_getElem? (i := 11) rfl)
theorem f1_12 (E : Env) (h : ∀ b ∈ cut1.fs, @BE.val E b = true) : @BE.val E ((.cmp .leq (.atom 1) (.lit 8))) = true := h _ (List.mem_of_getElem? (i := 12) rfl)
theorem f1_13 (E : Env) (h : ∀ b ∈ cut1.fs, @BE.val E b = true) : @BE.val E ((.cmp .leq (.lit 1) (.atom 2))) = true := h _ (List.mem_of_getElem? (i := 13) rfl)
theorem f1_14 (E : Env) (h : ∀ b ∈ cut1.fs, @BE.val E b = true) : @BE.val E ((.cmp .leq (.atom 2) (.lit 64))) = true := h _ (List.mem_of_getElem? (i := 14) rfl)
theorem f1_15 (E : Env) (h : ∀ b ∈ cut1.fs, @BE.val E b = true) : @BE.val E ((.cmp .leq (.lit 1) (.atom 3))) = true := h _ (List.mem_of_getElem? (i := 15) rfl)
theorem f1_16 (E : Env) (h : ∀ b ∈ cut1.fs, @BE.val E b = true) : @BE.val E ((.cmp .leq (.atom 3) (.lit 6))) = true := h _ (List.mem_of_getElem? (i := 16) rfl)
theorem f1_17 (E : Env) (h : ∀ b ∈ cut1.fs, @BE.val E b = true) : @BE.val E ((.cmp .leq (.lit 1) (.atom 4))) = true := h _ (List.mem_of_getElem? (i := 17) rfl)
theorem f1_18 (E : Env) (h : ∀ b ∈ cut1.fs, @BE.val E b = true) : @BE.val E ((.cmp .leq (.atom 4) (.lit 64))) = true := h _ (List.mem_of_getElem? (i := 18) rfl)
theorem f1_19 (E : Env) (h : ∀ b ∈ cut1.fs, @BE.val E b = true) : @BE.val E ((.cmp .leq (.lit 1) (.atom 5))) = true := h _ (List.mem_of_getElem? (i := 19) rfl)
theorem f1_20 (E : Env) (h : ∀ b ∈ cut1.fs, @BE.val E b = true) : @BE.val E ((.cmp .leq (.atom 5) (.lit 64))) = true := h _ (List.mem_of_getElem? (i := 20) rfl)
theorem f1_21 (E : Env) (h : ∀ b ∈ cut1.fs, @BE.val E b = true) : @BE.val E ((.cmp .leq (.lit 0) (.atom 6))) = true := h _ (List.mem_of_getElem? (i := 21) rfl)
theorem f1_22 (E : Env) (h : ∀ b ∈ cut1.fs, @BE.val E b = true) : @BE.val E ((.cmp .leq (.atom 6) (.lit 1073741823))) = true := h _ (List.mem_of_getElem? (i := 22) rfl)
theorem f1_23 (E : Env) (h : ∀ b ∈ cut1.fs, @BE.val E b = true) : @BE.val E ((.cmp .neq (.fn 1 cfgL) (.lit 0))) = true := h _ (List.mem_of_getElem? (i := 23) rfl)
theorem f1_24 (E : Env) (h : ∀ b ∈ cut1.fs, @BE.val E b = true) : @BE.val E ((.cmp .leq (.lit 0) (.atom 7))) = true := h _ (List.mem_of_getElem? (i := 24) rfl)
theorem f1_25 (E : Env) (h : ∀ b ∈ cut1.fs, @BE.val E b = true) : @BE.val E ((.cmp .leq (.lit 0) (.atom 8))) = true := h _ (List.mem_of_getElem? (i := 25) rfl)
theorem f2_0 (E : Env) (h : ∀ b ∈ cut2.fs, @BE.val E b = true) : @BE.val E (.cmp .leq (.lit 0) (.atom 1401)) = true := h _ (List.mem_of_getElem? (i := 0) rfl)
theorem f2_1 (E : Env) (h : ∀ b ∈ cut2.fs, @BE.val E b = true) : @BE.val E ((.cmp .eql (.len (.latom 1009)) (.nat (.fn 2 cfgL)))) = true := h _ (List.mem_of_getElem? (i := 1) rfl)
theorem f2_2 (E : Env) (h : ∀ b ∈ cut2.fs, @BE.val E b = true) : @BE.val E ((.cmp .leq (.atom 0) (.atom 1001))) = true := h _ (List.mem_of_getElem? (i := 2) rfl)
theorem f2_3 (E : Env) (h : ∀ b ∈ cut2.fs, @BE.val E b = true) : @BE.val E ((.cmp .eql (.nat (.atom 8)) (.atom 8))) = true := h _ (List.mem_of_getElem? (i := 3) rfl)
theorem f2_4 (E : Env) (h : ∀ b ∈ cut2.fs, @BE.val E b = true) : @BE.val E ((.cmp .leq (.nat (.atom 8)) (.lit 70))) = true := h _ (List.mem_of_getElem? (i := 4) rfl)
theorem f2_5 (E : Env) (h : ∀ b ∈ cut2.fs, @BE.val E b = true) : @BE.val E ((.cmp .leq (.lit 16) (.fn 2 cfgL))) = true := h _ (List.mem_of_getElem? (i := 5) rfl)
theorem f2_6 (E : Env) (h : ∀ b ∈ cut2.fs, @BE.val E b = true) : @BE.val E ((.cmp .leq (.fn 2 cfgL) (.lit 845))) = true := h _ (List.mem_of_getElem? (i := 6) rfl)
theorem f2_7 (E : Env) (h : ∀ b ∈ cut2.fs, @BE.val E b = true) : @BE.val E ((.cmp .eql (.nat (.fn 2 cfgL)) (.fn 2 cfgL))) = true := h _ (List.mem_of_getElem? (i := 7) rfl)
theorem f2_8 (E : Env) (h : ∀ b ∈ cut2.fs, @BE.val E b = true) : @BE.val E ((.cmp .leq (.lit 1) (.atom 0))) = true := h _ (List.mem_of_getElem? (i := 8) rfl)
theorem f2_9 (E : Env) (h : ∀ b ∈ cut2.fs, @BE.val E b = true) : @BE.val E ((.cmp .leq (.atom 0) (.lit 8))) = true := h _ (List.mem_of_getElem? (i := 9) rfl)
theorem f2_10 (E : Env) (h : ∀ b ∈ cut2.fs, @BE.val E b = true) : @BE.val E ((.cmp .leq (.lit 1) (.atom 1))) = true := h _ (List.mem_of_getElem? (i := 10) rfl)
theorem f2_11 (E : Env) (h : ∀ b ∈ cut2.fs, @BE.val E b = true) : @BE.val E ((.cmp .leq (.atom 1) (.lit 8))) = true := h _ (List.mem_of_getElem? (i := 11) rfl)
theorem f2_12 (E : Env) (h : ∀ b ∈ cut2.fs, @BE.val E b = true) : @BE.val E ((.cmp .leq (.lit 1) (.atom 2))) = true := h _ (List.mem_of_getElem? (i := 12) rfl)
theorem f2_13 (E : Env) (h : ∀ b ∈ cut2.fs, @BE.val E b = true) : @BE.val E ((.cmp .leq (.atom 2) (.lit 64))) = true := h _ (List.mem_of_getElem? (i := 13) rfl)
theorem f2_14 (E : Env) (h : ∀ b ∈ cut2.fs, @BE.val E b = true) : @BE.val E ((.cmp .leq (.lit 1) (.atom 3))) = true := h _ (List.mem_of_getElem? (i := 14) rfl)
theorem f2_15 (E : Env) (h : ∀ b ∈ cut2.fs, @BE.val E b = true) : @BE.val E ((.cmp .leq (.atom 3) (.lit 6))) = true := h _ (List.mem_of_getElem? (i := 15) rfl)
theorem f2_16 (E : Env) (h : ∀ b ∈ cut2.fs, @BE.val E b = true) : @BE.val E ((.cmp .leq (.lit 1) (.atom 4))) = true := h _ (List.mem_of_getElem? (i := 16) rfl)
theorem f2_17 (E : Env) (h : ∀ b ∈ cut2.fs, @BE.val E b = true) : @BE.val E ((.cmp .leq (.atom 4) (.lit 64))) = true := h _ (List.mem_of_getElem? (i := 17) rfl)
theorem f2_18 (E : Env) (h : ∀ b ∈ cut2.fs, @BE.val E b = true) : @BE.val E ((.cmp .leq (.lit 1) (.atom 5))) = true := h _ (List.mem_of_getElem? (i := 18) rfl)
theorem f2_19 (E : Env) (h : ∀ b ∈ cut2.fs, @BE.val E b = true) : @BE.val E ((.cmp .leq (.atom 5) (.lit 64))) = true := h _ (List.mem_of_getElem? (i := 19) rfl)
theorem f2_20 (E : Env) (h : ∀ b ∈ cut2.fs, @BE.val E b = true) : @BE.val E ((.cmp .leq (.lit 0) (.atom 6))) = true := h _ (List.mem_of_getElem? (i := 20) rfl)
theorem f2_21 (E : Env) (h : ∀ b ∈ cut2.fs, @BE.val E b = true) : @BE.val E ((.cmp .leq (.atom 6) (.lit 1073741823))) = true := h _ (List.mem_of_getElem? (i := 21) rfl)
theorem f2_22 (E : Env) (h : ∀ b ∈ cut2.fs, @BE.val E b = true) : @BE.val E ((.cmp .neq (.fn 1 cfgL) (.lit 0))) = true := h _ (List.mem_of_getElem? (i := 22) rfl)
theorem f2_23 (E : Env) (h : ∀ b ∈ cut2.fs, @BE.val E b = true) : @BE.val E ((.cmp .leq (.lit 0) (.atom 7))) = true := h _ (List.mem_of_getElem? (i := 23) rfl)
theorem f2_24 (E : Env) (h : ∀ b ∈ cut2.fs, @BE.val E b = true) : @BE.val E ((.cmp .leq (.lit 0) (.atom 8))) = true := h _ (List.mem_of_getElem? (i := 24) rfl)
theorem f3_0 (E : Env) (h : ∀ b ∈ cut3.fs, @BE.val E b = true) : @BE.val E (.cmp .leq (.lit 0) (.atom 1654)) = true := h _ (List.mem_of_getElem? (i := 0) rfl)
theorem f3_1 (E : Env) (h : ∀ b ∈ cut3.fs, @BE.val E b = true) : @BE.val E ((.cmp .leq (.lit 0) (.atom 1401))) = true := h _ (List.mem_of_getElem? (i := 1) rfl)
theorem f3_2 (E : Env) (h : ∀ b ∈ cut3.fs, @BE.val E b = true) : @BE.val E ((.cmp .eql (.len (.latom 1009)) (.nat (.fn 2 cfgL)))) = true := h _ (List.mem_of_getElem? (i := 2) rfl)
theorem f3_3 (E : Env) (h : ∀ b ∈ cut3.fs, @BE.val E b = true) : @BE.val E ((.cmp .lss (.atom 1401) (.atom 0))) = true := h _ (List.mem_of_getElem? (i := 3) rfl)
theorem f3_4 (E : Env) (h : ∀ b ∈ cut3.fs, @BE.val E b = true) : @BE.val E ((.cmp .leq (.atom 0) (.atom 1001))) = true := h _ (List.mem_of_getElem? (i := 4) rfl)
theorem f3_5 (E : Env) (h : ∀ b ∈ cut3.fs, @BE.val E b = true) : @BE.val E ((.cmp .eql (.nat (.atom 8)) (.atom 8))) = true := h _ (List.mem_of_getElem? (i := 5) rfl)
theorem f3_6 (E : Env) (h : ∀ b ∈ cut3.fs, @BE.val E b = true) : @BE.val E ((.cmp .leq (.nat (.atom 8)) (.lit 70))) = true := h _ (List.mem_of_getElem? (i := 6) rfl)
theorem f3_7 (E : Env) (h : ∀ b ∈ cut3.fs, @BE.val E b = true) : @BE.val E ((.cmp .leq (.lit 16) (.fn 2 cfgL))) = true := h _ (List.mem_of_getElem? (i := 7) rfl)
theorem f3_8 (E : Env) (h : ∀ b ∈ cut3.fs, @BE.val E b = true) : @BE.val E ((.cmp .leq (.fn 2 cfgL) (.lit 845))) = true := h _ (List.mem_of_getElem? (i := 8) rfl)
theorem f3_9 (E : Env) (h : ∀ b ∈ cut3.fs, @BE.val E b = true) : @BE.val E ((.cmp .eql (.nat (.fn 2 cfgL)) (.fn 2 cfgL))) = true := h _ (List.mem_of_getElem? (i := 9) rfl)
theorem f3_10 (E : Env) (h : ∀ b ∈ cut3.fs, @BE.val E b = true) : @BE.val E ((.cmp .leq (.lit 1) (.atom 0))) = true := h _ (List.mem_of_getElem? (i := 10) rfl)
theorem f3_11 (E : Env) (h : ∀ b ∈ cut3.fs, @BE.val E b = true) : @BE.val E ((.cmp .leq (.atom 0) (.lit 8))) = true := h _ (List.mem_of_getElem? (i := 11) rfl)
theorem f3_12 (E : Env) (h : ∀ b ∈ cut3.fs, @BE.val E b = true) : @BE.val E ((.cmp .leq (.lit 1) (.atom 1))) = true := h _ (List.mem_of_getElem? (i := 12) rfl)
theorem f3_13 (E : Env) (h : ∀ b ∈ cut3.fs, @BE.val E b = true) : @BE.val E ((.cmp .leq (.atom 1) (.lit 8))) = true := h _ (List.mem_of_getElem? (i := 13) rfl)
theorem f3_14 (E : Env) (h : ∀ b ∈ cut3.fs, @BE.val E b = true) : @BE.val E ((.cmp .leq (.lit 1) (.atom 2))) = true := h _ (List.mem_of_getElem? (i := 14) rfl)
theorem f3_15 (E : Env) (h : ∀ b ∈ cut3.fs, @BE.val E b = true) : @BE.val E ((.cmp .leq (.atom 2) (.lit 64))) = true := h _ (List.mem_of_getElem? (i := 15) rfl)
theorem f3_16 (E : Env) (h : ∀ b ∈ cut3.fs, @BE.val E b = true) : @BE.val E ((.cmp .leq (.lit 1) (.atom 3))) = true := h _ (List.mem_of_getElem? (i := 16) rfl)
theorem f3_17 (E : Env) (h : ∀ b ∈ cut3.fs, @BE.val E b = true) : @BE.val E ((.cmp .leq (.atom 3) (.lit 6))) = true := h _ (List.mem_of_getElem? (i := 17) rfl)
theorem f3_18 (E : Env) (h : ∀ b ∈ cut3.fs, @BE.val E b = true) : @BE.val E ((.cmp .leq (.lit 1) (.atom 4))) = true := h _ (List.mem_of_getElem? (i := 18) rfl)
theorem f3_19 (E : Env) (h : ∀ b ∈ cut3.fs, @BE.val E b = true) : @BE.val E ((.cmp .leq (.atom 4) (.lit 64))) = true := h _ (List.mem_of_getElem? (i := 19) rfl)
theorem f3_20 (E : Env) (h : ∀ b ∈ cut3.fs, @BE.val E b = true) : @BE.val E ((.cmp .leq (.lit 1) (.atom 5))) = true := h _ (List.mem_of_getElem? (i := 20) rfl)
theorem f3_21 (E : Env) (h : ∀ b ∈ cut3.fs, @BE.val E b = true) : @BE.val E ((.cmp .leq (.atom 5) (.lit 64))) = true := h _ (List.mem_of_getElem? (i := 21) rfl)
theorem f3_22 (E : Env) (h : ∀ b ∈ cut3.fs, @BE.val E b = true) : @BE.val E ((.cmp .leq (.lit 0) (.atom 6))) = true := h _ (List.mem_of_getElem? (i := 22) rfl)
theorem f3_23 (E : Env) (h : ∀ b ∈ cut3.fs, @BE.val E b = true) : @BE.val E ((.cmp .leq (.atom 6) (.lit 1073741823))) = true := h _ (List.mem_of_getElem? (i := 23) rfl)
theorem f3_24 (E : Env) (h : ∀ b ∈ cut3.fs, @BE.val E b = true) : @BE.val E ((.cmp .neq (.fn 1 cfgL) (.lit 0))) = true := h _ (List.mem_of_getElem? (i := 24) rfl)
theorem f3_25 (E : Env) (h : ∀ b ∈ cut3.fs, @BE.val E b = true) : @BE.val E ((.cmp .leq (.lit 0) (.atom 7))) = true := h _ (List.mem_of_getElem? (i := 25) rfl)
theorem f3_26 (E : Env) (h : ∀ b ∈ cut3.fs, @BE.val E b = true) : @BE.val E ((.cmp .leq (.lit 0) (.atom 8))) = true := h _ (List.mem_of_getElem? (i := 26) rfl)

def wantE (E : Env) (k : Int) : Int := if k < ((E.i 8).toNat : Int) then E.t 0 k.toNat 0 else 0
def Phi : Nat → Env → Prop
  | 0, E => E.i 1000 = E.i 1001 * E.i 1 ∧ (∀ a b, 0 ≤ a → a < E.i 0 → 0 ≤ b → b < E.i 1 → hadF (rsvE E a b) (E.l 1009) = if a < E.i 1001 then wantE E (a * E.i 1 + b) else 0) ∧ hadF 0 (E.l 1009) = 1
  | 1, E => E.i 1247 = E.i 1001 * E.i 1 + E.i 1248 ∧ E.i 1248 ≤ E.i 1 ∧ (∀ a b, 0 ≤ a → a < E.i 0 → 0 ≤ b → b < E.i 1 → hadF (rsvE E a b) (E.l 1255) = if a < E.i 1001 ∨ (a = E.i 1001 ∧ b < E.i 1248) then wantE E (a * E.i 1 + b) else 0) ∧ hadF 0 (E.l 1255) = 1
  | 2, E => E.i 1400 = E.i 1401 * E.i 1 ∧ (∀ a b, 0 ≤ a → a < E.i 0 → 0 ≤ b → b < E.i 1 → hadF (rsvE E a b) (E.l 1009) = wantE E (a * E.i 1 + b)) ∧ hadF 0 (E.l 1009) = 1
  | 3, E => E.i 1653 = E.i 1401 * E.i 1 + E.i 1654 ∧ E.i 1654 ≤ E.i 1 ∧ (∀ a b, 0 ≤ a → a < E.i 0 → 0 ≤ b → b < E.i 1 → hadF (rsvE E a b) (E.l 1009) = wantE E (a * E.i 1 + b)) ∧ hadF 0 (E.l 1009) = 1
  | _, _ => True

theorem prod_rng {E : Env} (hr : rightE E) {t : Int} (h0 : 0 ≤ t) (h1 : t ≤ E.i 0) : 0 ≤ t * E.i 1 ∧ t * E.i 1 ≤ 64 := by
  have t2 : E.i 0 ≤ (8 : Int) := hr.2.1
  have s1 : (1 : Int) ≤ E.i 1 := hr.2.2.1
  have s2 : E.i 1 ≤ (8 : Int) := hr.2.2.2.1
  have := Int.mul_le_mul (show t ≤ 8 by omega) s2 (by omega) (by omega)
  exact ⟨Int.mul_nonneg h0 (by omega), by omega⟩
theorem rsv_lt {E : Env} (hr : rightE E) {a b : Int} (ha : 0 ≤ a ∧ a < E.i 0) (hb : 0 ≤ b ∧ b < E.i 1) : 1 ≤ rsvE E a b ∧ rsvE E a b < 1 + E.i 0 * E.i 1 := by
  have s1 : (1 : Int) ≤ E.i 1 := hr.2.2.1
  have e : rsvE E a b = 1 + a * E.i 1 + b := reserved_eq hr ha.1 ha.2 hb.1 hb.2
  have q0 : 0 ≤ a * E.i 1 := Int.mul_nonneg ha.1 (by omega)
  have q1 : (a + 1) * E.i 1 ≤ E.i 0 * E.i 1 := Int.mul_le_mul_of_nonneg_right (by omega) (by omega)
  rw [Int.add_mul, Int.one_mul] at q1
  rw [e]
  constructor <;> omega
def R0 (E : Env) : List Int := writeL (writeL (writeL (List.replicate ((lenE E).toNat * 1) 0) 0 [1]) (cellE E 0 0).toNat [1]) (cellE E 0 4).toNat [IntKind.u64.wrap (E.i 3)]
theorem R0_eq (E : Env) : writeL (writeL (writeL (List.replicate ((lenE E).toNat * 1) 0) (0 : Int).toNat [1]) ((((0 : Int).toNat + (cellE E 0 0).toNat * 1 + 0 : Nat) : Int)).toNat [1]) ((((0 : Int).toNat + (cellE E 0 4).toNat * 1 + 0 : Nat) : Int)).toNat [IntKind.u64.wrap (E.i 3)] = R0 E := by
  unfold R0
  simp only [Int.toNat_zero, Nat.zero_add, Nat.mul_one, Nat.add_zero, Int.toNat_natCast]
theorem hadF_R0 {E : Env} (hr : rightE E) {c : Int} (h0 : 0 ≤ c) (h1 : c < 1 + E.i 0 * E.i 1) : hadF c (R0 E) = if c = 0 then 1 else 0 := by
  have hc : (1 : Int) ≤ E.i 2 := hr.2.2.2.2.1
  have hh : (1 : Int) ≤ E.i 3 := hr.2.2.2.2.2.2.1
  have hpos : 0 ≤ E.i 0 * E.i 1 := (prod_rng hr (by have := hr.1; omega) (Int.le_refl _)).1
  have c0 : 1 + E.i 0 * E.i 1 ≤ cellE E 0 0 := (cell_rng hr (i := 0) (f := 0) (by omega) (by omega) (by omega) (by omega)).1
  have c4 : 1 + E.i 0 * E.i 1 ≤ cellE E 0 4 := (cell_rng hr (i := 0) (f := 4) (by omega) (by omega) (by omega) (by omega)).1
  have hlen : 16 ≤ lenE E := (@lenF_rng _ _ _ _ _ _ _ hr).1
  unfold R0
  rw [hadF_write, if_neg (fun h => by have := h.2; omega), hadF_write, if_neg (fun h => by have := h.2; omega), hadF_write, hadF_rep]
  by_cases e : c = 0
  · subst e
    rw [if_pos ⟨⟨Int.le_refl _, by rw [List.length_replicate]; omega⟩, rfl⟩, if_pos rfl]
  · rw [if_neg (fun h => e h.2), if_neg e]
theorem runS (E : Env) (h1 : symRng E pks 0 0) : ObsOk E Phi obS := by
  refine ⟨fun hc => ?_, trivial⟩
  have hr : rightE E := right_of hc.2.2.1
  have hpos := (prod_rng hr (by have := hr.1; omega) (Int.le_refl (E.i 0))).1
  refine ⟨?_, fun a b a0 a1 b0 b1 => ?_, ?_⟩
  · show (0 : Int) = 0 * E.i 1
    rw [Int.zero_mul]
  · show hadF (rsvE E a b) (writeL (writeL (writeL (List.replicate ((lenE E).toNat * 1) 0) (0 : Int).toNat [1]) ((((0 : Int).toNat + (cellE E 0 0).toNat * 1 + 0 : Nat) : Int)).toNat [1]) ((((0 : Int).toNat + (cellE E 0 4).toNat * 1 + 0 : Nat) : Int)).toNat [IntKind.u64.wrap (E.i 3)]) = if a < (0 : Int) then _ else 0
    have hb := rsv_lt hr ⟨a0, a1⟩ ⟨b0, b1⟩
    rw [R0_eq, hadF_R0 hr (by omega) hb.2, if_neg (by omega), if_neg (by omega)]
  · show hadF 0 (writeL (writeL (writeL (List.replicate ((lenE E).toNat * 1) 0) (0 : Int).toNat [1]) ((((0 : Int).toNat + (cellE E 0 0).toNat * 1 + 0 : Nat) : Int)).toNat [1]) ((((0 : Int).toNat + (cellE E 0 4).toNat * 1 + 0 : Nat) : Int)).toNat [IntKind.u64.wrap (E.i 3)]) = 1
    rw [R0_eq, hadF_R0 hr (by omega) (by omega), if_pos rfl]
theorem run0_0 (E : Env) (hfs : ∀ b ∈ cut0.fs, @BE.val E b = true) (hphi : Phi 0 E) (htab : TabR (tabsOf pks 0) E) : ObsOk E Phi ob0_0 := by
  have hr : rightE E := right_of (f0_21 E hfs)
  have r0 : (0 : Int) ≤ E.i 1001 := of_decide_eq_true (f0_0 E hfs)
  have s1 : (1 : Int) ≤ E.i 1 := hr.2.2.1
  obtain ⟨p1, p2, p3⟩ := hphi
  refine ⟨fun hc => ⟨?_, ?_, fun a b a0 a1 b0 b1 => ?_, p3⟩, fun hc => ⟨?_, fun a b a0 a1 b0 b1 => ?_, p3⟩, trivial⟩
  · show E.i 1000 = E.i 1001 * E.i 1 + 0
    omega
  · show (0 : Int) ≤ E.i 1
    omega
  · show hadF (rsvE E a b) (E.l 1009) = if a < E.i 1001 ∨ (a = E.i 1001 ∧ b < (0 : Int)) then wantE E (a * E.i 1 + b) else 0
    rw [p2 a b a0 a1 b0 b1]
    by_cases h : a < E.i 1001
    · rw [if_pos h, if_pos (.inl h)]
    · rw [if_neg h, if_neg (fun q => by rcases q with q | q <;> omega)]
  · show (0 : Int) = 0 * E.i 1
    rw [Int.zero_mul]
  · have hle : E.i 0 ≤ E.i 1001 := of_decide_eq_true hc.1
    have a1' : a < E.i 0 := a1
    show hadF (rsvE E a b) (E.l 1009) = wantE E (a * E.i 1 + b)
    rw [p2 a b a0 a1 b0 b1, if_pos (by omega)]
theorem run1_0 (E : Env) (hfs : ∀ b ∈ cut1.fs, @BE.val E b = true) (hphi : Phi 1 E) (htab : TabR (tabsOf pks 0) E) : ObsOk E Phi ob1_0 := by
  have hr : rightE E := right_of (f1_23 E hfs)
  have hl : ((E.l 1255).length : Int) = lenE E := lenR_of (f1_2 E hfs) hr
  have t0 : (0 : Int) ≤ E.i 1001 := of_decide_eq_true (f1_1 E hfs)
  have t1 : E.i 1001 < E.i 0 := of_decide_eq_true (f1_3 E hfs)
  have r0 : (0 : Int) ≤ E.i 1248 := of_decide_eq_true (f1_0 E hfs)
  have s1 : (1 : Int) ≤ E.i 1 := hr.2.2.1
  have s2 : E.i 1 ≤ (8 : Int) := hr.2.2.2.1
  have tt : E.i 0 ≤ (8 : Int) := hr.2.1
  have pr := prod_rng hr t0 (by omega)
  obtain ⟨p1, p2, p3, p4⟩ := hphi
  have w1 : E.i 1248 < E.i 1 → IntKind.i64.wrap (E.i 1248 + 1) = E.i 1248 + 1 := fun h => wrap64_small (by omega) (by omega)
  have w2 : E.i 1248 < E.i 1 → IntKind.i64.wrap (E.i 1247 + 1) = E.i 1247 + 1 := fun h => wrap64_small (by omega) (by omega)
  refine ⟨fun hc => ⟨?_, ?_, fun a b a0 a1 b0 b1 => ?_, ?_⟩, fun hc => ?_, fun hc => ⟨?_, ?_, fun a b a0 a1 b0 b1 => ?_, p4⟩, fun hc => ⟨?_, fun a b a0 a1 b0 b1 => ?_, p4⟩, trivial⟩
  · have hlt : E.i 1248 < E.i 1 := of_decide_eq_true hc.2.2.2.2.1
    show IntKind.i64.wrap (E.i 1247 + 1) = E.i 1001 * E.i 1 + IntKind.i64.wrap (E.i 1248 + 1)
    rw [w1 hlt, w2 hlt]; omega
  · have hlt : E.i 1248 < E.i 1 := of_decide_eq_true hc.2.2.2.2.1
    show IntKind.i64.wrap (E.i 1248 + 1) ≤ E.i 1
    rw [w1 hlt]; omega
  · have hlt : E.i 1248 < E.i 1 := of_decide_eq_true hc.2.2.2.2.1
    have hn : E.i 1247 < ((E.i 8).toNat : Int) := of_decide_eq_true hc.2.1
    show hadF (rsvE E a b) (updF (rsvE E (E.i 1001) (E.i 1248)) (E.t 0 (E.i 1247).toNat 0) (E.l 1255)) = if a < E.i 1001 ∨ (a = E.i 1001 ∧ b < IntKind.i64.wrap (E.i 1248 + 1)) then wantE E (a * E.i 1 + b) else 0
    rw [w1 hlt]
    by_cases h : a = E.i 1001 ∧ b = E.i 1248
    · obtain ⟨h1, h2⟩ := h
      subst h1
      subst h2
      rw [hadF_same (rsvE_in hr ⟨t0, t1⟩ ⟨r0, hlt⟩ hl) rfl, if_pos (.inr ⟨rfl, by omega⟩), ← p1]
      unfold wantE
      rw [if_pos hn]
    · have hne : rsvE E a b ≠ rsvE E (E.i 1001) (E.i 1248) := fun he => h (reserved_inj hr ⟨a0, a1⟩ ⟨b0, b1⟩ ⟨t0, t1⟩ ⟨r0, hlt⟩ he)
      rw [hadF_other hne, p3 a b a0 a1 b0 b1]
      by_cases q : a < E.i 1001 ∨ (a = E.i 1001 ∧ b < E.i 1248)
      · rw [if_pos q, if_pos (by rcases q with q | q; exact .inl q; exact .inr ⟨q.1, by omega⟩)]
      · rw [if_neg q, if_neg (fun q' => q (by rcases q' with q' | q'; exact .inl q'; exact .inr ⟨q'.1, by have : b ≠ E.i 1248 := fun e => h ⟨q'.1, e⟩; omega⟩))]
  · have hlt : E.i 1248 < E.i 1 := of_decide_eq_true hc.2.2.2.2.1
    show hadF 0 (updF (rsvE E (E.i 1001) (E.i 1248)) (E.t 0 (E.i 1247).toNat 0) (E.l 1255)) = 1
    have := (rsv_lt hr ⟨t0, t1⟩ ⟨r0, hlt⟩).1
    rw [hadF_other (by omega)]
    exact p4
  · have h1 : (!(decide (E.i 1247 ≥ 0))) = true := hc.1
    rw [decide_eq_true (by omega)] at h1
    cases h1
  · have hlt : E.i 1248 < E.i 1 := of_decide_eq_true hc.2.1
    show IntKind.i64.wrap (E.i 1247 + 1) = E.i 1001 * E.i 1 + IntKind.i64.wrap (E.i 1248 + 1)
    rw [w1 hlt, w2 hlt]; omega
  · have hlt : E.i 1248 < E.i 1 := of_decide_eq_true hc.2.1
    show IntKind.i64.wrap (E.i 1248 + 1) ≤ E.i 1
    rw [w1 hlt]; omega
  · have hlt : E.i 1248 < E.i 1 := of_decide_eq_true hc.2.1
    have hn : ((E.i 8).toNat : Int) ≤ E.i 1247 := of_decide_eq_true hc.1
    show hadF (rsvE E a b) (E.l 1255) = if a < E.i 1001 ∨ (a = E.i 1001 ∧ b < IntKind.i64.wrap (E.i 1248 + 1)) then wantE E (a * E.i 1 + b) else 0
    rw [w1 hlt, p3 a b a0 a1 b0 b1]
    by_cases q : a < E.i 1001 ∨ (a = E.i 1001 ∧ b < E.i 1248)
    · rw [if_pos q, if_pos (by rcases q with q | q; exact .inl q; exact .inr ⟨q.1, by omega⟩)]
    · rw [if_neg q]
      by_cases q2 : a < E.i 1001 ∨ (a = E.i 1001 ∧ b < E.i 1248 + 1)
      · rw [if_pos q2]
        have ha : a = E.i 1001 := by rcases q2 with h | h; exact absurd (.inl h) q; exact h.1
        have hb : b = E.i 1248 := by
          rcases q2 with h | h
          · exact absurd (.inl h) q
          · have : ¬ b < E.i 1248 := fun e => q (.inr ⟨h.1, e⟩)
            omega
        subst ha
        subst hb
        rw [← p1]
        unfold wantE
        rw [if_neg (by omega)]
      · rw [if_neg q2]
  · have hle : E.i 1 ≤ E.i 1248 := of_decide_eq_true hc.1
    show E.i 1247 = IntKind.i64.wrap (E.i 1001 + 1) * E.i 1
    rw [wrap64_small (by omega) (by omega), Int.add_mul, Int.one_mul]
    omega
  · have hle : E.i 1 ≤ E.i 1248 := of_decide_eq_true hc.1
    have b1' : b < E.i 1 := b1
    show hadF (rsvE E a b) (E.l 1255) = if a < IntKind.i64.wrap (E.i 1001 + 1) then wantE E (a * E.i 1 + b) else 0
    rw [wrap64_small (by omega) (by omega), p3 a b a0 a1 b0 b1]
    by_cases q : a < E.i 1001 + 1
    · rw [if_pos q, if_pos (by by_cases h : a < E.i 1001; exact .inl h; exact .inr ⟨by omega, by omega⟩)]
    · rw [if_neg q, if_neg (fun h => by rcases h with h | h <;> omega)]
theorem run2_0 (E : Env) (hfs : ∀ b ∈ cut2.fs, @BE.val E b = true) (hphi : Phi 2 E) (htab : TabR (tabsOf pks 0) E) : ObsOk E Phi ob2_0 := by
  have hr : rightE E := right_of (f2_22 E hfs)
  have hl : ((E.l 1009).length : Int) = lenE E := lenR_of (f2_1 E hfs) hr
  have s1 : (1 : Int) ≤ E.i 1 := hr.2.2.1
  have hlen : 16 ≤ lenE E := (@lenF_rng _ _ _ _ _ _ _ hr).1
  obtain ⟨p1, p2, p3⟩ := hphi
  have hin : inF 0 (E.l 1009) := ⟨Int.le_refl _, by omega⟩
  refine ⟨fun hc => ⟨?_, ?_, p2, p3⟩, fun hc => ?_, fun hc => ?_, trivial⟩
  · show E.i 1400 = E.i 1401 * E.i 1 + 0
    omega
  · show (0 : Int) ≤ E.i 1
    omega
  · show (hadF 0 (updF 0 (if inF 0 (E.l 1009) then wrapU (hadF 0 (E.l 1009) + 1) else 0) (E.l 1009)) == IntKind.u64.wrap (hadF 0 (E.l 1009) + 1)) = true
    rw [hadF_same hin rfl, if_pos hin, p3]
    rfl
  · exfalso
    have h1 : (hadF 0 (E.l 1009) != 1) = true := hc.1
    rw [p3] at h1
    cases h1
theorem run3_0 (E : Env) (hfs : ∀ b ∈ cut3.fs, @BE.val E b = true) (hphi : Phi 3 E) (htab : TabR (tabsOf pks 0) E) : ObsOk E Phi ob3_0 := by
  have hr : rightE E := right_of (f3_24 E hfs)
  have t0 : (0 : Int) ≤ E.i 1401 := of_decide_eq_true (f3_1 E hfs)
  have t1 : E.i 1401 < E.i 0 := of_decide_eq_true (f3_3 E hfs)
  have r0 : (0 : Int) ≤ E.i 1654 := of_decide_eq_true (f3_0 E hfs)
  have s1 : (1 : Int) ≤ E.i 1 := hr.2.2.1
  have s2 : E.i 1 ≤ (8 : Int) := hr.2.2.2.1
  have tt : E.i 0 ≤ (8 : Int) := hr.2.1
  have pr := prod_rng hr t0 (by omega)
  obtain ⟨p1, p2, p3, p4⟩ := hphi
  have w1 : E.i 1654 < E.i 1 → IntKind.i64.wrap (E.i 1654 + 1) = E.i 1654 + 1 := fun h => wrap64_small (by omega) (by omega)
  have w2 : E.i 1654 < E.i 1 → IntKind.i64.wrap (E.i 1653 + 1) = E.i 1653 + 1 := fun h => wrap64_small (by omega) (by omega)
  have same : E.i 1654 < E.i 1 → hadF (rsvE E (E.i 1401) (E.i 1654)) (E.l 1009) = wantE E (E.i 1653) := fun h => by rw [p3 _ _ t0 t1 r0 h, p1]
  have step : E.i 1654 < E.i 1 → IntKind.i64.wrap (E.i 1653 + 1) = E.i 1401 * E.i 1 + IntKind.i64.wrap (E.i 1654 + 1) ∧ IntKind.i64.wrap (E.i 1654 + 1) ≤ E.i 1 := fun h => by
    rw [w1 h, w2 h]; constructor <;> omega
  refine ⟨fun hc => ?_, fun hc => ?_, fun hc => ?_, fun hc => ?_, fun hc => ?_, fun hc => ⟨?_, p3, p4⟩, trivial⟩
  · exfalso
    have hlt : E.i 1654 < E.i 1 := of_decide_eq_true hc.2.2.2.2.2.1
    have hn : E.i 1653 < ((E.i 8).toNat : Int) := of_decide_eq_true hc.2.2.1
    have h1 : (hadF (rsvE E (E.i 1401) (E.i 1654)) (E.l 1009) != E.t 0 (E.i 1653).toNat 0) = true := hc.1
    rw [same hlt] at h1
    unfold wantE at h1
    rw [if_pos hn] at h1
    simp at h1
  · have hlt : E.i 1654 < E.i 1 := of_decide_eq_true hc.2.2.2.2.2.1
    exact ⟨(step hlt).1, (step hlt).2, p3, p4⟩
  · have h1 : (!(decide (E.i 1653 ≥ 0))) = true := hc.1
    rw [decide_eq_true (by omega)] at h1
    cases h1
  · exfalso
    have hlt : E.i 1654 < E.i 1 := of_decide_eq_true hc.2.2.1
    have hn : ((E.i 8).toNat : Int) ≤ E.i 1653 := of_decide_eq_true hc.2.1
    have h1 : (hadF (rsvE E (E.i 1401) (E.i 1654)) (E.l 1009) != 0) = true := hc.1
    rw [same hlt] at h1
    unfold wantE at h1
    rw [if_neg (by omega)] at h1
    cases h1
  · have hlt : E.i 1654 < E.i 1 := of_decide_eq_true hc.2.2.1
    exact ⟨(step hlt).1, (step hlt).2, p3, p4⟩
  · have hle : E.i 1 ≤ E.i 1654 := of_decide_eq_true hc.1
    show E.i 1653 = IntKind.i64.wrap (E.i 1401 + 1) * E.i 1
    rw [wrap64_small (by omega) (by omega), Int.add_mul, Int.one_mul]
    omega
theorem part0 (E : Env) (hfs : ∀ b ∈ cut0.fs, @BE.val E b = true) (hphi : Phi 0 E) (htab : TabR (tabsOf pks 0) E) : ∃ ex : List BE, (∀ b ∈ ex, @BE.val E b = true) ∧ Owed E Phi (oweAt (tabsOf pks 0) ths [] Try.prog Try.f9 (rootOf Try.f9) base7 (extraS Try.prog) cuts cut0 ex) :=
  ⟨[], Bk.nn, Owed.eq (@e0_0 E) (run0_0 E hfs hphi htab)⟩
theorem part1 (E : Env) (hfs : ∀ b ∈ cut1.fs, @BE.val E b = true) (hphi : Phi 1 E) (htab : TabR (tabsOf pks 0) E) : ∃ ex : List BE, (∀ b ∈ ex, @BE.val E b = true) ∧ Owed E Phi (oweAt (tabsOf pks 0) ths [] Try.prog Try.f9 (rootOf Try.f9) base7 (extraS Try.prog) cuts cut1 ex) :=
  ⟨[], Bk.nn, Owed.eq (@e1_0 E) (run1_0 E hfs hphi htab)⟩
theorem part2 (E : Env) (hfs : ∀ b ∈ cut2.fs, @BE.val E b = true) (hphi : Phi 2 E) (htab : TabR (tabsOf pks 0) E) : ∃ ex : List BE, (∀ b ∈ ex, @BE.val E b = true) ∧ Owed E Phi (oweAt (tabsOf pks 0) ths [] Try.prog Try.f9 (rootOf Try.f9) base7 (extraS Try.prog) cuts cut2 ex) :=
  ⟨[], Bk.nn, Owed.eq (@e2_0 E) (run2_0 E hfs hphi htab)⟩
theorem part3 (E : Env) (hfs : ∀ b ∈ cut3.fs, @BE.val E b = true) (hphi : Phi 3 E) (htab : TabR (tabsOf pks 0) E) : ∃ ex : List BE, (∀ b ∈ ex, @BE.val E b = true) ∧ Owed E Phi (oweAt (tabsOf pks 0) ths [] Try.prog Try.f9 (rootOf Try.f9) base7 (extraS Try.prog) cuts cut3 ex) :=
  ⟨[], Bk.nn, Owed.eq (@e3_0 E) (run3_0 E hfs hphi htab)⟩
theorem runsM (E : Env) (i : Nat) (k : Cut) (hi : cuts[i]? = some k) (hfs : ∀ b ∈ k.fs, @BE.val E b = true) (hphi : Phi i E) (htab : TabR (tabsOf pks 0) E) : ∃ ex : List BE, (∀ b ∈ ex, @BE.val E b = true) ∧ Owed E Phi (oweAt (tabsOf pks 0) ths [] Try.prog Try.f9 (rootOf Try.f9) base7 (extraS Try.prog) cuts k ex) := by
  match i, hi with
  | 0, hi => obtain rfl : cut0 = k := Option.some.inj (show some cut0 = some k from hi); exact part0 E hfs hphi htab
  | 1, hi => obtain rfl : cut1 = k := Option.some.inj (show some cut1 = some k from hi); exact part1 E hfs hphi htab
  | 2, hi => obtain rfl : cut2 = k := Option.some.inj (show some cut2 = some k from hi); exact part2 E hfs hphi htab
  | 3, hi => obtain rfl : cut3 = k := Option.some.inj (show some cut3 = some k from hi); exact part3 E hfs hphi htab
  | n + 4, hi => exact absurd hi (by simp [cuts])
theorem startM (E : Env) (h1 : symRng E pks 0 0) : Owed E Phi (oweStart (tabsOf pks 0) ths [] Try.prog Try.f9 (rootOf Try.f9) base7 (extraS Try.prog) cuts (rngFacts pks 0) (symArgs pks 0 0) (symHeap pks 0 0)) := Owed.eq (@eS E) (runS E h1)
theorem trOk : ∀ i ∈ ([] : List Nat), ∀ E, Phi i E := fun i hi E => by cases hi
theorem bodyOk : Try.f9.body = some (rootOf Try.f9) := by kernel_rfl
theorem law (E : Env) (ρ : Rho) (F : Nat → Nat → Prop) (w : World) (argv : Array Value) (h1 : symRng E pks 0 0) (h2 : @HeapOk E Empty _ ρ F (symHeap pks 0 0) w) (h3 : All2 (@SV.is E ρ) (symArgs pks 0 0) argv.toList) :
    Calls Try.prog 9 argv w fun e w' => e = .returned (.bool true) ∧ ∃ ρ' F', Reach ρ F w ρ' F' w' :=
  floydM (ts := tabsOf pks 0) mixed_ok (c := @base7) @base7_ok (x := extraS Try.prog) (fun {_} => extraS_ok _) Try.func9 bodyOk ths_ok (tr := []) (Φ := Phi) trOk heads runsM E (tabsOf_ok E h1) (rngFacts_ok E h1) (startM E h1) h2 h3
end Go.Proofs.Ytalobhgefmhboaa.Sx.LMemApart
