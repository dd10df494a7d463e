/-
  The law SweepFrees, run on unknowns, from one loop's head to the next.
-/
import Derived.Test.YtafemlljemhkhaaPSxFw
import Derived.Test.YtafemlljemhkhaaPSxSqt
import Derived.Test.YtafemlljemhkhaaPSxSf
import Derived.Test.YtafemlljemhkhaaPSxLn
import Derived.Test.YtafemlljemhkhaaPSxCl2
import Derived.Test.YtafemlljemhkhaaPSxFr
namespace Go.Proofs.Ytafemlljemhkhaa.Sx.LSweepFrees
open Go Go.Proofs.Ytafemlljemhkhaa.Sx
set_option linter.unusedSectionVars false
set_option linter.unusedVariables false
set_option linter.unusedSimpArgs false
set_option maxRecDepth 1000000
def gs : List AK := [.pk cfgK, .pk (.sl [.int .u64]), .st [.sl [.int .u64, .int .u64, .int .u64], .one (.int .i64), .one (.int .i64), .sl [.int .i64, .int .i64, .int .u64]]]
def pks : List PK := flatG gs
def I0 : SS Empty := (SS.mk [.unk, (.w (.one (.b (.isl 1 (.atom 7) (.atom 8))))), .unk, (.w (.one (.b (.ptr 131072 (.lit 0))))), .unk, (.w (.one (.b (.ptr 131074 (.lit 0))))), .unk, .unk, .unk, .unk, (.w (.one (.b (.ptr 17184325632 (.lit 0))))), .unk, .unk, .unk, .unk, .unk, .unk, .unk, .unk, .unk, .unk, .unk, .unk, .unk, .unk, .unk, .unk, .unk, .unk, .unk, .unk, .unk, .unk, .unk, .unk, .unk, .unk, .unk, .unk, .unk, .unk, .unk, .unk, .unk, .unk, .unk, .unk, .unk, .unk, .unk, .unk, .unk, .unk, .unk, .unk, .unk, .unk, .unk, .unk, .unk, .unk, .unk, .unk, (.w (.one (.b (.sl 17191665676 (.lit 0) (.nat (.atom 8)) (.nat (.atom 8)))))), (.w (.one (.b (.int .i64 (.nat (.atom 8)))))), (.w (.one (.b (.int .i64 (.atom 1000))))), .unk, .unk, .unk, .unk, .unk, .unk, .unk, .unk, .unk, .unk, .unk, .unk, .unk, .unk, .unk, .unk, .unk, .unk, .unk, .unk, .unk, .unk, .unk, .unk, .unk, .unk, .unk, .unk, .unk, .unk, .unk, .unk, .unk, .unk, .unk, .unk, .unk, .unk, .unk, .unk, .unk, .unk, .unk, .unk, .unk, .unk, .unk, .unk, .unk, .unk, .unk, .unk, .unk, .unk, .unk, .unk, .unk, .unk, .unk, .unk] [(1, (.tab [(.int .u64)] (.atom 7) (.atom 8) 0)), (131072, (.cells 23 [(.b (.int .i64 (.atom 0))), (.b (.int .i64 (.atom 1))), (.b (.int .i64 (.atom 2))), (.b (.int .i64 (.atom 3))), (.b (.int .i64 (.atom 4))), (.b (.int .i64 (.atom 5))), (.b (.int .i64 (.atom 6)))] 0)), (131074, (.cells 88 [(.b (.isl 3 (.atom 9) (.atom 10))), (.b (.int .i64 (.atom 11))), (.b (.int .i64 (.atom 12))), (.b (.isl 5 (.atom 13) (.atom 14)))] 0)), (17184325632, (.mach 0 (.consL (.lit 1003) (.fnL 4200 (.consL (.lit 300) (.consL (.atom 0) (.consL (.atom 1) (.consL (.atom 2) (.consL (.atom 3) (.consL (.atom 4) (.consL (.atom 5) (.consL (.atom 6) (.consL (.lit 0) (.consL (.lit 0) (.consL (.atom 11) (.consL (.lit 0) (.consL (.lit 0) (.consL (.lit 0) (.consL (.lit 0) (.consL (.lit 0) (.consL (.lit 0) (.consL (.lit 0) (.consL (.len (.consL (.lit 0) (.consL (.lit 0) (.consL (.len (.tabL 1 (.atom 10) 3)) (.consL (.lit 0) (.tabL 1 (.atom 10) 3)))))) (.catL (.consL (.lit 0) (.consL (.lit 0) (.consL (.len (.tabL 1 (.atom 10) 3)) (.consL (.lit 0) (.tabL 1 (.atom 10) 3))))) (.ofTab 0 (.nat (.atom 8))))))))))))))))))))))))))), (17191665676, (.row .u64 27 (.putL (.ofTab 0 (.nat (.atom 8))) (.lit 0) (.fnL 4201 (.consL (.lit 300) (.consL (.atom 0) (.consL (.atom 1) (.consL (.atom 2) (.consL (.atom 3) (.consL (.atom 4) (.consL (.atom 5) (.consL (.atom 6) (.consL (.lit 0) (.consL (.lit 0) (.consL (.atom 11) (.consL (.lit 0) (.consL (.lit 0) (.consL (.lit 0) (.consL (.lit 0) (.consL (.lit 0) (.consL (.lit 0) (.consL (.lit 0) (.consL (.len (.consL (.lit 0) (.consL (.lit 0) (.consL (.len (.tabL 1 (.atom 10) 3)) (.consL (.lit 0) (.tabL 1 (.atom 10) 3)))))) (.catL (.consL (.lit 0) (.consL (.lit 0) (.consL (.len (.tabL 1 (.atom 10) 3)) (.consL (.lit 0) (.tabL 1 (.atom 10) 3))))) (.ofTab 0 (.nat (.atom 8))))))))))))))))))))))))))), (3, (.tab [(.int .u64), (.int .u64), (.int .u64)] (.atom 9) (.atom 10) 1)), (5, (.tab [(.int .i64), (.int .i64), (.int .u64)] (.atom 13) (.atom 14) 2))] 48)
def F0 : List BE := [.cmp .leq (.lit 0) (.atom 1000), (.cmp .eql (.nat (.atom 10)) (.atom 10)), (.cmp .leq (.nat (.atom 10)) (.lit 70)), (.cmp .leq (.nat (.atom 8)) (.lit 400)), (.cmp .leq (.lit 16) (.fn 2 cfgL)), (.cmp .leq (.fn 2 cfgL) (.lit 845)), (.cmp .eql (.nat (.fn 2 cfgL)) (.fn 2 cfgL)), (.cmp .eql (.nat (.atom 8)) (.atom 8)), (.cmp .eql (.nat (.atom 8)) (.fn 2 cfgL)), (.cmp .leq (.lit 1) (.atom 0)), (.cmp .leq (.atom 0) (.lit 8)), (.cmp .leq (.lit 1) (.atom 1)), (.cmp .leq (.atom 1) (.lit 8)), (.cmp .leq (.lit 1) (.atom 2)), (.cmp .leq (.atom 2) (.lit 64)), (.cmp .leq (.lit 1) (.atom 3)), (.cmp .leq (.atom 3) (.lit 6)), (.cmp .leq (.lit 1) (.atom 4)), (.cmp .leq (.atom 4) (.lit 64)), (.cmp .leq (.lit 1) (.atom 5)), (.cmp .leq (.atom 5) (.lit 64)), (.cmp .leq (.lit 0) (.atom 6)), (.cmp .leq (.atom 6) (.lit 1073741823)), (.cmp .neq (.fn 1 cfgL) (.lit 0)), (.cmp .leq (.lit 0) (.atom 7)), (.cmp .leq (.lit 0) (.atom 8)), (.cmp .leq (.lit 0) (.atom 9)), (.cmp .leq (.lit 0) (.atom 10)), (.cmp .leq (.lit 0) (.atom 13)), (.cmp .leq (.lit 0) (.atom 14))]
def rw0 : List (IE × IE) := []
def cut0 : Cut := ⟨[0, 1, 0, 1, 1, 1, 1, 1], I0, F0, [((.nat (.atom 8)), (.atom 1000))]⟩
def I1 : SS Empty := (SS.mk [.unk, (.w (.one (.b (.isl 1 (.atom 7) (.atom 8))))), .unk, (.w (.one (.b (.ptr 131072 (.lit 0))))), .unk, (.w (.one (.b (.ptr 131074 (.lit 0))))), .unk, .unk, .unk, .unk, (.w (.one (.b (.ptr 17184325632 (.lit 0))))), .unk, (.w (.one (.b (.int .i64 (.atom 1000))))), (.w (.one (.b (.int .u64 (.get (.putL (.ofTab 0 (.nat (.atom 8))) (.lit 0) (.fnL 4201 (.consL (.lit 300) (.consL (.atom 0) (.consL (.atom 1) (.consL (.atom 2) (.consL (.atom 3) (.consL (.atom 4) (.consL (.atom 5) (.consL (.atom 6) (.consL (.lit 0) (.consL (.lit 0) (.consL (.atom 11) (.consL (.lit 0) (.consL (.lit 0) (.consL (.lit 0) (.consL (.lit 0) (.consL (.lit 0) (.consL (.lit 0) (.consL (.lit 0) (.consL (.len (.consL (.lit 0) (.consL (.lit 0) (.consL (.len (.tabL 1 (.atom 10) 3)) (.consL (.lit 0) (.tabL 1 (.atom 10) 3)))))) (.catL (.consL (.lit 0) (.consL (.lit 0) (.consL (.len (.tabL 1 (.atom 10) 3)) (.consL (.lit 0) (.tabL 1 (.atom 10) 3))))) (.ofTab 0 (.nat (.atom 8))))))))))))))))))))))))) (.at_ (.lit 0) (.atom 1000) 1 0) 0))))), (.w (.one (.b (.ptr 131186 (.lit 0))))), (.w (.one (.b (.bool (.atom 1251))))), .unk, .unk, .unk, .unk, .unk, .unk, .unk, .unk, .unk, .unk, .unk, .unk, .unk, .unk, .unk, .unk, .unk, .unk, .unk, .unk, .unk, .unk, .unk, .unk, .unk, .unk, .unk, .unk, .unk, .unk, .unk, .unk, .unk, .unk, .unk, .unk, .unk, .unk, .unk, .unk, .unk, .unk, .unk, .unk, .unk, .unk, .unk, (.w (.one (.b (.sl 17191665676 (.lit 0) (.nat (.atom 8)) (.nat (.atom 8)))))), (.w (.one (.b (.int .i64 (.nat (.atom 8)))))), (.w (.one (.b (.int .i64 (.atom 1000))))), .unk, .unk, .unk, .unk, .unk, .unk, .unk, .unk, .unk, .unk, .unk, .unk, .unk, .unk, .unk, .unk, .unk, .unk, (.w (.one (.b (.isl 3 (.atom 9) (.atom 10))))), (.w (.one (.b (.int .i64 (.nat (.atom 10)))))), (.w (.one (.b (.int .i64 (.atom 1252))))), .unk, .unk, .unk, .unk, .unk, .unk, .unk, .unk, .unk, .unk, .unk, .unk, .unk, .unk, .unk, .unk, .unk, .unk, .unk, .unk, .unk, .unk, .unk, .unk, .unk, .unk, .unk, .unk, .unk, .unk, .unk, .unk, .unk, .unk, .unk, .unk, .unk, .unk, .unk] [(1, (.tab [(.int .u64)] (.atom 7) (.atom 8) 0)), (131072, (.cells 23 [(.b (.int .i64 (.atom 0))), (.b (.int .i64 (.atom 1))), (.b (.int .i64 (.atom 2))), (.b (.int .i64 (.atom 3))), (.b (.int .i64 (.atom 4))), (.b (.int .i64 (.atom 5))), (.b (.int .i64 (.atom 6)))] 0)), (131074, (.cells 88 [(.b (.isl 3 (.atom 9) (.atom 10))), (.b (.int .i64 (.atom 11))), (.b (.int .i64 (.atom 12))), (.b (.isl 5 (.atom 13) (.atom 14)))] 0)), (17184325632, (.mach 0 (.consL (.lit 1003) (.fnL 4200 (.consL (.lit 300) (.consL (.atom 0) (.consL (.atom 1) (.consL (.atom 2) (.consL (.atom 3) (.consL (.atom 4) (.consL (.atom 5) (.consL (.atom 6) (.consL (.lit 0) (.consL (.lit 0) (.consL (.atom 11) (.consL (.lit 0) (.consL (.lit 0) (.consL (.lit 0) (.consL (.lit 0) (.consL (.lit 0) (.consL (.lit 0) (.consL (.lit 0) (.consL (.len (.consL (.lit 0) (.consL (.lit 0) (.consL (.len (.tabL 1 (.atom 10) 3)) (.consL (.lit 0) (.tabL 1 (.atom 10) 3)))))) (.catL (.consL (.lit 0) (.consL (.lit 0) (.consL (.len (.tabL 1 (.atom 10) 3)) (.consL (.lit 0) (.tabL 1 (.atom 10) 3))))) (.ofTab 0 (.nat (.atom 8))))))))))))))))))))))))))), (131186, (.cells 107 [(.b (.int .i64 (.ite (.notI (.andI (.cmpI .geq (.atom 1000) (.lit 0)) (.cmpI .leq (.atom 1000) (.op .sub .i64 (.fn 2 cfgL) (.lit 1))))) (.lit 0) (.ite (.cmpI .eql (.atom 1000) (.lit 0)) (.lit 1) (.ite (.cmpI .lss (.op .sub .i64 (.atom 1000) (.op .add .i64 (.lit 1) (.op .mul .i64 (.atom 0) (.atom 1)))) (.lit 0)) (.lit 2) (.lit 3)))))), (.b (.int .i64 (.ite (.notI (.andI (.cmpI .geq (.atom 1000) (.lit 0)) (.cmpI .leq (.atom 1000) (.op .sub .i64 (.fn 2 cfgL) (.lit 1))))) (.lit 0) (.ite (.cmpI .eql (.atom 1000) (.lit 0)) (.lit 0) (.ite (.cmpI .lss (.op .sub .i64 (.atom 1000) (.op .add .i64 (.lit 1) (.op .mul .i64 (.atom 0) (.atom 1)))) (.lit 0)) (.op .quo .i64 (.op .sub .i64 (.atom 1000) (.lit 1)) (.atom 1)) (.op .quo .i64 (.op .sub .i64 (.atom 1000) (.op .add .i64 (.lit 1) (.op .mul .i64 (.atom 0) (.atom 1)))) (.op .add .i64 (.lit 6) (.atom 3)))))))), (.b (.int .i64 (.ite (.notI (.andI (.cmpI .geq (.atom 1000) (.lit 0)) (.cmpI .leq (.atom 1000) (.op .sub .i64 (.fn 2 cfgL) (.lit 1))))) (.lit 0) (.ite (.cmpI .eql (.atom 1000) (.lit 0)) (.lit 0) (.ite (.cmpI .lss (.op .sub .i64 (.atom 1000) (.op .add .i64 (.lit 1) (.op .mul .i64 (.atom 0) (.atom 1)))) (.lit 0)) (.op .rem .i64 (.op .sub .i64 (.atom 1000) (.lit 1)) (.atom 1)) (.op .rem .i64 (.op .sub .i64 (.atom 1000) (.op .add .i64 (.lit 1) (.op .mul .i64 (.atom 0) (.atom 1)))) (.op .add .i64 (.lit 6) (.atom 3))))))))] 0)), (17191665676, (.row .u64 27 (.putL (.ofTab 0 (.nat (.atom 8))) (.lit 0) (.fnL 4201 (.consL (.lit 300) (.consL (.atom 0) (.consL (.atom 1) (.consL (.atom 2) (.consL (.atom 3) (.consL (.atom 4) (.consL (.atom 5) (.consL (.atom 6) (.consL (.lit 0) (.consL (.lit 0) (.consL (.atom 11) (.consL (.lit 0) (.consL (.lit 0) (.consL (.lit 0) (.consL (.lit 0) (.consL (.lit 0) (.consL (.lit 0) (.consL (.lit 0) (.consL (.len (.consL (.lit 0) (.consL (.lit 0) (.consL (.len (.tabL 1 (.atom 10) 3)) (.consL (.lit 0) (.tabL 1 (.atom 10) 3)))))) (.catL (.consL (.lit 0) (.consL (.lit 0) (.consL (.len (.tabL 1 (.atom 10) 3)) (.consL (.lit 0) (.tabL 1 (.atom 10) 3))))) (.ofTab 0 (.nat (.atom 8))))))))))))))))))))))))))), (3, (.tab [(.int .u64), (.int .u64), (.int .u64)] (.atom 9) (.atom 10) 1)), (5, (.tab [(.int .i64), (.int .i64), (.int .u64)] (.atom 13) (.atom 14) 2))] 74)
def F1 : List BE := [.cmp .leq (.lit 0) (.atom 1252), (.cmp .leq (.lit 0) (.atom 1000)), (.cmp .lss (.atom 1000) (.nat (.atom 8))), (.cmp .eql (.nat (.atom 10)) (.atom 10)), (.cmp .leq (.nat (.atom 10)) (.lit 70)), (.cmp .leq (.nat (.atom 8)) (.lit 400)), (.cmp .leq (.lit 16) (.fn 2 cfgL)), (.cmp .leq (.fn 2 cfgL) (.lit 845)), (.cmp .eql (.nat (.fn 2 cfgL)) (.fn 2 cfgL)), (.cmp .eql (.nat (.atom 8)) (.atom 8)), (.cmp .eql (.nat (.atom 8)) (.fn 2 cfgL)), (.cmp .leq (.lit 1) (.atom 0)), (.cmp .leq (.atom 0) (.lit 8)), (.cmp .leq (.lit 1) (.atom 1)), (.cmp .leq (.atom 1) (.lit 8)), (.cmp .leq (.lit 1) (.atom 2)), (.cmp .leq (.atom 2) (.lit 64)), (.cmp .leq (.lit 1) (.atom 3)), (.cmp .leq (.atom 3) (.lit 6)), (.cmp .leq (.lit 1) (.atom 4)), (.cmp .leq (.atom 4) (.lit 64)), (.cmp .leq (.lit 1) (.atom 5)), (.cmp .leq (.atom 5) (.lit 64)), (.cmp .leq (.lit 0) (.atom 6)), (.cmp .leq (.atom 6) (.lit 1073741823)), (.cmp .neq (.fn 1 cfgL) (.lit 0)), (.cmp .leq (.lit 0) (.atom 7)), (.cmp .leq (.lit 0) (.atom 8)), (.cmp .leq (.lit 0) (.atom 9)), (.cmp .leq (.lit 0) (.atom 10)), (.cmp .leq (.lit 0) (.atom 13)), (.cmp .leq (.lit 0) (.atom 14))]
def rw1 : List (IE × IE) := []
def cut1 : Cut := ⟨[0, 1, 0, 1, 1, 1, 0, 0, 1, 1, 0, 0, 1, 0, 1, 1, 1, 1, 1], I1, F1, [((.nat (.atom 8)), (.atom 1000)), ((.nat (.atom 10)), (.atom 1252))]⟩
def cuts : List Cut := [cut0, cut1]
def ths : Ths := []
theorem ths_ok : ThsOk ths := fun E t h _ => by cases h
theorem heads : (cuts.all fun k => isLoop (subAt (rootOf Try.f14) k.p) && Nat.ble k.ms.length 9) = true := by kernel_rfl
def obS : List Ob := [(.need (.cmp .leq (.atom 10) (.lit 8000000000000)) [(.not (.cmp .neq (.fn 1 cfgL) (.lit 0)))]), (.need (.cmp .leq (.len (.tabL 1 (.atom 10) 3)) (.lit 24000000000000)) [(.cmp .leq (.atom 10) (.lit 8000000000000)), (.not (.cmp .neq (.fn 1 cfgL) (.lit 0)))]), (.need (.cmp .leq (.atom 10) (.lit 8000000000000)) [(.cmp .neq (.nat (.atom 8)) (.fn 2 cfgL)), (.cmp .neq (.fn 1 cfgL) (.lit 0))]), (.need (.cmp .leq (.len (.tabL 1 (.atom 10) 3)) (.lit 24000000000000)) [(.cmp .leq (.atom 10) (.lit 8000000000000)), (.cmp .neq (.nat (.atom 8)) (.fn 2 cfgL)), (.cmp .neq (.fn 1 cfgL) (.lit 0))]), (.need (.cmp .leq (.atom 10) (.lit 8000000000000)) [(.cmp .gtr (.nat (.atom 8)) (.lit 400)), (.cmp .eql (.nat (.atom 8)) (.fn 2 cfgL)), (.cmp .neq (.fn 1 cfgL) (.lit 0))]), (.need (.cmp .leq (.len (.tabL 1 (.atom 10) 3)) (.lit 24000000000000)) [(.cmp .leq (.atom 10) (.lit 8000000000000)), (.cmp .gtr (.nat (.atom 8)) (.lit 400)), (.cmp .eql (.nat (.atom 8)) (.fn 2 cfgL)), (.cmp .neq (.fn 1 cfgL) (.lit 0))]), (.need (.cmp .leq (.atom 10) (.lit 8000000000000)) [(.not (.cmp .gtr (.nat (.atom 8)) (.lit 400))), (.cmp .eql (.nat (.atom 8)) (.fn 2 cfgL)), (.cmp .neq (.fn 1 cfgL) (.lit 0))]), (.need (.cmp .leq (.len (.tabL 1 (.atom 10) 3)) (.lit 24000000000000)) [(.cmp .leq (.atom 10) (.lit 8000000000000)), (.not (.cmp .gtr (.nat (.atom 8)) (.lit 400))), (.cmp .eql (.nat (.atom 8)) (.fn 2 cfgL)), (.cmp .neq (.fn 1 cfgL) (.lit 0))]), (.need (.cmp .leq (.len (.tabL 1 (.atom 10) 3)) (.lit 10000)) [(.not (.cmp .gtr (.nat (.atom 10)) (.lit 70))), (.cmp .leq (.len (.tabL 1 (.atom 10) 3)) (.lit 24000000000000)), (.cmp .leq (.atom 10) (.lit 8000000000000)), (.not (.cmp .gtr (.nat (.atom 8)) (.lit 400))), (.cmp .eql (.nat (.atom 8)) (.fn 2 cfgL)), (.cmp .neq (.fn 1 cfgL) (.lit 0))]), (.need (.cmp .neq (.fn 7999 (.tabL 1 (.atom 10) 3)) (.lit 0)) [(.cmp .leq (.len (.tabL 1 (.atom 10) 3)) (.lit 10000)), (.not (.cmp .gtr (.nat (.atom 10)) (.lit 70))), (.cmp .leq (.len (.tabL 1 (.atom 10) 3)) (.lit 24000000000000)), (.cmp .leq (.atom 10) (.lit 8000000000000)), (.not (.cmp .gtr (.nat (.atom 8)) (.lit 400))), (.cmp .eql (.nat (.atom 8)) (.fn 2 cfgL)), (.cmp .neq (.fn 1 cfgL) (.lit 0))]), (.need (.cmp .neq (.fn 7999 (.ofTab 0 (.nat (.atom 8)))) (.lit 0)) [(.cmp .neq (.fn 7999 (.tabL 1 (.atom 10) 3)) (.lit 0)), (.cmp .leq (.len (.tabL 1 (.atom 10) 3)) (.lit 10000)), (.not (.cmp .gtr (.nat (.atom 10)) (.lit 70))), (.cmp .leq (.len (.tabL 1 (.atom 10) 3)) (.lit 24000000000000)), (.cmp .leq (.atom 10) (.lit 8000000000000)), (.not (.cmp .gtr (.nat (.atom 8)) (.lit 400))), (.cmp .eql (.nat (.atom 8)) (.fn 2 cfgL)), (.cmp .neq (.fn 1 cfgL) (.lit 0))]), (.at_ 0 [(1000, (.lit 0))] [] [(.cmp .neq (.fn 7999 (.ofTab 0 (.nat (.atom 8)))) (.lit 0)), (.cmp .neq (.fn 7999 (.tabL 1 (.atom 10) 3)) (.lit 0)), (.cmp .leq (.len (.tabL 1 (.atom 10) 3)) (.lit 10000)), (.not (.cmp .gtr (.nat (.atom 10)) (.lit 70))), (.cmp .leq (.len (.tabL 1 (.atom 10) 3)) (.lit 24000000000000)), (.cmp .leq (.atom 10) (.lit 8000000000000)), (.not (.cmp .gtr (.nat (.atom 8)) (.lit 400))), (.cmp .eql (.nat (.atom 8)) (.fn 2 cfgL)), (.cmp .neq (.fn 1 cfgL) (.lit 0))])]
theorem eS [Env] : oweStartR (tabsOf pks 0) ths [] Try.prog Try.f14 (rootOf Try.f14) baseF (extraG Try.prog) cuts (rngFacts pks 0) (symArgsG gs 0 0) (symHeap pks 0 0) = obS := by kernel_rfl
def ob0_0 : List Ob := [(.need (.not (.and (.and (.cmp .geq (.atom 1000) (.lit 0)) (.cmp .leq (.atom 1000) (.op .sub .i64 (.fn 2 cfgL) (.lit 1)))) (.and (.not (.cmp .eql (.atom 1000) (.lit 0))) (.and (.not (.cmp .lss (.op .sub .i64 (.atom 1000) (.op .add .i64 (.lit 1) (.op .mul .i64 (.atom 0) (.atom 1)))) (.lit 0))) (.not (.cmp .neq (.op .add .i64 (.lit 6) (.atom 3)) (.lit 0))))))) [(.and (.cmp .geq (.atom 1000) (.lit 0)) (.cmp .lss (.atom 1000) (.nat (.atom 8)))), (.cmp .lss (.atom 1000) (.nat (.atom 8))), (.cmp .geq (.atom 1000) (.lit 0)), (.cmp .lss (.atom 1000) (.nat (.atom 8)))]), (.at_ 1 [(1252, (.lit 0)), (1251, (.cmpI .eql (.ite (.notI (.andI (.cmpI .geq (.atom 1000) (.lit 0)) (.cmpI .leq (.atom 1000) (.op .sub .i64 (.fn 2 cfgL) (.lit 1))))) (.lit 0) (.ite (.cmpI .eql (.atom 1000) (.lit 0)) (.lit 0) (.ite (.cmpI .lss (.op .sub .i64 (.atom 1000) (.op .add .i64 (.lit 1) (.op .mul .i64 (.atom 0) (.atom 1)))) (.lit 0)) (.op .quo .i64 (.op .sub .i64 (.atom 1000) (.lit 1)) (.atom 1)) (.op .quo .i64 (.op .sub .i64 (.atom 1000) (.op .add .i64 (.lit 1) (.op .mul .i64 (.atom 0) (.atom 1)))) (.op .add .i64 (.lit 6) (.atom 3)))))) (.atom 11))), (1000, (.atom 1000))] [] [(.cmp .eql (.ite (.notI (.andI (.cmpI .geq (.atom 1000) (.lit 0)) (.cmpI .leq (.atom 1000) (.op .sub .i64 (.fn 2 cfgL) (.lit 1))))) (.lit 0) (.ite (.cmpI .eql (.atom 1000) (.lit 0)) (.lit 1) (.ite (.cmpI .lss (.op .sub .i64 (.atom 1000) (.op .add .i64 (.lit 1) (.op .mul .i64 (.atom 0) (.atom 1)))) (.lit 0)) (.lit 2) (.lit 3)))) (.lit 2)), (.not (.and (.and (.cmp .geq (.atom 1000) (.lit 0)) (.cmp .leq (.atom 1000) (.op .sub .i64 (.fn 2 cfgL) (.lit 1)))) (.and (.not (.cmp .eql (.atom 1000) (.lit 0))) (.and (.not (.cmp .lss (.op .sub .i64 (.atom 1000) (.op .add .i64 (.lit 1) (.op .mul .i64 (.atom 0) (.atom 1)))) (.lit 0))) (.not (.cmp .neq (.op .add .i64 (.lit 6) (.atom 3)) (.lit 0))))))), (.and (.cmp .geq (.atom 1000) (.lit 0)) (.cmp .lss (.atom 1000) (.nat (.atom 8)))), (.cmp .lss (.atom 1000) (.nat (.atom 8))), (.cmp .geq (.atom 1000) (.lit 0)), (.cmp .lss (.atom 1000) (.nat (.atom 8)))]), (.at_ 1 [(1252, (.lit 0)), (1251, (.lit 0)), (1000, (.atom 1000))] [] [(.cmp .neq (.ite (.notI (.andI (.cmpI .geq (.atom 1000) (.lit 0)) (.cmpI .leq (.atom 1000) (.op .sub .i64 (.fn 2 cfgL) (.lit 1))))) (.lit 0) (.ite (.cmpI .eql (.atom 1000) (.lit 0)) (.lit 1) (.ite (.cmpI .lss (.op .sub .i64 (.atom 1000) (.op .add .i64 (.lit 1) (.op .mul .i64 (.atom 0) (.atom 1)))) (.lit 0)) (.lit 2) (.lit 3)))) (.lit 2)), (.not (.and (.and (.cmp .geq (.atom 1000) (.lit 0)) (.cmp .leq (.atom 1000) (.op .sub .i64 (.fn 2 cfgL) (.lit 1)))) (.and (.not (.cmp .eql (.atom 1000) (.lit 0))) (.and (.not (.cmp .lss (.op .sub .i64 (.atom 1000) (.op .add .i64 (.lit 1) (.op .mul .i64 (.atom 0) (.atom 1)))) (.lit 0))) (.not (.cmp .neq (.op .add .i64 (.lit 6) (.atom 3)) (.lit 0))))))), (.and (.cmp .geq (.atom 1000) (.lit 0)) (.cmp .lss (.atom 1000) (.nat (.atom 8)))), (.cmp .lss (.atom 1000) (.nat (.atom 8))), (.cmp .geq (.atom 1000) (.lit 0)), (.cmp .lss (.atom 1000) (.nat (.atom 8)))]), (.need (.cmp .eql (.get (.fnL 4200 (.consL (.lit 300) (.consL (.atom 0) (.consL (.atom 1) (.consL (.atom 2) (.consL (.atom 3) (.consL (.atom 4) (.consL (.atom 5) (.consL (.atom 6) (.consL (.lit 0) (.consL (.lit 0) (.consL (.atom 11) (.consL (.lit 0) (.consL (.lit 0) (.consL (.lit 0) (.consL (.lit 0) (.consL (.lit 0) (.consL (.lit 0) (.consL (.lit 0) (.consL (.len (.consL (.lit 0) (.consL (.lit 0) (.consL (.len (.tabL 1 (.atom 10) 3)) (.consL (.lit 0) (.tabL 1 (.atom 10) 3)))))) (.catL (.consL (.lit 0) (.consL (.lit 0) (.consL (.len (.tabL 1 (.atom 10) 3)) (.consL (.lit 0) (.tabL 1 (.atom 10) 3))))) (.ofTab 0 (.nat (.atom 8)))))))))))))))))))))))) (.lit 0) 0) (.lit 3)) [(.cmp .leq (.nat (.atom 8)) (.atom 1000))])]
theorem e0_0 [Env] : oweAtR (tabsOf pks 0) ths [] Try.prog Try.f14 (rootOf Try.f14) baseF (extraG Try.prog) cuts cut0 [] rw0 = ob0_0 := by kernel_rfl
def ob1_0 : List Ob := [(.at_ 1 [(1252, (.op .add .i64 (.atom 1252) (.lit 1))), (1251, (.lit 1)), (1000, (.atom 1000))] [] [(.atom 1251), (.and (.cmp .eql (.nat (.atom 9)) (.nat (.atom 9))) (.cmp .lss (.nat (.atom 1252)) (.nat (.atom 10)))), (.cmp .lss (.atom 1252) (.nat (.atom 10))), (.cmp .geq (.atom 1252) (.lit 0)), (.cmp .lss (.atom 1252) (.nat (.atom 10)))]), (.need (.cmp .geq (.tab 1 (.atom 1252) 0) (.lit 0)) [(.cmp .eql (.ite (.notI (.andI (.cmpI .geq (.atom 1000) (.lit 0)) (.cmpI .leq (.atom 1000) (.op .sub .i64 (.fn 2 cfgL) (.lit 1))))) (.lit 0) (.ite (.cmpI .eql (.atom 1000) (.lit 0)) (.lit 0) (.ite (.cmpI .lss (.op .sub .i64 (.atom 1000) (.op .add .i64 (.lit 1) (.op .mul .i64 (.atom 0) (.atom 1)))) (.lit 0)) (.op .rem .i64 (.op .sub .i64 (.atom 1000) (.lit 1)) (.atom 1)) (.op .rem .i64 (.op .sub .i64 (.atom 1000) (.op .add .i64 (.lit 1) (.op .mul .i64 (.atom 0) (.atom 1)))) (.op .add .i64 (.lit 6) (.atom 3)))))) (.lit 0)), (.cmp .eql (.ite (.notI (.andI (.cmpI .geq (.atom 1000) (.lit 0)) (.cmpI .leq (.atom 1000) (.op .sub .i64 (.fn 2 cfgL) (.lit 1))))) (.lit 0) (.ite (.cmpI .eql (.atom 1000) (.lit 0)) (.lit 1) (.ite (.cmpI .lss (.op .sub .i64 (.atom 1000) (.op .add .i64 (.lit 1) (.op .mul .i64 (.atom 0) (.atom 1)))) (.lit 0)) (.lit 2) (.lit 3)))) (.lit 3)), (.not (.atom 1251)), (.and (.cmp .eql (.nat (.atom 9)) (.nat (.atom 9))) (.cmp .lss (.nat (.atom 1252)) (.nat (.atom 10)))), (.cmp .lss (.atom 1252) (.nat (.atom 10))), (.cmp .geq (.atom 1252) (.lit 0)), (.cmp .lss (.atom 1252) (.nat (.atom 10)))]), (.at_ 1 [(1252, (.op .add .i64 (.atom 1252) (.lit 1))), (1251, (.cmpI .eql (.ite (.notI (.andI (.cmpI .geq (.atom 1000) (.lit 0)) (.cmpI .leq (.atom 1000) (.op .sub .i64 (.fn 2 cfgL) (.lit 1))))) (.lit 0) (.ite (.cmpI .eql (.atom 1000) (.lit 0)) (.lit 0) (.ite (.cmpI .lss (.op .sub .i64 (.atom 1000) (.op .add .i64 (.lit 1) (.op .mul .i64 (.atom 0) (.atom 1)))) (.lit 0)) (.op .quo .i64 (.op .sub .i64 (.atom 1000) (.lit 1)) (.atom 1)) (.op .quo .i64 (.op .sub .i64 (.atom 1000) (.op .add .i64 (.lit 1) (.op .mul .i64 (.atom 0) (.atom 1)))) (.op .add .i64 (.lit 6) (.atom 3)))))) (.fn 5 (.consL (.tab 1 (.atom 1252) 0) .nilL)))), (1000, (.atom 1000))] [] [(.cmp .geq (.tab 1 (.atom 1252) 0) (.lit 0)), (.cmp .eql (.ite (.notI (.andI (.cmpI .geq (.atom 1000) (.lit 0)) (.cmpI .leq (.atom 1000) (.op .sub .i64 (.fn 2 cfgL) (.lit 1))))) (.lit 0) (.ite (.cmpI .eql (.atom 1000) (.lit 0)) (.lit 0) (.ite (.cmpI .lss (.op .sub .i64 (.atom 1000) (.op .add .i64 (.lit 1) (.op .mul .i64 (.atom 0) (.atom 1)))) (.lit 0)) (.op .rem .i64 (.op .sub .i64 (.atom 1000) (.lit 1)) (.atom 1)) (.op .rem .i64 (.op .sub .i64 (.atom 1000) (.op .add .i64 (.lit 1) (.op .mul .i64 (.atom 0) (.atom 1)))) (.op .add .i64 (.lit 6) (.atom 3)))))) (.lit 0)), (.cmp .eql (.ite (.notI (.andI (.cmpI .geq (.atom 1000) (.lit 0)) (.cmpI .leq (.atom 1000) (.op .sub .i64 (.fn 2 cfgL) (.lit 1))))) (.lit 0) (.ite (.cmpI .eql (.atom 1000) (.lit 0)) (.lit 1) (.ite (.cmpI .lss (.op .sub .i64 (.atom 1000) (.op .add .i64 (.lit 1) (.op .mul .i64 (.atom 0) (.atom 1)))) (.lit 0)) (.lit 2) (.lit 3)))) (.lit 3)), (.not (.atom 1251)), (.and (.cmp .eql (.nat (.atom 9)) (.nat (.atom 9))) (.cmp .lss (.nat (.atom 1252)) (.nat (.atom 10)))), (.cmp .lss (.atom 1252) (.nat (.atom 10))), (.cmp .geq (.atom 1252) (.lit 0)), (.cmp .lss (.atom 1252) (.nat (.atom 10)))]), (.at_ 1 [(1252, (.op .add .i64 (.atom 1252) (.lit 1))), (1251, (.lit 0)), (1000, (.atom 1000))] [] [(.cmp .neq (.ite (.notI (.andI (.cmpI .geq (.atom 1000) (.lit 0)) (.cmpI .leq (.atom 1000) (.op .sub .i64 (.fn 2 cfgL) (.lit 1))))) (.lit 0) (.ite (.cmpI .eql (.atom 1000) (.lit 0)) (.lit 0) (.ite (.cmpI .lss (.op .sub .i64 (.atom 1000) (.op .add .i64 (.lit 1) (.op .mul .i64 (.atom 0) (.atom 1)))) (.lit 0)) (.op .rem .i64 (.op .sub .i64 (.atom 1000) (.lit 1)) (.atom 1)) (.op .rem .i64 (.op .sub .i64 (.atom 1000) (.op .add .i64 (.lit 1) (.op .mul .i64 (.atom 0) (.atom 1)))) (.op .add .i64 (.lit 6) (.atom 3)))))) (.lit 0)), (.cmp .eql (.ite (.notI (.andI (.cmpI .geq (.atom 1000) (.lit 0)) (.cmpI .leq (.atom 1000) (.op .sub .i64 (.fn 2 cfgL) (.lit 1))))) (.lit 0) (.ite (.cmpI .eql (.atom 1000) (.lit 0)) (.lit 1) (.ite (.cmpI .lss (.op .sub .i64 (.atom 1000) (.op .add .i64 (.lit 1) (.op .mul .i64 (.atom 0) (.atom 1)))) (.lit 0)) (.lit 2) (.lit 3)))) (.lit 3)), (.not (.atom 1251)), (.and (.cmp .eql (.nat (.atom 9)) (.nat (.atom 9))) (.cmp .lss (.nat (.atom 1252)) (.nat (.atom 10)))), (.cmp .lss (.atom 1252) (.nat (.atom 10))), (.cmp .geq (.atom 1252) (.lit 0)), (.cmp .lss (.atom 1252) (.nat (.atom 10)))]), (.at_ 1 [(1252, (.op .add .i64 (.atom 1252) (.lit 1))), (1251, (.lit 0)), (1000, (.atom 1000))] [] [(.cmp .neq (.ite (.notI (.andI (.cmpI .geq (.atom 1000) (.lit 0)) (.cmpI .leq (.atom 1000) (.op .sub .i64 (.fn 2 cfgL) (.lit 1))))) (.lit 0) (.ite (.cmpI .eql (.atom 1000) (.lit 0)) (.lit 1) (.ite (.cmpI .lss (.op .sub .i64 (.atom 1000) (.op .add .i64 (.lit 1) (.op .mul .i64 (.atom 0) (.atom 1)))) (.lit 0)) (.lit 2) (.lit 3)))) (.lit 3)), (.not (.atom 1251)), (.and (.cmp .eql (.nat (.atom 9)) (.nat (.atom 9))) (.cmp .lss (.nat (.atom 1252)) (.nat (.atom 10)))), (.cmp .lss (.atom 1252) (.nat (.atom 10))), (.cmp .geq (.atom 1252) (.lit 0)), (.cmp .lss (.atom 1252) (.nat (.atom 10)))]), (.need (.lit false) [(.not (.atom 1251)), (.cmp .neq (.get (.putL (.ofTab 0 (.nat (.atom 8))) (.lit 0) (.fnL 4201 (.consL (.lit 300) (.consL (.atom 0) (.consL (.atom 1) (.consL (.atom 2) (.consL (.atom 3) (.consL (.atom 4) (.consL (.atom 5) (.consL (.atom 6) (.consL (.lit 0) (.consL (.lit 0) (.consL (.atom 11) (.consL (.lit 0) (.consL (.lit 0) (.consL (.lit 0) (.consL (.lit 0) (.consL (.lit 0) (.consL (.lit 0) (.consL (.lit 0) (.consL (.len (.consL (.lit 0) (.consL (.lit 0) (.consL (.len (.tabL 1 (.atom 10) 3)) (.consL (.lit 0) (.tabL 1 (.atom 10) 3)))))) (.catL (.consL (.lit 0) (.consL (.lit 0) (.consL (.len (.tabL 1 (.atom 10) 3)) (.consL (.lit 0) (.tabL 1 (.atom 10) 3))))) (.ofTab 0 (.nat (.atom 8))))))))))))))))))))))))) (.at_ (.lit 0) (.atom 1000) 1 0) 0) (.tab 0 (.atom 1000) 0)), (.and (.cmp .eql (.nat (.atom 7)) (.nat (.atom 7))) (.cmp .lss (.nat (.atom 1000)) (.nat (.atom 8)))), (.cmp .lss (.atom 1000) (.nat (.atom 8))), (.cmp .geq (.atom 1000) (.lit 0)), (.cmp .leq (.nat (.atom 10)) (.atom 1252))]), (.at_ 0 [(1000, (.op .add .i64 (.atom 1000) (.lit 1)))] [] [(.atom 1251), (.cmp .neq (.get (.putL (.ofTab 0 (.nat (.atom 8))) (.lit 0) (.fnL 4201 (.consL (.lit 300) (.consL (.atom 0) (.consL (.atom 1) (.consL (.atom 2) (.consL (.atom 3) (.consL (.atom 4) (.consL (.atom 5) (.consL (.atom 6) (.consL (.lit 0) (.consL (.lit 0) (.consL (.atom 11) (.consL (.lit 0) (.consL (.lit 0) (.consL (.lit 0) (.consL (.lit 0) (.consL (.lit 0) (.consL (.lit 0) (.consL (.lit 0) (.consL (.len (.consL (.lit 0) (.consL (.lit 0) (.consL (.len (.tabL 1 (.atom 10) 3)) (.consL (.lit 0) (.tabL 1 (.atom 10) 3)))))) (.catL (.consL (.lit 0) (.consL (.lit 0) (.consL (.len (.tabL 1 (.atom 10) 3)) (.consL (.lit 0) (.tabL 1 (.atom 10) 3))))) (.ofTab 0 (.nat (.atom 8))))))))))))))))))))))))) (.at_ (.lit 0) (.atom 1000) 1 0) 0) (.tab 0 (.atom 1000) 0)), (.and (.cmp .eql (.nat (.atom 7)) (.nat (.atom 7))) (.cmp .lss (.nat (.atom 1000)) (.nat (.atom 8)))), (.cmp .lss (.atom 1000) (.nat (.atom 8))), (.cmp .geq (.atom 1000) (.lit 0)), (.cmp .leq (.nat (.atom 10)) (.atom 1252))]), (.at_ 0 [(1000, (.op .add .i64 (.atom 1000) (.lit 1)))] [] [(.cmp .eql (.get (.putL (.ofTab 0 (.nat (.atom 8))) (.lit 0) (.fnL 4201 (.consL (.lit 300) (.consL (.atom 0) (.consL (.atom 1) (.consL (.atom 2) (.consL (.atom 3) (.consL (.atom 4) (.consL (.atom 5) (.consL (.atom 6) (.consL (.lit 0) (.consL (.lit 0) (.consL (.atom 11) (.consL (.lit 0) (.consL (.lit 0) (.consL (.lit 0) (.consL (.lit 0) (.consL (.lit 0) (.consL (.lit 0) (.consL (.lit 0) (.consL (.len (.consL (.lit 0) (.consL (.lit 0) (.consL (.len (.tabL 1 (.atom 10) 3)) (.consL (.lit 0) (.tabL 1 (.atom 10) 3)))))) (.catL (.consL (.lit 0) (.consL (.lit 0) (.consL (.len (.tabL 1 (.atom 10) 3)) (.consL (.lit 0) (.tabL 1 (.atom 10) 3))))) (.ofTab 0 (.nat (.atom 8))))))))))))))))))))))))) (.at_ (.lit 0) (.atom 1000) 1 0) 0) (.tab 0 (.atom 1000) 0)), (.and (.cmp .eql (.nat (.atom 7)) (.nat (.atom 7))) (.cmp .lss (.nat (.atom 1000)) (.nat (.atom 8)))), (.cmp .lss (.atom 1000) (.nat (.atom 8))), (.cmp .geq (.atom 1000) (.lit 0)), (.cmp .leq (.nat (.atom 10)) (.atom 1252))])]
theorem e1_0 [Env] : oweAtR (tabsOf pks 0) ths [] Try.prog Try.f14 (rootOf Try.f14) baseF (extraG Try.prog) cuts cut1 [] rw1 = ob1_0 := by kernel_rfl
open St
def LT : IE := .tabL 1 (.atom 10) 3
def RT : IE := .ofTab 0 (.nat (.atom 8))
def FT : IE := .consL (.lit 0) (.consL (.lit 0) (.consL (.len LT) (.consL (.lit 0) LT)))
def YY : IE := .consL (.atom 0) (.consL (.atom 1) (.consL (.atom 2) (.consL (.atom 3) (.consL (.atom 4) (.consL (.atom 5) (.consL (.atom 6) (.consL (.lit 0) (.consL (.lit 0) (.consL (.atom 11) (.consL (.lit 0) (.consL (.lit 0) (.consL (.lit 0) (.consL (.lit 0) (.consL (.lit 0) (.consL (.lit 0) (.consL (.lit 0) (.consL (.len FT) (.catL FT RT))))))))))))))))))
def XX : IE := .consL (.lit 300) YY
def vNew : IE := .get (.putL RT (.lit 0) (.fnL 4201 XX)) (.at_ (.lit 0) (.atom 1000) 1 0) 0
def vOld : IE := .tab 0 (.atom 1000) 0
def Hit (E : Env) (i : Nat) : Prop := 0 ≤ E.t 1 i 0 % 4294967296 ∧ E.i 1000 = 1 + E.i 0 * E.i 1 + E.t 1 i 0 % 4294967296 * (6 + E.i 3)
def Phi : Nat → Env → Prop
  | 0, E => True
  | 1, E => @IE.val E vNew ≠ @IE.val E vOld → E.i 1251 ≠ 0 ∨ ∃ i : Nat, E.i 1252 ≤ i ∧ (i : Int) < E.i 10 ∧ Hit E i
  | _, _ => True
theorem YY_val (E : Env) : ∃ B : Bnk, decW (@IE.lst E YY) = ⟨Cl E, ⟨0, 0, E.i 11⟩, B, (⟨0, 0, @IE.lst E LT, [], []⟩ : Swp).enc⟩ ∧ B.row = @IE.lst E RT := by
  have h := decY E (.atom 0) (.atom 1) (.atom 2) (.atom 3) (.atom 4) (.atom 5) (.atom 6) (.lit 0) (.lit 0) (.atom 11) (.lit 0) (.lit 0) (.lit 0) (.lit 0) (.lit 0) (.lit 0) (.lit 0) FT RT
  have e : @IE.lst E FT = (⟨0, 0, @IE.lst E LT, [], []⟩ : Swp).enc := by
    show 0 :: 0 :: ((@IE.lst E LT).length : Int) :: 0 :: @IE.lst E LT = _
    simp [Swp.enc]
  rw [← e]
  exact ⟨_, h, rfl⟩
theorem tab_len (t : Nat → Nat → Int) (n : Nat) : ((List.range n).flatMap fun i => (List.range 3).map fun j => t i j).length = 3 * n := by
  induction n with
  | zero => rfl
  | succ n ih => rw [List.range_succ (n := n), List.flatMap_append, List.length_append, ih]; rfl
theorem LT_len (E : Env) : (@IE.lst E LT).length = 3 * (E.i 10).toNat := tab_len (E.t 1) _
theorem RT_len (E : Env) : (@IE.lst E RT).length = (((E.i 8).toNat : Nat) : Int).toNat := by
  show ((List.range _).map _).length = _
  rw [List.length_map, List.length_range]; rfl
theorem RT_get (E : Env) (k : Nat) (hk : (k : Int) < E.i 8) : (@IE.lst E RT).getD k 0 = E.t 0 k 0 := by
  show ((List.range (((E.i 8).toNat : Nat) : Int).toNat).map fun i => E.t 0 i 0).getD k 0 = _
  rw [List.getD_eq_getElem?_getD, List.getElem?_map, List.getElem?_range (by omega)]
  rfl
structure Ok (E : Env) : Prop where
  right : (Cl E).right
  n0 : 0 ≤ E.i 10
  n1 : E.i 10 ≤ 70
  len : E.i 8 = lenF (E.i 0) (E.i 1) (E.i 2) (E.i 3) (E.i 4) (E.i 5) (E.i 6)
  len4 : E.i 8 ≤ 400
theorem Ok.l {E : Env} (h : Ok E) : E.i 8 = 1 + E.i 0 * E.i 1 + (E.i 2 + 1) * (6 + E.i 3) := by
  rw [h.len]; exact if_pos h.right
theorem run (E : Env) (h : Ok E) (k : Int) (hk : 0 ≤ k) : (@IE.lst E (.fnL 4200 XX)).getD 0 0 = 3 ∧ (@IE.lst E (.fnL 4201 XX)).length = (@IE.lst E RT).length ∧ (hadF k (@IE.lst E (.fnL 4201 XX)) ≠ hadF k (@IE.lst E RT) → mineF (Cl E) (E.i 11) k (@IE.lst E LT)) := by
  obtain ⟨B, hw, hB⟩ := YY_val E
  have o : @IE.lst E (.fnL 4200 XX) = _ := outL_of (q := .lit 300) hw 0 (by decide)
  have o1 : @IE.lst E (.fnL 4201 XX) = _ := outL_of (q := .lit 300) hw 1 (by decide)
  have hn0 := h.n0
  have hn1 := h.n1
  have r := frees_run h.right (G := ⟨0, 0, E.i 11⟩) (B := B) (l := @IE.lst E LT) (by rw [LT_len]; omega) hk (q := _) (w' := _) rfl
  rw [o, o1, ← hB]
  exact r
theorem vOld_eq (E : Env) : @IE.val E vOld = E.t 0 (E.i 1000).toNat 0 := rfl
theorem vNew_eq (E : Env) (h : Ok E) : @IE.val E vNew = (@IE.lst E (.fnL 4201 XX)).getD (E.i 1000).toNat 0 := by
  have h2 := (run E h 0 (Int.le_refl 0)).2.1
  show (writeL (@IE.lst E RT) (0 : Int).toNat (@IE.lst E (.fnL 4201 XX))).getD ((((0 : Int).toNat + (E.i 1000).toNat * 1 + 0 : Nat) : Int).toNat + 0) 0 = _
  rw [show writeL (@IE.lst E RT) (0 : Int).toNat (@IE.lst E (.fnL 4201 XX)) = @IE.lst E (.fnL 4201 XX) from writeL_whole _ _ h2, show (((0 : Int).toNat + (E.i 1000).toNat * 1 + 0 : Nat) : Int).toNat + 0 = (E.i 1000).toNat by have e : (0 : Int).toNat = 0 := rfl; rw [e]; omega]
theorem chg (E : Env) (h : Ok E) (h0 : 0 ≤ E.i 1000) (h8 : E.i 1000 < E.i 8) (hne : @IE.val E vNew ≠ @IE.val E vOld) :
    (0 ≤ E.i 11 ∧ ∃ j : Int, 0 ≤ j ∧ j < E.i 1 ∧ E.i 11 < E.i 0 ∧ E.i 1000 = 1 + E.i 11 * E.i 1 + j) ∨ ∃ i : Nat, (0 : Int) ≤ i ∧ (i : Int) < E.i 10 ∧ Hit E i := by
  obtain ⟨_, h2, h3⟩ := run E h (E.i 1000) h0
  have hl := RT_len E
  have hm := h3 (by
    rw [vNew_eq E h, vOld_eq, ← RT_get E _ (by omega)] at hne
    have e : ∀ r : List Int, inF (E.i 1000) r → hadF (E.i 1000) r = r.getD (E.i 1000).toNat 0 := fun r hr => if_pos hr
    rw [e _ ⟨h0, by rw [h2, hl]; omega⟩, e _ ⟨h0, by rw [hl]; omega⟩]
    exact hne)
  rcases hm with hm | ⟨n, hn, g1, g2, g3⟩
  · exact .inl hm
  · obtain ⟨i, hi, e⟩ := firsts_tab (E.t 1) _ n hn
    have hi : i < (E.i 10).toNat := hi
    refine .inr ⟨i, by omega, by omega, ?_⟩
    rw [e] at g1 g3
    exact ⟨g1, g3⟩
def w0 : IE := .op .sub .i64 (.atom 1000) (.op .add .i64 (.lit 1) (.op .mul .i64 (.atom 0) (.atom 1)))
def w2 : IE := .notI (.andI (.cmpI .geq (.atom 1000) (.lit 0)) (.cmpI .leq (.atom 1000) (.op .sub .i64 (.fn 2 cfgL) (.lit 1))))
def wi (a b c d : IE) : IE := .ite w2 a (.ite (.cmpI .eql (.atom 1000) (.lit 0)) b (.ite (.cmpI .lss w0 (.lit 0)) c d))
def w4 : IE := wi (.lit 0) (.lit 1) (.lit 2) (.lit 3)
def w5 : IE := wi (.lit 0) (.lit 0) (.op .rem .i64 (.op .sub .i64 (.atom 1000) (.lit 1)) (.atom 1)) (.op .rem .i64 w0 (.op .add .i64 (.lit 6) (.atom 3)))
def w7 : IE := wi (.lit 0) (.lit 0) (.op .quo .i64 (.op .sub .i64 (.atom 1000) (.lit 1)) (.atom 1)) (.op .quo .i64 w0 (.op .add .i64 (.lit 6) (.atom 3)))
theorem small {x : Int} (h : -1000 ≤ x ∧ x ≤ 1000000) : IntKind.i64.wrap x = x := i64_small (by omega) (by omega)
theorem w0_val (E : Env) (h : Ok E) (h0 : 0 ≤ E.i 1000) (h8 : E.i 1000 < E.i 8) : @IE.val E w0 = E.i 1000 - (1 + E.i 0 * E.i 1) := by
  have h4 := h.len4
  have hts := (Cl E).ts h.right
  have hts : 1 ≤ E.i 0 * E.i 1 ∧ E.i 0 * E.i 1 ≤ 64 := hts
  show IntKind.i64.wrap (E.i 1000 - IntKind.i64.wrap (1 + IntKind.i64.wrap (E.i 0 * E.i 1))) = _
  rw [small (x := E.i 0 * E.i 1) (by omega), small (x := 1 + E.i 0 * E.i 1) (by omega), small (by omega)]
theorem wi_val (E : Env) (h : Ok E) (h0 : 1 ≤ E.i 1000) (h8 : E.i 1000 < E.i 8) (a b c d : IE) : @IE.val E (wi a b c d) = if E.i 1000 - (1 + E.i 0 * E.i 1) < 0 then @IE.val E c else @IE.val E d := by
  have h4 := h.len4
  have hlen := h.len
  have e2 : @IE.val E w2 = 0 := by
    show ofB (ofB (ofB (decide (E.i 1000 ≥ 0)) != 0 && ofB (decide (E.i 1000 ≤ IntKind.i64.wrap (lenF (E.i 0) (E.i 1) (E.i 2) (E.i 3) (E.i 4) (E.i 5) (E.i 6) - 1))) != 0) == 0) = 0
    rw [← hlen, small (x := E.i 8 - 1) (by omega), decide_eq_true (show E.i 1000 ≥ 0 by omega), decide_eq_true (show E.i 1000 ≤ E.i 8 - 1 by omega)]
    rfl
  show iteI (@IE.val E w2) _ (iteI (ofB (decide (E.i 1000 = 0))) _ (iteI (ofB (decide (@IE.val E w0 < 0))) (@IE.val E c) (@IE.val E d))) = _
  rw [e2, decide_eq_false (show ¬ E.i 1000 = 0 by omega), w0_val E h (by omega) h8]
  show (if (0 : Int) = 0 then (if (0 : Int) = 0 then iteI _ _ _ else _) else _) = _
  rw [if_pos rfl, if_pos rfl]
  by_cases hc : E.i 1000 - (1 + E.i 0 * E.i 1) < 0
  · rw [if_pos hc, decide_eq_true hc]; rfl
  · rw [if_neg hc, decide_eq_false hc]; rfl
theorem at_res (E : Env) (h : Ok E) (h8 : E.i 1000 < E.i 8) {j : Int} (hth : 0 ≤ E.i 11) (hj : 0 ≤ j) (hj2 : j < E.i 1) (ht : E.i 11 < E.i 0) (hk : E.i 1000 = 1 + E.i 11 * E.i 1 + j) : @IE.val E w4 = 2 ∧ @IE.val E w7 = E.i 11 := by
  have h4 := h.len4
  have hts := (Cl E).ts h.right
  have hts : 1 ≤ E.i 0 * E.i 1 ∧ E.i 0 * E.i 1 ≤ 64 := hts
  have hm : 0 ≤ E.i 11 * E.i 1 := Int.mul_nonneg hth (by omega)
  have hm2 : (E.i 11 + 1) * E.i 1 ≤ E.i 0 * E.i 1 := Int.mul_le_mul_of_nonneg_right (by omega) (by omega)
  rw [Int.add_mul] at hm2
  have hlt : E.i 1000 - (1 + E.i 0 * E.i 1) < 0 := by omega
  have ht8 : E.i 11 ≤ 8 := by have := h.right.2.1; have : E.i 0 ≤ 8 := this; omega
  have a := wi_val E h (by omega) h8
  refine ⟨(a _ _ _ _).trans (if_pos hlt), ((a _ _ _ _).trans (if_pos hlt)).trans ?_⟩
  show IntKind.i64.wrap (Int.tdiv (IntKind.i64.wrap (E.i 1000 - 1)) (E.i 1)) = _
  rw [small (x := E.i 1000 - 1) (by omega), Int.tdiv_eq_ediv_of_nonneg (by omega), hk, show 1 + E.i 11 * E.i 1 + j - 1 = j + E.i 11 * E.i 1 by omega, Int.add_mul_ediv_right _ _ (show E.i 1 ≠ 0 by omega), Int.ediv_eq_zero_of_lt hj hj2, Int.zero_add, small (by omega)]
theorem at_hit (E : Env) (h : Ok E) (h8 : E.i 1000 < E.i 8) {i : Nat} (hh : Hit E i) : @IE.val E w4 = 3 ∧ @IE.val E w5 = 0 ∧ @IE.val E w7 = E.i 1000 - E.i 1000 + E.t 1 i 0 % 4294967296 := by
  obtain ⟨g1, g2⟩ := hh
  have h4 := h.len4
  have hts := (Cl E).ts h.right
  have hts : 1 ≤ E.i 0 * E.i 1 ∧ E.i 0 * E.i 1 ≤ 64 := hts
  have hh : 1 ≤ E.i 3 ∧ E.i 3 ≤ 6 := ⟨h.right.2.2.2.2.2.2.1, h.right.2.2.2.2.2.2.2.1⟩
  generalize hx : E.t 1 i 0 % 4294967296 = x at g1 g2 ⊢
  have hm : 0 ≤ x * (6 + E.i 3) := Int.mul_nonneg g1 (by omega)
  have hxl : x ≤ 400 := by
    have : x * 1 ≤ x * (6 + E.i 3) := Int.mul_le_mul_of_nonneg_left (by omega) g1
    omega
  have hge : ¬ E.i 1000 - (1 + E.i 0 * E.i 1) < 0 := by omega
  have a := wi_val E h (by omega) h8
  have e0 : E.i 1000 - (1 + E.i 0 * E.i 1) = x * (6 + E.i 3) := by omega
  have e6 : IntKind.i64.wrap (6 + E.i 3) = 6 + E.i 3 := small (by omega)
  refine ⟨(a _ _ _ _).trans (if_neg hge), ((a _ _ _ _).trans (if_neg hge)).trans ?_, ((a _ _ _ _).trans (if_neg hge)).trans ?_⟩
  · show Int.tmod (@IE.val E w0) (IntKind.i64.wrap (6 + E.i 3)) = 0
    rw [w0_val E h (by omega) h8, e0, e6, Int.mul_tmod_left]
  · show IntKind.i64.wrap (Int.tdiv (@IE.val E w0) (IntKind.i64.wrap (6 + E.i 3))) = _
    rw [w0_val E h (by omega) h8, e0, e6, Int.mul_tdiv_cancel _ (by omega), small (by omega)]
    omega
theorem right_of {E : Env} (h : @BE.val E (.cmp .neq (.fn 1 cfgL) (.lit 0)) = true) : (Cl E).right := by
  have h : ((if rightP (E.i 0) (E.i 1) (E.i 2) (E.i 3) (E.i 4) (E.i 5) (E.i 6) then 1 else 0 : Int) != 0) = true := h
  by_cases hr : rightP (E.i 0) (E.i 1) (E.i 2) (E.i 3) (E.i 4) (E.i 5) (E.i 6)
  · exact hr
  · rw [if_neg hr] at h; exact absurd h (by decide)
theorem n10 (E : Env) (h1 : symRng E pks 0 0) : 0 ≤ E.i 10 := of_decide_eq_true (rngFacts_ok E h1 (.cmp .leq (.lit 0) (.atom 10)) (List.mem_of_getElem? (i := 18) rfl))
theorem runS (E : Env) (h1 : symRng E pks 0 0) (hx : E.i 10 ≤ 8000000000000) : ObsOk E Phi obS := by
  have h0 := n10 E h1
  have hl := LT_len E
  have a1 : @BE.val E (.cmp .leq (.atom 10) (.lit 8000000000000)) = true := decide_eq_true hx
  have a2 : @BE.val E (.cmp .leq (.len LT) (.lit 24000000000000)) = true := decide_eq_true (show ((@IE.lst E LT).length : Int) ≤ 24000000000000 by omega)
  have nn : @BE.val E (.not (.cmp .gtr (.nat (.atom 10)) (.lit 70))) = true → E.i 10 ≤ 70 := fun h => by
    have h : (!decide ((((E.i 10).toNat : Nat) : Int) > 70)) = true := h
    have h : ¬ _ := of_decide_eq_false (Bool.not_eq_true' _ ▸ h)
    omega
  have htab := tabsOf_ok E h1
  exact ⟨fun _ => a1, fun _ => a2, fun _ => a1, fun _ => a2, fun _ => a1, fun _ => a2, fun _ => a1, fun _ => a2,
    fun hc => by
      have h7 := nn hc.1
      exact decide_eq_true (show ((@IE.lst E LT).length : Int) ≤ 10000 by omega),
    fun hc => (ofP_ne _).trans (decide_eq_true (by
      show wordsP ((List.range (E.i 10).toNat).flatMap fun i => (List.range 3).map fun j => E.t 1 i j)
      intro x hx
      obtain ⟨i, _, hx⟩ := List.mem_flatMap.1 hx
      obtain ⟨j, hj, rfl⟩ := List.mem_map.1 hx
      have hj := List.mem_range.1 hj
      have t := fun q => htab q
      match j, hj with
      | 0, _ => have := t (1, 0, 0, 18446744073709551615) (by decide) i; simp only at this; omega
      | 1, _ => have := t (1, 1, 0, 18446744073709551615) (by decide) i; simp only at this; omega
      | 2, _ => have := t (1, 2, 0, 18446744073709551615) (by decide) i; simp only at this; omega)),
    fun hc => (ofP_ne _).trans (decide_eq_true (by
      show wordsP ((List.range (((E.i 8).toNat : Nat) : Int).toNat).map fun i => E.t 0 i 0)
      intro x hx
      obtain ⟨i, _, rfl⟩ := List.mem_map.1 hx
      have := htab (0, 0, 0, 18446744073709551615) (by decide) i; simp only at this; omega)),
    fun _ => trivial, trivial⟩
theorem run0_0 (E : Env) (hfs : ∀ b ∈ cut0.fs, @BE.val E b = true) (hphi : Phi 0 E) (htab : TabR (tabsOf pks 0) E) : ObsOk E Phi ob0_0 := by
  have q0 : 0 ≤ E.i 1000 := of_decide_eq_true (hfs (.cmp .leq (.lit 0) (.atom 1000)) (List.mem_of_getElem? (i := 0) rfl))
  have q2 : (((E.i 10).toNat : Nat) : Int) ≤ 70 := of_decide_eq_true (hfs (.cmp .leq (.nat (.atom 10)) (.lit 70)) (List.mem_of_getElem? (i := 2) rfl))
  have q3 : (((E.i 8).toNat : Nat) : Int) ≤ 400 := of_decide_eq_true (hfs (.cmp .leq (.nat (.atom 8)) (.lit 400)) (List.mem_of_getElem? (i := 3) rfl))
  have q8 : (((E.i 8).toNat : Nat) : Int) = lenF (E.i 0) (E.i 1) (E.i 2) (E.i 3) (E.i 4) (E.i 5) (E.i 6) := of_decide_eq_true (hfs (.cmp .eql (.nat (.atom 8)) (.fn 2 cfgL)) (List.mem_of_getElem? (i := 8) rfl))
  have q23 := hfs _ (List.mem_of_getElem? (i := 23) rfl)
  have q25 : 0 ≤ E.i 8 := of_decide_eq_true (hfs (.cmp .leq (.lit 0) (.atom 8)) (List.mem_of_getElem? (i := 25) rfl))
  have q27 : 0 ≤ E.i 10 := of_decide_eq_true (hfs (.cmp .leq (.lit 0) (.atom 10)) (List.mem_of_getElem? (i := 27) rfl))
  have h : Ok E := ⟨right_of q23, q27, by omega, by omega, by omega⟩
  have k8 : @BE.val E (.cmp .lss (.atom 1000) (.nat (.atom 8))) = true → E.i 1000 < E.i 8 := fun hc => by have hc : E.i 1000 < (((E.i 8).toNat : Nat) : Int) := of_decide_eq_true hc; omega
  have hr := h.right
  exact ⟨
    (fun hc => by
      have h3 : 1 ≤ E.i 3 ∧ E.i 3 ≤ 6 := ⟨hr.2.2.2.2.2.2.1, hr.2.2.2.2.2.2.2.1⟩
      have e6 : IntKind.i64.wrap (6 + E.i 3) = 6 + E.i 3 := small (by omega)
      have hb : (IntKind.i64.wrap (6 + E.i 3) != 0) = true := by rw [e6]; exact bne_iff_ne.2 (by omega)
      show (!(_ && (_ && (_ && !(IntKind.i64.wrap (6 + E.i 3) != 0))))) = true
      rw [hb]
      simp),
    (fun hc => by
      have hk := k8 hc.2.2.2.1
      refine (show @IE.val E vNew ≠ @IE.val E vOld → ofB (decide (@IE.val E w7 = E.i 11)) ≠ 0 ∨ ∃ i : Nat, (0 : Int) ≤ i ∧ (i : Int) < E.i 10 ∧ Hit E i from fun hne => ?_)
      rcases chg E h q0 hk hne with ⟨g1, j, g2, g3, g4, g5⟩ | hh
      · refine .inl ?_
        rw [(at_res E h hk g1 g2 g3 g4 g5).2, decide_eq_true rfl]
        decide
      · exact .inr hh),
    (fun hc => by
      have hk := k8 hc.2.2.2.1
      have h4 : @IE.val E w4 ≠ 2 := bne_iff_ne.1 hc.1
      refine (show @IE.val E vNew ≠ @IE.val E vOld → (0 : Int) ≠ 0 ∨ ∃ i : Nat, (0 : Int) ≤ i ∧ (i : Int) < E.i 10 ∧ Hit E i from fun hne => ?_)
      rcases chg E h q0 hk hne with ⟨g1, j, g2, g3, g4, g5⟩ | hh
      · exact absurd (at_res E h hk g1 g2 g3 g4 g5).1 h4
      · exact .inr hh),
    (fun hc => decide_eq_true (show (@IE.lst E (.fnL 4200 XX)).getD 0 0 = 3 from (run E h 0 (Int.le_refl 0)).1)), trivial⟩
theorem run1_0 (E : Env) (hfs : ∀ b ∈ cut1.fs, @BE.val E b = true) (hphi : Phi 1 E) (htab : TabR (tabsOf pks 0) E) : ObsOk E Phi ob1_0 := by
  have qi : 0 ≤ E.i 1252 := of_decide_eq_true (hfs (.cmp .leq (.lit 0) (.atom 1252)) (List.mem_of_getElem? (i := 0) rfl))
  have q0 : 0 ≤ E.i 1000 := of_decide_eq_true (hfs (.cmp .leq (.lit 0) (.atom 1000)) (List.mem_of_getElem? (i := 1) rfl))
  have qk : E.i 1000 < (((E.i 8).toNat : Nat) : Int) := of_decide_eq_true (hfs (.cmp .lss (.atom 1000) (.nat (.atom 8))) (List.mem_of_getElem? (i := 2) rfl))
  have q2 : (((E.i 10).toNat : Nat) : Int) ≤ 70 := of_decide_eq_true (hfs (.cmp .leq (.nat (.atom 10)) (.lit 70)) (List.mem_of_getElem? (i := 4) rfl))
  have q3 : (((E.i 8).toNat : Nat) : Int) ≤ 400 := of_decide_eq_true (hfs (.cmp .leq (.nat (.atom 8)) (.lit 400)) (List.mem_of_getElem? (i := 5) rfl))
  have q8 : (((E.i 8).toNat : Nat) : Int) = lenF (E.i 0) (E.i 1) (E.i 2) (E.i 3) (E.i 4) (E.i 5) (E.i 6) := of_decide_eq_true (hfs (.cmp .eql (.nat (.atom 8)) (.fn 2 cfgL)) (List.mem_of_getElem? (i := 10) rfl))
  have q23 := hfs _ (List.mem_of_getElem? (i := 25) rfl)
  have q25 : 0 ≤ E.i 8 := of_decide_eq_true (hfs (.cmp .leq (.lit 0) (.atom 8)) (List.mem_of_getElem? (i := 27) rfl))
  have q27 : 0 ≤ E.i 10 := of_decide_eq_true (hfs (.cmp .leq (.lit 0) (.atom 10)) (List.mem_of_getElem? (i := 29) rfl))
  have h : Ok E := ⟨right_of q23, q27, by omega, by omega, by omega⟩
  have hk : E.i 1000 < E.i 8 := by omega
  have hp : @IE.val E vNew ≠ @IE.val E vOld → E.i 1251 ≠ 0 ∨ ∃ i : Nat, E.i 1252 ≤ i ∧ (i : Int) < E.i 10 ∧ Hit E i := hphi
  have up : @BE.val E (.cmp .lss (.atom 1252) (.nat (.atom 10))) = true → IntKind.i64.wrap (E.i 1252 + 1) = E.i 1252 + 1 := fun hc => by
    have hc : E.i 1252 < (((E.i 10).toNat : Nat) : Int) := of_decide_eq_true hc
    exact small (by omega)
  have noM : @BE.val E (.not (.atom 1251)) = true → E.i 1251 = 0 := fun hc => by
    have hc : (!(E.i 1251 != 0)) = true := hc
    by_cases he : E.i 1251 = 0
    · exact he
    · rw [bne_iff_ne.2 he] at hc; cases hc
  have nxt : ∀ m : Int, IntKind.i64.wrap (E.i 1252 + 1) = E.i 1252 + 1 → E.i 1251 = 0 → (∀ i : Nat, E.i 1252 = i → Hit E i → m ≠ 0) → @IE.val E vNew ≠ @IE.val E vOld → m ≠ 0 ∨ ∃ i : Nat, IntKind.i64.wrap (E.i 1252 + 1) ≤ i ∧ (i : Int) < E.i 10 ∧ Hit E i := fun m hu h0 hm hne => by
    rcases hp hne with hn | ⟨i, g1, g2, g3⟩
    · exact absurd h0 hn
    · by_cases hi : E.i 1252 = i
      · exact .inl (hm i hi g3)
      · exact .inr ⟨i, by omega, g2, g3⟩
  have tk : ∀ i : Nat, E.i 1252 = i → (E.i 1252).toNat = i := fun i e => by omega
  exact ⟨
    (fun hc => (show @IE.val E vNew ≠ @IE.val E vOld → (1 : Int) ≠ 0 ∨ _ from fun _ => .inl (by decide))),
    (fun hc => by
      have := htab (1, 0, 0, 18446744073709551615) (by decide) (E.i 1252).toNat
      exact decide_eq_true (show E.t 1 (E.i 1252).toNat 0 ≥ 0 from this.1)),
    (fun hc => by
      refine (show @IE.val E vNew ≠ @IE.val E vOld → ofB (decide (@IE.val E w7 = E.t 1 (E.i 1252).toNat 0 % 4294967296)) ≠ 0 ∨ ∃ i : Nat, IntKind.i64.wrap (E.i 1252 + 1) ≤ i ∧ (i : Int) < E.i 10 ∧ Hit E i from nxt _ (up hc.2.2.2.2.2.1) (noM hc.2.2.2.1) fun i e hh => ?_)
      rw [tk i e, (at_hit E h hk hh).2.2, decide_eq_true (by omega)]
      decide),
    (fun hc => by
      have h5 : @IE.val E w5 ≠ 0 := bne_iff_ne.1 hc.1
      exact (show @IE.val E vNew ≠ @IE.val E vOld → (0 : Int) ≠ 0 ∨ ∃ i : Nat, IntKind.i64.wrap (E.i 1252 + 1) ≤ i ∧ (i : Int) < E.i 10 ∧ Hit E i from nxt _ (up hc.2.2.2.2.1) (noM hc.2.2.1) fun i e hh => absurd (at_hit E h hk hh).2.1 h5)),
    (fun hc => by
      have h4 : @IE.val E w4 ≠ 3 := bne_iff_ne.1 hc.1
      exact (show @IE.val E vNew ≠ @IE.val E vOld → (0 : Int) ≠ 0 ∨ ∃ i : Nat, IntKind.i64.wrap (E.i 1252 + 1) ≤ i ∧ (i : Int) < E.i 10 ∧ Hit E i from nxt _ (up hc.2.2.2.1) (noM hc.2.1) fun i e hh => absurd (at_hit E h hk hh).1 h4)),
    (fun hc => by
      have hne : @IE.val E vNew ≠ @IE.val E vOld := bne_iff_ne.1 hc.2.1
      have hge : (((E.i 10).toNat : Nat) : Int) ≤ E.i 1252 := of_decide_eq_true (hc.2.2.2.2.2.1)
      rcases hp hne with hn | ⟨i, g1, g2, _⟩
      · exact absurd (noM hc.1) hn
      · exact absurd (Int.lt_of_le_of_lt (Int.le_trans (Int.self_le_toNat _) hge) (Int.lt_of_le_of_lt g1 g2)) (Int.lt_irrefl _)),
    (fun hc => trivial), (fun hc => trivial), trivial⟩
theorem part0 (E : Env) (hfs : ∀ b ∈ cut0.fs, @BE.val E b = true) (hphi : Phi 0 E) (htab : TabR (tabsOf pks 0) E) : ∃ (ex : List BE) (rw : List (IE × IE)), (∀ b ∈ ex, @BE.val E b = true) ∧ Owed E Phi (oweAtR (tabsOf pks 0) ths [] Try.prog Try.f14 (rootOf Try.f14) baseF (extraG Try.prog) cuts cut0 ex rw) :=
  ⟨[], rw0, Bk.nn, Owed.eq (@e0_0 E) (run0_0 E hfs hphi htab)⟩
theorem part1 (E : Env) (hfs : ∀ b ∈ cut1.fs, @BE.val E b = true) (hphi : Phi 1 E) (htab : TabR (tabsOf pks 0) E) : ∃ (ex : List BE) (rw : List (IE × IE)), (∀ b ∈ ex, @BE.val E b = true) ∧ Owed E Phi (oweAtR (tabsOf pks 0) ths [] Try.prog Try.f14 (rootOf Try.f14) baseF (extraG Try.prog) cuts cut1 ex rw) :=
  ⟨[], rw1, Bk.nn, Owed.eq (@e1_0 E) (run1_0 E hfs hphi htab)⟩
theorem runsM (E : Env) (i : Nat) (k : Cut) (hi : cuts[i]? = some k) (hfs : ∀ b ∈ k.fs, @BE.val E b = true) (hphi : Phi i E) (htab : TabR (tabsOf pks 0) E) : ∃ (ex : List BE) (rw : List (IE × IE)), (∀ b ∈ ex, @BE.val E b = true) ∧ Owed E Phi (oweAtR (tabsOf pks 0) ths [] Try.prog Try.f14 (rootOf Try.f14) baseF (extraG Try.prog) cuts k ex rw) := by
  match i, hi with
  | 0, hi => obtain rfl : cut0 = k := Option.some.inj (show some cut0 = some k from hi); exact part0 E hfs hphi htab
  | 1, hi => obtain rfl : cut1 = k := Option.some.inj (show some cut1 = some k from hi); exact part1 E hfs hphi htab
  | n + 2, hi => exact absurd hi (by simp [cuts])
theorem startM (E : Env) (h1 : symRng E pks 0 0) (hx : E.i 10 ≤ 8000000000000) : Owed E Phi (oweStartR (tabsOf pks 0) ths [] Try.prog Try.f14 (rootOf Try.f14) baseF (extraG Try.prog) cuts (rngFacts pks 0) (symArgsG gs 0 0) (symHeap pks 0 0)) := Owed.eq (@eS E) (runS E h1 hx)
theorem trOk : ∀ i ∈ ([] : List Nat), ∀ E, Phi i E := fun i h => by cases h
theorem bodyOk : Try.f14.body = some (rootOf Try.f14) := by kernel_rfl
theorem law (E : Env) (ρ : Rho) (F : Nat → Nat → Prop) (w : World) (argv : Array Value) (h1 : symRng E pks 0 0) (h2 : @HeapOk E Empty _ ρ F (symHeap pks 0 0) w) (h3 : All2 (@SV.is E ρ) (symArgsG gs 0 0) argv.toList) (hx : E.i 10 ≤ 8000000000000) :
    Calls Try.prog 14 argv w fun e w' => e = .returned (.bool true) ∧ ∃ ρ' F', Reach ρ F w ρ' F' w' :=
  floydRM (ts := tabsOf pks 0) mixed_ok (c := @baseF) @baseF_ok (x := extraG Try.prog) (fun {_} => extraG_ok _) Try.func14 bodyOk ths_ok (tr := []) (Φ := Phi) trOk heads runsM E (tabsOf_ok E h1) (rngFacts_ok E h1) (startM E h1 hx) h2 h3
end Go.Proofs.Ytafemlljemhkhaa.Sx.LSweepFrees
