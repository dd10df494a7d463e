import Derived.Test.YtafemlljemhkhaaPSxMx
import Derived.Test.YtafemlljemhkhaaPSxXw
namespace Go.Proofs.Ytafemlljemhkhaa.Sx
open Go
set_option maxRecDepth 1000000
set_option maxHeartbeats 4000000
set_option linter.unusedVariables false
noncomputable def baseL [Env] : CallF Empty := callF Try.prog (pureG pures) (extraN Try.prog) noL 100 50
theorem baseL_ok [Env] : CallOk Try.prog baseL := callF_ok ⟨mixed_ok,(pureG_ok pures_ok).2,names_ok,(pureG_ok pures_ok).1,extraN_ok _,fun _ _ _ _ _ _ _ _ _ _ _ _ _ _ _ _ h => (by cases h)⟩ 100 50
theorem evalAl [Env] : baseL 43 [] [] [] 1 = .leaf (litT, []) := by kernel_rfl
def s_al : Summ := ⟨43, [], [], .leaf (litT, [])⟩
theorem ok_al : s_al.ok Try.prog := Summ.of (c := @baseL) @baseL_ok (Bk.enters_of Try.func43 (by kernel_rfl)) (fun {_} => evalAl)
end Go.Proofs.Ytafemlljemhkhaa.Sx
