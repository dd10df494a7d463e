import Derived.Test.YtafemlljemhkhaaPSxAl
import Derived.Test.YtafemlljemhkhaaPSxNw
namespace Go.Proofs.Ytafemlljemhkhaa.Sx
open Go
set_option maxRecDepth 1000000
set_option linter.unusedVariables false
def sumsF : List Summ := CvN.s0 :: sumsW
theorem sumsF_ok : ∀ σ ∈ sumsF, σ.ok Try.prog := Bk.cc CvN.ok0 sumsW_ok
noncomputable def baseF [Env] : CallF Empty := callF Try.prog (withS sumsF sums3) (extraG Try.prog) noL 100 50
theorem baseF_ok [Env] : CallOk Try.prog baseF := callF_ok ⟨mixed_ok, (withS_ok sumsF_ok sums3_ok).2, names_ok, (withS_ok sumsF_ok sums3_ok).1, extraG_ok _, fun _ _ _ _ _ _ _ _ _ _ _ _ _ _ _ _ h => (by cases h)⟩ 100 50
end Go.Proofs.Ytafemlljemhkhaa.Sx
