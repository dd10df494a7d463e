/-
  The calls of the layers 9 and on: all summaries together.
-/
import Derived.Test.YtafemlljemhkhaaSxCl
import Derived.Test.YtafemlljemhkhaaSxPk
namespace Go.Proofs.Ytafemlljemhkhaa.Sx
open Go
def sums9 : List Summ := Pk1.s_pok :: sums8
theorem sums9_ok : ∀ σ ∈ sums9, σ.ok Try.prog := Bk.cc Pk1.ok_pok sums8_ok
noncomputable def base9 [Env] : CallF Empty := callF Try.prog (withS sums9 sums3) (extraS Try.prog) noL 100 50
theorem base9_ok [Env] : CallOk Try.prog base9 := callF_ok ⟨mixed_ok, (withS_ok sums9_ok sums3_ok).2, names_ok, (withS_ok sums9_ok sums3_ok).1, extraS_ok _, fun _ _ _ _ _ _ _ _ _ _ _ _ _ _ _ _ h => (by cases h)⟩ 100 50
noncomputable def base9u [Env] : CallF Empty := callU Try.prog base9 (extraS Try.prog) noL 100
theorem base9u_ok [Env] : CallOk Try.prog base9u := callU_ok mixed_ok base9_ok (extraS_ok _) names_ok (fun _ _ _ _ _ _ _ _ _ _ _ _ _ _ _ _ h => (by cases h))

end Go.Proofs.Ytafemlljemhkhaa.Sx
