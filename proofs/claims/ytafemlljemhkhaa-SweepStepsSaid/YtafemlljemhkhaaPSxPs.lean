import Derived.Test.YtafemlljemhkhaaPSxAv
import Derived.Test.YtafemlljemhkhaaPSxMx
import Derived.Test.YtafemlljemhkhaaPSxCx
import Derived.Test.YtafemlljemhkhaaPSxCy
import Derived.Test.YtafemlljemhkhaaPSxPq
import Derived.Test.YtafemlljemhkhaaPSxOf
namespace Go.Proofs.Ytafemlljemhkhaa.Sx
open Go
set_option maxRecDepth 1000000
set_option linter.unusedVariables false
def sumsP : List Summ := s_al :: Oo.s_of2 :: Pk2.s_pok :: CvN.s0 :: CvO.s0 :: CvS.s0 :: (sumsY ++ (sumsC3 ++ sumsG5))
theorem sumsP_ok : ∀ σ ∈ sumsP, σ.ok Try.prog := Bk.cc ok_al (Bk.cc Oo.ok_of2 (Bk.cc Pk2.ok_pok (Bk.cc CvN.ok0 (Bk.cc CvO.ok0 (Bk.cc CvS.ok0 fun σ h => (List.mem_append.1 h).elim (sumsY_ok σ) fun h => (List.mem_append.1 h).elim (sumsC3_ok σ) (sumsG5_ok σ))))))
noncomputable def baseP [Env] : CallF Empty := callF Try.prog (withS sumsP sums3) (extraG Try.prog) noL 100 50
theorem baseP_ok [Env] : CallOk Try.prog baseP := callF_ok ⟨mixed_ok,(withS_ok sumsP_ok sums3_ok).2,names_ok,(withS_ok sumsP_ok sums3_ok).1,extraG_ok _,fun _ _ _ _ _ _ _ _ _ _ _ _ _ _ _ _ h => (by cases h)⟩ 100 50
end Go.Proofs.Ytafemlljemhkhaa.Sx
