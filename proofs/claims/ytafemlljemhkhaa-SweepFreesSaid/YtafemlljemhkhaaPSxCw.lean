import Derived.Test.YtafemlljemhkhaaPSxCl2
import Derived.Test.YtafemlljemhkhaaPSxFbc
namespace Go.Proofs.Ytafemlljemhkhaa.Sx
open Go
set_option linter.unusedSectionVars false
set_option linter.unusedVariables false
set_option linter.unusedSimpArgs false
theorem taken_eq {g : Int} (h : 0 ≤ g ∧ g ≤ 1073741823) : funs 24 [1, g] = 4 * g + 1 := by
  show (if metaP 1 g then 4 * g + 1 else 0) = _
  rw [if_pos ⟨by omega, by omega, h.1, h.2⟩]
end Go.Proofs.Ytafemlljemhkhaa.Sx
