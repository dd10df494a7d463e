import Derived.Test.YtafemlljemhkhaaPSxFa
import Derived.Test.YtafemlljemhkhaaPSxFsd
namespace Go.Proofs.Ytafemlljemhkhaa.Sx
open Go
set_option linter.unusedSectionVars false
set_option linter.unusedVariables false
set_option linter.unusedSimpArgs false
def updF (c v : Int) (r : List Int) : List Int := writeL r (if inF c r then c else (r.length : Int)).toNat [v]
theorem updF_eq (c v : Int) (r : List Int) : updF c v r = if inF c r then r.set c.toNat v else r := by
  unfold updF
  simp only [writeL]
  by_cases h : inF c r
  · rw [if_pos h,if_pos h]
  · rw [if_neg h,if_neg h]; exact List.set_eq_of_length_le (by simp)
theorem length_updF (c v : Int) (r : List Int) : (updF c v r).length = r.length := by rw [updF_eq]; split <;> simp
def rightE (E : Env) : Prop := rightP (E.i 0) (E.i 1) (E.i 2) (E.i 3) (E.i 4) (E.i 5) (E.i 6)
end Go.Proofs.Ytafemlljemhkhaa.Sx
namespace Go.Proofs.Ytafemlljemhkhaa.Sx
open Go
set_option linter.unusedSectionVars false
set_option linter.unusedVariables false
set_option linter.unusedSimpArgs false
theorem hadF_in {c : Int} {r : List Int} (h : inF c r) : hadF c r = r.getD c.toNat 0 := if_pos h
theorem right_of {E : Env} (h : @BE.val E (.cmp .neq (.fn 1 (.consL (.atom 0) (.consL (.atom 1) (.consL (.atom 2) (.consL (.atom 3) (.consL (.atom 4) (.consL (.atom 5) (.consL (.atom 6) .nilL)))))))) (.lit 0)) = true) : rightE E := @isW_val E _ _ _ _ _ _ _ _ rfl h
end Go.Proofs.Ytafemlljemhkhaa.Sx
