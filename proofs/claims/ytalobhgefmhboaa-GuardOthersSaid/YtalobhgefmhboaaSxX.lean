/-
  The closed runs of the two laws' 'alive': each tells true.
-/
import Derived.Test.YtalobhgefmhboaaSxW
namespace Go.Proofs.Ytalobhgefmhboaa.Sx
open Go
set_option linter.unusedSectionVars false
set_option linter.unusedVariables false
set_option maxRecDepth 100000

noncomputable def base1 [Env] : CallF Empty := callF Try.prog (pureG pures) (extraS Try.prog) noL 100 50
theorem base1_ok [Env] : CallOk Try.prog base1 := callF_ok ⟨mixed_ok, (pureG_ok pures_ok).2, names_ok, (pureG_ok pures_ok).1, extraS_ok _, fun _ _ _ _ _ _ _ _ _ _ _ _ _ _ _ _ h => (by cases h)⟩ 100 50
def litT : SV := .w (.one (.b (.bool (.lit true))))
theorem eval17 [Env] : base1 17 [] [] [] 1 = .leaf (litT, []) := by kernel_rfl
theorem eval30 [Env] : base1 30 [] [] [] 1 = .leaf (litT, []) := by kernel_rfl
theorem enters17 : enters Try.prog 17 := ⟨Try.f17, Try.func17, by kernel_rfl, by kernel_rfl⟩
theorem enters30 : enters Try.prog 30 := ⟨Try.f30, Try.func30, by kernel_rfl, by kernel_rfl⟩
theorem pure17 : PureOk Try.prog 17 [] 0 (fun _ => []) (fun _ => litT) :=
  PureOk.of (c := @base1) (r0 := litT) @base1_ok @eval17 enters17 (fun _ _ _ _ _ _ p hp => by cases hp) fun l hl _ E a hal ρ ρ' v hv => hv
theorem pure30 : PureOk Try.prog 30 [] 0 (fun _ => []) (fun _ => litT) :=
  PureOk.of (c := @base1) (r0 := litT) @base1_ok @eval30 enters30 (fun _ _ _ _ _ _ p hp => by cases hp) fun l hl _ E a hal ρ ρ' v hv => hv
/-- With these. -/
noncomputable def pures2 : List PEntry := ⟨17, [], 0, fun _ => [], fun _ => litT⟩ :: ⟨30, [], 0, fun _ => [], fun _ => litT⟩ :: pures
theorem pures2_ok : ∀ e ∈ pures2, e.ok Try.prog := by
  intro e he
  rcases List.mem_cons.1 he with rfl | he
  · exact pure17
  rcases List.mem_cons.1 he with rfl | he
  · exact pure30
  exact pures_ok e he

end Go.Proofs.Ytalobhgefmhboaa.Sx
