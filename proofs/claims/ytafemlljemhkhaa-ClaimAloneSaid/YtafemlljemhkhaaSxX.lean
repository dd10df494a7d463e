/-
  The closed runs of the laws' 'alive': each tells true.
-/
import Derived.Test.YtafemlljemhkhaaSxW2
namespace Go.Proofs.Ytafemlljemhkhaa.Sx
open Go
set_option linter.unusedSectionVars false
set_option linter.unusedVariables false
set_option maxRecDepth 100000

noncomputable def base1 [Env] : CallF Empty := callF Try.prog (pureG pures) (extraS Try.prog) noL 100 50
theorem base1_ok [Env] : CallOk Try.prog base1 := callF_ok ⟨mixed_ok, (pureG_ok pures_ok).2, names_ok, (pureG_ok pures_ok).1, extraS_ok _, fun _ _ _ _ _ _ _ _ _ _ _ _ _ _ _ _ h => (by cases h)⟩ 100 50
def litT : SV := .w (.one (.b (.bool (.lit true))))
theorem pure_alive {g : Nat} (he : enters Try.prog g) (hv : ∀ [Env], base1 g [] [] [] 1 = .leaf (litT, [])) : PureOk Try.prog g [] 0 (fun _ => []) (fun _ => litT) :=
  PureOk.of (c := @base1) (r0 := litT) @base1_ok @hv he (fun _ _ _ _ _ _ p hp => by cases hp) fun l hl _ E a hal ρ ρ' v hv => hv
theorem cons_ok {e : PEntry} {l : List PEntry} (he : e.ok Try.prog) (hl : ∀ x ∈ l, x.ok Try.prog) : ∀ x ∈ e :: l, x.ok Try.prog := List.forall_mem_cons.2 ⟨he, hl⟩
/-- With these. -/
noncomputable def al0 : List PEntry := puresW
theorem al0_ok : ∀ e ∈ al0, e.ok Try.prog := puresW_ok
noncomputable def al1 : List PEntry := al0
theorem al1_ok : ∀ e ∈ al1, e.ok Try.prog := al0_ok
noncomputable def al2 : List PEntry := al1
theorem al2_ok : ∀ e ∈ al2, e.ok Try.prog := al1_ok
theorem evalA2 [Env] : base1 17 [] [] [] 1 = .leaf (litT, []) := by kernel_rfl
theorem entersA2 : enters Try.prog 17 := ⟨Try.f17, Try.func17, by kernel_rfl, by kernel_rfl⟩
noncomputable def al3 : List PEntry := ⟨17, [], 0, fun _ => [], fun _ => litT⟩ :: al2
theorem al3_ok : ∀ e ∈ al3, e.ok Try.prog := cons_ok (pure_alive entersA2 @evalA2) al2_ok
noncomputable def al4 : List PEntry := al3
theorem al4_ok : ∀ e ∈ al4, e.ok Try.prog := al3_ok
noncomputable def al5 : List PEntry := al4
theorem al5_ok : ∀ e ∈ al5, e.ok Try.prog := al4_ok
noncomputable def al6 : List PEntry := al5
theorem al6_ok : ∀ e ∈ al6, e.ok Try.prog := al5_ok
noncomputable def al7 : List PEntry := al6
theorem al7_ok : ∀ e ∈ al7, e.ok Try.prog := al6_ok
noncomputable def al8 : List PEntry := al7
theorem al8_ok : ∀ e ∈ al8, e.ok Try.prog := al7_ok
noncomputable def al9 : List PEntry := al8
theorem al9_ok : ∀ e ∈ al9, e.ok Try.prog := al8_ok
noncomputable def al10 : List PEntry := al9
theorem al10_ok : ∀ e ∈ al10, e.ok Try.prog := al9_ok
noncomputable def al11 : List PEntry := al10
theorem al11_ok : ∀ e ∈ al11, e.ok Try.prog := al10_ok
noncomputable def pures2 : List PEntry := al11
theorem pures2_ok : ∀ e ∈ pures2, e.ok Try.prog := al11_ok

end Go.Proofs.Ytafemlljemhkhaa.Sx
