import Derived.Test.YtafemlljemhkhaaPSxSh
namespace Go.Proofs.Ytafemlljemhkhaa.Sx
open Go
set_option linter.unusedSectionVars false
set_option linter.unusedVariables false
set_option maxRecDepth 1000000
namespace Oo
open Bk Sm
def cl : SV := .w (.one (.b (.isl 3 (.atom 1080) (.atom 1081))))
def hC : Heap Empty := [(3, .tab [.int .u64] (.atom 1080) (.atom 1081) 0)]
def t_of : Tree (SV × Heap Empty) := (.req (.cmp .leq (.nat (.atom 1081)) (.lit 31274997412295)) (.leaf ((.w (.agg [(.b (.isl 131078 (.lit 0) (.atom 1081))),(.b (.int .i64 (.lit 0))),(.b (.int .i64 (.lit 0))),(.b (.int .i64 (.lit 0))),(.b (.int .u64 (.lit 0))),(.b (.int .u64 (.lit 0))),(.b (.int .u64 (.lit 0))),(.b (.bool (.lit false)))])), [(131078,(.row .u64 27 (.ofTab 0 (.atom 1081)))),(3,(.tab [(.int .u64)] (.atom 1080) (.atom 1081) 0))])))
theorem e_of [Env] : base7 103 [cl] [] hC 1 = t_of := by kernel_rfl
def s_of : Summ := ⟨103, [cl],hC,t_of⟩
theorem ok_of : s_of.ok Try.prog := Summ.of (c := @base7) @base7_ok (Bk.enters_of Try.func103 (by kernel_rfl)) @e_of
def told_of : Tree (SV × Heap Empty) := (.req (.cmp .leq (.lit 0) (.atom 1081)) (.req (.cmp .leq (.nat (.atom 1081)) (.lit 31274997412295)) (.leaf ((.w (.agg [(.b (.isl 131078 (.lit 0) (.nat (.atom 1081)))),(.b (.int .i64 (.lit 0))),(.b (.int .i64 (.lit 0))),(.b (.int .i64 (.lit 0))),(.b (.int .u64 (.lit 0))),(.b (.int .u64 (.lit 0))),(.b (.int .u64 (.lit 0))),(.b (.bool (.lit false)))])), [(131078,(.row .u64 27 (.ofTab 0 (.nat (.atom 1081))))),(3,(.tab [(.int .u64)] (.atom 1080) (.atom 1081) 0))]))))
def s_of2 : Summ := ⟨103, [cl],hC,told_of⟩
theorem nat_eq {E : Env} (h : @BE.val E (.cmp .leq (.lit 0) (.atom 1081)) = true) : E.i 1081 = (((E.i 1081).toNat : Nat) : Int) := by
  have h : (0 : Int) ≤ E.i 1081 := of_decide_eq_true h
  omega
theorem ok_of2 : s_of2.ok Try.prog := Summ.conv ok_of fun E K hK =>
  ⟨hK.2.1,_,hK.2.2,Eqv.of (q := ⟨[((.atom 1081),(.nat (.atom 1081)))], [((.ofTab 0 (.atom 1081)),(.ofTab 0 (.nat (.atom 1081))))], []⟩) ⟨cc (nat_eq hK.1) nn,cc (show ((List.range (E.i 1081).toNat).map fun i => E.t 0 i 0) = ((List.range (((E.i 1081).toNat : Nat) : Int).toNat).map fun i => E.t 0 i 0) by rw [Int.toNat_natCast]) nn,nn⟩ (by kernel_rfl)⟩
end Oo
end Go.Proofs.Ytafemlljemhkhaa.Sx
