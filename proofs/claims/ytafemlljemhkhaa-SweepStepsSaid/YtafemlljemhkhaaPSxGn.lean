import Derived.Test.YtafemlljemhkhaaPSxSm
namespace Go.Proofs.Ytafemlljemhkhaa.Sx
open Go
set_option linter.unusedSectionVars false
set_option linter.unusedVariables false
set_option linter.unusedSimpArgs false
set_option maxRecDepth 1000000
namespace Gn
open Bk Sm
def many : IE := .atom 1080
def slots : IE := .atom 1092
def guardX (m : IE) : Heap Empty := [(196, .cells 105 [.b (.int .i64 m),xu 1081,xi 1082] 0)]
def u0 : SV := .w (.one (.b (.ptr 196 (.lit 0))))
def ret (s : IE) (b : Bool) : SV := .tup [.one (.b (.int .i64 s)), .one (.b (.bool (.lit b)))]
def up : IE := .op .add .i64 many (.lit 1)
def down : IE := .op .sub .i64 up (.lit 1)
def t0 : Tree (SV × Heap Empty) := .br (.cmp .lss many slots) (.leaf (ret down true,guardX up)) (.leaf (ret (.lit 0) false,guardX (.lit 1)))
theorem e_next [Env] : base5u 99 [u0,wi 1092] [] (guardX many) 1 = t0 := by kernel_rfl
def t1 : Tree (SV × Heap Empty) := .req (.cmp .leq (.lit 0) many) (.req (.cmp .leq slots (.lit 9223372036854775807)) (.br (.cmp .lss many slots) (.leaf (ret many true,guardX up)) (.leaf (ret (.lit 0) false,guardX (.lit 1)))))
def s_next : Summ := ⟨99, [u0,wi 1092],guardX many,t1⟩
theorem ok_next : s_next.ok Try.prog :=
  Summ.conv (Summ.of (c := @base5u) @base5u_ok (enters_of Try.func99 (by kernel_rfl)) @e_next) fun E K hK => by
    obtain ⟨h1,h2,h3,h4⟩ := hK
    have g1 : (0 : Int) ≤ Env.i 1080 := of_decide_eq_true h1
    have g2 : Env.i 1092 ≤ (9223372036854775807 : Int) := of_decide_eq_true h2
    refine ⟨fun hb => ⟨_,h3 hb,Eqv.of (q := ⟨[(down,many)], [], []⟩) ⟨cc ?_ nn,nn,nn⟩ (by kernel_rfl)⟩,fun hb => ⟨_,h4 hb,Eqv.of (q := ⟨[], [], []⟩) ⟨nn,nn,nn⟩ (by kernel_rfl)⟩⟩
    have g3 : Env.i 1080 < Env.i 1092 := of_decide_eq_true hb
    show IntKind.i64.wrap (IntKind.i64.wrap (Env.i 1080 + 1) - 1) = Env.i 1080
    rw [wrap_small (x := Env.i 1080 + 1) (by omega) (by omega),wrap_small (by omega) (by omega)]
    omega
def sums : List Summ := [s_next]
theorem sums_ok : ∀ σ ∈ sums, σ.ok Try.prog := cc ok_next nn
end Gn
def sumsN : List Summ := Gn.sums ++ (Sm.sums ++ Bk.sums)
theorem sumsN_ok : ∀ σ ∈ sumsN, σ.ok Try.prog := fun σ h => (List.mem_append.1 h).elim (Gn.sums_ok σ) (sums5_ok σ)
noncomputable def baseN [Env] : CallF Empty := callF Try.prog (withS sumsN sums3) (extraS Try.prog) noL 100 50
theorem baseN_ok [Env] : CallOk Try.prog baseN := callF_ok ⟨mixed_ok,(withS_ok sumsN_ok sums3_ok).2,names_ok,(withS_ok sumsN_ok sums3_ok).1,extraS_ok _,fun _ _ _ _ _ _ _ _ _ _ _ _ _ _ _ _ h => (by cases h)⟩ 100 50
noncomputable def baseNu [Env] : CallF Empty := callU Try.prog baseN (extraS Try.prog) noL 100
theorem baseNu_ok [Env] : CallOk Try.prog baseNu := callU_ok mixed_ok baseN_ok (extraS_ok _) names_ok (fun _ _ _ _ _ _ _ _ _ _ _ _ _ _ _ _ h => (by cases h))
end Go.Proofs.Ytafemlljemhkhaa.Sx
