/-
  What the laws' texts share: calls with summaries, shapes of arguments; a law with loops tells true.
-/
import Derived.Test.YtafemlljemhkhaaSxX
import Derived.Test.YtafemlljemhkhaaSxY2
import Derived.Test.YtafemlljemhkhaaSxFc
namespace Go.Proofs.Ytafemlljemhkhaa.Sx
open Go Go.ChangeShapes Go.WideShapes Go.ChangeAt Go.RowKit
set_option linter.unusedSectionVars false
set_option linter.unusedVariables false
set_option maxRecDepth 100000

noncomputable def base2 [Env] : CallF Empty := callF Try.prog (pureG pures2) (extraS Try.prog) noL 100 50
theorem base2_ok [Env] : CallOk Try.prog base2 := callF_ok ⟨mixed_ok, (pureG_ok pures2_ok).2, names_ok, (pureG_ok pures2_ok).1, extraS_ok _, fun _ _ _ _ _ _ _ _ _ _ _ _ _ _ _ _ h => (by cases h)⟩ 100 50
def cfgL : IE := .consL (.atom 0) (.consL (.atom 1) (.consL (.atom 2) (.consL (.atom 3) (.consL (.atom 4) (.consL (.atom 5) (.consL (.atom 6) .nilL))))))
def cfgK : PK := .agg [.int .i64, .int .i64, .int .i64, .int .i64, .int .i64, .int .i64, .int .i64]
noncomputable def rootOf (f : Func) : Code := match f.body with
  | some c => c
  | none => .skip
section
variable {H : Type} {enc : TypeId × Value → H} {P : Program} {W : World} {b0 : Nat} {sp : Nat → Bool} {held : Bool}
theorem law_loops {g : Nat} {ts : List TypeId} {pks : List PK} {d : Nat} (hk : kindsT P d ts = some pks) {args : Array Value} {ds : List (DataW H)} {ps : List MemPlace} (hv : ∀ (j : Nat) t v, ts[j]? = some t → args.toList[j]? = some v → Value.okWide P W .any b0 t v)
    (ht : DataW.TrodAll enc P W 0 sp held ts args.toList ds ps) (hlaw : ∀ (E : Env) (ρ : Rho) (F : Nat → Nat → Prop) (w : World) (argv : Array Value), symRng E pks 0 0 → @HeapOk E Empty _ ρ F (symHeap pks 0 0) w → All2 (@SV.is E ρ) (symArgs pks 0 0) argv.toList →
      Calls P g argv w fun e w' => e = .returned (.bool true) ∧ ∃ ρ' F', Reach ρ F w ρ' F' w') : Calls P g args W fun e W' => e = .returned (.bool true) ∧ Below W.heap.size W W' := by
  obtain ⟨ns, tb, bo, h⟩ := tolds_of hk hv ht
  obtain ⟨E, ρ, F, h1, h2, h3, h4⟩ := start h
  refine Calls.mono (hlaw E ρ F W args h1 h2 h3) fun e W' he => ?_
  obtain ⟨he, ρ', F', R⟩ := he
  exact ⟨he, R.os, R.tape, R.output, R.size, fun k hk => R.keep k hk fun n hn hs => by rw [h4 n hn] at hs; cases hs⟩
end

end Go.Proofs.Ytafemlljemhkhaa.Sx
