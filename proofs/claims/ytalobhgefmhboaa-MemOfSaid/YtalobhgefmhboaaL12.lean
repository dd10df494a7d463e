/-
  The law MemOf, run on unknowns.
-/
import Derived.Test.YtalobhgefmhboaaSxY4
import Derived.Test.YtalobhgefmhboaaSxFs
namespace Go.Proofs.Ytalobhgefmhboaa.Sx
open Go
set_option linter.unusedSectionVars false
set_option linter.unusedVariables false
set_option maxRecDepth 1000000

def pks12 : List PK := [cfgK, .sl [.int .u64]]
theorem solve12 [Env] : solveQ [] (trueQ []) (rngFacts pks12 0) (base3 12 (symArgs pks12 0 0) [] (symHeap pks12 0 0) 1) = true := by kernel_rfl
theorem law12 (E : Env) (ρ : Rho) (F : Nat → Nat → Prop) (w : World) (argv : Array Value) (h1 : symRng E pks12 0 0) (h2 : @HeapOk E Empty _ ρ F (symHeap pks12 0 0) w) (h3 : All2 (@SV.is E ρ) (symArgs pks12 0 0) argv.toList) :
    @CallsTo E Empty _ Try.prog [] ρ F w 12 argv TellsTrue :=
  law_ofQ E (c := @base3 E) (@base3_ok E) (us := []) (fun E t h _ => by cases h) (rngFacts_ok E h1) (@solve12 E) h2 h3

end Go.Proofs.Ytalobhgefmhboaa.Sx
