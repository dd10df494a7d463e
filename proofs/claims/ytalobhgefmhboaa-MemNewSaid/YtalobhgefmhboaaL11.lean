/-
  The law MemNew, run on unknowns.
-/
import Derived.Test.YtalobhgefmhboaaSxY4
import Derived.Test.YtalobhgefmhboaaSxFs
namespace Go.Proofs.Ytalobhgefmhboaa.Sx
open Go
set_option linter.unusedSectionVars false
set_option linter.unusedVariables false
set_option maxRecDepth 1000000

def pks11 : List PK := [cfgK]
theorem solve11 [Env] : solveQ [] (trueQ []) (rngFacts pks11 0) (base3 11 (symArgs pks11 0 0) [] (symHeap pks11 0 0) 1) = true := by kernel_rfl
theorem law11 (E : Env) (ρ : Rho) (F : Nat → Nat → Prop) (w : World) (argv : Array Value) (h1 : symRng E pks11 0 0) (h2 : @HeapOk E Empty _ ρ F (symHeap pks11 0 0) w) (h3 : All2 (@SV.is E ρ) (symArgs pks11 0 0) argv.toList) :
    @CallsTo E Empty _ Try.prog [] ρ F w 11 argv TellsTrue :=
  law_ofQ E (c := @base3 E) (@base3_ok E) (us := []) (fun E t h _ => by cases h) (rngFacts_ok E h1) (@solve11 E) h2 h3

end Go.Proofs.Ytalobhgefmhboaa.Sx
