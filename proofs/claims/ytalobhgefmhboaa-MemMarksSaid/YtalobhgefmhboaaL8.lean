/-
  The law MemMarks, run on unknowns.
-/
import Derived.Test.YtalobhgefmhboaaSxX
import Derived.Test.YtalobhgefmhboaaSxY2
namespace Go.Proofs.Ytalobhgefmhboaa.Sx
open Go
set_option linter.unusedSectionVars false
set_option linter.unusedVariables false
set_option maxRecDepth 100000

noncomputable def base2 [Env] : CallF Empty := callF Try.prog (pureG pures2) (extraS Try.prog) noL 100 50
theorem base2_ok [Env] : CallOk Try.prog base2 := callF_ok ⟨mixed_ok, (pureG_ok pures2_ok).2, names_ok, (pureG_ok pures2_ok).1, extraS_ok _, fun _ _ _ _ _ _ _ _ _ _ _ _ _ _ _ _ h => (by cases h)⟩ 100 50

def cfgK : PK := .agg [.int .i64, .int .i64, .int .i64, .int .i64, .int .i64, .int .i64, .int .i64]
def pks8 : List PK := [cfgK, .sl [.int .u64], .agg [.int .u64, .int .u64, .int .u64]]
def g8 : IE := .op .add .u64 (.op .rem .u64 (.atom 9) (.lit 4294967296)) (.op .mul .u64 (.op .quo .u64 (.atom 10) (.lit 4294967296)) (.lit 4294967296))
def rs8 : List (IE × IE) := [(.fn 5 (.consL g8 .nilL), .fn 5 (.consL (.atom 9) .nilL))]
theorem rs8_ok (E : Env) (h : symRng E pks8 0 0) : @Rs E rs8 := by
  intro p hp
  simp only [rs8, List.mem_cons, List.not_mem_nil, or_false] at hp
  subst hp
  refine ⟨?_, rfl⟩
  have hr : symRng E [.sl [.int .u64], .agg [.int .u64, .int .u64, .int .u64]] 7 0 := h.2
  have h9 : colsRng E [.int .u64, .int .u64, .int .u64] 9 := hr.2.1
  have w9 := wf_u64 h9.1
  have w10 := wf_u64 h9.2.1
  show (IE.val (IE.op _ _ _ _)) % 4294967296 = E.i 9 % 4294967296
  simp only [IE.val, binVal]
  generalize E.i 9 = x at *
  generalize E.i 10 = y at *
  simp only [wrap_u]
  rw [Int.tmod_eq_emod_of_nonneg (by omega), Int.tdiv_eq_ediv_of_nonneg (by omega)]
  omega
set_option maxRecDepth 1000000 in
theorem solve8 [Env] : solveT rs8 (trueLeaf rs8) (rngFacts pks8 0) (base2 8 (symArgs pks8 0 0) [] (symHeap pks8 0 0) 1) = true := by kernel_rfl
theorem law8 (E : Env) (ρ : Rho) (F : Nat → Nat → Prop) (w : World) (argv : Array Value) (h1 : symRng E pks8 0 0) (h2 : @HeapOk E Empty _ ρ F (symHeap pks8 0 0) w) (h3 : All2 (@SV.is E ρ) (symArgs pks8 0 0) argv.toList) :
    @CallsTo E Empty _ Try.prog [] ρ F w 8 argv TellsTrue := by
  exact law_of E (c := @base2 E) (@base2_ok E) (rs8_ok E h1) (rngFacts_ok E h1) (@solve8 E) h2 h3

end Go.Proofs.Ytalobhgefmhboaa.Sx
