/-
  The law ClaimBacks, run on unknowns, from one loop's head to the next.
-/
import Derived.Test.YtafemlljemhkhaaSxSh
import Derived.Test.YtafemlljemhkhaaSxY6
namespace Go.Proofs.Ytafemlljemhkhaa.Sx.LClaimBacks
open Go Go.Proofs.Ytafemlljemhkhaa.Sx
set_option linter.unusedSectionVars false
set_option linter.unusedVariables false
set_option linter.unusedSimpArgs false
set_option maxRecDepth 1000000

def pks : List PK := [cfgK, .sl [.int .u64], .one (.int .u64)]
def cuts : List Cut := []
def ths : Ths := []
theorem ths_ok : ThsOk ths := fun E t h _ => by cases h
theorem heads : (cuts.all fun k => isLoop (subAt (rootOf Try.f8) k.p) && Nat.ble k.ms.length 9) = true := by kernel_rfl
def obS : List Ob := []
theorem eS [Env] : oweStart (tabsOf pks 0) ths [] Try.prog Try.f8 (rootOf Try.f8) base7 (extraS Try.prog) cuts (rngFacts pks 0) (symArgs pks 0 0) (symHeap pks 0 0) = obS := by kernel_rfl
def Phi : Nat → Env → Prop := fun _ _ => True
theorem runsM (E : Env) (i : Nat) (k : Cut) (hi : cuts[i]? = some k) (hfs : ∀ b ∈ k.fs, @BE.val E b = true) (hphi : Phi i E) (htab : TabR (tabsOf pks 0) E) : ∃ ex : List BE, (∀ b ∈ ex, @BE.val E b = true) ∧ Owed E Phi (oweAt (tabsOf pks 0) ths [] Try.prog Try.f8 (rootOf Try.f8) base7 (extraS Try.prog) cuts k ex) := by
  match i, hi with

  | n + 0, hi => exact absurd hi (by simp [cuts])
theorem startM (E : Env) (h1 : symRng E pks 0 0) : Owed E Phi (oweStart (tabsOf pks 0) ths [] Try.prog Try.f8 (rootOf Try.f8) base7 (extraS Try.prog) cuts (rngFacts pks 0) (symArgs pks 0 0) (symHeap pks 0 0)) := Owed.eq (@eS E) True.intro
theorem trOk : ∀ i ∈ ([] : List Nat), ∀ E, Phi i E := fun _ _ _ => trivial
theorem bodyOk : Try.f8.body = some (rootOf Try.f8) := by kernel_rfl
theorem law (E : Env) (ρ : Rho) (F : Nat → Nat → Prop) (w : World) (argv : Array Value) (h1 : symRng E pks 0 0) (h2 : @HeapOk E Empty _ ρ F (symHeap pks 0 0) w) (h3 : All2 (@SV.is E ρ) (symArgs pks 0 0) argv.toList) :
    Calls Try.prog 8 argv w fun e w' => e = .returned (.bool true) ∧ ∃ ρ' F', Reach ρ F w ρ' F' w' :=
  floydM (ts := tabsOf pks 0) mixed_ok (c := @base7) @base7_ok (x := extraS Try.prog) (fun {_} => extraS_ok _) Try.func8 bodyOk ths_ok (tr := []) (Φ := Phi) trOk heads runsM E (tabsOf_ok E h1) (rngFacts_ok E h1) (startM E h1) h2 h3
end Go.Proofs.Ytafemlljemhkhaa.Sx.LClaimBacks
