/-
  No cell of these rows narrows 'for every input' (looked for: loops, veiled, ifaces, maps, wideKeys, modest, calm, conditions, laid).
  DERIVED. THE GIVEN ROWS OF THIS SEAT. 12 by the template 'for every input the law returns true; each argument reads behind the call as it read before'; 0 by the template 'total and deterministic' (their statements: YtafemlljemhkhaaTotals.lean).
  GIVEN WITH THE SEED: the statements are not yours to turn. If you find one false, say at which input.
  Laid BY PROGRAM, IN A SANDBOX (cutbox-rows.mjs): the forced cells as the released guide's own fill.sh prints them over the translation 1c8c6cdac3f29e4d… (all of the seat's roots in one cut). By AI agents, Wed Nov 11 2026. No macro, syntax, notation, axiom, sorry.
-/
import Derived.Test.YtafemlljemhkhaaChecked
import GoSem.Claim
import GoSem.ClaimJoined
import GoSem.ClaimMapViews
import Derived.JoinedTies
import Derived.KernelRfl
namespace Go.Proofs.Ytafemlljemhkhaa
/- THE CELL 'sum', in the pinned program and in every row, IS THE sha256 OF THE DUMP (.gsa) THAT YtafemlljemhkhaaProg.lean LOADS. Nothing in Lean hashes anything: it is a label: what it is worth is what the hold of that sum in a sandbox is worth. -/
noncomputable def Try.pinned : Pinned := { name := "ytafemlljemhkhaa", sum := "1c8c6cdac3f29e4dc216f0f843dbc68ef8dc4dbd50376b9a55ad99a0666618d0", checked := Try.checked }
namespace Rows
def none {H : Type} : Left H := { results := [], args := [] }

/-- 'stepstonelaw09.ClaimTwo': WHATEVER THE INPUT: true; the input reads as it did. -/
def claimTwoSpec : ChangeSpec := { name := "claimTwo", fn := fun _ => fun
  | [d1, d2, d3] => { results := [.lit (.bool true)], args := [d1, d2, d3] }
  | _ => none }
def claimTwoRow : OpenClaim := { program := "ytafemlljemhkhaa", sum := "1c8c6cdac3f29e4dc216f0f843dbc68ef8dc4dbd50376b9a55ad99a0666618d0", func := "stepstone/stepstonelaw09.ClaimTwo", spec := "claimTwo", unfollowed := true, recurses := true, apart := false }
def ClaimTwoSaid : Prop := claimTwoRow.holds Try.pinned (OpenSpec.ofChange claimTwoSpec)

/-- ITS FALSE NEIGHBOUR: 'it returns false'. Refute it at one input. -/
def claimTwoWrong : ChangeSpec := { name := "claimTwo", fn := fun _ => fun
  | [d1, d2, d3] => { results := [.lit (.bool false)], args := [d1, d2, d3] }
  | _ => none }
def ClaimTwoWrongFalsely : Prop := claimTwoRow.holds Try.pinned (OpenSpec.ofChange claimTwoWrong)

/-- 'stepstonelaw09.ClaimEnds': WHATEVER THE INPUT: true; the input reads as it did. -/
def claimEndsSpec : ChangeSpec := { name := "claimEnds", fn := fun _ => fun
  | [d] => { results := [.lit (.bool true)], args := [d] }
  | _ => none }
def claimEndsRow : OpenClaim := { program := "ytafemlljemhkhaa", sum := "1c8c6cdac3f29e4dc216f0f843dbc68ef8dc4dbd50376b9a55ad99a0666618d0", func := "stepstone/stepstonelaw09.ClaimEnds", spec := "claimEnds", unfollowed := true, recurses := true, apart := false }
def ClaimEndsSaid : Prop := claimEndsRow.holds Try.pinned (OpenSpec.ofChange claimEndsSpec)

/-- ITS FALSE NEIGHBOUR: 'it returns false'. Refute it at one input. -/
def claimEndsWrong : ChangeSpec := { name := "claimEnds", fn := fun _ => fun
  | [d] => { results := [.lit (.bool false)], args := [d] }
  | _ => none }
def ClaimEndsWrongFalsely : Prop := claimEndsRow.holds Try.pinned (OpenSpec.ofChange claimEndsWrong)

/-- 'stepstonelaw09.ClaimRound': WHATEVER THE INPUT: true; the input reads as it did. -/
def claimRoundSpec : ChangeSpec := { name := "claimRound", fn := fun _ => fun
  | [d1, d2] => { results := [.lit (.bool true)], args := [d1, d2] }
  | _ => none }
def claimRoundRow : OpenClaim := { program := "ytafemlljemhkhaa", sum := "1c8c6cdac3f29e4dc216f0f843dbc68ef8dc4dbd50376b9a55ad99a0666618d0", func := "stepstone/stepstonelaw09.ClaimRound", spec := "claimRound", unfollowed := true, recurses := true, apart := false }
def ClaimRoundSaid : Prop := claimRoundRow.holds Try.pinned (OpenSpec.ofChange claimRoundSpec)

/-- ITS FALSE NEIGHBOUR: 'it returns false'. Refute it at one input. -/
def claimRoundWrong : ChangeSpec := { name := "claimRound", fn := fun _ => fun
  | [d1, d2] => { results := [.lit (.bool false)], args := [d1, d2] }
  | _ => none }
def ClaimRoundWrongFalsely : Prop := claimRoundRow.holds Try.pinned (OpenSpec.ofChange claimRoundWrong)

/-- 'stepstonelaw09.ClaimAlone': WHATEVER THE INPUT: true; the input reads as it did. -/
def claimAloneSpec : ChangeSpec := { name := "claimAlone", fn := fun _ => fun
  | [d1, d2, d3] => { results := [.lit (.bool true)], args := [d1, d2, d3] }
  | _ => none }
def claimAloneRow : OpenClaim := { program := "ytafemlljemhkhaa", sum := "1c8c6cdac3f29e4dc216f0f843dbc68ef8dc4dbd50376b9a55ad99a0666618d0", func := "stepstone/stepstonelaw09.ClaimAlone", spec := "claimAlone", unfollowed := true, recurses := true, apart := false }
def ClaimAloneSaid : Prop := claimAloneRow.holds Try.pinned (OpenSpec.ofChange claimAloneSpec)

/-- ITS FALSE NEIGHBOUR: 'it returns false'. Refute it at one input. -/
def claimAloneWrong : ChangeSpec := { name := "claimAlone", fn := fun _ => fun
  | [d1, d2, d3] => { results := [.lit (.bool false)], args := [d1, d2, d3] }
  | _ => none }
def ClaimAloneWrongFalsely : Prop := claimAloneRow.holds Try.pinned (OpenSpec.ofChange claimAloneWrong)

/-- 'stepstonelaw09.ClaimSteps': WHATEVER THE INPUT: true; the input reads as it did. -/
def claimStepsSpec : ChangeSpec := { name := "claimSteps", fn := fun _ => fun
  | [d1, d2, d3] => { results := [.lit (.bool true)], args := [d1, d2, d3] }
  | _ => none }
def claimStepsRow : OpenClaim := { program := "ytafemlljemhkhaa", sum := "1c8c6cdac3f29e4dc216f0f843dbc68ef8dc4dbd50376b9a55ad99a0666618d0", func := "stepstone/stepstonelaw09.ClaimSteps", spec := "claimSteps", unfollowed := true, recurses := true, apart := false }
def ClaimStepsSaid : Prop := claimStepsRow.holds Try.pinned (OpenSpec.ofChange claimStepsSpec)

/-- ITS FALSE NEIGHBOUR: 'it returns false'. Refute it at one input. -/
def claimStepsWrong : ChangeSpec := { name := "claimSteps", fn := fun _ => fun
  | [d1, d2, d3] => { results := [.lit (.bool false)], args := [d1, d2, d3] }
  | _ => none }
def ClaimStepsWrongFalsely : Prop := claimStepsRow.holds Try.pinned (OpenSpec.ofChange claimStepsWrong)

/-- 'stepstonelaw09.ClaimBacks': WHATEVER THE INPUT: true; the input reads as it did. -/
def claimBacksSpec : ChangeSpec := { name := "claimBacks", fn := fun _ => fun
  | [d1, d2, d3] => { results := [.lit (.bool true)], args := [d1, d2, d3] }
  | _ => none }
def claimBacksRow : OpenClaim := { program := "ytafemlljemhkhaa", sum := "1c8c6cdac3f29e4dc216f0f843dbc68ef8dc4dbd50376b9a55ad99a0666618d0", func := "stepstone/stepstonelaw09.ClaimBacks", spec := "claimBacks", unfollowed := true, recurses := true, apart := false }
def ClaimBacksSaid : Prop := claimBacksRow.holds Try.pinned (OpenSpec.ofChange claimBacksSpec)

/-- ITS FALSE NEIGHBOUR: 'it returns false'. Refute it at one input. -/
def claimBacksWrong : ChangeSpec := { name := "claimBacks", fn := fun _ => fun
  | [d1, d2, d3] => { results := [.lit (.bool false)], args := [d1, d2, d3] }
  | _ => none }
def ClaimBacksWrongFalsely : Prop := claimBacksRow.holds Try.pinned (OpenSpec.ofChange claimBacksWrong)

/-- 'stepstonelaw15.SweepNone': WHATEVER THE INPUT: true; the input reads as it did. -/
def sweepNoneSpec : ChangeSpec := { name := "sweepNone", fn := fun _ => fun
  | [d1, d2] => { results := [.lit (.bool true)], args := [d1, d2] }
  | _ => none }
def sweepNoneRow : OpenClaim := { program := "ytafemlljemhkhaa", sum := "1c8c6cdac3f29e4dc216f0f843dbc68ef8dc4dbd50376b9a55ad99a0666618d0", func := "stepstone/stepstonelaw15.SweepNone", spec := "sweepNone", unfollowed := true, recurses := true, apart := false }
def SweepNoneSaid : Prop := sweepNoneRow.holds Try.pinned (OpenSpec.ofChange sweepNoneSpec)

/-- ITS FALSE NEIGHBOUR: 'it returns false'. Refute it at one input. -/
def sweepNoneWrong : ChangeSpec := { name := "sweepNone", fn := fun _ => fun
  | [d1, d2] => { results := [.lit (.bool false)], args := [d1, d2] }
  | _ => none }
def SweepNoneWrongFalsely : Prop := sweepNoneRow.holds Try.pinned (OpenSpec.ofChange sweepNoneWrong)

/-- 'stepstonelaw15.SweepStalled': WHATEVER THE INPUT: true; the input reads as it did. -/
def sweepStalledSpec : ChangeSpec := { name := "sweepStalled", fn := fun _ => fun
  | [d1, d2, d3] => { results := [.lit (.bool true)], args := [d1, d2, d3] }
  | _ => none }
def sweepStalledRow : OpenClaim := { program := "ytafemlljemhkhaa", sum := "1c8c6cdac3f29e4dc216f0f843dbc68ef8dc4dbd50376b9a55ad99a0666618d0", func := "stepstone/stepstonelaw15.SweepStalled", spec := "sweepStalled", unfollowed := true, recurses := true, apart := false }
def SweepStalledSaid : Prop := sweepStalledRow.holds Try.pinned (OpenSpec.ofChange sweepStalledSpec)

/-- ITS FALSE NEIGHBOUR: 'it returns false'. Refute it at one input. -/
def sweepStalledWrong : ChangeSpec := { name := "sweepStalled", fn := fun _ => fun
  | [d1, d2, d3] => { results := [.lit (.bool false)], args := [d1, d2, d3] }
  | _ => none }
def SweepStalledWrongFalsely : Prop := sweepStalledRow.holds Try.pinned (OpenSpec.ofChange sweepStalledWrong)

/-- 'stepstonelaw15.SweepKeeps': WHATEVER THE INPUT: true; the input reads as it did. -/
def sweepKeepsSpec : ChangeSpec := { name := "sweepKeeps", fn := fun _ => fun
  | [d1, d2, d3] => { results := [.lit (.bool true)], args := [d1, d2, d3] }
  | _ => none }
def sweepKeepsRow : OpenClaim := { program := "ytafemlljemhkhaa", sum := "1c8c6cdac3f29e4dc216f0f843dbc68ef8dc4dbd50376b9a55ad99a0666618d0", func := "stepstone/stepstonelaw15.SweepKeeps", spec := "sweepKeeps", unfollowed := true, recurses := true, apart := false }
def SweepKeepsSaid : Prop := sweepKeepsRow.holds Try.pinned (OpenSpec.ofChange sweepKeepsSpec)

/-- ITS FALSE NEIGHBOUR: 'it returns false'. Refute it at one input. -/
def sweepKeepsWrong : ChangeSpec := { name := "sweepKeeps", fn := fun _ => fun
  | [d1, d2, d3] => { results := [.lit (.bool false)], args := [d1, d2, d3] }
  | _ => none }
def SweepKeepsWrongFalsely : Prop := sweepKeepsRow.holds Try.pinned (OpenSpec.ofChange sweepKeepsWrong)

/-- 'stepstonelaw15.SweepSteps': WHATEVER THE INPUT: true; the input reads as it did. -/
def sweepStepsSpec : ChangeSpec := { name := "sweepSteps", fn := fun _ => fun
  | [d1, d2, d3] => { results := [.lit (.bool true)], args := [d1, d2, d3] }
  | _ => none }
def sweepStepsRow : OpenClaim := { program := "ytafemlljemhkhaa", sum := "1c8c6cdac3f29e4dc216f0f843dbc68ef8dc4dbd50376b9a55ad99a0666618d0", func := "stepstone/stepstonelaw15.SweepSteps", spec := "sweepSteps", unfollowed := true, recurses := true, apart := false }
def SweepStepsSaid : Prop := sweepStepsRow.holds Try.pinned (OpenSpec.ofChange sweepStepsSpec)

/-- ITS FALSE NEIGHBOUR: 'it returns false'. Refute it at one input. -/
def sweepStepsWrong : ChangeSpec := { name := "sweepSteps", fn := fun _ => fun
  | [d1, d2, d3] => { results := [.lit (.bool false)], args := [d1, d2, d3] }
  | _ => none }
def SweepStepsWrongFalsely : Prop := sweepStepsRow.holds Try.pinned (OpenSpec.ofChange sweepStepsWrong)

/-- 'stepstonelaw15.SweepOwn': WHATEVER THE INPUT: true; the input reads as it did. -/
def sweepOwnSpec : ChangeSpec := { name := "sweepOwn", fn := fun _ => fun
  | [d1, d2, d3] => { results := [.lit (.bool true)], args := [d1, d2, d3] }
  | _ => none }
def sweepOwnRow : OpenClaim := { program := "ytafemlljemhkhaa", sum := "1c8c6cdac3f29e4dc216f0f843dbc68ef8dc4dbd50376b9a55ad99a0666618d0", func := "stepstone/stepstonelaw15.SweepOwn", spec := "sweepOwn", unfollowed := true, recurses := true, apart := false }
def SweepOwnSaid : Prop := sweepOwnRow.holds Try.pinned (OpenSpec.ofChange sweepOwnSpec)

/-- ITS FALSE NEIGHBOUR: 'it returns false'. Refute it at one input. -/
def sweepOwnWrong : ChangeSpec := { name := "sweepOwn", fn := fun _ => fun
  | [d1, d2, d3] => { results := [.lit (.bool false)], args := [d1, d2, d3] }
  | _ => none }
def SweepOwnWrongFalsely : Prop := sweepOwnRow.holds Try.pinned (OpenSpec.ofChange sweepOwnWrong)

/-- 'stepstonelaw15.SweepFrees': WHATEVER THE INPUT: true; the input reads as it did. -/
def sweepFreesSpec : ChangeSpec := { name := "sweepFrees", fn := fun _ => fun
  | [d1, d2, d3] => { results := [.lit (.bool true)], args := [d1, d2, d3] }
  | _ => none }
def sweepFreesRow : OpenClaim := { program := "ytafemlljemhkhaa", sum := "1c8c6cdac3f29e4dc216f0f843dbc68ef8dc4dbd50376b9a55ad99a0666618d0", func := "stepstone/stepstonelaw15.SweepFrees", spec := "sweepFrees", unfollowed := true, recurses := true, apart := false }
def SweepFreesSaid : Prop := sweepFreesRow.holds Try.pinned (OpenSpec.ofChange sweepFreesSpec)

/-- ITS FALSE NEIGHBOUR: 'it returns false'. Refute it at one input. -/
def sweepFreesWrong : ChangeSpec := { name := "sweepFrees", fn := fun _ => fun
  | [d1, d2, d3] => { results := [.lit (.bool false)], args := [d1, d2, d3] }
  | _ => none }
def SweepFreesWrongFalsely : Prop := sweepFreesRow.holds Try.pinned (OpenSpec.ofChange sweepFreesWrong)

/- THE SECOND FORM. 'bulk': how many values and letters a reading holds, each counted each time it is reached (what is shared counts as often as it is met; a slice's spare places count too). A statement '..UptoSaid' is the law's where the arguments, and the package variables that the reading takes, are together of bulk at most 1048576: NARROWER than '..Said'. Prove '..Said' where nothing that the law and all that it calls make is longer than what came in: it says more and counts as full. Else prove '..UptoSaid'. A law counts once. -/
mutual
def uptoBulk {H : Type} : DataW H → Nat
  | .lit (.string bytes) => bytes.length + 1
  | .lit _ => 1
  | .nil => 1
  | .ptr d => uptoBulk d + 1
  | .slice elems spare => uptoBulkAll elems + uptoBulkAll spare + 1
  | .agg parts => uptoBulkAll parts + 1
  | .iface _ d => uptoBulk d + 1
  | .map entries => uptoBulkEntries entries + 1
  | .held _ => 1
def uptoBulkAll {H : Type} : List (DataW H) → Nat
  | [] => 0
  | d :: r => uptoBulk d + uptoBulkAll r
def uptoBulkEntries {H : Type} : List (Lit × DataW H) → Nat
  | [] => 0
  | x :: r => uptoBulkEntry x + uptoBulkEntries r
def uptoBulkEntry {H : Type} : Lit × DataW H → Nat
  | (.string bytes, d) => bytes.length + uptoBulk d + 1
  | (_, d) => uptoBulk d + 1
 end
def uptoSmall : (H : Type) → List (DataW H) → Bool := fun _ ds => decide (uptoBulkAll ds ≤ 1048576)
def OpenSpec.upto (s : _root_.Go.ChangeSpec) : _root_.Go.OpenSpec := { _root_.Go.OpenSpec.ofChange s with cond := some uptoSmall }

/-- 'stepstonelaw09.ClaimTwo', WHERE WHAT IT READS IS OF BULK AT MOST 1048576: true; the input reads as it did. -/
def claimTwoUptoRow : OpenClaim := { program := "ytafemlljemhkhaa", sum := "1c8c6cdac3f29e4dc216f0f843dbc68ef8dc4dbd50376b9a55ad99a0666618d0", func := "stepstone/stepstonelaw09.ClaimTwo", spec := "claimTwo", unfollowed := true, recurses := true, apart := false, narrowed := true }
def ClaimTwoUptoSaid : Prop := claimTwoUptoRow.holds Try.pinned (OpenSpec.upto claimTwoSpec)

/-- 'stepstonelaw09.ClaimEnds', WHERE WHAT IT READS IS OF BULK AT MOST 1048576: true; the input reads as it did. -/
def claimEndsUptoRow : OpenClaim := { program := "ytafemlljemhkhaa", sum := "1c8c6cdac3f29e4dc216f0f843dbc68ef8dc4dbd50376b9a55ad99a0666618d0", func := "stepstone/stepstonelaw09.ClaimEnds", spec := "claimEnds", unfollowed := true, recurses := true, apart := false, narrowed := true }
def ClaimEndsUptoSaid : Prop := claimEndsUptoRow.holds Try.pinned (OpenSpec.upto claimEndsSpec)

/-- 'stepstonelaw09.ClaimRound', WHERE WHAT IT READS IS OF BULK AT MOST 1048576: true; the input reads as it did. -/
def claimRoundUptoRow : OpenClaim := { program := "ytafemlljemhkhaa", sum := "1c8c6cdac3f29e4dc216f0f843dbc68ef8dc4dbd50376b9a55ad99a0666618d0", func := "stepstone/stepstonelaw09.ClaimRound", spec := "claimRound", unfollowed := true, recurses := true, apart := false, narrowed := true }
def ClaimRoundUptoSaid : Prop := claimRoundUptoRow.holds Try.pinned (OpenSpec.upto claimRoundSpec)

/-- 'stepstonelaw09.ClaimAlone', WHERE WHAT IT READS IS OF BULK AT MOST 1048576: true; the input reads as it did. -/
def claimAloneUptoRow : OpenClaim := { program := "ytafemlljemhkhaa", sum := "1c8c6cdac3f29e4dc216f0f843dbc68ef8dc4dbd50376b9a55ad99a0666618d0", func := "stepstone/stepstonelaw09.ClaimAlone", spec := "claimAlone", unfollowed := true, recurses := true, apart := false, narrowed := true }
def ClaimAloneUptoSaid : Prop := claimAloneUptoRow.holds Try.pinned (OpenSpec.upto claimAloneSpec)

/-- 'stepstonelaw09.ClaimSteps', WHERE WHAT IT READS IS OF BULK AT MOST 1048576: true; the input reads as it did. -/
def claimStepsUptoRow : OpenClaim := { program := "ytafemlljemhkhaa", sum := "1c8c6cdac3f29e4dc216f0f843dbc68ef8dc4dbd50376b9a55ad99a0666618d0", func := "stepstone/stepstonelaw09.ClaimSteps", spec := "claimSteps", unfollowed := true, recurses := true, apart := false, narrowed := true }
def ClaimStepsUptoSaid : Prop := claimStepsUptoRow.holds Try.pinned (OpenSpec.upto claimStepsSpec)

/-- 'stepstonelaw09.ClaimBacks', WHERE WHAT IT READS IS OF BULK AT MOST 1048576: true; the input reads as it did. -/
def claimBacksUptoRow : OpenClaim := { program := "ytafemlljemhkhaa", sum := "1c8c6cdac3f29e4dc216f0f843dbc68ef8dc4dbd50376b9a55ad99a0666618d0", func := "stepstone/stepstonelaw09.ClaimBacks", spec := "claimBacks", unfollowed := true, recurses := true, apart := false, narrowed := true }
def ClaimBacksUptoSaid : Prop := claimBacksUptoRow.holds Try.pinned (OpenSpec.upto claimBacksSpec)

/-- 'stepstonelaw15.SweepNone', WHERE WHAT IT READS IS OF BULK AT MOST 1048576: true; the input reads as it did. -/
def sweepNoneUptoRow : OpenClaim := { program := "ytafemlljemhkhaa", sum := "1c8c6cdac3f29e4dc216f0f843dbc68ef8dc4dbd50376b9a55ad99a0666618d0", func := "stepstone/stepstonelaw15.SweepNone", spec := "sweepNone", unfollowed := true, recurses := true, apart := false, narrowed := true }
def SweepNoneUptoSaid : Prop := sweepNoneUptoRow.holds Try.pinned (OpenSpec.upto sweepNoneSpec)

/-- 'stepstonelaw15.SweepStalled', WHERE WHAT IT READS IS OF BULK AT MOST 1048576: true; the input reads as it did. -/
def sweepStalledUptoRow : OpenClaim := { program := "ytafemlljemhkhaa", sum := "1c8c6cdac3f29e4dc216f0f843dbc68ef8dc4dbd50376b9a55ad99a0666618d0", func := "stepstone/stepstonelaw15.SweepStalled", spec := "sweepStalled", unfollowed := true, recurses := true, apart := false, narrowed := true }
def SweepStalledUptoSaid : Prop := sweepStalledUptoRow.holds Try.pinned (OpenSpec.upto sweepStalledSpec)

/-- 'stepstonelaw15.SweepKeeps', WHERE WHAT IT READS IS OF BULK AT MOST 1048576: true; the input reads as it did. -/
def sweepKeepsUptoRow : OpenClaim := { program := "ytafemlljemhkhaa", sum := "1c8c6cdac3f29e4dc216f0f843dbc68ef8dc4dbd50376b9a55ad99a0666618d0", func := "stepstone/stepstonelaw15.SweepKeeps", spec := "sweepKeeps", unfollowed := true, recurses := true, apart := false, narrowed := true }
def SweepKeepsUptoSaid : Prop := sweepKeepsUptoRow.holds Try.pinned (OpenSpec.upto sweepKeepsSpec)

/-- 'stepstonelaw15.SweepSteps', WHERE WHAT IT READS IS OF BULK AT MOST 1048576: true; the input reads as it did. -/
def sweepStepsUptoRow : OpenClaim := { program := "ytafemlljemhkhaa", sum := "1c8c6cdac3f29e4dc216f0f843dbc68ef8dc4dbd50376b9a55ad99a0666618d0", func := "stepstone/stepstonelaw15.SweepSteps", spec := "sweepSteps", unfollowed := true, recurses := true, apart := false, narrowed := true }
def SweepStepsUptoSaid : Prop := sweepStepsUptoRow.holds Try.pinned (OpenSpec.upto sweepStepsSpec)

/-- 'stepstonelaw15.SweepOwn', WHERE WHAT IT READS IS OF BULK AT MOST 1048576: true; the input reads as it did. -/
def sweepOwnUptoRow : OpenClaim := { program := "ytafemlljemhkhaa", sum := "1c8c6cdac3f29e4dc216f0f843dbc68ef8dc4dbd50376b9a55ad99a0666618d0", func := "stepstone/stepstonelaw15.SweepOwn", spec := "sweepOwn", unfollowed := true, recurses := true, apart := false, narrowed := true }
def SweepOwnUptoSaid : Prop := sweepOwnUptoRow.holds Try.pinned (OpenSpec.upto sweepOwnSpec)

/-- 'stepstonelaw15.SweepFrees', WHERE WHAT IT READS IS OF BULK AT MOST 1048576: true; the input reads as it did. -/
def sweepFreesUptoRow : OpenClaim := { program := "ytafemlljemhkhaa", sum := "1c8c6cdac3f29e4dc216f0f843dbc68ef8dc4dbd50376b9a55ad99a0666618d0", func := "stepstone/stepstonelaw15.SweepFrees", spec := "sweepFrees", unfollowed := true, recurses := true, apart := false, narrowed := true }
def SweepFreesUptoSaid : Prop := sweepFreesUptoRow.holds Try.pinned (OpenSpec.upto sweepFreesSpec)

end Rows
end Go.Proofs.Ytafemlljemhkhaa
