/-
  No cell of these rows narrows 'for every input' (looked for: loops, veiled, ifaces, maps, wideKeys, modest, calm, conditions, laid).
  DERIVED. THE GIVEN ROWS OF THIS SEAT. 12 by the template 'for every input the law returns true; each argument reads behind the call as it read before'; 0 by the template 'total and deterministic' (their statements: YtalobhgefmhboaaTotals.lean).
  GIVEN WITH THE SEED: the statements are not yours to turn. If you find one false, say at which input.
  Laid BY PROGRAM, IN A SANDBOX (cutbox-rows.mjs): the forced cells as the released guide's own fill.sh prints them over the translation 7524bde5dd4b07d7… (all of the seat's roots in one cut). By AI agents, Wed Nov 11 2026. No macro, syntax, notation, axiom, sorry.
-/
import Derived.Test.YtalobhgefmhboaaChecked
import GoSem.Claim
import GoSem.ClaimJoined
import GoSem.ClaimMapViews
import Derived.JoinedTies
import Derived.KernelRfl
namespace Go.Proofs.Ytalobhgefmhboaa
/- THE CELL 'sum', in the pinned program and in every row, IS THE sha256 OF THE DUMP (.gsa) THAT YtalobhgefmhboaaProg.lean LOADS. Nothing in Lean hashes anything: it is a label: what it is worth is what the hold of that sum in a sandbox is worth. -/
noncomputable def Try.pinned : Pinned := { name := "ytalobhgefmhboaa", sum := "7524bde5dd4b07d7f0d8d7427b5cdfc84c31e344da4fc77b2678542230db5aa7", checked := Try.checked }
namespace Rows
def none {H : Type} : Left H := { results := [], args := [] }

/-- 'stepstonelaw10.GuardStands': WHATEVER THE INPUT: true; the input reads as it did. -/
def guardStandsSpec : ChangeSpec := { name := "guardStands", fn := fun _ => fun
  | [d1, d2, d3] => { results := [.lit (.bool true)], args := [d1, d2, d3] }
  | _ => none }
def guardStandsRow : OpenClaim := { program := "ytalobhgefmhboaa", sum := "7524bde5dd4b07d7f0d8d7427b5cdfc84c31e344da4fc77b2678542230db5aa7", func := "stepstone/stepstonelaw10.GuardStands", spec := "guardStands", unfollowed := true, recurses := true, apart := false }
def GuardStandsSaid : Prop := guardStandsRow.holds Try.pinned (OpenSpec.ofChange guardStandsSpec)

/-- ITS FALSE NEIGHBOUR: 'it returns false'. Refute it at one input. -/
def guardStandsWrong : ChangeSpec := { name := "guardStands", fn := fun _ => fun
  | [d1, d2, d3] => { results := [.lit (.bool false)], args := [d1, d2, d3] }
  | _ => none }
def GuardStandsWrongFalsely : Prop := guardStandsRow.holds Try.pinned (OpenSpec.ofChange guardStandsWrong)

/-- 'stepstonelaw10.GuardClears': WHATEVER THE INPUT: true; the input reads as it did. -/
def guardClearsSpec : ChangeSpec := { name := "guardClears", fn := fun _ => fun
  | [d1, d2, d3] => { results := [.lit (.bool true)], args := [d1, d2, d3] }
  | _ => none }
def guardClearsRow : OpenClaim := { program := "ytalobhgefmhboaa", sum := "7524bde5dd4b07d7f0d8d7427b5cdfc84c31e344da4fc77b2678542230db5aa7", func := "stepstone/stepstonelaw10.GuardClears", spec := "guardClears", unfollowed := true, recurses := true, apart := false }
def GuardClearsSaid : Prop := guardClearsRow.holds Try.pinned (OpenSpec.ofChange guardClearsSpec)

/-- ITS FALSE NEIGHBOUR: 'it returns false'. Refute it at one input. -/
def guardClearsWrong : ChangeSpec := { name := "guardClears", fn := fun _ => fun
  | [d1, d2, d3] => { results := [.lit (.bool false)], args := [d1, d2, d3] }
  | _ => none }
def GuardClearsWrongFalsely : Prop := guardClearsRow.holds Try.pinned (OpenSpec.ofChange guardClearsWrong)

/-- 'stepstonelaw10.GuardTwo': WHATEVER THE INPUT: true; the input reads as it did. -/
def guardTwoSpec : ChangeSpec := { name := "guardTwo", fn := fun _ => fun
  | [d1, d2, d3] => { results := [.lit (.bool true)], args := [d1, d2, d3] }
  | _ => none }
def guardTwoRow : OpenClaim := { program := "ytalobhgefmhboaa", sum := "7524bde5dd4b07d7f0d8d7427b5cdfc84c31e344da4fc77b2678542230db5aa7", func := "stepstone/stepstonelaw10.GuardTwo", spec := "guardTwo", unfollowed := true, recurses := true, apart := false }
def GuardTwoSaid : Prop := guardTwoRow.holds Try.pinned (OpenSpec.ofChange guardTwoSpec)

/-- ITS FALSE NEIGHBOUR: 'it returns false'. Refute it at one input. -/
def guardTwoWrong : ChangeSpec := { name := "guardTwo", fn := fun _ => fun
  | [d1, d2, d3] => { results := [.lit (.bool false)], args := [d1, d2, d3] }
  | _ => none }
def GuardTwoWrongFalsely : Prop := guardTwoRow.holds Try.pinned (OpenSpec.ofChange guardTwoWrong)

/-- 'stepstonelaw10.GuardChecks': WHATEVER THE INPUT: true; the input reads as it did. -/
def guardChecksSpec : ChangeSpec := { name := "guardChecks", fn := fun _ => fun
  | [d1, d2, d3] => { results := [.lit (.bool true)], args := [d1, d2, d3] }
  | _ => none }
def guardChecksRow : OpenClaim := { program := "ytalobhgefmhboaa", sum := "7524bde5dd4b07d7f0d8d7427b5cdfc84c31e344da4fc77b2678542230db5aa7", func := "stepstone/stepstonelaw10.GuardChecks", spec := "guardChecks", unfollowed := true, recurses := true, apart := false }
def GuardChecksSaid : Prop := guardChecksRow.holds Try.pinned (OpenSpec.ofChange guardChecksSpec)

/-- ITS FALSE NEIGHBOUR: 'it returns false'. Refute it at one input. -/
def guardChecksWrong : ChangeSpec := { name := "guardChecks", fn := fun _ => fun
  | [d1, d2, d3] => { results := [.lit (.bool false)], args := [d1, d2, d3] }
  | _ => none }
def GuardChecksWrongFalsely : Prop := guardChecksRow.holds Try.pinned (OpenSpec.ofChange guardChecksWrong)

/-- 'stepstonelaw10.GuardOthers': WHATEVER THE INPUT: true; the input reads as it did. -/
def guardOthersSpec : ChangeSpec := { name := "guardOthers", fn := fun _ => fun
  | [d1, d2, d3] => { results := [.lit (.bool true)], args := [d1, d2, d3] }
  | _ => none }
def guardOthersRow : OpenClaim := { program := "ytalobhgefmhboaa", sum := "7524bde5dd4b07d7f0d8d7427b5cdfc84c31e344da4fc77b2678542230db5aa7", func := "stepstone/stepstonelaw10.GuardOthers", spec := "guardOthers", unfollowed := true, recurses := true, apart := false }
def GuardOthersSaid : Prop := guardOthersRow.holds Try.pinned (OpenSpec.ofChange guardOthersSpec)

/-- ITS FALSE NEIGHBOUR: 'it returns false'. Refute it at one input. -/
def guardOthersWrong : ChangeSpec := { name := "guardOthers", fn := fun _ => fun
  | [d1, d2, d3] => { results := [.lit (.bool false)], args := [d1, d2, d3] }
  | _ => none }
def GuardOthersWrongFalsely : Prop := guardOthersRow.holds Try.pinned (OpenSpec.ofChange guardOthersWrong)

/-- 'stepstonelaw05.MemMarks': WHATEVER THE INPUT: true; the input reads as it did. -/
def memMarksSpec : ChangeSpec := { name := "memMarks", fn := fun _ => fun
  | [d1, d2, d3] => { results := [.lit (.bool true)], args := [d1, d2, d3] }
  | _ => none }
def memMarksRow : OpenClaim := { program := "ytalobhgefmhboaa", sum := "7524bde5dd4b07d7f0d8d7427b5cdfc84c31e344da4fc77b2678542230db5aa7", func := "stepstone/stepstonelaw05.MemMarks", spec := "memMarks", unfollowed := true, recurses := true, apart := false }
def MemMarksSaid : Prop := memMarksRow.holds Try.pinned (OpenSpec.ofChange memMarksSpec)

/-- ITS FALSE NEIGHBOUR: 'it returns false'. Refute it at one input. -/
def memMarksWrong : ChangeSpec := { name := "memMarks", fn := fun _ => fun
  | [d1, d2, d3] => { results := [.lit (.bool false)], args := [d1, d2, d3] }
  | _ => none }
def MemMarksWrongFalsely : Prop := memMarksRow.holds Try.pinned (OpenSpec.ofChange memMarksWrong)

/-- 'stepstonelaw05.MemApart': WHATEVER THE INPUT: true; the input reads as it did. -/
def memApartSpec : ChangeSpec := { name := "memApart", fn := fun _ => fun
  | [d1, d2] => { results := [.lit (.bool true)], args := [d1, d2] }
  | _ => none }
def memApartRow : OpenClaim := { program := "ytalobhgefmhboaa", sum := "7524bde5dd4b07d7f0d8d7427b5cdfc84c31e344da4fc77b2678542230db5aa7", func := "stepstone/stepstonelaw05.MemApart", spec := "memApart", unfollowed := true, recurses := true, apart := false }
def MemApartSaid : Prop := memApartRow.holds Try.pinned (OpenSpec.ofChange memApartSpec)

/-- ITS FALSE NEIGHBOUR: 'it returns false'. Refute it at one input. -/
def memApartWrong : ChangeSpec := { name := "memApart", fn := fun _ => fun
  | [d1, d2] => { results := [.lit (.bool false)], args := [d1, d2] }
  | _ => none }
def MemApartWrongFalsely : Prop := memApartRow.holds Try.pinned (OpenSpec.ofChange memApartWrong)

/-- 'stepstonelaw10.GuardAll': WHATEVER THE INPUT: true; the input reads as it did. -/
def guardAllSpec : ChangeSpec := { name := "guardAll", fn := fun _ => fun
  | [d1, d2, d3] => { results := [.lit (.bool true)], args := [d1, d2, d3] }
  | _ => none }
def guardAllRow : OpenClaim := { program := "ytalobhgefmhboaa", sum := "7524bde5dd4b07d7f0d8d7427b5cdfc84c31e344da4fc77b2678542230db5aa7", func := "stepstone/stepstonelaw10.GuardAll", spec := "guardAll", unfollowed := true, recurses := true, apart := false }
def GuardAllSaid : Prop := guardAllRow.holds Try.pinned (OpenSpec.ofChange guardAllSpec)

/-- ITS FALSE NEIGHBOUR: 'it returns false'. Refute it at one input. -/
def guardAllWrong : ChangeSpec := { name := "guardAll", fn := fun _ => fun
  | [d1, d2, d3] => { results := [.lit (.bool false)], args := [d1, d2, d3] }
  | _ => none }
def GuardAllWrongFalsely : Prop := guardAllRow.holds Try.pinned (OpenSpec.ofChange guardAllWrong)

/-- 'stepstonelaw05.MemNew': WHATEVER THE INPUT: true; the input reads as it did. -/
def memNewSpec : ChangeSpec := { name := "memNew", fn := fun _ => fun
  | [d] => { results := [.lit (.bool true)], args := [d] }
  | _ => none }
def memNewRow : OpenClaim := { program := "ytalobhgefmhboaa", sum := "7524bde5dd4b07d7f0d8d7427b5cdfc84c31e344da4fc77b2678542230db5aa7", func := "stepstone/stepstonelaw05.MemNew", spec := "memNew", unfollowed := true, recurses := true, apart := false }
def MemNewSaid : Prop := memNewRow.holds Try.pinned (OpenSpec.ofChange memNewSpec)

/-- ITS FALSE NEIGHBOUR: 'it returns false'. Refute it at one input. -/
def memNewWrong : ChangeSpec := { name := "memNew", fn := fun _ => fun
  | [d] => { results := [.lit (.bool false)], args := [d] }
  | _ => none }
def MemNewWrongFalsely : Prop := memNewRow.holds Try.pinned (OpenSpec.ofChange memNewWrong)

/-- 'stepstonelaw05.MemOf': WHATEVER THE INPUT: true; the input reads as it did. -/
def memOfSpec : ChangeSpec := { name := "memOf", fn := fun _ => fun
  | [d1, d2] => { results := [.lit (.bool true)], args := [d1, d2] }
  | _ => none }
def memOfRow : OpenClaim := { program := "ytalobhgefmhboaa", sum := "7524bde5dd4b07d7f0d8d7427b5cdfc84c31e344da4fc77b2678542230db5aa7", func := "stepstone/stepstonelaw05.MemOf", spec := "memOf", unfollowed := true, recurses := true, apart := false }
def MemOfSaid : Prop := memOfRow.holds Try.pinned (OpenSpec.ofChange memOfSpec)

/-- ITS FALSE NEIGHBOUR: 'it returns false'. Refute it at one input. -/
def memOfWrong : ChangeSpec := { name := "memOf", fn := fun _ => fun
  | [d1, d2] => { results := [.lit (.bool false)], args := [d1, d2] }
  | _ => none }
def MemOfWrongFalsely : Prop := memOfRow.holds Try.pinned (OpenSpec.ofChange memOfWrong)

/-- 'stepstonelaw05.MemAll': WHATEVER THE INPUT: true; the input reads as it did. -/
def memAllSpec : ChangeSpec := { name := "memAll", fn := fun _ => fun
  | [d1, d2, d3] => { results := [.lit (.bool true)], args := [d1, d2, d3] }
  | _ => none }
def memAllRow : OpenClaim := { program := "ytalobhgefmhboaa", sum := "7524bde5dd4b07d7f0d8d7427b5cdfc84c31e344da4fc77b2678542230db5aa7", func := "stepstone/stepstonelaw05.MemAll", spec := "memAll", unfollowed := true, recurses := true, apart := false }
def MemAllSaid : Prop := memAllRow.holds Try.pinned (OpenSpec.ofChange memAllSpec)

/-- ITS FALSE NEIGHBOUR: 'it returns false'. Refute it at one input. -/
def memAllWrong : ChangeSpec := { name := "memAll", fn := fun _ => fun
  | [d1, d2, d3] => { results := [.lit (.bool false)], args := [d1, d2, d3] }
  | _ => none }
def MemAllWrongFalsely : Prop := memAllRow.holds Try.pinned (OpenSpec.ofChange memAllWrong)

/-- 'stepstonelaw05.MemOthers': WHATEVER THE INPUT: true; the input reads as it did. -/
def memOthersSpec : ChangeSpec := { name := "memOthers", fn := fun _ => fun
  | [d1, d2, d3] => { results := [.lit (.bool true)], args := [d1, d2, d3] }
  | _ => none }
def memOthersRow : OpenClaim := { program := "ytalobhgefmhboaa", sum := "7524bde5dd4b07d7f0d8d7427b5cdfc84c31e344da4fc77b2678542230db5aa7", func := "stepstone/stepstonelaw05.MemOthers", spec := "memOthers", unfollowed := true, recurses := true, apart := false }
def MemOthersSaid : Prop := memOthersRow.holds Try.pinned (OpenSpec.ofChange memOthersSpec)

/-- ITS FALSE NEIGHBOUR: 'it returns false'. Refute it at one input. -/
def memOthersWrong : ChangeSpec := { name := "memOthers", fn := fun _ => fun
  | [d1, d2, d3] => { results := [.lit (.bool false)], args := [d1, d2, d3] }
  | _ => none }
def MemOthersWrongFalsely : Prop := memOthersRow.holds Try.pinned (OpenSpec.ofChange memOthersWrong)

/- THE SECOND FORM. 'bulk': how many values and letters a reading holds, each counted each time it is reached (what is shared counts as often as it is met; a slice's spare places count too). A statement '..UptoSaid' is the law's where the arguments, and the package variables that the reading takes, are together of bulk at most 1048576: NARROWER than '..Said'. Prove '..Said' where nothing that the law and all that it calls make is longer than what came in: it says more and counts as full. Else prove '..UptoSaid'. A law counts once. -/
mutual
def uptoBulk {H : Type} : DataW H → Nat
  | .lit (.string bytes) => bytes.length + 1
  | .lit _ => 1
  | .nil => 1
  | .ptr d => uptoBulk d + 1
  | .slice elems spare => uptoBulkAll elems + uptoBulkAll spare + 1
  | .agg parts => uptoBulkAll parts + 1
  | .iface _ d => uptoBulk d + 1
  | .map entries => uptoBulkEntries entries + 1
  | .held _ => 1
def uptoBulkAll {H : Type} : List (DataW H) → Nat
  | [] => 0
  | d :: r => uptoBulk d + uptoBulkAll r
def uptoBulkEntries {H : Type} : List (Lit × DataW H) → Nat
  | [] => 0
  | x :: r => uptoBulkEntry x + uptoBulkEntries r
def uptoBulkEntry {H : Type} : Lit × DataW H → Nat
  | (.string bytes, d) => bytes.length + uptoBulk d + 1
  | (_, d) => uptoBulk d + 1
 end
def uptoSmall : (H : Type) → List (DataW H) → Bool := fun _ ds => decide (uptoBulkAll ds ≤ 1048576)
def OpenSpec.upto (s : _root_.Go.ChangeSpec) : _root_.Go.OpenSpec := { _root_.Go.OpenSpec.ofChange s with cond := some uptoSmall }

/-- 'stepstonelaw10.GuardStands', WHERE WHAT IT READS IS OF BULK AT MOST 1048576: true; the input reads as it did. -/
def guardStandsUptoRow : OpenClaim := { program := "ytalobhgefmhboaa", sum := "7524bde5dd4b07d7f0d8d7427b5cdfc84c31e344da4fc77b2678542230db5aa7", func := "stepstone/stepstonelaw10.GuardStands", spec := "guardStands", unfollowed := true, recurses := true, apart := false, narrowed := true }
def GuardStandsUptoSaid : Prop := guardStandsUptoRow.holds Try.pinned (OpenSpec.upto guardStandsSpec)

/-- 'stepstonelaw10.GuardClears', WHERE WHAT IT READS IS OF BULK AT MOST 1048576: true; the input reads as it did. -/
def guardClearsUptoRow : OpenClaim := { program := "ytalobhgefmhboaa", sum := "7524bde5dd4b07d7f0d8d7427b5cdfc84c31e344da4fc77b2678542230db5aa7", func := "stepstone/stepstonelaw10.GuardClears", spec := "guardClears", unfollowed := true, recurses := true, apart := false, narrowed := true }
def GuardClearsUptoSaid : Prop := guardClearsUptoRow.holds Try.pinned (OpenSpec.upto guardClearsSpec)

/-- 'stepstonelaw10.GuardTwo', WHERE WHAT IT READS IS OF BULK AT MOST 1048576: true; the input reads as it did. -/
def guardTwoUptoRow : OpenClaim := { program := "ytalobhgefmhboaa", sum := "7524bde5dd4b07d7f0d8d7427b5cdfc84c31e344da4fc77b2678542230db5aa7", func := "stepstone/stepstonelaw10.GuardTwo", spec := "guardTwo", unfollowed := true, recurses := true, apart := false, narrowed := true }
def GuardTwoUptoSaid : Prop := guardTwoUptoRow.holds Try.pinned (OpenSpec.upto guardTwoSpec)

/-- 'stepstonelaw10.GuardChecks', WHERE WHAT IT READS IS OF BULK AT MOST 1048576: true; the input reads as it did. -/
def guardChecksUptoRow : OpenClaim := { program := "ytalobhgefmhboaa", sum := "7524bde5dd4b07d7f0d8d7427b5cdfc84c31e344da4fc77b2678542230db5aa7", func := "stepstone/stepstonelaw10.GuardChecks", spec := "guardChecks", unfollowed := true, recurses := true, apart := false, narrowed := true }
def GuardChecksUptoSaid : Prop := guardChecksUptoRow.holds Try.pinned (OpenSpec.upto guardChecksSpec)

/-- 'stepstonelaw10.GuardOthers', WHERE WHAT IT READS IS OF BULK AT MOST 1048576: true; the input reads as it did. -/
def guardOthersUptoRow : OpenClaim := { program := "ytalobhgefmhboaa", sum := "7524bde5dd4b07d7f0d8d7427b5cdfc84c31e344da4fc77b2678542230db5aa7", func := "stepstone/stepstonelaw10.GuardOthers", spec := "guardOthers", unfollowed := true, recurses := true, apart := false, narrowed := true }
def GuardOthersUptoSaid : Prop := guardOthersUptoRow.holds Try.pinned (OpenSpec.upto guardOthersSpec)

/-- 'stepstonelaw05.MemMarks', WHERE WHAT IT READS IS OF BULK AT MOST 1048576: true; the input reads as it did. -/
def memMarksUptoRow : OpenClaim := { program := "ytalobhgefmhboaa", sum := "7524bde5dd4b07d7f0d8d7427b5cdfc84c31e344da4fc77b2678542230db5aa7", func := "stepstone/stepstonelaw05.MemMarks", spec := "memMarks", unfollowed := true, recurses := true, apart := false, narrowed := true }
def MemMarksUptoSaid : Prop := memMarksUptoRow.holds Try.pinned (OpenSpec.upto memMarksSpec)

/-- 'stepstonelaw05.MemApart', WHERE WHAT IT READS IS OF BULK AT MOST 1048576: true; the input reads as it did. -/
def memApartUptoRow : OpenClaim := { program := "ytalobhgefmhboaa", sum := "7524bde5dd4b07d7f0d8d7427b5cdfc84c31e344da4fc77b2678542230db5aa7", func := "stepstone/stepstonelaw05.MemApart", spec := "memApart", unfollowed := true, recurses := true, apart := false, narrowed := true }
def MemApartUptoSaid : Prop := memApartUptoRow.holds Try.pinned (OpenSpec.upto memApartSpec)

/-- 'stepstonelaw10.GuardAll', WHERE WHAT IT READS IS OF BULK AT MOST 1048576: true; the input reads as it did. -/
def guardAllUptoRow : OpenClaim := { program := "ytalobhgefmhboaa", sum := "7524bde5dd4b07d7f0d8d7427b5cdfc84c31e344da4fc77b2678542230db5aa7", func := "stepstone/stepstonelaw10.GuardAll", spec := "guardAll", unfollowed := true, recurses := true, apart := false, narrowed := true }
def GuardAllUptoSaid : Prop := guardAllUptoRow.holds Try.pinned (OpenSpec.upto guardAllSpec)

/-- 'stepstonelaw05.MemNew', WHERE WHAT IT READS IS OF BULK AT MOST 1048576: true; the input reads as it did. -/
def memNewUptoRow : OpenClaim := { program := "ytalobhgefmhboaa", sum := "7524bde5dd4b07d7f0d8d7427b5cdfc84c31e344da4fc77b2678542230db5aa7", func := "stepstone/stepstonelaw05.MemNew", spec := "memNew", unfollowed := true, recurses := true, apart := false, narrowed := true }
def MemNewUptoSaid : Prop := memNewUptoRow.holds Try.pinned (OpenSpec.upto memNewSpec)

/-- 'stepstonelaw05.MemOf', WHERE WHAT IT READS IS OF BULK AT MOST 1048576: true; the input reads as it did. -/
def memOfUptoRow : OpenClaim := { program := "ytalobhgefmhboaa", sum := "7524bde5dd4b07d7f0d8d7427b5cdfc84c31e344da4fc77b2678542230db5aa7", func := "stepstone/stepstonelaw05.MemOf", spec := "memOf", unfollowed := true, recurses := true, apart := false, narrowed := true }
def MemOfUptoSaid : Prop := memOfUptoRow.holds Try.pinned (OpenSpec.upto memOfSpec)

/-- 'stepstonelaw05.MemAll', WHERE WHAT IT READS IS OF BULK AT MOST 1048576: true; the input reads as it did. -/
def memAllUptoRow : OpenClaim := { program := "ytalobhgefmhboaa", sum := "7524bde5dd4b07d7f0d8d7427b5cdfc84c31e344da4fc77b2678542230db5aa7", func := "stepstone/stepstonelaw05.MemAll", spec := "memAll", unfollowed := true, recurses := true, apart := false, narrowed := true }
def MemAllUptoSaid : Prop := memAllUptoRow.holds Try.pinned (OpenSpec.upto memAllSpec)

/-- 'stepstonelaw05.MemOthers', WHERE WHAT IT READS IS OF BULK AT MOST 1048576: true; the input reads as it did. -/
def memOthersUptoRow : OpenClaim := { program := "ytalobhgefmhboaa", sum := "7524bde5dd4b07d7f0d8d7427b5cdfc84c31e344da4fc77b2678542230db5aa7", func := "stepstone/stepstonelaw05.MemOthers", spec := "memOthers", unfollowed := true, recurses := true, apart := false, narrowed := true }
def MemOthersUptoSaid : Prop := memOthersUptoRow.holds Try.pinned (OpenSpec.upto memOthersSpec)

end Rows
end Go.Proofs.Ytalobhgefmhboaa
