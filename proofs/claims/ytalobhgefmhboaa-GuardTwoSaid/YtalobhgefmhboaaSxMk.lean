/-
  THE SYMBOLIC EXECUTOR, part Mk: what stands for a name in a world; things that are told by a row of numbers (slices that grow).
-/
import Derived.Calls
import Derived.Below
import Derived.Test.YtalobhgefmhboaaSxFun
namespace Go.Proofs.Ytalobhgefmhboaa.Sx
open Go
set_option linter.unusedVariables false
inductive RV where
  | blk (b : Nat)
  | val (v : Value)
def RV.value : RV → Value
  | .blk b => .pointer (some ⟨b, 0, none⟩)
  | .val v => v

/-- A slice that grows: sz words an element; what is ahead of it in its block, and its room, are hidden. -/
def growOk (sz : Nat) (l : List Int) (r : RV) (F : Nat → Prop) (w : World) : Prop :=
  ∃ a len cap, r = .val (.slice a len cap) ∧ len * sz = l.length ∧ len ≤ cap ∧
    ((cap = 0 ∧ ∀ x, ¬ F x) ∨ ∃ b e pre rest, a = some ⟨b, pre.length, none⟩ ∧ w.heap[b]? = some (.cells (pre ++ (l.map (Value.int .u64) ++ rest)).toArray e (0, 0)) ∧ cap * sz ≤ l.length + rest.length ∧ ∀ x, F x ↔ x = b)
/-- What things that are told by a row of numbers are: of kind 0 nothing is known. -/
def MachOk (k : Nat) (l : List Int) (r : RV) (F : Nat → Prop) (w : World) : Prop :=
  if k = 0 then (∃ v, r = .val v) ∧ ∀ x, ¬ F x else growOk k l r F w
theorem MachOk.frame {k : Nat} {l : List Int} {r : RV} {F : Nat → Prop} {w w' : World} (h : MachOk k l r F w) (hs : w.heap.size ≤ w'.heap.size) (hw : ∀ x, F x → w'.heap[x]? = w.heap[x]?) : MachOk k l r F w' := by
  unfold MachOk at h ⊢
  split
  · rw [if_pos ‹_›] at h; exact h
  · rw [if_neg ‹_›] at h
    obtain ⟨a, len, cap, h1, h2, h3, h4⟩ := h
    refine ⟨a, len, cap, h1, h2, h3, ?_⟩
    rcases h4 with h4 | ⟨b, e, pre, rest, g1, g2, g3, g4⟩
    · exact .inl h4
    · exact .inr ⟨b, e, pre, rest, g1, (hw b ((g4 b).2 rfl)).trans g2, g3, g4⟩
theorem MachOk.self {k : Nat} {l : List Int} {b : Nat} {F : Nat → Prop} {w : World} (h : MachOk k l (.blk b) F w) : F b := by
  unfold MachOk at h
  split at h
  · obtain ⟨⟨v, hv⟩, _⟩ := h; cases hv
  · obtain ⟨_, _, _, h, _⟩ := h; cases h
theorem MachOk.size {k : Nat} {l : List Int} {r : RV} {F : Nat → Prop} {w : World} (h : MachOk k l r F w) : ∀ x, F x → x < w.heap.size := by
  intro x hx
  unfold MachOk at h
  split at h
  · exact (h.2 x hx).elim
  · obtain ⟨a, len, cap, h1, h2, h3, h4⟩ := h
    rcases h4 with h4 | ⟨b, e, pre, rest, g1, g2, g3, g4⟩
    · exact (h4.2 x hx).elim
    · rw [(g4 x).1 hx]; exact (Array.getElem?_eq_some_iff.1 g2).1
end Go.Proofs.Ytalobhgefmhboaa.Sx
