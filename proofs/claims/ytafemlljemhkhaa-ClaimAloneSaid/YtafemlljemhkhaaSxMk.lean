/-
  THE SYMBOLIC EXECUTOR, part Mk: what stands for a name in a world; things that are told by a row of numbers (slices that grow).
-/
import Derived.Calls
import Derived.Below
import Derived.Test.YtafemlljemhkhaaSxFun
namespace Go.Proofs.Ytafemlljemhkhaa.Sx
open Go
set_option linter.unusedVariables false
inductive RV where
  | blk (b : Nat)
  | val (v : Value)
def RV.value : RV → Value
  | .blk b => .pointer (some ⟨b, 0, none⟩)
  | .val v => v

/-- A slice that grows: sz words an element; what is ahead of it in its block, and its room, are hidden. -/
def growOk (sz : Nat) (l : List Int) (r : RV) (F : Nat → Prop) (w : World) : Prop :=
  ∃ a len cap, r = .val (.slice a len cap) ∧ len * sz = l.length ∧ len ≤ cap ∧
    ((cap = 0 ∧ ∀ x, ¬ F x) ∨ ∃ b e pre rest, a = some ⟨b, pre.length, none⟩ ∧ w.heap[b]? = some (.cells (pre ++ (l.map (Value.int .u64) ++ rest)).toArray e (0, 0)) ∧ cap * sz ≤ l.length + rest.length ∧ ∀ x, F x ↔ x = b)
/-- What things that are told by a row of numbers are: of kind 0 nothing is known; 1 is the nil slice; sz + 1 a slice of elements of sz words. -/
def MachOk : Nat → List Int → RV → (Nat → Prop) → World → Prop
  | 0, _, r, F, _ => (∃ v, r = .val v) ∧ ∀ x, ¬ F x
  | 1, l, r, F, _ => r = .val (.slice none 0 0) ∧ l = [] ∧ ∀ x, ¬ F x
  | k + 2, l, r, F, w => growOk (k + 1) l r F w
theorem MachOk.nil {k : Nat} {l : List Int} {r : RV} {F : Nat → Prop} {w : World} (h : MachOk 1 l r F w) : MachOk (k + 2) l r F w :=
  ⟨none, 0, 0, h.1, by rw [h.2.1]; simp, Nat.le_refl _, .inl ⟨rfl, h.2.2⟩⟩
theorem MachOk.conv {k k' : Nat} {l : List Int} {r : RV} {F : Nat → Prop} {w : World} (h : Nat.beq k k' = true ∨ (Nat.beq k' 1 = true ∧ Nat.ble 2 k = true)) (hx : MachOk k' l r F w) : MachOk k l r F w := by
  rcases h with h | ⟨h1, h2⟩
  · rw [Nat.eq_of_beq_eq_true h]; exact hx
  · obtain rfl := Nat.eq_of_beq_eq_true h1
    obtain ⟨q, rfl⟩ : ∃ q, k = q + 2 := ⟨k - 2, by have := Nat.le_of_ble_eq_true h2; omega⟩
    exact MachOk.nil hx
theorem MachOk.frame {k : Nat} {l : List Int} {r : RV} {F : Nat → Prop} {w w' : World} (h : MachOk k l r F w) (hs : w.heap.size ≤ w'.heap.size) (hw : ∀ x, F x → w'.heap[x]? = w.heap[x]?) : MachOk k l r F w' := by
  match k, h with
  | 0, h => exact h
  | 1, h => exact h
  | k + 2, h =>
    obtain ⟨a, len, cap, h1, h2, h3, h4⟩ := h
    refine ⟨a, len, cap, h1, h2, h3, ?_⟩
    rcases h4 with h4 | ⟨b, e, pre, rest, g1, g2, g3, g4⟩
    · exact .inl h4
    · exact .inr ⟨b, e, pre, rest, g1, (hw b ((g4 b).2 rfl)).trans g2, g3, g4⟩
theorem MachOk.self {k : Nat} {l : List Int} {b : Nat} {F : Nat → Prop} {w : World} (h : MachOk k l (.blk b) F w) : F b := by
  match k, h with
  | 0, h => obtain ⟨⟨v, hv⟩, _⟩ := h; cases hv
  | 1, h => cases h.1
  | k + 2, h => obtain ⟨_, _, _, h, _⟩ := h; cases h
theorem MachOk.size {k : Nat} {l : List Int} {r : RV} {F : Nat → Prop} {w : World} (h : MachOk k l r F w) : ∀ x, F x → x < w.heap.size := by
  intro x hx
  match k, h with
  | 0, h => exact (h.2 x hx).elim
  | 1, h => exact (h.2.2 x hx).elim
  | k + 2, h =>
    obtain ⟨a, len, cap, h1, h2, h3, h4⟩ := h
    rcases h4 with h4 | ⟨b, e, pre, rest, g1, g2, g3, g4⟩
    · exact (h4.2 x hx).elim
    · rw [(g4 x).1 hx]; exact (Array.getElem?_eq_some_iff.1 g2).1
end Go.Proofs.Ytafemlljemhkhaa.Sx
