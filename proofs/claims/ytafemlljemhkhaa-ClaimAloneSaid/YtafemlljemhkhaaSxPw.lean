/-
  PLAIN FACTS OF POKES: words stay words.
-/
import Derived.Test.YtafemlljemhkhaaSxPk
import Derived.Test.YtafemlljemhkhaaSxCw
namespace Go.Proofs.Ytafemlljemhkhaa.Sx
open Go
set_option linter.unusedSectionVars false
set_option linter.unusedVariables false
set_option linter.unusedSimpArgs false

def WordP (v : Int) : Prop := 0 ≤ v ∧ v < 18446744073709551616
theorem pokeN_rng {s : Int} {l r a : List Int} (hr : RngL r) : ∀ n : Nat, (∀ i, i < n → WordP (l.getD (3 * i + 2) 0)) → RngL (pokeN s l r a n).1
  | 0, _ => hr
  | n + 1, h => by
    have ih := pokeN_rng (s := s) (l := l) (a := a) hr n fun i hi => h i (by omega)
    simp only [pokeN, pokeS]
    split
    · rw [setF_upd]; exact ih.upd (h n (by omega))
    · exact ih
theorem poked_row (f : Nat → List Int) (hf : ∀ i, (f i).length = 3) (s n : Int) (fs R : List Int) (h7 : fs.length = 7) :
    pokedF (s :: n :: ((List.range n.toNat).flatMap f ++ (fs ++ R))) = pokeN s ((List.range n.toNat).flatMap f ++ (fs ++ R)) R fs n.toNat := by
  have hd : ((List.range n.toNat).flatMap f ++ (fs ++ R)).drop (3 * n.toNat) = fs ++ R := by
    rw [List.drop_append_of_le_length (by rw [flat_len _ hf]; exact Nat.le_refl _), List.drop_of_length_le (by rw [flat_len _ hf]; exact Nat.le_refl _), List.nil_append]
  show pokeN s _ ((((List.range n.toNat).flatMap f ++ (fs ++ R)).drop (3 * n.toNat)).drop 7) ((((List.range n.toNat).flatMap f ++ (fs ++ R)).drop (3 * n.toNat)).take 7) n.toNat = _
  rw [hd, ← h7, List.drop_left, List.take_left]
theorem poked_rng {t : Nat → Nat → Int} (ht : ∀ i, WordP (t i 2)) (s n : Int) (fs : List Int) {R : List Int} (h7 : fs.length = 7) (hR : RngL R) :
    RngL (writeL R (0 : Int).toNat (funsL 1 (s :: n :: ((List.range n.toNat).flatMap (fun i => (List.range 3).map (t i)) ++ (fs ++ R))))) := by
  have h3 : ∀ i, ((List.range 3).map (t i)).length = 3 := fun i => by rw [List.length_map, List.length_range]
  have e : funsL 1 (s :: n :: ((List.range n.toNat).flatMap (fun i => (List.range 3).map (t i)) ++ (fs ++ R))) = (pokeN s ((List.range n.toNat).flatMap (fun i => (List.range 3).map (t i)) ++ (fs ++ R)) R fs n.toNat).1 := by
    show (pokedF _).1 = _
    rw [poked_row _ h3 s n fs R h7]
  rw [e, putAll _ _ (pokeN_len _ _ _ _ _)]
  refine pokeN_rng hR _ fun i hi => ?_
  rw [flat_get _ h3 n.toNat (fs ++ R) i 2 hi (by omega)]
  exact ht i
theorem ofTab_rng {t : Nat → Int} (h : ∀ i, WordP (t i)) (n : Nat) : RngL ((List.range n).map t) := fun c => by
  unfold hadF
  split
  · rename_i hi
    have hl : c.toNat < n := by have := hi.1; have := hi.2; rw [List.length_map, List.length_range] at this; omega
    rw [List.getD_eq_getElem?_getD, List.getElem?_map, List.getElem?_range hl]
    exact h c.toNat
  · exact ⟨by omega, by omega⟩

end Go.Proofs.Ytafemlljemhkhaa.Sx
