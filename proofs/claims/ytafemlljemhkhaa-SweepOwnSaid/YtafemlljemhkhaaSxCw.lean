/-
  PLAIN FACTS OF CLAIMS: slots one behind the other, words of slots, handles.
-/
import Derived.Test.YtafemlljemhkhaaSxCl2
import Derived.Test.YtafemlljemhkhaaSxFbc
namespace Go.Proofs.Ytafemlljemhkhaa.Sx
open Go
set_option linter.unusedSectionVars false
set_option linter.unusedVariables false
set_option linter.unusedSimpArgs false

/-- From where. -/
def nfF (f m : Int) : Int := if f < 1 ∨ f > m then 1 else f
theorem nfF_rng {f m : Int} (hm : 1 ≤ m) : 1 ≤ nfF f m ∧ nfF f m ≤ m := by
  unfold nfF
  split <;> omega
theorem nfF_in {f m : Int} (h1 : 1 ≤ f) (h2 : f ≤ m) : nfF f m = f := by
  unfold nfF
  rw [if_neg (by omega)]
theorem atF_eq {f k m : Int} (hm : 1 ≤ m) (hm' : m ≤ 64) (hk : 0 ≤ k) (hk' : k ≤ 100000) : atF f k m = (nfF f m - 1 + k) % m + 1 := by
  have hn := nfF_rng (f := f) hm
  unfold atF
  rw [show (if f < 1 ∨ f > m then (1 : Int) else f) = nfF f m from rfl, wrap64_small (x := nfF f m - 1) (by omega) (by omega), wrap64_small (x := nfF f m - 1 + k) (by omega) (by omega), Int.tmod_eq_emod_of_nonneg (by omega)]
  have h1 := Int.emod_nonneg (nfF f m - 1 + k) (show m ≠ 0 by omega)
  have h2 := Int.emod_lt_of_pos (nfF f m - 1 + k) (show 0 < m by omega)
  rw [wrap64_small (by omega) (by omega)]
theorem atF_rng {f k m : Int} (hm : 1 ≤ m) (hm' : m ≤ 64) (hk : 0 ≤ k) (hk' : k ≤ 100000) : 1 ≤ atF f k m ∧ atF f k m ≤ m := by
  rw [atF_eq hm hm' hk hk']
  have h1 := Int.emod_nonneg (nfF f m - 1 + k) (show m ≠ 0 by omega)
  have h2 := Int.emod_lt_of_pos (nfF f m - 1 + k) (show 0 < m by omega)
  omega
theorem atF_zero {f m : Int} (hm : 1 ≤ m) (hm' : m ≤ 64) : atF f 0 m = nfF f m := by
  have hn := nfF_rng (f := f) hm
  rw [atF_eq hm hm' (Int.le_refl 0) (by omega), Int.add_zero, Int.emod_eq_of_lt (by omega) (by omega)]
  omega
/-- The next slot. -/
def nxF (a m : Int) : Int := IntKind.i64.wrap (Int.tmod a m + 1)
theorem nxF_eq {a m : Int} (hm : 1 ≤ m) (hm' : m ≤ 64) (ha : 0 ≤ a) : nxF a m = a % m + 1 := by
  unfold nxF
  rw [Int.tmod_eq_emod_of_nonneg ha]
  have h1 := Int.emod_nonneg a (show m ≠ 0 by omega)
  have h2 := Int.emod_lt_of_pos a (show 0 < m by omega)
  rw [wrap64_small (by omega) (by omega)]
theorem nxF_rng {a m : Int} (hm : 1 ≤ m) (hm' : m ≤ 64) (ha : 0 ≤ a) : 1 ≤ nxF a m ∧ nxF a m ≤ m := by
  rw [nxF_eq hm hm' ha]
  have h1 := Int.emod_nonneg a (show m ≠ 0 by omega)
  have h2 := Int.emod_lt_of_pos a (show 0 < m by omega)
  omega
theorem atF_succ {f k m : Int} (hm : 1 ≤ m) (hm' : m ≤ 64) (hk : 0 ≤ k) (hk' : k < 100000) : nxF (atF f k m) m = atF f (k + 1) m := by
  have hr := atF_rng (f := f) hm hm' hk (by omega : k ≤ 100000)
  rw [nxF_eq hm hm' (by omega), atF_eq hm hm' hk (by omega), atF_eq hm hm' (by omega) (by omega)]
  rw [Int.emod_add_emod, show nfF f m - 1 + k + 1 = nfF f m - 1 + (k + 1) by omega]
/-- One slot on: all are one nearer. -/
theorem off_next {j a m : Int} (hm : 1 ≤ m) (hj : j ≠ a) (hj1 : 1 ≤ j) (hj2 : j ≤ m) (ha1 : 1 ≤ a) (ha2 : a ≤ m) : (j - (a % m + 1)) % m = (j - a) % m - 1 := by
  have h1 := Int.emod_nonneg (j - a) (show m ≠ 0 by omega)
  have h2 := Int.emod_lt_of_pos (j - a) (show 0 < m by omega)
  have hpos : (j - a) % m ≠ 0 := fun h => by
    have := Int.emod_emod_of_dvd (j - a) (Int.dvd_refl m)
    have hd : m ∣ (j - a) := Int.dvd_of_emod_eq_zero h
    obtain ⟨q, hq⟩ := hd
    have : q = 0 := by
      rcases Int.lt_trichotomy q 0 with hq0 | hq0 | hq0
      · have : m * q ≤ m * (-1) := Int.mul_le_mul_of_nonneg_left (by omega) (by omega)
        omega
      · exact hq0
      · have : m * 1 ≤ m * q := Int.mul_le_mul_of_nonneg_left (by omega) (by omega)
        omega
    subst this
    omega
  have e : (j - (a % m + 1)) % m = (j - a - 1) % m := by
    have := Int.emod_add_mul_ediv a m
    rw [show j - (a % m + 1) = (j - a - 1) + m * (a / m) by omega, Int.add_mul_emod_self_left]
  rw [e, show j - a - 1 = ((j - a) % m - 1) + m * ((j - a) / m) by have := Int.emod_add_mul_ediv (j - a) m; omega, Int.add_mul_emod_self_left, Int.emod_eq_of_lt (by omega) (by omega)]
theorem off_self {a m : Int} (hm : 1 ≤ m) : (a - a) % m = 0 := by rw [Int.sub_self, Int.zero_emod]
theorem off_last {a m : Int} (hm : 1 ≤ m) (ha1 : 1 ≤ a) (ha2 : a ≤ m) : (a - (a % m + 1)) % m = m - 1 := by
  have := Int.emod_add_mul_ediv a m
  rw [show a - (a % m + 1) = (m - 1) + m * (a / m - 1) by rw [Int.mul_sub]; omega, Int.add_mul_emod_self_left, Int.emod_eq_of_lt (by omega) (by omega)]
/-- A handle's index, its generation. -/
theorem pack_idx {i g : Int} (h : packP i g) : packF i g 0 % 4294967296 = i := by
  unfold packF
  rw [if_pos h, if_pos rfl]
  obtain ⟨a, b, c, d⟩ := h
  omega
theorem pack_gen {i g : Int} (h : packP i g) : packF i g 0 / 4294967296 % 1073741824 = g := by
  unfold packF
  rw [if_pos h, if_pos rfl]
  obtain ⟨a, b, c, d⟩ := h
  omega
theorem pack_pos {i g : Int} (h : packP i g) : 0 < packF i g 0 ∧ packF i g 0 < 18446744073709551616 := by
  unfold packF
  rw [if_pos h, if_pos rfl]
  obtain ⟨a, b, c, d⟩ := h
  omega
theorem slotGen_rng {w : Int} (h : 0 ≤ w) : 0 ≤ slotGenF w ∧ slotGenF w ≤ 1073741823 := by
  unfold slotGenF
  split <;> omega
/-- The word of a taken slot. -/
theorem taken_eq {g : Int} (h : 0 ≤ g ∧ g ≤ 1073741823) : funs 24 [1, g] = 4 * g + 1 := by
  show (if metaP 1 g then 4 * g + 1 else 0) = _
  rw [if_pos ⟨by omega, by omega, h.1, h.2⟩]
theorem swap_in {o v c : Int} {r : List Int} (h : inF c r) (e : hadF c r = o) : funs 15 (o :: v :: c :: r) = v := by
  show (if inF c r then (if hadF c r = o then v else hadF c r) else 0) = v
  rw [if_pos h, if_pos e]
theorem swap_no {o v c : Int} {r : List Int} (e : hadF c r ≠ o) : funs 15 (o :: v :: c :: r) = hadF c r := by
  show (if inF c r then (if hadF c r = o then v else hadF c r) else 0) = _
  by_cases h : inF c r
  · rw [if_pos h, if_neg e]
  · rw [if_neg h, hadF_out h]
/-- Rows of words. -/
def RngL (r : List Int) : Prop := ∀ c, 0 ≤ hadF c r ∧ hadF c r < 18446744073709551616
theorem RngL.upd {r : List Int} (h : RngL r) {c v : Int} (hv : 0 ≤ v ∧ v < 18446744073709551616) : RngL (updF c v r) := fun d => by
  rw [hadF_updF]
  split
  · exact hv
  · exact h d

end Go.Proofs.Ytafemlljemhkhaa.Sx
