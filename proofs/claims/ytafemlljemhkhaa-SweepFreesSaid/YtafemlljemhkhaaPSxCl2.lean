import Derived.Test.YtafemlljemhkhaaPSxFa
import Derived.Test.YtafemlljemhkhaaPSxFsd
namespace Go.Proofs.Ytafemlljemhkhaa.Sx
open Go
set_option linter.unusedSectionVars false
set_option linter.unusedVariables false
set_option linter.unusedSimpArgs false
def updF (c v : Int) (r : List Int) : List Int := writeL r (if inF c r then c else (r.length : Int)).toNat [v]
theorem updF_eq (c v : Int) (r : List Int) : updF c v r = if inF c r then r.set c.toNat v else r := by
  unfold updF
  simp only [writeL]
  by_cases h : inF c r
  · rw [if_pos h, if_pos h]
  · rw [if_neg h, if_neg h]; exact List.set_eq_of_length_le (by simp)
theorem length_updF (c v : Int) (r : List Int) : (updF c v r).length = r.length := by rw [updF_eq]; split <;> simp
theorem inF_updF (c d v : Int) (r : List Int) : inF c (updF d v r) ↔ inF c r := by unfold inF; rw [length_updF]
theorem hadF_updF (c d v : Int) (r : List Int) : hadF c (updF d v r) = if inF d r ∧ c = d then v else hadF c r := by
  unfold hadF
  by_cases hc : inF c r
  · rw [if_pos ((inF_updF c d v r).2 hc), if_pos hc, updF_eq]
    by_cases hd : inF d r
    · rw [if_pos hd]
      have h1 := hc.1
      have h2 := hc.2
      have h3 := hd.1
      have h4 := hd.2
      by_cases e : c = d
      · subst e
        rw [if_pos ⟨hd, rfl⟩, List.getD_eq_getElem?_getD, List.getElem?_set_self (by omega), Option.getD_some]
      · rw [if_neg (fun h => e h.2), List.getD_eq_getElem?_getD, List.getElem?_set_ne (by omega), ← List.getD_eq_getElem?_getD]
    · rw [if_neg hd, if_neg (fun h => hd h.1)]
  · rw [if_neg (fun h => hc ((inF_updF c d v r).1 h)), if_neg hc, if_neg (fun (h : inF d r ∧ c = d) => hc (by rw [h.2]; exact h.1))]
theorem cell_eq {t s c h k e l i f : Int} (hr : rightP t s c h k e l) (hi : 0 ≤ i) (hi' : i ≤ c) (hf : 0 ≤ f) (hf' : f < 6 + h) : cellF t s c h k e l i f = 1 + t * s + i * (6 + h) + f := by
  unfold cellF; rw [if_pos ⟨hr, hi, hi', hf, hf'⟩]
theorem cell_rng {t s c h k e l i f : Int} (hr : rightP t s c h k e l) (hi : 0 ≤ i) (hi' : i ≤ c) (hf : 0 ≤ f) (hf' : f < 6 + h) : 1 + t * s ≤ cellF t s c h k e l i f ∧ cellF t s c h k e l i f < lenF t s c h k e l := by
  rw [cell_eq hr hi hi' hf hf']
  unfold lenF
  rw [if_pos hr]
  obtain ⟨t1, t2, s1, s2, c1, c2, h1, h2, _⟩ := hr
  have q0 : 0 ≤ i * (6 + h) := Int.mul_nonneg hi (by omega)
  have q1 : (i + 1) * (6 + h) ≤ (c + 1) * (6 + h) := Int.mul_le_mul_of_nonneg_right (by omega) (by omega)
  rw [Int.add_mul, Int.one_mul] at q1
  constructor <;> omega
def rightE (E : Env) : Prop := rightP (E.i 0) (E.i 1) (E.i 2) (E.i 3) (E.i 4) (E.i 5) (E.i 6)
end Go.Proofs.Ytafemlljemhkhaa.Sx
namespace Go.Proofs.Ytafemlljemhkhaa.Sx
open Go
set_option linter.unusedSectionVars false
set_option linter.unusedVariables false
set_option linter.unusedSimpArgs false
theorem right_of {E : Env} (h : @BE.val E (.cmp .neq (.fn 1 (.consL (.atom 0) (.consL (.atom 1) (.consL (.atom 2) (.consL (.atom 3) (.consL (.atom 4) (.consL (.atom 5) (.consL (.atom 6) .nilL)))))))) (.lit 0)) = true) : rightE E := @isW_val E _ _ _ _ _ _ _ _ rfl h
end Go.Proofs.Ytafemlljemhkhaa.Sx
