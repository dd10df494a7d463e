/-
  Cells of rows, written at places that are known.
-/
import Derived.Test.YtafemlljemhkhaaSxCell
import Derived.Test.YtafemlljemhkhaaSxFs
namespace Go.Proofs.Ytafemlljemhkhaa.Sx
open Go
set_option linter.unusedSectionVars false
set_option linter.unusedVariables false
set_option linter.unusedSimpArgs false

theorem hadF_in {c : Int} {r : List Int} (h : inF c r) : hadF c r = r.getD c.toNat 0 := if_pos h
theorem hadF_out {c : Int} {r : List Int} (h : ¬ inF c r) : hadF c r = 0 := if_neg h
theorem length_write1 (i : Nat) (v : Int) (r : List Int) : (writeL r i [v]).length = r.length := by simp only [writeL, List.length_set]
theorem inF_write (c : Int) (i : Nat) (v : Int) (r : List Int) : inF c (writeL r i [v]) ↔ inF c r := by unfold inF; rw [length_write1]
theorem hadF_write (c : Int) (i : Nat) (v : Int) (r : List Int) : hadF c (writeL r i [v]) = if inF c r ∧ c = (i : Int) then v else hadF c r := by
  by_cases hc : inF c r
  · rw [hadF_in ((inF_write c i v r).2 hc), hadF_in hc]
    simp only [writeL]
    have h1 := hc.1
    have h2 := hc.2
    by_cases e : c = (i : Int)
    · subst e
      rw [if_pos ⟨hc, rfl⟩, List.getD_eq_getElem?_getD, Int.toNat_natCast, List.getElem?_set_self (by omega), Option.getD_some]
    · rw [if_neg (fun h => e h.2), List.getD_eq_getElem?_getD, List.getElem?_set_ne (by omega), ← List.getD_eq_getElem?_getD]
  · rw [hadF_out (fun h => hc ((inF_write c i v r).1 h)), hadF_out hc, if_neg (fun h => hc h.1)]
theorem hadF_rep (c : Int) (n : Nat) : hadF c (List.replicate n 0) = 0 := by
  unfold hadF
  split
  · rw [List.getD_eq_getElem?_getD, List.getElem?_replicate]; split <;> rfl
  · rfl
theorem right_of {E : Env} (h : @BE.val E (.cmp .neq (.fn 1 (.consL (.atom 0) (.consL (.atom 1) (.consL (.atom 2) (.consL (.atom 3) (.consL (.atom 4) (.consL (.atom 5) (.consL (.atom 6) .nilL)))))))) (.lit 0)) = true) : rightE E := @isW_val E _ _ _ _ _ _ _ _ rfl h
theorem lenR_of {E : Env} {R : Nat} (h : @BE.val E (.cmp .eql (.len (.latom R)) (.nat (.fn 2 (.consL (.atom 0) (.consL (.atom 1) (.consL (.atom 2) (.consL (.atom 3) (.consL (.atom 4) (.consL (.atom 5) (.consL (.atom 6) .nilL)))))))))) = true) (hr : rightE E) : ((E.l R).length : Int) = lenE E := by
  have h1 : ((E.l R).length : Int) = ((lenE E).toNat : Int) := eq_of_beq h
  have h2 : 16 ≤ lenE E := (@lenF_rng _ _ _ _ _ _ _ hr).1
  rw [h1]
  omega

end Go.Proofs.Ytafemlljemhkhaa.Sx
