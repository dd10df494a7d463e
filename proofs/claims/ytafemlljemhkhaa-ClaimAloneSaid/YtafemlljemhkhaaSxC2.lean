/-
  PLAIN FACTS OF TWO CLAIMS on one world: what a step of one leaves of the other.
-/
import Derived.Test.YtafemlljemhkhaaSxPw
namespace Go.Proofs.Ytafemlljemhkhaa.Sx
open Go
set_option linter.unusedSectionVars false
set_option linter.unusedVariables false
set_option linter.unusedSimpArgs false

/-- A claim that looks; that takes; that is done. -/
def LkC (E : Env) (a k : Int) : Prop := 0 ≤ a ∧ a ≤ E.i 2 ∧ 0 ≤ k ∧ k < E.i 2
def TkC (E : Env) (a k w : Int) : Prop := 1 ≤ a ∧ a ≤ E.i 2 ∧ 0 ≤ k ∧ k < E.i 2 ∧ 0 ≤ w ∧ w < 18446744073709551616 ∧ w % 4 = 0
def NlC (E : Env) (g : Int) (R : List Int) : Prop := g = 0 ∨ ∃ i, 1 ≤ i ∧ i ≤ E.i 2 ∧ g % 4294967296 = i ∧ 0 ≤ g ∧ g < 18446744073709551616 ∧ hadF (cellE E i 0) R % 4 = 1
def DsC (g h : Int) : Prop := g = 0 ∨ h = 0 ∨ g % 4294967296 ≠ h % 4294967296
theorem capC {E : Env} (hr : rightE E) : 1 ≤ E.i 2 ∧ E.i 2 ≤ 64 := ⟨hr.2.2.2.2.1, hr.2.2.2.2.2.1⟩
theorem bgC {E : Env} (hr : rightE E) {a k : Int} (f : Int) (h : LkC E a k) : 1 ≤ begunF a f (E.i 2) ∧ begunF a f (E.i 2) ≤ E.i 2 := by
  have c := capC hr
  obtain ⟨h1, h2, h3, h4⟩ := h
  unfold begunF
  split
  · omega
  · split <;> omega
theorem nxC {E : Env} (hr : rightE E) {a : Int} (h : 0 ≤ a) : 0 ≤ nxF a (E.i 2) ∧ nxF a (E.i 2) ≤ E.i 2 := by
  have c := capC hr
  have := nxF_rng c.1 c.2 h
  omega
theorem upC {E : Env} (hr : rightE E) {k : Int} (h0 : 0 ≤ k) (h1 : k < E.i 2) : IntKind.i64.wrap (k + 1) = k + 1 := by
  have c := capC hr
  exact wrap64_small (by omega) (by omega)
/-- Looked, and it is free. -/
theorem lk_tk {E : Env} (hr : rightE E) {a k : Int} {R : List Int} (f : Int) (h : LkC E a k) (hR : RngL R) (hs : (hadF (cellE E (begunF a f (E.i 2)) 0) R % 4 == 0) = true) : TkC E (begunF a f (E.i 2)) k (hadF (cellE E (begunF a f (E.i 2)) 0) R) := by
  have b := bgC hr f h
  exact ⟨b.1, b.2, h.2.2.1, h.2.2.2, (hR _).1, (hR _).2, eq_of_beq hs⟩
theorem lk_go {E : Env} (hr : rightE E) {a k : Int} (f : Int) (h : LkC E a k) (hk : (decide (IntKind.i64.wrap (k + 1) < E.i 2)) = true) : LkC E (nxF (begunF a f (E.i 2)) (E.i 2)) (IntKind.i64.wrap (k + 1)) := by
  have b := bgC hr f h
  have n := nxC hr (a := begunF a f (E.i 2)) (by omega)
  have hk' := of_decide_eq_true hk
  rw [upC hr h.2.2.1 h.2.2.2] at hk' ⊢
  exact ⟨n.1, n.2, by have := h.2.2.1; omega, hk'⟩
theorem tk_go {E : Env} (hr : rightE E) {a k w : Int} (h : TkC E a k w) (hk : (decide (IntKind.i64.wrap (k + 1) < E.i 2)) = true) : LkC E (nxF a (E.i 2)) (IntKind.i64.wrap (k + 1)) := by
  obtain ⟨h1, h2, h3, h4, _⟩ := h
  have n := nxC hr (a := a) (by omega)
  have hk' := of_decide_eq_true hk
  rw [upC hr h3 h4] at hk' ⊢
  exact ⟨n.1, n.2, by omega, hk'⟩
theorem nl0 {E : Env} {R : List Int} : NlC E 0 R := .inl rfl
/-- The word that a take leaves. -/
def swC (E : Env) (a w : Int) (R : List Int) : Int := funs 15 (w :: funs 24 [1, slotGenF w] :: cellE E a 0 :: R)
theorem sw_word {E : Env} {a k w : Int} {R : List Int} (h : TkC E a k w) (hR : RngL R) : WordP (swC E a w R) := by
  obtain ⟨h1, h2, h3, h4, h5, h6, h7⟩ := h
  have g := slotGen_rng h5
  unfold swC
  rw [taken_eq g]
  show WordP (if inF (cellE E a 0) R then (if hadF (cellE E a 0) R = w then 4 * slotGenF w + 1 else hadF (cellE E a 0) R) else 0)
  split
  · split
    · exact ⟨by omega, by omega⟩
    · exact hR _
  · exact ⟨by omega, by omega⟩
theorem tk_row {E : Env} {a k w : Int} {R : List Int} (h : TkC E a k w) (hR : RngL R) : RngL (updF (cellE E a 0) (swC E a w R) R) := hR.upd (sw_word h hR)
/-- A slot that is taken stays so. -/
theorem nl_keep {E : Env} (hr : rightE E) {a k w g : Int} {R : List Int} (h : TkC E a k w) (hn : NlC E g R) : NlC E g (updF (cellE E a 0) (swC E a w R) R) := by
  rcases hn with hn | ⟨i, i1, i2, i3, i4, i5, i6⟩
  · exact .inl hn
  · refine .inr ⟨i, i1, i2, i3, i4, i5, ?_⟩
    rw [hadF_updF]
    split
    · rename_i e
      obtain ⟨e1, e2⟩ := e
      unfold swC
      rw [swap_no (by intro q; rw [← e2] at q; rw [q] at i6; have := h.2.2.2.2.2.2; omega), ← e2]
      exact i6
    · exact i6
theorem pkC {E : Env} (hr : rightE E) {a k w : Int} (h : TkC E a k w) : packP a (slotGenF w) := by
  have c := capC hr
  obtain ⟨h1, h2, h3, h4, h5, h6, h7⟩ := h
  have g := slotGen_rng h5
  exact ⟨by omega, by omega, g.1, g.2⟩
theorem sw_had {E : Env} {a w : Int} {R : List Int} (hs : (funs 16 (w :: cellE E a 0 :: R) != 0) = true) : inF (cellE E a 0) R ∧ hadF (cellE E a 0) R = w := by
  have h1 : (ofP (inF (cellE E a 0) R ∧ hadF (cellE E a 0) R = w) != 0) = true := hs
  rw [ofP_ne] at h1
  exact of_decide_eq_true h1
/-- Taken. -/
theorem tk_nl {E : Env} (hr : rightE E) {a k w : Int} {R : List Int} (h : TkC E a k w) (hs : (funs 16 (w :: cellE E a 0 :: R) != 0) = true) : NlC E (packF a (slotGenF w) 0) (updF (cellE E a 0) (swC E a w R) R) := by
  obtain ⟨hi, hw⟩ := sw_had hs
  have hp := pack_pos (pkC hr h)
  refine .inr ⟨a, h.1, h.2.1, pack_idx (pkC hr h), Int.le_of_lt hp.1, hp.2, ?_⟩
  unfold swC
  rw [hadF_same hi rfl, swap_in hi hw, taken_eq (slotGen_rng h.2.2.2.2.1)]
  omega
/-- Two that are done have two slots. -/
theorem ds_new {E : Env} (hr : rightE E) {a k w g : Int} {R : List Int} (h : TkC E a k w) (hs : (funs 16 (w :: cellE E a 0 :: R) != 0) = true) (hn : NlC E g R) : DsC (packF a (slotGenF w) 0) g := by
  obtain ⟨hi, hw⟩ := sw_had hs
  rcases hn with hn | ⟨i, i1, i2, i3, i4, i5, i6⟩
  · exact .inr (.inl hn)
  · refine .inr (.inr ?_)
    rw [pack_idx (pkC hr h), i3]
    intro e
    subst e
    rw [hw] at i6
    have := h.2.2.2.2.2.2
    omega
theorem ds_sym {g h : Int} (q : DsC g h) : DsC h g := by
  rcases q with q | q | q
  · exact .inr (.inl q)
  · exact .inl q
  · exact .inr (.inr (Ne.symm q))
theorem nz2C {E : Env} (hr : rightE E) : (E.i 2 != 0) = true := bne_iff_ne.2 (by have := (capC hr).1; omega)
theorem nzC {E : Env} (hr : rightE E) (x : Bool) : (!(x && !(E.i 2 != 0))) = true := by
  rw [nz2C hr]
  cases x <;> rfl

end Go.Proofs.Ytafemlljemhkhaa.Sx
