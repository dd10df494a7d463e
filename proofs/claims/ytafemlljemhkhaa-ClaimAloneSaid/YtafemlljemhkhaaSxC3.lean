/-
  Plain facts of a claim that is alone.
-/
import Derived.Test.YtafemlljemhkhaaSxCm
namespace Go.Proofs.Ytafemlljemhkhaa.Sx
open Go
set_option linter.unusedSectionVars false
set_option linter.unusedVariables false
set_option linter.unusedSimpArgs false

/-- The words that came in. -/
def rowI (E : Env) : List Int := (List.range (E.i 8).toNat).map fun i => E.t 0 i 0
/-- A slot's word, as it was. -/
def wd (E : Env) (i : Int) : Int := hadF (cellE E i 0) (rowI E)
def LkA (E : Env) (a k n : Int) (R : List Int) : Prop := R = rowI E ∧ 0 ≤ k ∧ k < E.i 2 ∧ n = k ∧ begunF a (E.i 9) (E.i 2) = atF (E.i 9) k (E.i 2) ∧ ∀ j, 0 ≤ j → j < k → wd E (atF (E.i 9) j (E.i 2)) % 4 ≠ 0
def TkA (E : Env) (a k n w : Int) (R : List Int) : Prop := R = rowI E ∧ 0 ≤ k ∧ k < E.i 2 ∧ n = k + 1 ∧ a = atF (E.i 9) k (E.i 2) ∧ w = wd E a ∧ w % 4 = 0
def NlA (E : Env) (g : Int) (R : List Int) : Prop := (g = 0 ∧ R = rowI E ∧ ∀ i, 1 ≤ i → i ≤ E.i 2 → wd E i % 4 ≠ 0) ∨
  ∃ i, 1 ≤ i ∧ i ≤ E.i 2 ∧ wd E i % 4 = 0 ∧ g = packF i (slotGenF (wd E i)) 0 ∧ R = updF (cellE E i 0) (4 * slotGenF (wd E i) + 1) (rowI E)
theorem begun_at {E : Env} (hr : rightE E) : begunF 0 (E.i 9) (E.i 2) = atF (E.i 9) 0 (E.i 2) := by
  have c := capC hr
  rw [atF_zero c.1 c.2]
  unfold begunF nfF
  rw [if_neg (by omega)]
  by_cases h : 1 ≤ E.i 9 ∧ E.i 9 ≤ E.i 2
  · rw [if_pos h, if_neg (by omega)]
  · rw [if_neg h, if_pos (by omega)]
theorem lkA0 {E : Env} (hr : rightE E) : LkA E 0 0 0 (rowI E) := by
  have c := capC hr
  exact ⟨rfl, Int.le_refl _, by omega, rfl, begun_at hr, fun j h0 h1 => by omega⟩
theorem begun_next {E : Env} (hr : rightE E) {k : Int} (h0 : 0 ≤ k) (h1 : k < 64) : begunF (nxF (atF (E.i 9) k (E.i 2)) (E.i 2)) (E.i 9) (E.i 2) = atF (E.i 9) (k + 1) (E.i 2) := by
  have c := capC hr
  rw [atF_succ c.1 c.2 h0 (by omega)]
  have := atF_rng (f := E.i 9) (k := k + 1) c.1 c.2 (by omega) (by omega)
  unfold begunF
  rw [if_pos (by omega)]
theorem wd_rng {E : Env} (ht : ∀ i, WordP (E.t 0 i 0)) (i : Int) : 0 ≤ wd E i ∧ wd E i < 18446744073709551616 := ofTab_rng (t := fun i => E.t 0 i 0) ht _ _
theorem lkA_go {E : Env} (hr : rightE E) {a k n : Int} {R : List Int} (h : LkA E a k n R) (hs : wd E (begunF a (E.i 9) (E.i 2)) % 4 ≠ 0) (hk : k + 1 < E.i 2) : LkA E (nxF (begunF a (E.i 9) (E.i 2)) (E.i 2)) (k + 1) (n + 1) R := by
  have c := capC hr
  obtain ⟨h1, h2, h3, h4, h5, h6⟩ := h
  refine ⟨h1, by omega, hk, by omega, ?_, fun j j0 j1 => ?_⟩
  · rw [h5]; exact begun_next hr h2 (by omega)
  · by_cases e : j = k
    · rw [e, ← h5]; exact hs
    · exact h6 j j0 (by omega)
theorem lkA_tk {E : Env} (hr : rightE E) {a k n : Int} {R : List Int} (h : LkA E a k n R) (hs : wd E (begunF a (E.i 9) (E.i 2)) % 4 = 0) : TkA E (begunF a (E.i 9) (E.i 2)) k (n + 1) (hadF (cellE E (begunF a (E.i 9) (E.i 2)) 0) R) R := by
  obtain ⟨h1, h2, h3, h4, h5, h6⟩ := h
  exact ⟨h1, h2, h3, by omega, h5, by rw [h1]; rfl, by rw [h1]; exact hs⟩
/-- All slots were looked at. -/
theorem all_at {E : Env} (hr : rightE E) {i : Int} (h1 : 1 ≤ i) (h2 : i ≤ E.i 2) : ∃ j, 0 ≤ j ∧ j < E.i 2 ∧ atF (E.i 9) j (E.i 2) = i := by
  have c := capC hr
  have nf := nfF_rng (f := E.i 9) c.1
  have m0 : (i - nfF (E.i 9) (E.i 2)) % (E.i 2) = (i - nfF (E.i 9) (E.i 2)) - E.i 2 * ((i - nfF (E.i 9) (E.i 2)) / E.i 2) := by have := Int.emod_add_mul_ediv (i - nfF (E.i 9) (E.i 2)) (E.i 2); omega
  have b0 := Int.emod_nonneg (i - nfF (E.i 9) (E.i 2)) (show E.i 2 ≠ 0 by omega)
  have b1 := Int.emod_lt_of_pos (i - nfF (E.i 9) (E.i 2)) (show 0 < E.i 2 by omega)
  refine ⟨(i - nfF (E.i 9) (E.i 2)) % (E.i 2), b0, b1, ?_⟩
  rw [atF_eq c.1 c.2 b0 (by omega)]
  have e : nfF (E.i 9) (E.i 2) - 1 + (i - nfF (E.i 9) (E.i 2)) % (E.i 2) = (i - 1) + E.i 2 * (-((i - nfF (E.i 9) (E.i 2)) / E.i 2)) := by rw [Int.mul_neg]; omega
  rw [e, Int.add_mul_emod_self_left, Int.emod_eq_of_lt (by omega) (by omega)]
  omega
theorem lkA_nl {E : Env} (hr : rightE E) {a k n : Int} {R : List Int} (h : LkA E a k n R) (hs : wd E (begunF a (E.i 9) (E.i 2)) % 4 ≠ 0) (hk : E.i 2 ≤ k + 1) : NlA E 0 R := by
  have c := capC hr
  obtain ⟨h1, h2, h3, h4, h5, h6⟩ := h
  refine .inl ⟨rfl, h1, fun i i1 i2 => ?_⟩
  obtain ⟨j, j0, j1, e⟩ := all_at hr i1 i2
  rw [← e]
  by_cases ej : j = k
  · rw [ej, ← h5]; exact hs
  · exact h6 j j0 (by omega)
theorem tkA_in {E : Env} (hr : rightE E) {a k n w : Int} {R : List Int} (h : TkA E a k n w R) : 1 ≤ a ∧ a ≤ E.i 2 := by
  have c := capC hr
  rw [h.2.2.2.2.1]
  exact atF_rng c.1 c.2 h.2.1 (by have := h.2.2.1; omega)
theorem tkA_nl {E : Env} (hr : rightE E) (ht : ∀ i, WordP (E.t 0 i 0)) {a k n w : Int} {R : List Int} (h : TkA E a k n w R) (hl : (R.length : Int) = lenE E) : NlA E (packF a (slotGenF w) 0) (updF (cellE E a 0) (funs 15 (w :: funs 24 [1, slotGenF w] :: cellE E a 0 :: R)) R) := by
  have c := capC hr
  have b := tkA_in hr h
  obtain ⟨h1, h2, h3, h4, h5, h6, h7⟩ := h
  have hin : inF (cellE E a 0) R := cellE_in hr ⟨by omega, b.2⟩ ⟨Int.le_refl _, by have := hr.2.2.2.2.2.2.1; omega⟩ hl
  have wr := wd_rng ht a
  have hw : hadF (cellE E a 0) R = w := by rw [h6, h1]; rfl
  have g := slotGen_rng (w := wd E a) wr.1
  refine .inr ⟨a, b.1, b.2, by rw [← h6]; exact h7, by rw [h6], ?_⟩
  rw [swap_in hin hw, h6, taken_eq g, h1]
theorem tkA_sw {E : Env} (hr : rightE E) {a k n w : Int} {R : List Int} (h : TkA E a k n w R) (hl : (R.length : Int) = lenE E) : funs 16 (w :: cellE E a 0 :: R) = 1 := by
  have b := tkA_in hr h
  have hin : inF (cellE E a 0) R := cellE_in hr ⟨by omega, b.2⟩ ⟨Int.le_refl _, by have := hr.2.2.2.2.2.2.1; omega⟩ hl
  have hw : hadF (cellE E a 0) R = w := by rw [h.2.2.2.2.2.1, h.1]; rfl
  show ofP (inF (cellE E a 0) R ∧ hadF (cellE E a 0) R = w) = 1
  exact if_pos ⟨hin, hw⟩
/-! ### what was, and what is -/
def mtE (E : Env) (R : List Int) : List Int := (List.range (E.i 2).toNat).map fun i : Nat => hadF (cellE E ((i : Int) + 1) 0) R
theorem mtE_len (E : Env) (R : List Int) : (mtE E R).length = (E.i 2).toNat := by unfold mtE; rw [List.length_map, List.length_range]
theorem mtE_get {E : Env} {R : List Int} {j : Nat} (h : (j : Int) < E.i 2) : (mtE E R).getD j 0 = hadF (cellE E ((j : Int) + 1) 0) R := by
  unfold mtE
  rw [List.getD_eq_getElem?_getD, List.getElem?_map, List.getElem?_range (by omega)]
  rfl
theorem slotGen_tk {g : Int} (h0 : 0 ≤ g) (h1 : g ≤ 1073741823) : slotGenF (4 * g + 1) = g := by
  unfold slotGenF
  have : (4 * g + 1) / 4 = g := by omega
  rw [this, if_neg (by omega)]
theorem nlA_at {E : Env} (hr : rightE E) (ht : ∀ i, WordP (E.t 0 i 0)) (hl : ((rowI E).length : Int) = lenE E) {g : Int} {R : List Int} (h : NlA E g R) {i : Int} (i1 : 1 ≤ i) (i2 : i ≤ E.i 2) :
    (hadF (cellE E i 0) R = wd E i ∧ (g = 0 ∨ g % 4294967296 ≠ i) ∧ (g = 0 → wd E i % 4 ≠ 0)) ∨
      (g ≠ 0 ∧ g % 4294967296 = i ∧ wd E i % 4 = 0 ∧ hadF (cellE E i 0) R = 4 * slotGenF (wd E i) + 1 ∧ g / 4294967296 % 1073741824 = slotGenF (wd E i)) := by
  have c := capC hr
  have h6 : (0 : Int) ≤ 0 ∧ (0 : Int) < 6 + E.i 3 := ⟨Int.le_refl _, by have := hr.2.2.2.2.2.2.1; omega⟩
  rcases h with ⟨h1, h2, h3⟩ | ⟨p, p1, p2, p3, p4, p5⟩
  · exact .inl ⟨by rw [h2]; rfl, .inl h1, fun _ => h3 i i1 i2⟩
  · have gr := slotGen_rng (w := wd E p) (wd_rng ht p).1
    have hp : packP p (slotGenF (wd E p)) := ⟨by omega, by omega, gr.1, gr.2⟩
    have e1 := pack_idx hp
    have e2 := pack_gen hp
    have e3 := pack_pos hp
    rw [← p4] at e1 e2 e3
    by_cases e : i = p
    · subst e
      refine .inr ⟨by omega, e1, p3, ?_, e2⟩
      rw [p5]
      exact hadF_same (cellE_in hr ⟨by omega, i2⟩ h6 hl) rfl
    · refine .inl ⟨?_, .inr (by rw [e1]; exact fun q => e q.symm), fun q => by omega⟩
      have hne : cellE E i 0 ≠ cellE E p 0 := fun q => e (cell_inj hr ⟨by omega, i2⟩ h6 ⟨by omega, p2⟩ h6 q).1
      rw [p5, hadF_other hne]
      rfl
theorem nlA_idx {E : Env} (hr : rightE E) (ht : ∀ i, WordP (E.t 0 i 0)) {g : Int} {R : List Int} (h : NlA E g R) (hg : g ≠ 0) : 1 ≤ g % 4294967296 ∧ g % 4294967296 ≤ E.i 2 := by
  have c := capC hr
  rcases h with ⟨h1, _⟩ | ⟨p, p1, p2, p3, p4, p5⟩
  · exact absurd h1 hg
  · have gr := slotGen_rng (w := wd E p) (wd_rng ht p).1
    have e1 := pack_idx (i := p) (g := slotGenF (wd E p)) ⟨by omega, by omega, gr.1, gr.2⟩
    rw [p4, e1]; exact ⟨p1, p2⟩
/-- How many were free, and how many changed, of the first slots. -/
def CtA (E : Env) (g i fr ch : Int) : Prop := 0 ≤ fr ∧ fr ≤ i ∧ (g = 0 → fr = 0 ∧ ch = 0) ∧ (g ≠ 0 → ch = (if g % 4294967296 ≤ i then 1 else 0) ∧ (g % 4294967296 ≤ i → 1 ≤ fr))
theorem ctA0 {E : Env} (hr : rightE E) (ht : ∀ i, WordP (E.t 0 i 0)) {g : Int} {R : List Int} (h : NlA E g R) : CtA E g 0 0 0 :=
  ⟨Int.le_refl _, Int.le_refl _, fun _ => ⟨rfl, rfl⟩, fun hg => by
    have := nlA_idx hr ht h hg
    rw [if_neg (by omega)]
    exact ⟨rfl, fun q => by omega⟩⟩
/-- One more slot, as it was; changed. -/
theorem ctA_same {E : Env} (hr : rightE E) (ht : ∀ i, WordP (E.t 0 i 0)) (hl : ((rowI E).length : Int) = lenE E) {g i fr ch : Int} {R : List Int} (h : NlA E g R) (hc : CtA E g i fr ch) (i0 : 0 ≤ i) (i1 : i < E.i 2)
    (he : wd E (i + 1) = hadF (cellE E (i + 1) 0) R) {fr' : Int} (hf : fr' = fr + (if wd E (i + 1) % 4 = 0 then 1 else 0)) : CtA E g (i + 1) fr' ch := by
  obtain ⟨c1, c2, c3, c4⟩ := hc
  have hfr : fr ≤ fr' ∧ fr' ≤ fr + 1 := by rw [hf]; split <;> omega
  rcases nlA_at hr ht hl h (i := i + 1) (by omega) (by omega) with ⟨q1, q2, q3⟩ | ⟨q1, q2, q3, q4, q5⟩
  · refine ⟨by omega, by omega, fun hg => ?_, fun hg => ?_⟩
    · obtain ⟨d1, d2⟩ := c3 hg
      rw [if_neg (q3 hg)] at hf
      exact ⟨by omega, d2⟩
    · obtain ⟨d1, d2⟩ := c4 hg
      have hne := q2.resolve_left hg
      refine ⟨?_, fun q => by have := d2 (by omega); omega⟩
      rw [d1]
      by_cases z : g % 4294967296 ≤ i
      · rw [if_pos z, if_pos (by omega)]
      · rw [if_neg z, if_neg (by omega)]
  · exfalso
    rw [q4] at he
    omega
theorem ctA_diff {E : Env} (hr : rightE E) (ht : ∀ i, WordP (E.t 0 i 0)) (hl : ((rowI E).length : Int) = lenE E) {g i fr ch : Int} {R : List Int} (h : NlA E g R) (hc : CtA E g i fr ch) (i0 : 0 ≤ i) (i1 : i < E.i 2)
    (he : wd E (i + 1) ≠ hadF (cellE E (i + 1) 0) R) {fr' : Int} (hf : fr' = fr + (if wd E (i + 1) % 4 = 0 then 1 else 0)) :
    CtA E g (i + 1) fr' (ch + 1) ∧ g % 4294967296 = i + 1 ∧ wd E (i + 1) % 4 = 0 ∧ hadF (cellE E (i + 1) 0) R % 4 = 1 ∧ slotGenF (hadF (cellE E (i + 1) 0) R) = slotGenF (wd E (i + 1)) ∧ g / 4294967296 % 1073741824 = slotGenF (wd E (i + 1)) := by
  obtain ⟨c1, c2, c3, c4⟩ := hc
  rcases nlA_at hr ht hl h (i := i + 1) (by omega) (by omega) with ⟨q1, _⟩ | ⟨q1, q2, q3, q4, q5⟩
  · exact absurd q1.symm he
  · have gr := slotGen_rng (w := wd E (i + 1)) (wd_rng ht (i + 1)).1
    rw [if_pos q3] at hf
    obtain ⟨d1, d2⟩ := c4 q1
    rw [if_neg (by omega)] at d1
    refine ⟨⟨by omega, by omega, fun hg => absurd hg q1, fun _ => ⟨by rw [if_pos (by omega)]; omega, fun _ => by omega⟩⟩, q2, q3, by rw [q4]; omega, by rw [q4]; exact slotGen_tk gr.1 gr.2, q5⟩
/-- All slots: at the end. -/
theorem ctA_end {E : Env} (hr : rightE E) (ht : ∀ i, WordP (E.t 0 i 0)) {g i fr ch : Int} {R : List Int} (h : NlA E g R) (hc : CtA E g i fr ch) (hi : E.i 2 ≤ i) : (g ≠ 0 ↔ fr > 0) ∧ ch = (if (1 : Int) < fr then 1 else fr) := by
  obtain ⟨c1, c2, c3, c4⟩ := hc
  by_cases hg : g = 0
  · obtain ⟨d1, d2⟩ := c3 hg
    refine ⟨⟨fun q => absurd hg q, fun q => by omega⟩, ?_⟩
    rw [if_neg (by omega)]; omega
  · obtain ⟨d1, d2⟩ := c4 hg
    have b := nlA_idx hr ht h hg
    have e := d2 (by omega)
    rw [if_pos (by omega)] at d1
    refine ⟨⟨fun _ => by omega, fun _ => hg⟩, ?_⟩
    split <;> omega
theorem nlA_rng {E : Env} (hr : rightE E) (ht : ∀ i, WordP (E.t 0 i 0)) {g : Int} {R : List Int} (h : NlA E g R) : 0 ≤ g ∧ g < 18446744073709551616 := by
  have c := capC hr
  rcases h with ⟨h1, _⟩ | ⟨p, p1, p2, p3, p4, p5⟩
  · rw [h1]; exact ⟨by omega, by omega⟩
  · have gr := slotGen_rng (w := wd E p) (wd_rng ht p).1
    have e1 := pack_pos (i := p) (g := slotGenF (wd E p)) ⟨by omega, by omega, gr.1, gr.2⟩
    rw [p4]; exact ⟨by omega, e1.2⟩
theorem nlA_wd {E : Env} (hr : rightE E) (ht : ∀ i, WordP (E.t 0 i 0)) (hl : ((rowI E).length : Int) = lenE E) {g : Int} {R : List Int} (h : NlA E g R) {i : Int} (i1 : 1 ≤ i) (i2 : i ≤ E.i 2) : 0 ≤ hadF (cellE E i 0) R ∧ hadF (cellE E i 0) R < 18446744073709551616 := by
  have w := wd_rng ht i
  have gr := slotGen_rng (w := wd E i) w.1
  rcases nlA_at hr ht hl h i1 i2 with ⟨q1, _⟩ | ⟨_, _, _, q4, _⟩
  · rw [q1]; exact w
  · rw [q4]; omega
end Go.Proofs.Ytafemlljemhkhaa.Sx
