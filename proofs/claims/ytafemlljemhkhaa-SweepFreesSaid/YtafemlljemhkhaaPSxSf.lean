import Derived.Test.YtafemlljemhkhaaPSxSk
namespace Go.Proofs.Ytafemlljemhkhaa.Sx
set_option linter.unusedVariables false
set_option linter.unusedSimpArgs false
theorem clr_ne {C : Cfg} {th x : Int} {r : List Int} {n : Nat} (h : hadF x (C.clr th n r) ≠ hadF x r) : ∃ j : Nat, j < n ∧ x = C.res th j := by
  by_cases hx : ∃ j : Nat, j < n ∧ x = C.res th j
  · exact hx
  · exact absurd (clr_other fun j hj e => hx ⟨j, hj, e⟩) h
theorem free_ne {C : Cfg} {x : Int} : ∀ {l r : List Int}, hadF x (C.freed l r) ≠ hadF x r → ∃ n ∈ firsts l, x = C.cell (n % 4294967296) 0 ∧ inF x r
  | n :: b :: e :: l, r, h => by
    have hd : C.freed (n :: b :: e :: l) r = C.freed l (setF (C.cell (n % 4294967296) 0) (afterF (n / 4294967296 % 1073741824) C.l) r) := rfl
    rw [hd] at h
    by_cases h1 : hadF x (setF (C.cell (n % 4294967296) 0) (afterF (n / 4294967296 % 1073741824) C.l) r) = hadF x r
    · rw [← h1] at h
      obtain ⟨m, hm, g1, g2⟩ := free_ne h
      exact ⟨m, List.mem_cons_of_mem _ hm, g1, (inF_setF _ _ _ _).1 g2⟩
    · rw [hadF_setF] at h1
      split at h1
      · rename_i hc
        exact ⟨n, List.mem_cons_self .., hc.2, by rw [hc.2]; exact hc.1⟩
      · exact absurd rfl h1
  | [], r, h => absurd rfl h
  | [_], r, h => absurd rfl h
  | [_, _], r, h => absurd rfl h
theorem firsts_split {is : Bool} {e : List Int} : ∀ {l : List Int} {n : Int}, n ∈ firsts (splitF is e l) → n ∈ firsts l
  | a :: b :: c :: l, n, h => by
    unfold splitF at h
    split at h
    · rcases List.mem_cons.1 (show n ∈ a :: firsts (splitF is e l) from h) with h | h
      · exact List.mem_cons.2 (.inl h)
      · exact List.mem_cons_of_mem _ (firsts_split h)
    · exact List.mem_cons_of_mem _ (firsts_split h)
  | [], n, h => h
  | [_], n, h => by simp [splitF, firsts] at h
  | [_, _], n, h => by simp [splitF, firsts] at h
def mineF (C : Cfg) (th k : Int) (L : List Int) : Prop := (0 ≤ th ∧ ∃ j : Int, 0 ≤ j ∧ j < C.s ∧ th < C.t ∧ k = 1 + th * C.s + j) ∨ ∃ n ∈ firsts L, 0 ≤ n % 4294967296 ∧ n % 4294967296 ≤ C.c ∧ k = 1 + C.t * C.s + n % 4294967296 * (6 + C.h)
theorem res_in {C : Cfg} {th j k : Int} (hk : 0 ≤ k) (h : k = C.res th j) : 0 ≤ th ∧ 0 ≤ j ∧ j < C.s ∧ th < C.t ∧ k = 1 + th * C.s + j := by
  unfold Cfg.res reservedF at h
  split at h
  · rename_i hc
    exact ⟨hc.2.1, hc.2.2.2.1, hc.2.2.2.2, hc.2.2.1, h⟩
  · omega
theorem cell_in {C : Cfg} {i k : Int} (hk : 0 ≤ k) (h : k = C.cell i 0) : 0 ≤ i ∧ i ≤ C.c ∧ k = 1 + C.t * C.s + i * (6 + C.h) := by
  unfold Cfg.cell cellF at h
  split at h
  · rename_i hc
    exact ⟨hc.2.1, hc.2.2.1, by omega⟩
  · omega
theorem mine_clr {C : Cfg} {th k : Int} {r L : List Int} (hk : 0 ≤ k) {n : Nat} (hn : n = C.s.toNat) (h : hadF k (C.clr th n r) ≠ hadF k r) : mineF C th k L := by
  obtain ⟨j, hj, e⟩ := clr_ne h
  have := res_in hk e
  exact .inl ⟨this.1, j, this.2.1, this.2.2.1, this.2.2.2.1, this.2.2.2.2⟩
theorem frees_run {C : Cfg} (hr : C.right) {G : Grd} {B : Bnk} {l : List Int} (hl : l.length ≤ 210) {k : Int} (hk : 0 ≤ k) {q : Int} {w' : Wd} (hrun : runM 2 300 ⟨C, G, B, (⟨0, 0, l, [], []⟩ : Swp).enc⟩ = (q, w')) :
    w'.F.getD 0 0 = 3 ∧ w'.B.row.length = B.row.length ∧ (hadF k w'.B.row ≠ hadF k B.row → mineF C G.thread k l) := by
  by_cases hf : (l.length : Int) / 3 < C.k
  · obtain ⟨B', h1, h2⟩ := swp_few hr (G := G) (B := B) hf (m := 300) (Nat.le_refl _)
    rw [h1] at hrun
    cases hrun
    refine ⟨rfl, by show B'.row.length = _; rw [h2, clr_len], fun h => ?_⟩
    have h : hadF k B'.row ≠ hadF k B.row := h
    rw [h2] at h
    exact mine_clr hk rfl h
  · obtain ⟨B', h1, h2⟩ := swp_many hr (G := G) (B := B) (by omega) hl (m := 300) (Nat.le_refl _)
    rw [h1] at hrun
    cases hrun
    refine ⟨rfl, by show B'.row.length = _; rw [h2, free_len, clr_len], fun h => ?_⟩
    have h : hadF k B'.row ≠ hadF k B.row := h
    rw [h2] at h
    by_cases hc : hadF k (C.clr G.thread C.s.toNat B.row) = hadF k B.row
    · rw [← hc] at h
      obtain ⟨n, hn, e, _⟩ := free_ne h
      have := cell_in hk e
      exact .inr ⟨n, firsts_split hn, this.1, this.2.1, this.2.2⟩
    · exact mine_clr hk rfl hc
theorem firsts_tab (t : Nat → Nat → Int) (n : Nat) : ∀ x ∈ firsts ((List.range n).flatMap fun i => (List.range 3).map fun j => t i j), ∃ i, i < n ∧ x = t i 0 := by
  induction n with
  | zero => intro x hx; cases hx
  | succ n ih =>
    intro x hx
    rw [List.range_succ (n := n), List.flatMap_append] at hx
    have hm : ((List.range n).flatMap fun i => (List.range 3).map fun j => t i j).length % 3 = 0 := by
      clear ih hx
      induction n with
      | zero => rfl
      | succ n ih => rw [List.range_succ (n := n), List.flatMap_append, List.length_append]; simp only [List.flatMap_cons, List.flatMap_nil, List.append_nil, List.length_map, List.length_range]; omega
    rw [firsts_append _ _ hm, List.mem_append] at hx
    rcases hx with hx | hx
    · obtain ⟨i, hi, e⟩ := ih x hx
      exact ⟨i, by omega, e⟩
    · have hx : x ∈ [t n 0] := hx
      exact ⟨n, by omega, List.mem_singleton.1 hx⟩
end Go.Proofs.Ytafemlljemhkhaa.Sx
