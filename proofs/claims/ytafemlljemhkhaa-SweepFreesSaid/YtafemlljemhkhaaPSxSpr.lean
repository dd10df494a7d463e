import Derived.Test.YtafemlljemhkhaaPSxD
namespace Go.Proofs.Ytafemlljemhkhaa.Sx
set_option linter.unusedVariables false
set_option linter.unusedSimpArgs false
theorem runM_end {m : Nat} {w : Wd} (h : endM m w.F = true) (n : Nat) : runM m n w = (0, w) := by
  cases n with
  | zero => rfl
  | succ n => unfold runM; rw [if_pos h]
theorem runM_step {m : Nat} {w : Wd} (h : endM m w.F = false) (n : Nat) : runM m (n + 1) w = ((runM m n (stepM m w)).1 + 1, (runM m n (stepM m w)).2) := by
  show (if endM m w.F = true then (0, w) else _) = _
  rw [h]; rfl
theorem wordsP_nil : wordsP [] := fun x hx => by cases hx
theorem wordsP_cons {x : Int} {l : List Int} : wordsP (x :: l) ↔ (0 ≤ x ∧ x < 18446744073709551616) ∧ wordsP l := List.forall_mem_cons
theorem wordsP_append {a b : List Int} : wordsP (a ++ b) ↔ wordsP a ∧ wordsP b := by
  unfold wordsP
  simp only [List.mem_append]
  exact ⟨fun h => ⟨fun x hx => h x (.inl hx), fun x hx => h x (.inr hx)⟩, fun h x hx => hx.elim (h.1 x) (h.2 x)⟩
theorem wordsP_sub {a b : List Int} (h : wordsP b) (hs : ∀ x ∈ a, x ∈ b) : wordsP a := fun x hx => h x (hs x hx)
theorem wordsP_set {l : List Int} (h : wordsP l) {x : Int} (hx : 0 ≤ x ∧ x < 18446744073709551616) (c : Int) : wordsP (setF c x l) := by
  unfold setF
  split
  · intro y hy
    rcases List.mem_or_eq_of_mem_set hy with h1 | h1
    · exact h y h1
    · rw [h1]; exact hx
  · exact h
theorem setF_length (c x : Int) (l : List Int) : (setF c x l).length = l.length := by unfold setF; split <;> simp
theorem hadF_word {l : List Int} (h : wordsP l) (c : Int) : 0 ≤ hadF c l ∧ hadF c l < 18446744073709551616 := by
  unfold hadF
  split
  · rename_i hc
    have hlt : c.toNat < l.length := by have := hc.1; have := hc.2; omega
    rw [List.getD_eq_getElem?_getD, List.getElem?_eq_getElem hlt, Option.getD_some]
    exact h _ (List.getElem_mem hlt)
  · omega
theorem splitF_mem {b : Bool} {e : List Int} : ∀ {l : List Int} {x : Int}, x ∈ splitF b e l → x ∈ l
  | n :: c :: r :: l, x, h => by
    unfold splitF at h
    split at h
    · simp only [List.mem_cons] at h ⊢
      rcases h with h | h | h | h
      · exact .inl h
      · exact .inr (.inl h)
      · exact .inr (.inr (.inl h))
      · exact .inr (.inr (.inr (splitF_mem h)))
    · exact List.mem_cons_of_mem _ (List.mem_cons_of_mem _ (List.mem_cons_of_mem _ (splitF_mem h)))
  | [], x, h => by simp [splitF] at h
  | [_], x, h => by simp [splitF] at h
  | [_, _], x, h => by simp [splitF] at h
theorem splitF_both (e : List Int) : ∀ (l : List Int), (splitF true e l).length + (splitF false e l).length ≤ l.length
  | n :: c :: r :: l => by
    have := splitF_both e l
    unfold splitF
    by_cases h : idxF c r 0 e ≥ 0
    · simp only [h, decide_true, if_true, Bool.true_eq_false, if_false, List.length_cons]; omega
    · simp only [h, decide_false, Bool.false_eq_true, if_false, if_true, List.length_cons]; omega
  | [] => by simp [splitF]
  | [_] => by simp [splitF]
  | [_, _] => by simp [splitF]
theorem wI_id {x : Int} (h0 : -9223372036854775808 ≤ x) (h1 : x ≤ 9223372036854775807) : wI x = x := by
  unfold wI Go.IntKind.wrap
  simp only [Go.IntKind.bits, Go.IntKind.signed, Bool.true_and]
  split
  · rename_i h; simp only [ge_iff_le, decide_eq_true_eq] at h; omega
  · rename_i h; simp only [ge_iff_le, decide_eq_true_eq] at h; omega
def swI (n : Nat) (f : Swp) : Prop := (0 ≤ f.tag ∧ f.tag ≤ 3) ∧ (0 ≤ f.slot ∧ f.slot ≤ n) ∧ wordsP f.l ∧ wordsP f.seen ∧ wordsP f.others ∧ f.l.length + f.seen.length + f.others.length ≤ n
theorem swI.mono {n m : Nat} {f : Swp} (h : swI n f) (hnm : n ≤ m) : swI m f :=
  ⟨h.1, ⟨h.2.1.1, by have := h.2.1.2; omega⟩, h.2.2.1, h.2.2.2.1, h.2.2.2.2.1, by have := h.2.2.2.2.2; omega⟩
theorem swI.words {n : Nat} {f : Swp} (h : swI n f) (hn : n ≤ 1000000) : wordsP f.enc := by
  obtain ⟨⟨h1, h2⟩, ⟨h3, h4⟩, h5, h6, h7, h8⟩ := h
  unfold Swp.enc
  simp only [wordsP_cons, wordsP_append]
  refine ⟨⟨h1, by omega⟩, ⟨h3, by omega⟩, ⟨by omega, by omega⟩, ⟨by omega, by omega⟩, h5, h6, h7⟩
theorem swI.len {n : Nat} {f : Swp} (h : swI n f) : f.enc.length ≤ n + 4 := by
  have := h.2.2.2.2.2
  unfold Swp.enc
  simp only [List.length_cons, List.length_append]
  omega
theorem swI.step {n : Nat} {C : Cfg} {f : Swp} {B : Bnk} {G : Grd} (h : swI n f) (hn : n ≤ 1000000) (hB : wordsP B.row) : swI (n + 1) (f.step C B G).1 := by
  obtain ⟨⟨h1, h2⟩, ⟨h3, h4⟩, h5, h6, h7, h8⟩ := h
  have hsl : wI (f.slot + 1) = f.slot + 1 := wI_id (by omega) (by omega)
  unfold Swp.step
  split
  · simp only
    split
    · refine ⟨⟨h1, h2⟩, ?_, h5, h6, h7, by simp only; omega⟩
      simp only [hsl]; omega
    · refine ⟨?_, ⟨by simp only; omega, by simp only; omega⟩, h5, h6, h7, by simp only; omega⟩
      simp only
      split <;> omega
  · split
    · simp only
      have hs : wordsP (f.seen ++ [(B.load (C.res (wI (Int.tdiv (f.seen.length : Int) C.s)) (Int.tmod (f.seen.length : Int) C.s)) 0).old]) := by
        rw [wordsP_append, wordsP_cons]
        exact ⟨h6, hadF_word hB _, wordsP_nil⟩
      have hl : (f.seen ++ [(B.load (C.res (wI (Int.tdiv (f.seen.length : Int) C.s)) (Int.tmod (f.seen.length : Int) C.s)) 0).old]).length = f.seen.length + 1 := by simp
      generalize f.seen ++ [(B.load (C.res (wI (Int.tdiv (f.seen.length : Int) C.s)) (Int.tmod (f.seen.length : Int) C.s)) 0).old] = sn at hs hl ⊢
      split
      · exact ⟨⟨h1, h2⟩, ⟨h3, by simp only; omega⟩, h5, hs, h7, by simp only [hl]; omega⟩
      · unfold Swp.split
        have hb := splitF_both sn f.l
        refine ⟨?_, ⟨h3, by simp only; omega⟩, wordsP_sub h5 fun x => splitF_mem, hs, wordsP_sub h5 fun x => splitF_mem, by simp only [hl]; omega⟩
        simp only
        split <;> omega
    · split
      · have hd : wordsP (f.others.drop 3) := wordsP_sub h7 fun x hx => List.mem_of_mem_drop hx
        have hl : (f.others.drop 3).length ≤ f.others.length := by rw [List.length_drop]; omega
        simp only
        split
        · exact ⟨by simp only; omega, ⟨h3, by simp only; omega⟩, h5, h6, hd, by simp only; omega⟩
        · exact ⟨⟨h1, h2⟩, ⟨h3, by simp only; omega⟩, h5, h6, hd, by simp only; omega⟩
      · exact ⟨⟨h1, h2⟩, ⟨h3, by simp only; omega⟩, h5, h6, h7, by simp only; omega⟩
theorem afterF_word (g l : Int) : 0 ≤ afterF g l ∧ afterF g l < 18446744073709551616 := by
  unfold afterF
  simp only
  split <;> (repeat' split) <;> omega
theorem Swp.step_row {C : Cfg} {f : Swp} {B : Bnk} {G : Grd} (hB : wordsP B.row) : wordsP (f.step C B G).2.1.row ∧ (f.step C B G).2.1.row.length = B.row.length := by
  unfold Swp.step
  split
  · exact ⟨wordsP_set hB ⟨by decide, by decide⟩ _, setF_length _ _ _⟩
  · split
    · exact ⟨hB, rfl⟩
    · split
      · exact ⟨wordsP_set hB (afterF_word _ _) _, setF_length _ _ _⟩
      · exact ⟨hB, rfl⟩
def swW (n : Nat) (w : Wd) : Prop := (∃ f : Swp, w.F = f.enc ∧ swI n f) ∧ wordsP w.B.row
theorem swW.step {n : Nat} {w : Wd} (h : swW n w) (hn : n ≤ 1000000) : swW (n + 1) (stepM 2 w) ∧ (stepM 2 w).B.row.length = w.B.row.length ∧ (stepM 2 w).C = w.C ∧ (stepM 2 w).G.thread = w.G.thread := by
  obtain ⟨⟨f, hf, hi⟩, hB⟩ := h
  have e : stepM 2 w = ⟨w.C, (f.step w.C w.B w.G).2.2, (f.step w.C w.B w.G).2.1, (f.step w.C w.B w.G).1.enc⟩ := by
    show Swp.stepW w = _
    unfold Swp.stepW
    rw [hf, Swp.dec_enc]
  rw [e]
  have hr := Swp.step_row (C := w.C) (f := f) (B := w.B) (G := w.G) hB
  refine ⟨⟨⟨_, rfl, hi.step hn hB⟩, hr.1⟩, hr.2, rfl, ?_⟩
  unfold Swp.step
  split
  · simp only [clrG]; split <;> rfl
  · split
    · rfl
    · split <;> rfl
end Go.Proofs.Ytafemlljemhkhaa.Sx
namespace Go.Proofs.Ytafemlljemhkhaa.Sx
set_option linter.unusedVariables false
set_option linter.unusedSimpArgs false
theorem stepSw {C : Cfg} {G : Grd} {B : Bnk} {f : Swp} : stepM 2 ⟨C, G, B, f.enc⟩ = ⟨C, (f.step C B G).2.2, (f.step C B G).2.1, (f.step C B G).1.enc⟩ := by
  show Swp.stepW _ = _
  simp only [Swp.stepW, Swp.dec_enc]
theorem cons3 {l : List Int} {n : Nat} (h : l.length = 3 * (n + 1)) : ∃ a b c t, l = a :: b :: c :: t ∧ t.length = 3 * n := by
  match l, h with
  | a :: b :: c :: t, h => exact ⟨a, b, c, t, rfl, by simp only [List.length_cons] at h; omega⟩
  | [], h => simp at h
  | [_], h => simp at h; omega
  | [_, _], h => simp at h; omega
theorem ph3 {C : Cfg} {G : Grd} {l seen : List Int} : ∀ (n m : Nat) (B : Bnk) (o : List Int), o.length = 3 * (n + 1) →
    ∃ B' : Bnk, runM 2 (n + 1 + m) ⟨C, G, B, (⟨2, 0, l, seen, o⟩ : Swp).enc⟩ = (((n + 1 : Nat) : Int), ⟨C, G, B', (⟨3, 0, l, seen, []⟩ : Swp).enc⟩) ∧ B'.row = freeF C.t C.s C.c C.h C.k C.e C.l o B.row
  | 0, m, B, o, h => by
    obtain ⟨a, b, c, t, rfl, ht⟩ := cons3 h
    obtain rfl : t = [] := List.eq_nil_of_length_eq_zero (by omega)
    have hs : stepM 2 ⟨C, G, B, (⟨2, 0, l, seen, [a, b, c]⟩ : Swp).enc⟩ = ⟨C, G, backF C B a, (⟨3, 0, l, seen, []⟩ : Swp).enc⟩ := by rw [stepSw]; rfl
    rw [show 0 + 1 + m = m + 1 by omega, runM_step rfl, hs, runM_end rfl]
    exact ⟨_, rfl, rfl⟩
  | n + 1, m, B, o, h => by
    obtain ⟨a, b, c, t, rfl, ht⟩ := cons3 h
    have hne : t ≠ [] := fun e => by rw [e] at ht; simp at ht
    have hs : stepM 2 ⟨C, G, B, (⟨2, 0, l, seen, a :: b :: c :: t⟩ : Swp).enc⟩ = ⟨C, G, backF C B a, (⟨2, 0, l, seen, t⟩ : Swp).enc⟩ := by
      rw [stepSw]
      simp only [Swp.step, show ((2 : Int) = 0) = False from by decide, show ((2 : Int) = 1) = False from by decide, if_false, if_true, List.drop_succ_cons, List.drop_zero, if_neg hne]
      rfl
    obtain ⟨B', h1, h2⟩ := ph3 (C := C) (G := G) (l := l) (seen := seen) n m (backF C B a) t ht
    rw [show n + 1 + 1 + m = (n + 1 + m) + 1 by omega, runM_step rfl, hs, h1]
    exact ⟨B', by simp, h2⟩
theorem seenF_succ (t s c h k e g : Int) (r : List Int) (n : Nat) : seenF t s c h k e g r (n + 1) = seenF t s c h k e g r n ++ [hadF (reservedF t s c h k e g ((n : Int) / s) ((n : Int) % s)) r] := by
  unfold seenF
  rw [List.range_succ, List.map_append]; rfl
theorem seenF_len (t s c h k e g : Int) (r : List Int) (n : Nat) : (seenF t s c h k e g r n).length = n := by simp [seenF]
def Cfg.seen (C : Cfg) (r : List Int) (n : Nat) : List Int := seenF C.t C.s C.c C.h C.k C.e C.l r n
theorem ph2 {C : Cfg} (hr : C.right) {G : Grd} {l r : List Int} : ∀ (k m j : Nat) (B : Bnk), ((j + (k + 1) : Nat) : Int) = C.t * C.s → B.row = r →
    ∃ B' : Bnk, runM 2 (k + 1 + m) ⟨C, G, B, (⟨1, 0, l, C.seen r j, []⟩ : Swp).enc⟩ = ((runM 2 m ⟨C, G, B', (⟨1, 0, l, C.seen r (j + (k + 1)), []⟩ : Swp).split.enc⟩).1 + ((k + 1 : Nat) : Int), (runM 2 m ⟨C, G, B', (⟨1, 0, l, C.seen r (j + (k + 1)), []⟩ : Swp).split.enc⟩).2) ∧ B'.row = r := by
  have ht : 1 ≤ C.t ∧ C.t ≤ 8 := ⟨hr.1, hr.2.1⟩
  have hs : 1 ≤ C.s ∧ C.s ≤ 8 := ⟨hr.2.2.1, hr.2.2.2.1⟩
  have hm : C.t * C.s ≤ 64 := by
    have := Int.mul_le_mul ht.2 hs.2 (by omega) (by omega : (0 : Int) ≤ 8)
    omega
  have stepEq : ∀ (j : Nat) (B : Bnk), B.row = r → (j : Int) < C.t * C.s → ∃ B' : Bnk, B'.row = r ∧ stepM 2 ⟨C, G, B, (⟨1, 0, l, C.seen r j, []⟩ : Swp).enc⟩ = ⟨C, G, B', (if ((j : Int) + 1) < C.t * C.s then (⟨1, 0, l, C.seen r (j + 1), []⟩ : Swp) else (⟨1, 0, l, C.seen r (j + 1), []⟩ : Swp).split).enc⟩ := by
    intro j B hB hj
    have hlen : ((C.seen r j).length : Int) = j := by unfold Cfg.seen; rw [seenF_len]
    have e1 : wI (Int.tdiv (j : Int) C.s) = (j : Int) / C.s := by
      rw [Int.tdiv_eq_ediv_of_nonneg (by omega)]
      have h1 : (j : Int) / C.s ≤ j := Int.ediv_le_self _ (by omega)
      have h2 : 0 ≤ (j : Int) / C.s := Int.ediv_nonneg (by omega) (by omega)
      exact wI_id (by omega) (by omega)
    have e2 : Int.tmod (j : Int) C.s = (j : Int) % C.s := Int.tmod_eq_emod_of_nonneg (by omega)
    have e3 : wI ((j : Int) + 1) = (j : Int) + 1 := wI_id (by omega) (by omega)
    have e4 : wI (C.t * C.s) = C.t * C.s := wI_id (by have := Int.mul_nonneg (show (0 : Int) ≤ C.t by omega) (show (0 : Int) ≤ C.s by omega); omega) (by omega)
    refine ⟨B.load (C.res ((j : Int) / C.s) ((j : Int) % C.s)) 0, hB, ?_⟩
    rw [stepSw]
    simp only [Swp.step, show ((1 : Int) = 0) = False from by decide, if_false, if_true, hlen, e1, e2, e3, e4, load_old, hB]
    have e5 : C.seen r j ++ [hadF (C.res ((j : Int) / C.s) ((j : Int) % C.s)) r] = C.seen r (j + 1) := (seenF_succ _ _ _ _ _ _ _ _ _).symm
    rw [e5]
  intro k
  induction k with
  | zero =>
    intro m j B hj hB
    obtain ⟨B', hB', hst⟩ := stepEq j B hB (by omega)
    rw [if_neg (by omega)] at hst
    refine ⟨B', ?_, hB'⟩
    rw [show 0 + 1 + m = m + 1 by omega, runM_step rfl, hst]
    rfl
  | succ k ih =>
    intro m j B hj hB
    obtain ⟨B', hB', hst⟩ := stepEq j B hB (by omega)
    rw [if_pos (by omega)] at hst
    obtain ⟨B2, h1, h2⟩ := ih m (j + 1) B' (by omega) hB'
    refine ⟨B2, ?_, h2⟩
    rw [show k + 1 + 1 + m = (k + 1 + m) + 1 by omega, runM_step rfl, hst, h1, show j + 1 + (k + 1) = j + (k + 1 + 1) by omega]
    simp only [Prod.mk.injEq, and_true]
    omega
def Cfg.clr (C : Cfg) (th : Int) (n : Nat) (r : List Int) : List Int := clrF C.t C.s C.c C.h C.k C.e C.l th n r
theorem ph1 {C : Cfg} (hr : C.right) {l r : List Int} : ∀ (k m j : Nat) (G : Grd) (B : Bnk), ((j + (k + 1) : Nat) : Int) = C.s → B.row = C.clr G.thread j r →
    ∃ B' : Bnk, runM 2 (k + 1 + m) ⟨C, G, B, (⟨0, j, l, [], []⟩ : Swp).enc⟩ = ((runM 2 m ⟨C, ⟨0, 0, G.thread⟩, B', (⟨if (l.length : Int) / 3 ≥ C.k then 1 else 3, 0, l, [], []⟩ : Swp).enc⟩).1 + ((k + 1 : Nat) : Int), (runM 2 m ⟨C, ⟨0, 0, G.thread⟩, B', (⟨if (l.length : Int) / 3 ≥ C.k then 1 else 3, 0, l, [], []⟩ : Swp).enc⟩).2) ∧ B'.row = C.clr G.thread C.s.toNat r := by
  have hs : 1 ≤ C.s ∧ C.s ≤ 8 := ⟨hr.2.2.1, hr.2.2.2.1⟩
  have stepEq : ∀ (j : Nat) (G : Grd) (B : Bnk), B.row = C.clr G.thread j r → (j : Int) < C.s → ∃ B' : Bnk, B'.row = C.clr G.thread (j + 1) r ∧ stepM 2 ⟨C, G, B, (⟨0, j, l, [], []⟩ : Swp).enc⟩ = ⟨C, if ((j : Int) + 1) < C.s then G else ⟨0, 0, G.thread⟩, B', (if ((j : Int) + 1) < C.s then (⟨0, ((j + 1 : Nat) : Int), l, [], []⟩ : Swp) else (⟨if (l.length : Int) / 3 ≥ C.k then 1 else 3, 0, l, [], []⟩ : Swp)).enc⟩ := by
    intro j G B hB hj
    have e3 : wI ((j : Int) + 1) = ((j + 1 : Nat) : Int) := (wI_id (by omega) (by omega)).trans (by omega)
    have e4 : wI (C.s - 1) = C.s - 1 := wI_id (by omega) (by omega)
    refine ⟨B.store (C.res G.thread j) 0 0, by show setF _ _ B.row = _; rw [hB]; rfl, ?_⟩
    rw [stepSw]
    by_cases h : ((j : Int) + 1) < C.s
    · simp only [Swp.step, clrG, if_true, e3, e4, if_pos h, show (((j + 1 : Nat) : Int) < C.s) = True from eq_true (by omega), show ((j : Int) = C.s - 1) = False from eq_false (by omega), if_false]
    · simp only [Swp.step, clrG, if_true, e3, e4, if_neg h, show (((j + 1 : Nat) : Int) < C.s) = False from eq_false (by omega), show ((j : Int) = C.s - 1) = True from eq_true (by omega), if_false]
  intro k
  induction k with
  | zero =>
    intro m j G B hj hB
    obtain ⟨B', hB', hst⟩ := stepEq j G B hB (by omega)
    rw [if_neg (by omega), if_neg (by omega)] at hst
    refine ⟨B', ?_, by rw [hB']; congr 1; omega⟩
    rw [show 0 + 1 + m = m + 1 by omega, runM_step rfl, hst]
    rfl
  | succ k ih =>
    intro m j G B hj hB
    obtain ⟨B', hB', hst⟩ := stepEq j G B hB (by omega)
    rw [if_pos (by omega), if_pos (by omega)] at hst
    obtain ⟨B2, h1, h2⟩ := ih m (j + 1) G B' (by omega) hB'
    refine ⟨B2, ?_, h2⟩
    rw [show k + 1 + 1 + m = (k + 1 + m) + 1 by omega, runM_step rfl, hst, h1]
    simp only [Prod.mk.injEq, and_true]
    omega
end Go.Proofs.Ytafemlljemhkhaa.Sx
