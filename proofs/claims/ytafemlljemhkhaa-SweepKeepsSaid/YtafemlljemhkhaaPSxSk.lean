import Derived.Test.YtafemlljemhkhaaPSxSqt
namespace Go.Proofs.Ytafemlljemhkhaa.Sx
set_option linter.unusedVariables false
set_option linter.unusedSimpArgs false
def firsts : List Int → List Int
  | n :: _ :: _ :: l => n :: firsts l
  | _ => []
theorem free_meta {C : Cfg} (hr : C.right) {x : Int} (hx : 1 ≤ x ∧ x ≤ C.c) : ∀ (l r : List Int), (∀ n ∈ firsts l, ∃ i, 1 ≤ i ∧ i ≤ C.c ∧ n = 9223372036854775808 + i) → (r.length : Int) = lenF C.t C.s C.c C.h C.k C.e C.l →
    hadF (C.cell x 0) (C.freed l r) = if 9223372036854775808 + x ∈ firsts l then afterF 0 C.l else hadF (C.cell x 0) r
  | n :: b :: e :: l, r, hf, hl => by
    obtain ⟨i, h1, h2, hn⟩ := hf n (List.mem_cons_self ..)
    have hc64 : C.c ≤ 64 := hr.2.2.2.2.2.1
    have hh : 0 < 6 + C.h := by have := hr.2.2.2.2.2.2.1; omega
    have e1 : n % 4294967296 = i := by omega
    have e2 : n / 4294967296 % 1073741824 = 0 := by omega
    have ih := free_meta hr hx l (setF (C.cell i 0) (afterF 0 C.l) r) (fun m hm => hf m (List.mem_cons_of_mem _ hm)) (by rw [setF_length]; exact hl)
    have hd : C.freed (n :: b :: e :: l) r = C.freed l (setF (C.cell i 0) (afterF 0 C.l) r) := by
      show freeF _ _ _ _ _ _ _ l (setF (cellF _ _ _ _ _ _ _ (n % 4294967296) 0) (afterF (n / 4294967296 % 1073741824) C.l) r) = _
      rw [e1, e2]; rfl
    have hin : inF (C.cell i 0) r := by
      have := cell_rng hr (i := i) (f := 0) (by omega) h2 (by omega) hh
      have hts := C.ts hr
      exact ⟨by unfold Cfg.cell; omega, by rw [hl]; exact this.2⟩
    rw [hd, ih, hadF_setF]
    show _ = if 9223372036854775808 + x ∈ n :: firsts l then _ else _
    by_cases hm : 9223372036854775808 + x ∈ firsts l
    · rw [if_pos hm, if_pos (List.mem_cons_of_mem _ hm)]
    · rw [if_neg hm]
      by_cases hxi : x = i
      · subst hxi
        rw [if_pos ⟨hin, rfl⟩, if_pos (by rw [hn]; exact List.mem_cons_self ..)]
      · rw [if_neg (fun hc => hxi (cell_inj hr (f := 0) (f' := 0) ⟨by omega, hx.2⟩ ⟨by omega, hh⟩ ⟨by omega, h2⟩ ⟨by omega, hh⟩ hc.2).1), if_neg]
        intro hc
        rcases List.mem_cons.1 hc with hc | hc
        · omega
        · exact hm hc
  | [], r, _, _ => by simp [Cfg.freed, freeF, firsts]
  | [_], r, _, _ => by simp [Cfg.freed, freeF, firsts]
  | [_, _], r, _, _ => by simp [Cfg.freed, freeF, firsts]
theorem split_append (is : Bool) (e : List Int) : ∀ (l m : List Int), l.length % 3 = 0 → splitF is e (l ++ m) = splitF is e l ++ splitF is e m
  | n :: b :: r :: l, m, h => by
    have ih := split_append is e l m (by simp only [List.length_cons] at h; omega)
    simp only [List.cons_append, splitF]
    split
    · rw [ih]; rfl
    · exact ih
  | [], m, _ => by simp [splitF]
  | [_], m, h => by simp at h
  | [_, _], m, h => by simp at h
theorem firsts_append : ∀ (l m : List Int), l.length % 3 = 0 → firsts (l ++ m) = firsts l ++ firsts m
  | n :: b :: r :: l, m, h => by
    have ih := firsts_append l m (by simp only [List.length_cons] at h; omega)
    simp only [List.cons_append, firsts, ih]
  | [], m, _ => by simp [firsts]
  | [_], m, h => by simp at h
  | [_, _], m, h => by simp at h
theorem entry_at {L : List Int} {n k : Nat} (hl : L.length = 3 * n) (hk : k < n) : ∃ P a b c t, L = P ++ a :: b :: c :: t ∧ P.length = 3 * k ∧ P = L.take (3 * k) ∧ L.take (3 * (k + 1)) = P ++ [a, b, c] := by
  obtain ⟨a, b, c, t, h, ht⟩ := cons3 (l := L.drop (3 * k)) (n := n - k - 1) (by rw [List.length_drop]; omega)
  have hP : (L.take (3 * k)).length = 3 * k := by rw [List.length_take]; omega
  refine ⟨L.take (3 * k), a, b, c, t, by rw [← h, List.take_append_drop], hP, rfl, ?_⟩
  rw [show 3 * (k + 1) = 3 * k + 3 by omega, List.take_add, h]
  rfl
theorem kept_at {e L : List Int} {n k m : Nat} (hl : L.length = 3 * n) (hk : k < n) (hm : (splitF true e (L.take (3 * k))).length = 3 * m) :
    (idxF (L.getD (3 * k + 1) 0) (L.getD (3 * k + 2) 0) 0 e ≥ 0 → (splitF true e (L.take (3 * (k + 1)))).length = 3 * (m + 1) ∧ 3 * m + 3 ≤ (splitF true e L).length ∧ ∀ j, j < 3 → (splitF true e L).getD (3 * m + j) 0 = L.getD (3 * k + j) 0) ∧
    (¬ idxF (L.getD (3 * k + 1) 0) (L.getD (3 * k + 2) 0) 0 e ≥ 0 → (splitF true e (L.take (3 * (k + 1)))).length = 3 * m) := by
  obtain ⟨P, a, b, c, t, hL, hP, hT, hN⟩ := entry_at hl hk
  have g : ∀ j, L.getD (3 * k + j) 0 = (a :: b :: c :: t).getD j 0 := fun j => by
    rw [hL, List.getD_eq_getElem?_getD, List.getElem?_append_right (by omega), hP, show 3 * k + j - 3 * k = j by omega, ← List.getD_eq_getElem?_getD]
  have g1 : L.getD (3 * k + 1) 0 = b := g 1
  have g2 : L.getD (3 * k + 2) 0 = c := g 2
  have hPm : P.length % 3 = 0 := by omega
  rw [← hT] at hm
  rw [g1, g2, hN, split_append _ _ _ _ hPm]
  have hs : splitF true e L = splitF true e P ++ splitF true e (a :: b :: c :: t) := by rw [hL, split_append _ _ _ _ hPm]
  refine ⟨fun hc => ?_, fun hc => ?_⟩
  · have e1 : splitF true e [a, b, c] = [a, b, c] := by unfold splitF; rw [if_pos (by simp [hc])]; rfl
    have e2 : splitF true e (a :: b :: c :: t) = a :: b :: c :: splitF true e t := by
      show (if _ then _ else _) = _
      rw [if_pos (by simp [hc])]
    rw [e1, hs, e2]
    refine ⟨by rw [List.length_append, hm]; simp only [List.length_cons, List.length_nil]; omega, by rw [List.length_append, hm]; simp only [List.length_cons]; omega, fun j hj => ?_⟩
    rw [g, List.getD_eq_getElem?_getD, List.getElem?_append_right (by omega), hm, show 3 * m + j - 3 * m = j by omega, ← List.getD_eq_getElem?_getD]
    match j, hj with
    | 0, _ => rfl
    | 1, _ => rfl
    | 2, _ => rfl
  · have e1 : splitF true e [a, b, c] = [] := by unfold splitF; rw [if_neg (by simp [hc])]; rfl
    rw [e1, List.append_nil, hm]
theorem gone_mem (E : Go.Proofs.Ytafemlljemhkhaa.Sx.Env) (e : List Int) {x : Int} (hx : 1 ≤ x) : ∀ n : Nat, (9223372036854775808 + x ∈ firsts (splitF false e (entF 0 (SlS.tl E n))) ↔ x ≤ n ∧ ¬ idxF (E.t 0 (x - 1).toNat 1) (E.t 0 (x - 1).toNat 2) 0 e ≥ 0)
  | 0 => by
    show 9223372036854775808 + x ∈ ([] : List Int) ↔ _
    simp only [List.not_mem_nil, false_iff]
    intro h
    omega
  | n + 1 => by
    have ih := gone_mem E e hx n
    have hm : (entF 0 (SlS.tl E n)).length % 3 = 0 := by rw [ent_len]; omega
    rw [SlS.tl_succ, SlS.entF_one _ _ n _ _ _ (SlS.tl_len E n), split_append _ _ _ _ hm, firsts_append _ _ (splM3 false e _), List.mem_append, ih]
    by_cases hxn : x = (n : Int) + 1
    · have hn : (x - 1).toNat = n := by omega
      rw [hn]
      by_cases hc : idxF (E.t 0 n 1) (E.t 0 n 2) 0 e ≥ 0
      · have e1 : splitF false e [9223372036854775808 + (((0 + n : Nat) : Int) + 1), E.t 0 n 1, E.t 0 n 2] = [] := by unfold splitF; rw [if_neg (by simp [hc])]; rfl
        rw [e1]
        exact ⟨fun h => h.elim (fun h => absurd hc h.2) (fun h => by cases h), fun h => absurd hc h.2⟩
      · have e1 : splitF false e [9223372036854775808 + (((0 + n : Nat) : Int) + 1), E.t 0 n 1, E.t 0 n 2] = [9223372036854775808 + (((0 + n : Nat) : Int) + 1), E.t 0 n 1, E.t 0 n 2] := by unfold splitF; rw [if_pos (by simp [hc])]; rfl
        rw [e1]
        refine ⟨fun _ => ⟨by omega, hc⟩, fun _ => .inr ?_⟩
        show _ ∈ [9223372036854775808 + (((0 + n : Nat) : Int) + 1)]
        rw [List.mem_singleton]
        omega
    · have hno : ¬ 9223372036854775808 + x ∈ firsts (splitF false e [9223372036854775808 + (((0 + n : Nat) : Int) + 1), E.t 0 n 1, E.t 0 n 2]) := by
        intro h
        have hor : splitF false e [9223372036854775808 + (((0 + n : Nat) : Int) + 1), E.t 0 n 1, E.t 0 n 2] = [] ∨ splitF false e [9223372036854775808 + (((0 + n : Nat) : Int) + 1), E.t 0 n 1, E.t 0 n 2] = [9223372036854775808 + (((0 + n : Nat) : Int) + 1), E.t 0 n 1, E.t 0 n 2] := by
          unfold splitF
          split
          · exact .inr rfl
          · exact .inl rfl
        rcases hor with h1 | h1
        · rw [h1] at h; cases h
        · rw [h1] at h
          have h : 9223372036854775808 + x ∈ [9223372036854775808 + (((0 + n : Nat) : Int) + 1)] := h
          rw [List.mem_singleton] at h
          omega
      exact ⟨fun h => h.elim (fun h => ⟨by omega, h.2⟩) (fun h => absurd h hno), fun h => .inl ⟨by omega, h.2⟩⟩
theorem slots_meta {C : Cfg} (hr : C.right) {x : Int} (hx : 1 ≤ x) : ∀ n : Nat, (n : Int) ≤ C.c → x ≤ n → hadF (C.cell x 0) (slotsF C n) = 1
  | 0, _, h => by omega
  | n + 1, hn, h => by
    have hh : 0 < 6 + C.h := by have := hr.2.2.2.2.2.2.1; omega
    show hadF (C.cell x 0) (setF (C.cell ((n : Int) + 1) 0) 1 (slotsF C n)) = 1
    rw [hadF_setF]
    by_cases he : x = (n : Int) + 1
    · subst he
      have := cell_rng hr (i := (n : Int) + 1) (f := 0) (by omega) (by omega) (by omega) hh
      have hts := C.ts hr
      rw [if_pos ⟨⟨by unfold Cfg.cell; omega, by rw [slots_len C hr]; exact this.2⟩, rfl⟩]
    · rw [if_neg (fun hc => he (cell_inj hr (f := 0) (f' := 0) ⟨by omega, by omega⟩ ⟨by omega, hh⟩ ⟨by omega, by omega⟩ ⟨by omega, hh⟩ hc.2).1)]
      exact slots_meta hr hx n (by omega) (by omega)
theorem clr_meta {C : Cfg} (hr : C.right) {th x : Int} (ht : 0 ≤ th ∧ th < C.t) (r : List Int) : hadF (C.cell x 0) (C.clr th C.s.toNat r) = hadF (C.cell x 0) r :=
  clr_other fun j hj e => res_cell hr ht (b := (j : Int)) ⟨by omega, by omega⟩ e.symm
theorem gone_form (E : Go.Proofs.Ytafemlljemhkhaa.Sx.Env) (e : List Int) : ∀ (n : Nat), ∀ y ∈ firsts (splitF false e (entF 0 (SlS.tl E n))), ∃ i : Int, 1 ≤ i ∧ i ≤ n ∧ y = 9223372036854775808 + i
  | 0, y, h => by
    have h : y ∈ ([] : List Int) := h
    cases h
  | n + 1, y, h => by
    have hm : (entF 0 (SlS.tl E n)).length % 3 = 0 := by rw [ent_len]; omega
    rw [SlS.tl_succ, SlS.entF_one _ _ n _ _ _ (SlS.tl_len E n), split_append _ _ _ _ hm, firsts_append _ _ (splM3 false e _), List.mem_append] at h
    rcases h with h | h
    · obtain ⟨i, h1, h2, h3⟩ := gone_form E e n y h
      exact ⟨i, h1, by omega, h3⟩
    · have hor : splitF false e [9223372036854775808 + (((0 + n : Nat) : Int) + 1), E.t 0 n 1, E.t 0 n 2] = [] ∨ splitF false e [9223372036854775808 + (((0 + n : Nat) : Int) + 1), E.t 0 n 1, E.t 0 n 2] = [9223372036854775808 + (((0 + n : Nat) : Int) + 1), E.t 0 n 1, E.t 0 n 2] := by
        unfold splitF
        split
        · exact .inr rfl
        · exact .inl rfl
      rcases hor with h1 | h1
      · rw [h1] at h; cases h
      · rw [h1] at h
        have h : y ∈ [9223372036854775808 + (((0 + n : Nat) : Int) + 1)] := h
        rw [List.mem_singleton] at h
        exact ⟨(n : Int) + 1, by omega, by omega, by omega⟩
theorem ent_get (E : Go.Proofs.Ytafemlljemhkhaa.Sx.Env) : ∀ (n k : Nat), k < n → ∀ j, j < 3 → (entF 0 (SlS.tl E n)).getD (3 * k + j) 0 = [9223372036854775808 + ((k : Int) + 1), E.t 0 k 1, E.t 0 k 2].getD j 0
  | 0, k, h, j, _ => by omega
  | n + 1, k, h, j, hj => by
    have hl := ent_len E n
    rw [SlS.tl_succ, SlS.entF_one _ _ n _ _ _ (SlS.tl_len E n)]
    by_cases hk : k < n
    · rw [List.getD_eq_getElem?_getD, List.getElem?_append_left (by omega), ← List.getD_eq_getElem?_getD]
      exact ent_get E n k hk j hj
    · have e : k = n := by omega
      subst e
      rw [List.getD_eq_getElem?_getD, List.getElem?_append_right (by omega), hl, show 3 * k + j - 3 * k = j by omega, ← List.getD_eq_getElem?_getD]
      rw [show ((0 + k : Nat) : Int) = (k : Int) by omega]
def keepF (few : Prop) [Decidable few] (e l : List Int) : List Int := if few then l else splitF true e l
theorem keep_at {few : Prop} [Decidable few] {e L : List Int} {n k m : Nat} (hl : L.length = 3 * n) (hk : k < n) (hm : (keepF few e (L.take (3 * k))).length = 3 * m) :
    ((few ∨ idxF (L.getD (3 * k + 1) 0) (L.getD (3 * k + 2) 0) 0 e ≥ 0) → (keepF few e (L.take (3 * (k + 1)))).length = 3 * (m + 1) ∧ 3 * m + 3 ≤ (keepF few e L).length ∧ ∀ j, j < 3 → (keepF few e L).getD (3 * m + j) 0 = L.getD (3 * k + j) 0) ∧
    (¬ few → ¬ idxF (L.getD (3 * k + 1) 0) (L.getD (3 * k + 2) 0) 0 e ≥ 0 → (keepF few e (L.take (3 * (k + 1)))).length = 3 * m) := by
  by_cases hf : few
  · have e1 : ∀ l : List Int, keepF few e l = l := fun l => if_pos hf
    simp only [e1] at hm ⊢
    have : m = k := by rw [List.length_take] at hm; omega
    subst this
    refine ⟨fun _ => ⟨by rw [List.length_take]; omega, by omega, fun j _ => rfl⟩, fun h => absurd hf h⟩
  · have e1 : ∀ l : List Int, keepF few e l = splitF true e l := fun l => if_neg hf
    simp only [e1] at hm ⊢
    have h := kept_at hl hk hm
    exact ⟨fun hc => h.1 (hc.resolve_left hf), fun _ hc => h.2 hc⟩
theorem keeps_run {E : Go.Proofs.Ytafemlljemhkhaa.Sx.Env} (h : St.Fac E) {B : Bnk} {mn lt : Int} (hl : (B.row.length : Int) = lenF (E.i 0) (E.i 1) (E.i 2) (E.i 3) (E.i 4) (E.i 5) (E.i 6)) (hw : ∀ x, 1 ≤ x → x ≤ E.i 8 → hadF ((St.Cl E).cell x 0) B.row = 1) :
    ∃ (f : Swp) (q : Int) (G' : Grd) (B' : Bnk), runM 2 300 ⟨St.Cl E, ⟨mn, lt, 0⟩, B, (⟨0, 0, entF 0 (SlS.tl E (E.i 8).toNat), [], []⟩ : Swp).enc⟩ = (q, ⟨St.Cl E, G', B', f.enc⟩) ∧ f.tag = 3 ∧ f.enc.length ≤ 1000 ∧ f.l.length ≤ 192 ∧ f.seen.length ≤ 64 ∧ f.l = keepF (E.i 8 < E.i 4) f.seen (entF 0 (SlS.tl E (E.i 8).toNat)) ∧ B'.row.length = B.row.length ∧
      ∀ x, 1 ≤ x → x ≤ E.i 8 → hadF ((St.Cl E).cell x 0) B'.row = if E.i 8 < E.i 4 ∨ idxF (E.t 0 (x - 1).toNat 1) (E.t 0 (x - 1).toNat 2) 0 f.seen ≥ 0 then 1 else afterF 0 (E.i 6) := by
  have hn := h.nums
  have hle := h.le
  have hle64 := h.le64
  have hge := h.ge
  have hr := h.right
  have hlen : ((entF 0 (SlS.tl E (E.i 8).toNat)).length : Int) = 3 * E.i 8 := by rw [ent_len]; omega
  by_cases hf : E.i 8 < E.i 4
  · obtain ⟨B', hrun, hrow⟩ := swp_few hr (G := ⟨mn, lt, 0⟩) (B := B) (l := entF 0 (SlS.tl E (E.i 8).toNat)) (show ((entF 0 (SlS.tl E (E.i 8).toNat)).length : Int) / 3 < E.i 4 by omega) (m := 300) (by omega)
    refine ⟨_, _, _, _, hrun, rfl, ?_, ?_, ?_, ?_, by rw [hrow, clr_len], fun x h1 h2 => ?_⟩
    · simp only [Swp.enc, List.length_cons, List.length_append, List.length_nil]
      omega
    · show (entF 0 (SlS.tl E (E.i 8).toNat)).length ≤ 192
      omega
    · show (0 : Nat) ≤ 64
      omega
    · exact (if_pos hf).symm
    · have hrow' : B'.row = (St.Cl E).clr 0 (St.Cl E).s.toNat B.row := hrow
      rw [hrow', clr_meta hr (th := 0) ⟨by decide, hn.1⟩, hw x h1 h2, if_pos (.inl hf)]
  · have hk : E.i 4 ≤ E.i 8 := by omega
    obtain ⟨B', hrun, hrow⟩ := swp_many hr (G := ⟨mn, lt, 0⟩) (B := B) (l := entF 0 (SlS.tl E (E.i 8).toNat)) (show E.i 4 ≤ ((entF 0 (SlS.tl E (E.i 8).toNat)).length : Int) / 3 by omega) (by omega) (m := 300) (by omega)
    have hsl : (((St.Cl E).saw 0 B.row).length : Int) = E.i 0 * E.i 1 := St.saw_len (St.Cl E) hr 0 B.row
    have hb := splitF_both ((St.Cl E).saw 0 B.row) (entF 0 (SlS.tl E (E.i 8).toNat))
    have hle2 : ((St.Cl E).kept 0 B.row (entF 0 (SlS.tl E (E.i 8).toNat))).length ≤ 192 := by
      show (splitF true ((St.Cl E).saw 0 B.row) _).length ≤ 192
      omega
    refine ⟨_, _, _, _, hrun, rfl, ?_, hle2, ?_, ?_, by rw [hrow, free_len, clr_len], fun x h1 h2 => ?_⟩
    · simp only [Swp.enc, List.length_cons, List.length_append, List.length_nil]
      omega
    · show ((St.Cl E).saw 0 B.row).length ≤ 64
      omega
    · exact (if_neg hf).symm
    · have hlr : (((St.Cl E).clr 0 (St.Cl E).s.toNat B.row).length : Int) = lenF (St.Cl E).t (St.Cl E).s (St.Cl E).c (St.Cl E).h (St.Cl E).k (St.Cl E).e (St.Cl E).l := by rw [clr_len]; exact hl
      have hff : ∀ n ∈ firsts ((St.Cl E).gone 0 B.row (entF 0 (SlS.tl E (E.i 8).toNat))), ∃ i, 1 ≤ i ∧ i ≤ (St.Cl E).c ∧ n = 9223372036854775808 + i := fun y hy => by
        obtain ⟨i, g1, g2, g3⟩ := gone_form E _ _ y hy
        exact ⟨i, g1, (show i ≤ E.i 2 by omega), g3⟩
      have hm : 9223372036854775808 + x ∈ firsts ((St.Cl E).gone 0 B.row (entF 0 (SlS.tl E (E.i 8).toNat))) ↔ _ := gone_mem E ((St.Cl E).saw 0 B.row) h1 (E.i 8).toNat
      have hrow' : B'.row = (St.Cl E).freed ((St.Cl E).gone 0 B.row (entF 0 (SlS.tl E (E.i 8).toNat))) ((St.Cl E).clr 0 (St.Cl E).s.toNat B.row) := hrow
      show _ = if _ ∨ idxF _ _ 0 ((St.Cl E).saw 0 B.row) ≥ 0 then _ else _
      rw [hrow', free_meta hr ⟨h1, (show x ≤ E.i 2 by omega)⟩ _ _ hff hlr, clr_meta hr (th := 0) ⟨by decide, hn.1⟩, hw x h1 h2]
      by_cases hc : idxF (E.t 0 (x - 1).toNat 1) (E.t 0 (x - 1).toNat 2) 0 ((St.Cl E).saw 0 B.row) ≥ 0
      · rw [if_neg (fun hg => (hm.1 hg).2 hc), if_pos (.inr hc)]
      · rw [if_pos (hm.2 ⟨by omega, hc⟩), if_neg (fun hg => hg.elim hf hc)]
        rfl
end Go.Proofs.Ytafemlljemhkhaa.Sx
