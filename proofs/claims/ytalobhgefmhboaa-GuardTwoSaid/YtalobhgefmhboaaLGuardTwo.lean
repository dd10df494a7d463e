/-
  The law GuardTwo, run on unknowns, from one loop's head to the next.
-/
import Derived.Test.YtalobhgefmhboaaLGuardTwoB1
namespace Go.Proofs.Ytalobhgefmhboaa.Sx.LGuardTwo
open Go Go.Proofs.Ytalobhgefmhboaa.Sx
set_option linter.unusedSectionVars false
set_option linter.unusedVariables false
set_option linter.unusedSimpArgs false
set_option maxRecDepth 1000000

theorem f0_3 (E : Env) (h : ∀ b ∈ cut0.fs, @BE.val E b = true) : @BE.val E ((.cmp .eql (.len (.latom 1212)) (.nat (.fn 2 cfgL)))) = true := h _ (List.mem_of_getElem? (i := 3) rfl)
theorem f0_26 (E : Env) (h : ∀ b ∈ cut0.fs, @BE.val E b = true) : @BE.val E ((.cmp .neq (.fn 1 cfgL) (.lit 0))) = true := h _ (List.mem_of_getElem? (i := 26) rfl)
theorem f1_0 (E : Env) (h : ∀ b ∈ cut1.fs, @BE.val E b = true) : @BE.val E ((.cmp .eql (.len (.latom 1210)) (.nat (.fn 2 cfgL)))) = true := h _ (List.mem_of_getElem? (i := 0) rfl)
theorem f1_2 (E : Env) (h : ∀ b ∈ cut1.fs, @BE.val E b = true) : @BE.val E ((.cmp .lss (.atom 1187) (.atom 1))) = true := h _ (List.mem_of_getElem? (i := 2) rfl)
theorem f1_8 (E : Env) (h : ∀ b ∈ cut1.fs, @BE.val E b = true) : @BE.val E ((.cmp .leq (.lit 0) (.atom 1186))) = true := h _ (List.mem_of_getElem? (i := 8) rfl)
theorem f1_9 (E : Env) (h : ∀ b ∈ cut1.fs, @BE.val E b = true) : @BE.val E ((.cmp .lss (.atom 1186) (.nat (.atom 8)))) = true := h _ (List.mem_of_getElem? (i := 9) rfl)
theorem f1_13 (E : Env) (h : ∀ b ∈ cut1.fs, @BE.val E b = true) : @BE.val E ((.cmp .leq (.nat (.atom 8)) (.lit 40))) = true := h _ (List.mem_of_getElem? (i := 13) rfl)
theorem f1_14 (E : Env) (h : ∀ b ∈ cut1.fs, @BE.val E b = true) : @BE.val E ((.cmp .leq (.lit 2) (.atom 0))) = true := h _ (List.mem_of_getElem? (i := 14) rfl)
theorem f1_32 (E : Env) (h : ∀ b ∈ cut1.fs, @BE.val E b = true) : @BE.val E ((.cmp .neq (.fn 1 cfgL) (.lit 0))) = true := h _ (List.mem_of_getElem? (i := 32) rfl)
theorem f2_0 (E : Env) (h : ∀ b ∈ cut2.fs, @BE.val E b = true) : @BE.val E ((.cmp .eql (.len (.latom 1210)) (.nat (.fn 2 cfgL)))) = true := h _ (List.mem_of_getElem? (i := 0) rfl)
theorem f2_2 (E : Env) (h : ∀ b ∈ cut2.fs, @BE.val E b = true) : @BE.val E ((.cmp .leq (.atom 1) (.atom 1187))) = true := h _ (List.mem_of_getElem? (i := 2) rfl)
theorem f2_8 (E : Env) (h : ∀ b ∈ cut2.fs, @BE.val E b = true) : @BE.val E ((.cmp .leq (.lit 0) (.atom 1186))) = true := h _ (List.mem_of_getElem? (i := 8) rfl)
theorem f2_9 (E : Env) (h : ∀ b ∈ cut2.fs, @BE.val E b = true) : @BE.val E ((.cmp .lss (.atom 1186) (.nat (.atom 8)))) = true := h _ (List.mem_of_getElem? (i := 9) rfl)
theorem f2_13 (E : Env) (h : ∀ b ∈ cut2.fs, @BE.val E b = true) : @BE.val E ((.cmp .leq (.nat (.atom 8)) (.lit 40))) = true := h _ (List.mem_of_getElem? (i := 13) rfl)
theorem f2_14 (E : Env) (h : ∀ b ∈ cut2.fs, @BE.val E b = true) : @BE.val E ((.cmp .leq (.lit 2) (.atom 0))) = true := h _ (List.mem_of_getElem? (i := 14) rfl)
theorem f2_32 (E : Env) (h : ∀ b ∈ cut2.fs, @BE.val E b = true) : @BE.val E ((.cmp .neq (.fn 1 cfgL) (.lit 0))) = true := h _ (List.mem_of_getElem? (i := 32) rfl)
theorem f3_1 (E : Env) (h : ∀ b ∈ cut3.fs, @BE.val E b = true) : @BE.val E ((.cmp .eql (.len (.latom 1211)) (.nat (.fn 2 cfgL)))) = true := h _ (List.mem_of_getElem? (i := 1) rfl)
theorem f3_2 (E : Env) (h : ∀ b ∈ cut3.fs, @BE.val E b = true) : @BE.val E ((.cmp .lss (.atom 1189) (.atom 1))) = true := h _ (List.mem_of_getElem? (i := 2) rfl)
theorem f3_5 (E : Env) (h : ∀ b ∈ cut3.fs, @BE.val E b = true) : @BE.val E ((.cmp .leq (.lit 0) (.atom 1186))) = true := h _ (List.mem_of_getElem? (i := 5) rfl)
theorem f3_6 (E : Env) (h : ∀ b ∈ cut3.fs, @BE.val E b = true) : @BE.val E ((.cmp .lss (.atom 1186) (.nat (.atom 8)))) = true := h _ (List.mem_of_getElem? (i := 6) rfl)
theorem f3_10 (E : Env) (h : ∀ b ∈ cut3.fs, @BE.val E b = true) : @BE.val E ((.cmp .leq (.nat (.atom 8)) (.lit 40))) = true := h _ (List.mem_of_getElem? (i := 10) rfl)
theorem f3_11 (E : Env) (h : ∀ b ∈ cut3.fs, @BE.val E b = true) : @BE.val E ((.cmp .leq (.lit 2) (.atom 0))) = true := h _ (List.mem_of_getElem? (i := 11) rfl)
theorem f3_29 (E : Env) (h : ∀ b ∈ cut3.fs, @BE.val E b = true) : @BE.val E ((.cmp .neq (.fn 1 cfgL) (.lit 0))) = true := h _ (List.mem_of_getElem? (i := 29) rfl)
theorem f4_1 (E : Env) (h : ∀ b ∈ cut4.fs, @BE.val E b = true) : @BE.val E ((.cmp .eql (.len (.latom 1211)) (.nat (.fn 2 cfgL)))) = true := h _ (List.mem_of_getElem? (i := 1) rfl)
theorem f4_2 (E : Env) (h : ∀ b ∈ cut4.fs, @BE.val E b = true) : @BE.val E ((.cmp .leq (.atom 1) (.atom 1189))) = true := h _ (List.mem_of_getElem? (i := 2) rfl)
theorem f4_5 (E : Env) (h : ∀ b ∈ cut4.fs, @BE.val E b = true) : @BE.val E ((.cmp .leq (.lit 0) (.atom 1186))) = true := h _ (List.mem_of_getElem? (i := 5) rfl)
theorem f4_6 (E : Env) (h : ∀ b ∈ cut4.fs, @BE.val E b = true) : @BE.val E ((.cmp .lss (.atom 1186) (.nat (.atom 8)))) = true := h _ (List.mem_of_getElem? (i := 6) rfl)
theorem f4_10 (E : Env) (h : ∀ b ∈ cut4.fs, @BE.val E b = true) : @BE.val E ((.cmp .leq (.nat (.atom 8)) (.lit 40))) = true := h _ (List.mem_of_getElem? (i := 10) rfl)
theorem f4_11 (E : Env) (h : ∀ b ∈ cut4.fs, @BE.val E b = true) : @BE.val E ((.cmp .leq (.lit 2) (.atom 0))) = true := h _ (List.mem_of_getElem? (i := 11) rfl)
theorem f4_29 (E : Env) (h : ∀ b ∈ cut4.fs, @BE.val E b = true) : @BE.val E ((.cmp .neq (.fn 1 cfgL) (.lit 0))) = true := h _ (List.mem_of_getElem? (i := 29) rfl)
theorem f5_0 (E : Env) (h : ∀ b ∈ cut5.fs, @BE.val E b = true) : @BE.val E (.cmp .leq (.lit 0) (.atom 3200)) = true := h _ (List.mem_of_getElem? (i := 0) rfl)
def RW (E : Env) (P Q R : List Int) : Prop := ∀ j, 0 ≤ j → j < E.i 1 → hadF (rsvE E 0 j) P = hadF (rsvE E 0 j) Q ∧ hadF (rsvE E 1 j) P = hadF (rsvE E 1 j) R
def Bnd (E : Env) : Prop := 0 ≤ E.i 1187 ∧ E.i 1187 ≤ E.i 1186 ∧ 0 ≤ E.i 1189 ∧ E.i 1189 ≤ E.i 1186
def Phi : Nat → Env → Prop
  | 0, E => RW E (E.l 1212) (E.l 1210) (E.l 1211) ∧ Bnd E
  | 1, E => RW E (E.l 1212) (E.l 1210) (E.l 1211) ∧ Bnd E ∧ ((E.l 1212).length : Int) = lenE E
  | 2, E => RW E (E.l 1212) (E.l 1210) (E.l 1211) ∧ Bnd E ∧ ((E.l 1212).length : Int) = lenE E
  | 3, E => RW E (E.l 1212) (E.l 1210) (E.l 1211) ∧ Bnd E ∧ ((E.l 1212).length : Int) = lenE E
  | 4, E => RW E (E.l 1212) (E.l 1210) (E.l 1211) ∧ Bnd E ∧ ((E.l 1212).length : Int) = lenE E
  | 5, E => RW E (E.l 1212) (E.l 1210) (E.l 1211)
  | _, _ => True

theorem rwA {E : Env} (hr : rightE E) (h2 : 2 ≤ E.i 0) {P Q R : List Int} (lP : (P.length : Int) = lenE E) (lQ : (Q.length : Int) = lenE E) {k v : Int} (hk : 0 ≤ k ∧ k < E.i 1) (h : RW E P Q R) : RW E (updF (rsvE E 0 k) v P) (updF (rsvE E 0 k) v Q) R := by
  intro j j0 j1
  have hne : rsvE E 1 j ≠ rsvE E 0 k := fun he => by
    have := (reserved_inj hr ⟨by omega, by omega⟩ ⟨j0, j1⟩ ⟨Int.le_refl _, by omega⟩ hk he).1
    omega
  refine ⟨?_, by rw [hadF_other hne]; exact (h j j0 j1).2⟩
  by_cases e : j = k
  · subst e
    rw [hadF_same (rsvE_in hr ⟨Int.le_refl _, by omega⟩ hk lP) rfl, hadF_same (rsvE_in hr ⟨Int.le_refl _, by omega⟩ hk lQ) rfl]
  · have hne2 : rsvE E 0 j ≠ rsvE E 0 k := fun he => e (reserved_inj hr ⟨Int.le_refl _, by omega⟩ ⟨j0, j1⟩ ⟨Int.le_refl _, by omega⟩ hk he).2
    rw [hadF_other hne2, hadF_other hne2]; exact (h j j0 j1).1
theorem rwB {E : Env} (hr : rightE E) (h2 : 2 ≤ E.i 0) {P Q R : List Int} (lP : (P.length : Int) = lenE E) (lR : (R.length : Int) = lenE E) {k v : Int} (hk : 0 ≤ k ∧ k < E.i 1) (h : RW E P Q R) : RW E (updF (rsvE E 1 k) v P) Q (updF (rsvE E 1 k) v R) := by
  intro j j0 j1
  have hne : rsvE E 0 j ≠ rsvE E 1 k := fun he => by
    have := (reserved_inj hr ⟨Int.le_refl _, by omega⟩ ⟨j0, j1⟩ ⟨by omega, by omega⟩ hk he).1
    omega
  refine ⟨by rw [hadF_other hne]; exact (h j j0 j1).1, ?_⟩
  by_cases e : j = k
  · subst e
    rw [hadF_same (rsvE_in hr ⟨by omega, by omega⟩ hk lP) rfl, hadF_same (rsvE_in hr ⟨by omega, by omega⟩ hk lR) rfl]
  · have hne2 : rsvE E 1 j ≠ rsvE E 1 k := fun he => e (reserved_inj hr ⟨by omega, by omega⟩ ⟨j0, j1⟩ ⟨by omega, by omega⟩ hk he).2
    rw [hadF_other hne2, hadF_other hne2]; exact (h j j0 j1).2
theorem lenq {E : Env} (hr : rightE E) {n : Int} (h : n = lenE E) : (n == ((lenE E).toNat : Int)) = true := by
  have h1 : lenE E = lenF (E.i 0) (E.i 1) (E.i 2) (E.i 3) (E.i 4) (E.i 5) (E.i 6) := rfl
  have h0 : 0 ≤ lenE E := by
    have := (reserved_rng (t := E.i 0) (s := E.i 1) (c := E.i 2) (h := E.i 3) (k := E.i 4) (e := E.i 5) (l := E.i 6) (a := 0) (b := 0) hr (Int.le_refl _) (by have := hr.1; omega) (Int.le_refl _) (by have := hr.2.2.1; omega))
    omega
  rw [h, Int.toNat_of_nonneg h0]; simp
theorem runS (E : Env) (h1 : symRng E pks 0 0) : ObsOk E Phi obS := by
  refine ⟨fun hc => ⟨fun j _ _ => ⟨rfl, rfl⟩, ?_⟩, trivial⟩
  exact ⟨Int.le_refl _, Int.le_refl _, Int.le_refl _, Int.le_refl _⟩
theorem run0_0 (E : Env) (hfs : ∀ b ∈ cut0.fs, @BE.val E b = true) (hphi : Phi 0 E) (htab : TabR (tabsOf pks 0) E) : ObsOk E Phi ob0_0 := by
  have hr : rightE E := right_of (f0_26 E hfs)
  have hl : ((E.l 1212).length : Int) = lenE E := lenR_of (f0_3 E hfs) hr
  obtain ⟨p, q⟩ := hphi
  refine ⟨fun _ => decide_eq_true q.1, fun _ => ⟨p, q, hl⟩, fun _ => ⟨p, q, hl⟩, fun _ => decide_eq_true q.2.2.1, fun _ => ⟨p, q, hl⟩, fun _ => ⟨p, q, hl⟩, fun _ => decide_eq_true q.2.2.1, fun _ => ⟨p, q, hl⟩, fun _ => ⟨p, q, hl⟩, fun _ => p, trivial⟩
theorem run1_0 (E : Env) (hfs : ∀ b ∈ cut1.fs, @BE.val E b = true) (hphi : Phi 1 E) (htab : TabR (tabsOf pks 0) E) : ObsOk E Phi ob1_0 := by
  have hr : rightE E := right_of (f1_32 E hfs)
  have hq : ((E.l 1210).length : Int) = lenE E := lenR_of (f1_0 E hfs) hr
  have h2 : (2 : Int) ≤ E.i 0 := of_decide_eq_true (f1_14 E hfs)
  have k0 : (0 : Int) ≤ E.i 1186 := of_decide_eq_true (f1_8 E hfs)
  have k1 : E.i 1186 < ((E.i 8).toNat : Int) := of_decide_eq_true (f1_9 E hfs)
  have k2 : ((E.i 8).toNat : Int) ≤ 40 := of_decide_eq_true (f1_13 E hfs)
  have s1 : (1 : Int) ≤ E.i 1 := hr.2.2.1
  obtain ⟨p, ⟨q1, q2, q3, q4⟩, hl⟩ := hphi
  have w1 : IntKind.i64.wrap (E.i 1186 + 1) = E.i 1186 + 1 := wrap64_small (by omega) (by omega)
  have w2 : IntKind.i64.wrap (E.i 1187 + 1) = E.i 1187 + 1 := wrap64_small (by omega) (by omega)
  have m1 : E.i 1187 < E.i 1 := of_decide_eq_true (f1_2 E hfs)
  have step : RW E (updF (rsvE E 0 (E.i 1187)) (E.t 0 (E.i 1186).toNat 0) (E.l 1212)) (updF (rsvE E 0 (E.i 1187)) (E.t 0 (E.i 1186).toNat 0) (E.l 1210)) (E.l 1211) := rwA hr h2 hl hq ⟨q1, m1⟩ p
  have bl : (((updF (rsvE E 0 (E.i 1187)) (E.t 0 (E.i 1186).toNat 0) (E.l 1212)).length : Int) == ((lenE E).toNat : Int)) = true := by rw [length_updF]; exact lenq hr hl
  exact ⟨fun _ => bl, fun _ => ⟨step, ⟨(show (0 : Int) ≤ IntKind.i64.wrap (E.i 1187 + 1) by rw [w2]; omega), (show IntKind.i64.wrap (E.i 1187 + 1) ≤ IntKind.i64.wrap (E.i 1186 + 1) by rw [w1, w2]; omega), (show (0 : Int) ≤ E.i 1189 by omega), (show E.i 1189 ≤ IntKind.i64.wrap (E.i 1186 + 1) by rw [w1]; omega)⟩⟩, fun _ => bl, fun _ => ⟨step, ⟨(show (0 : Int) ≤ IntKind.i64.wrap (E.i 1187 + 1) by rw [w2]; omega), (show IntKind.i64.wrap (E.i 1187 + 1) ≤ IntKind.i64.wrap (E.i 1186 + 1) by rw [w1, w2]; omega), (show (0 : Int) ≤ E.i 1189 by omega), (show E.i 1189 ≤ IntKind.i64.wrap (E.i 1186 + 1) by rw [w1]; omega)⟩⟩, trivial⟩
theorem run2_0 (E : Env) (hfs : ∀ b ∈ cut2.fs, @BE.val E b = true) (hphi : Phi 2 E) (htab : TabR (tabsOf pks 0) E) : ObsOk E Phi ob2_0 := by
  have hr : rightE E := right_of (f2_32 E hfs)
  have hq : ((E.l 1210).length : Int) = lenE E := lenR_of (f2_0 E hfs) hr
  have h2 : (2 : Int) ≤ E.i 0 := of_decide_eq_true (f2_14 E hfs)
  have k0 : (0 : Int) ≤ E.i 1186 := of_decide_eq_true (f2_8 E hfs)
  have k1 : E.i 1186 < ((E.i 8).toNat : Int) := of_decide_eq_true (f2_9 E hfs)
  have k2 : ((E.i 8).toNat : Int) ≤ 40 := of_decide_eq_true (f2_13 E hfs)
  have s1 : (1 : Int) ≤ E.i 1 := hr.2.2.1
  obtain ⟨p, ⟨q1, q2, q3, q4⟩, hl⟩ := hphi
  have w1 : IntKind.i64.wrap (E.i 1186 + 1) = E.i 1186 + 1 := wrap64_small (by omega) (by omega)
  have w2 : IntKind.i64.wrap (E.i 1187 + 1) = E.i 1187 + 1 := wrap64_small (by omega) (by omega)
  have m1 : E.i 1 ≤ E.i 1187 := of_decide_eq_true (f2_2 E hfs)
  have step : RW E (updF (rsvE E 0 (0)) (E.t 0 (E.i 1186).toNat 0) (E.l 1212)) (updF (rsvE E 0 (0)) (E.t 0 (E.i 1186).toNat 0) (E.l 1210)) (E.l 1211) := rwA hr h2 hl hq ⟨Int.le_refl _, by omega⟩ p
  have bl : (((updF (rsvE E 0 (0)) (E.t 0 (E.i 1186).toNat 0) (E.l 1212)).length : Int) == ((lenE E).toNat : Int)) = true := by rw [length_updF]; exact lenq hr hl
  have no : (((E.i 8).toNat : Int) < E.i 1) → False := fun h9 => by omega
  exact ⟨fun hc => (no (of_decide_eq_true hc.1)).elim, fun _ => bl, fun _ => ⟨step, ⟨(show (0 : Int) ≤ 1 by omega), (show (1 : Int) ≤ IntKind.i64.wrap (E.i 1186 + 1) by rw [w1]; omega), (show (0 : Int) ≤ E.i 1189 by omega), (show E.i 1189 ≤ IntKind.i64.wrap (E.i 1186 + 1) by rw [w1]; omega)⟩⟩, fun hc => (no (of_decide_eq_true hc.1)).elim, fun _ => bl, fun _ => ⟨step, ⟨(show (0 : Int) ≤ 1 by omega), (show (1 : Int) ≤ IntKind.i64.wrap (E.i 1186 + 1) by rw [w1]; omega), (show (0 : Int) ≤ E.i 1189 by omega), (show E.i 1189 ≤ IntKind.i64.wrap (E.i 1186 + 1) by rw [w1]; omega)⟩⟩, trivial⟩
theorem run3_0 (E : Env) (hfs : ∀ b ∈ cut3.fs, @BE.val E b = true) (hphi : Phi 3 E) (htab : TabR (tabsOf pks 0) E) : ObsOk E Phi ob3_0 := by
  have hr : rightE E := right_of (f3_29 E hfs)
  have hq : ((E.l 1211).length : Int) = lenE E := lenR_of (f3_1 E hfs) hr
  have h2 : (2 : Int) ≤ E.i 0 := of_decide_eq_true (f3_11 E hfs)
  have k0 : (0 : Int) ≤ E.i 1186 := of_decide_eq_true (f3_5 E hfs)
  have k1 : E.i 1186 < ((E.i 8).toNat : Int) := of_decide_eq_true (f3_6 E hfs)
  have k2 : ((E.i 8).toNat : Int) ≤ 40 := of_decide_eq_true (f3_10 E hfs)
  have s1 : (1 : Int) ≤ E.i 1 := hr.2.2.1
  obtain ⟨p, ⟨q1, q2, q3, q4⟩, hl⟩ := hphi
  have w1 : IntKind.i64.wrap (E.i 1186 + 1) = E.i 1186 + 1 := wrap64_small (by omega) (by omega)
  have w2 : IntKind.i64.wrap (E.i 1189 + 1) = E.i 1189 + 1 := wrap64_small (by omega) (by omega)
  have m1 : E.i 1189 < E.i 1 := of_decide_eq_true (f3_2 E hfs)
  have step : RW E (updF (rsvE E 1 (E.i 1189)) (E.t 0 (E.i 1186).toNat 0) (E.l 1212)) (E.l 1210) (updF (rsvE E 1 (E.i 1189)) (E.t 0 (E.i 1186).toNat 0) (E.l 1211)) := rwB hr h2 hl hq ⟨q3, m1⟩ p
  have bl : (((updF (rsvE E 1 (E.i 1189)) (E.t 0 (E.i 1186).toNat 0) (E.l 1212)).length : Int) == ((lenE E).toNat : Int)) = true := by rw [length_updF]; exact lenq hr hl
  exact ⟨fun _ => bl, fun _ => ⟨step, ⟨(show (0 : Int) ≤ E.i 1187 by omega), (show E.i 1187 ≤ IntKind.i64.wrap (E.i 1186 + 1) by rw [w1]; omega), (show (0 : Int) ≤ IntKind.i64.wrap (E.i 1189 + 1) by rw [w2]; omega), (show IntKind.i64.wrap (E.i 1189 + 1) ≤ IntKind.i64.wrap (E.i 1186 + 1) by rw [w1, w2]; omega)⟩⟩, fun _ => bl, fun _ => ⟨step, ⟨(show (0 : Int) ≤ E.i 1187 by omega), (show E.i 1187 ≤ IntKind.i64.wrap (E.i 1186 + 1) by rw [w1]; omega), (show (0 : Int) ≤ IntKind.i64.wrap (E.i 1189 + 1) by rw [w2]; omega), (show IntKind.i64.wrap (E.i 1189 + 1) ≤ IntKind.i64.wrap (E.i 1186 + 1) by rw [w1, w2]; omega)⟩⟩, trivial⟩
theorem run4_0 (E : Env) (hfs : ∀ b ∈ cut4.fs, @BE.val E b = true) (hphi : Phi 4 E) (htab : TabR (tabsOf pks 0) E) : ObsOk E Phi ob4_0 := by
  have hr : rightE E := right_of (f4_29 E hfs)
  have hq : ((E.l 1211).length : Int) = lenE E := lenR_of (f4_1 E hfs) hr
  have h2 : (2 : Int) ≤ E.i 0 := of_decide_eq_true (f4_11 E hfs)
  have k0 : (0 : Int) ≤ E.i 1186 := of_decide_eq_true (f4_5 E hfs)
  have k1 : E.i 1186 < ((E.i 8).toNat : Int) := of_decide_eq_true (f4_6 E hfs)
  have k2 : ((E.i 8).toNat : Int) ≤ 40 := of_decide_eq_true (f4_10 E hfs)
  have s1 : (1 : Int) ≤ E.i 1 := hr.2.2.1
  obtain ⟨p, ⟨q1, q2, q3, q4⟩, hl⟩ := hphi
  have w1 : IntKind.i64.wrap (E.i 1186 + 1) = E.i 1186 + 1 := wrap64_small (by omega) (by omega)
  have w2 : IntKind.i64.wrap (E.i 1189 + 1) = E.i 1189 + 1 := wrap64_small (by omega) (by omega)
  have m1 : E.i 1 ≤ E.i 1189 := of_decide_eq_true (f4_2 E hfs)
  have step : RW E (updF (rsvE E 1 (0)) (E.t 0 (E.i 1186).toNat 0) (E.l 1212)) (E.l 1210) (updF (rsvE E 1 (0)) (E.t 0 (E.i 1186).toNat 0) (E.l 1211)) := rwB hr h2 hl hq ⟨Int.le_refl _, by omega⟩ p
  have bl : (((updF (rsvE E 1 (0)) (E.t 0 (E.i 1186).toNat 0) (E.l 1212)).length : Int) == ((lenE E).toNat : Int)) = true := by rw [length_updF]; exact lenq hr hl
  have no : (((E.i 8).toNat : Int) < E.i 1) → False := fun h9 => by omega
  exact ⟨fun hc => (no (of_decide_eq_true hc.1)).elim, fun _ => bl, fun _ => ⟨step, ⟨(show (0 : Int) ≤ E.i 1187 by omega), (show E.i 1187 ≤ IntKind.i64.wrap (E.i 1186 + 1) by rw [w1]; omega), (show (0 : Int) ≤ 1 by omega), (show (1 : Int) ≤ IntKind.i64.wrap (E.i 1186 + 1) by rw [w1]; omega)⟩⟩, fun hc => (no (of_decide_eq_true hc.1)).elim, fun _ => bl, fun _ => ⟨step, ⟨(show (0 : Int) ≤ E.i 1187 by omega), (show E.i 1187 ≤ IntKind.i64.wrap (E.i 1186 + 1) by rw [w1]; omega), (show (0 : Int) ≤ 1 by omega), (show (1 : Int) ≤ IntKind.i64.wrap (E.i 1186 + 1) by rw [w1]; omega)⟩⟩, trivial⟩
theorem run5_0 (E : Env) (hfs : ∀ b ∈ cut5.fs, @BE.val E b = true) (hphi : Phi 5 E) (htab : TabR (tabsOf pks 0) E) : ObsOk E Phi ob5_0 := by
  have k0 : (0 : Int) ≤ E.i 3200 := of_decide_eq_true (f5_0 E hfs)
  refine ⟨fun hc => ?_, fun hc => ?_, fun hc => hphi, trivial⟩
  · exfalso
    have h1 : (hadF (rsvE E 0 (E.i 3200)) (E.l 1212) != hadF (rsvE E 0 (E.i 3200)) (E.l 1210)) = true := hc.1
    rw [(hphi (E.i 3200) k0 (of_decide_eq_true hc.2.1)).1] at h1
    simp at h1
  · exfalso
    have h1 : (hadF (rsvE E 1 (E.i 3200)) (E.l 1212) != hadF (rsvE E 1 (E.i 3200)) (E.l 1211)) = true := hc.1
    rw [(hphi (E.i 3200) k0 (of_decide_eq_true hc.2.2.1)).2] at h1
    simp at h1
theorem part0 (E : Env) (hfs : ∀ b ∈ cut0.fs, @BE.val E b = true) (hphi : Phi 0 E) (htab : TabR (tabsOf pks 0) E) : ∃ (ex : List BE) (rw : List (IE × IE)), (∀ b ∈ ex, @BE.val E b = true) ∧ Owed E Phi (oweAtR (tabsOf pks 0) ths [] Try.prog Try.f5 (rootOf Try.f5) base7 (extraS Try.prog) cuts cut0 ex rw) :=
  ⟨[], rw0, Bk.nn, Owed.eq (@e0_0 E) (run0_0 E hfs hphi htab)⟩
theorem part1 (E : Env) (hfs : ∀ b ∈ cut1.fs, @BE.val E b = true) (hphi : Phi 1 E) (htab : TabR (tabsOf pks 0) E) : ∃ (ex : List BE) (rw : List (IE × IE)), (∀ b ∈ ex, @BE.val E b = true) ∧ Owed E Phi (oweAtR (tabsOf pks 0) ths [] Try.prog Try.f5 (rootOf Try.f5) base7 (extraS Try.prog) cuts cut1 ex rw) :=
  ⟨[], rw1, Bk.nn, Owed.eq (@e1_0 E) (run1_0 E hfs hphi htab)⟩
theorem part2 (E : Env) (hfs : ∀ b ∈ cut2.fs, @BE.val E b = true) (hphi : Phi 2 E) (htab : TabR (tabsOf pks 0) E) : ∃ (ex : List BE) (rw : List (IE × IE)), (∀ b ∈ ex, @BE.val E b = true) ∧ Owed E Phi (oweAtR (tabsOf pks 0) ths [] Try.prog Try.f5 (rootOf Try.f5) base7 (extraS Try.prog) cuts cut2 ex rw) :=
  ⟨[], rw2, Bk.nn, Owed.eq (@e2_0 E) (run2_0 E hfs hphi htab)⟩
theorem part3 (E : Env) (hfs : ∀ b ∈ cut3.fs, @BE.val E b = true) (hphi : Phi 3 E) (htab : TabR (tabsOf pks 0) E) : ∃ (ex : List BE) (rw : List (IE × IE)), (∀ b ∈ ex, @BE.val E b = true) ∧ Owed E Phi (oweAtR (tabsOf pks 0) ths [] Try.prog Try.f5 (rootOf Try.f5) base7 (extraS Try.prog) cuts cut3 ex rw) :=
  ⟨[], rw3, Bk.nn, Owed.eq (@e3_0 E) (run3_0 E hfs hphi htab)⟩
theorem part4 (E : Env) (hfs : ∀ b ∈ cut4.fs, @BE.val E b = true) (hphi : Phi 4 E) (htab : TabR (tabsOf pks 0) E) : ∃ (ex : List BE) (rw : List (IE × IE)), (∀ b ∈ ex, @BE.val E b = true) ∧ Owed E Phi (oweAtR (tabsOf pks 0) ths [] Try.prog Try.f5 (rootOf Try.f5) base7 (extraS Try.prog) cuts cut4 ex rw) :=
  ⟨[], rw4, Bk.nn, Owed.eq (@e4_0 E) (run4_0 E hfs hphi htab)⟩
theorem part5 (E : Env) (hfs : ∀ b ∈ cut5.fs, @BE.val E b = true) (hphi : Phi 5 E) (htab : TabR (tabsOf pks 0) E) : ∃ (ex : List BE) (rw : List (IE × IE)), (∀ b ∈ ex, @BE.val E b = true) ∧ Owed E Phi (oweAtR (tabsOf pks 0) ths [] Try.prog Try.f5 (rootOf Try.f5) base7 (extraS Try.prog) cuts cut5 ex rw) :=
  ⟨[], rw5, Bk.nn, Owed.eq (@e5_0 E) (run5_0 E hfs hphi htab)⟩
theorem runsM (E : Env) (i : Nat) (k : Cut) (hi : cuts[i]? = some k) (hfs : ∀ b ∈ k.fs, @BE.val E b = true) (hphi : Phi i E) (htab : TabR (tabsOf pks 0) E) : ∃ (ex : List BE) (rw : List (IE × IE)), (∀ b ∈ ex, @BE.val E b = true) ∧ Owed E Phi (oweAtR (tabsOf pks 0) ths [] Try.prog Try.f5 (rootOf Try.f5) base7 (extraS Try.prog) cuts k ex rw) := by
  match i, hi with
  | 0, hi => obtain rfl : cut0 = k := Option.some.inj (show some cut0 = some k from hi); exact part0 E hfs hphi htab
  | 1, hi => obtain rfl : cut1 = k := Option.some.inj (show some cut1 = some k from hi); exact part1 E hfs hphi htab
  | 2, hi => obtain rfl : cut2 = k := Option.some.inj (show some cut2 = some k from hi); exact part2 E hfs hphi htab
  | 3, hi => obtain rfl : cut3 = k := Option.some.inj (show some cut3 = some k from hi); exact part3 E hfs hphi htab
  | 4, hi => obtain rfl : cut4 = k := Option.some.inj (show some cut4 = some k from hi); exact part4 E hfs hphi htab
  | 5, hi => obtain rfl : cut5 = k := Option.some.inj (show some cut5 = some k from hi); exact part5 E hfs hphi htab
  | n + 6, hi => exact absurd hi (by simp [cuts])
theorem startM (E : Env) (h1 : symRng E pks 0 0) : Owed E Phi (oweStartR (tabsOf pks 0) ths [] Try.prog Try.f5 (rootOf Try.f5) base7 (extraS Try.prog) cuts (rngFacts pks 0) (symArgs pks 0 0) (symHeap pks 0 0)) := Owed.eq (@eS E) (runS E h1)
theorem trOk : ∀ i ∈ ([] : List Nat), ∀ E, Phi i E := fun i hi E => by cases hi
theorem bodyOk : Try.f5.body = some (rootOf Try.f5) := by kernel_rfl
theorem law (E : Env) (ρ : Rho) (F : Nat → Nat → Prop) (w : World) (argv : Array Value) (h1 : symRng E pks 0 0) (h2 : @HeapOk E Empty _ ρ F (symHeap pks 0 0) w) (h3 : All2 (@SV.is E ρ) (symArgs pks 0 0) argv.toList) :
    Calls Try.prog 5 argv w fun e w' => e = .returned (.bool true) ∧ ∃ ρ' F', Reach ρ F w ρ' F' w' :=
  floydRM (ts := tabsOf pks 0) mixed_ok (c := @base7) @base7_ok (x := extraS Try.prog) (fun {_} => extraS_ok _) Try.func5 bodyOk ths_ok (tr := []) (Φ := Phi) trOk heads runsM E (tabsOf_ok E h1) (rngFacts_ok E h1) (startM E h1) h2 h3
end Go.Proofs.Ytalobhgefmhboaa.Sx.LGuardTwo
