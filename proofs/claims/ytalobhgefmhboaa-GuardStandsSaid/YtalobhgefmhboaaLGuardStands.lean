/-
  The law GuardStands, run on unknowns, from one loop's head to the next.
-/
import Derived.Test.YtalobhgefmhboaaLGuardStandsB1
namespace Go.Proofs.Ytalobhgefmhboaa.Sx.LGuardStands
open Go Go.Proofs.Ytalobhgefmhboaa.Sx
set_option linter.unusedSectionVars false
set_option linter.unusedVariables false
set_option linter.unusedSimpArgs false
set_option maxRecDepth 1000000

theorem f0_2 (E : Env) (h : ∀ b ∈ cut0.fs, @BE.val E b = true) : @BE.val E ((.cmp .lss (.atom 7) (.atom 0))) = true := h _ (List.mem_of_getElem? (i := 2) rfl)
theorem f0_3 (E : Env) (h : ∀ b ∈ cut0.fs, @BE.val E b = true) : @BE.val E ((.cmp .leq (.lit 0) (.atom 7))) = true := h _ (List.mem_of_getElem? (i := 3) rfl)
theorem f0_6 (E : Env) (h : ∀ b ∈ cut0.fs, @BE.val E b = true) : @BE.val E ((.cmp .eql (.nat (.fn 2 cfgL)) (.fn 2 cfgL))) = true := h _ (List.mem_of_getElem? (i := 6) rfl)
theorem f0_21 (E : Env) (h : ∀ b ∈ cut0.fs, @BE.val E b = true) : @BE.val E ((.cmp .neq (.fn 1 cfgL) (.lit 0))) = true := h _ (List.mem_of_getElem? (i := 21) rfl)
theorem f1_1 (E : Env) (h : ∀ b ∈ cut1.fs, @BE.val E b = true) : @BE.val E ((.cmp .eql (.len (.latom 1617)) (.nat (.fn 2 cfgL)))) = true := h _ (List.mem_of_getElem? (i := 1) rfl)
theorem f1_6 (E : Env) (h : ∀ b ∈ cut1.fs, @BE.val E b = true) : @BE.val E ((.cmp .lss (.atom 7) (.atom 0))) = true := h _ (List.mem_of_getElem? (i := 6) rfl)
theorem f1_7 (E : Env) (h : ∀ b ∈ cut1.fs, @BE.val E b = true) : @BE.val E ((.cmp .leq (.lit 0) (.atom 7))) = true := h _ (List.mem_of_getElem? (i := 7) rfl)
theorem f1_25 (E : Env) (h : ∀ b ∈ cut1.fs, @BE.val E b = true) : @BE.val E ((.cmp .neq (.fn 1 cfgL) (.lit 0))) = true := h _ (List.mem_of_getElem? (i := 25) rfl)
theorem f2_0 (E : Env) (h : ∀ b ∈ cut2.fs, @BE.val E b = true) : @BE.val E (.cmp .leq (.lit 0) (.atom 1350)) = true := h _ (List.mem_of_getElem? (i := 0) rfl)
theorem f3_0 (E : Env) (h : ∀ b ∈ cut3.fs, @BE.val E b = true) : @BE.val E (.cmp .leq (.lit 0) (.atom 1559)) = true := h _ (List.mem_of_getElem? (i := 0) rfl)
theorem f3_4 (E : Env) (h : ∀ b ∈ cut3.fs, @BE.val E b = true) : @BE.val E ((.cmp .lss (.atom 1350) (.len (.latom 1330)))) = true := h _ (List.mem_of_getElem? (i := 4) rfl)
theorem f3_5 (E : Env) (h : ∀ b ∈ cut3.fs, @BE.val E b = true) : @BE.val E ((.cmp .leq (.lit 0) (.atom 1350))) = true := h _ (List.mem_of_getElem? (i := 5) rfl)
theorem f3_30 (E : Env) (h : ∀ b ∈ cut3.fs, @BE.val E b = true) : @BE.val E ((.cmp .neq (.fn 1 cfgL) (.lit 0))) = true := h _ (List.mem_of_getElem? (i := 30) rfl)
def GS (E : Env) (m : Int) (L R : List Int) : Prop := (L.length : Int) = m ∧ 1 ≤ m ∧ m ≤ E.i 1 ∧ ∀ i : Nat, (i : Int) < m → hadF (rsvE E (E.i 7) i) R = L.getD i 0
def Phi : Nat → Env → Prop
  | 1, E => GS E (E.i 1607) (E.l 1609) (E.l 1617)
  | 2, E => GS E (E.i 1329) (E.l 1330) (E.l 1337) ∧ E.i 1328 = ((E.l 1330).length : Int)
  | 3, E => GS E (E.i 1329) (E.l 1330) (E.l 1337) ∧ E.i 1328 = ((E.l 1330).length : Int) ∧ (E.i 1559 ≤ E.i 1350 ∨ E.i 1558 ≠ 0)
  | _, _ => True

theorem had0 {E : Env} (hr : rightE E) {A B : List Int} (hA : (A.length : Int) = lenE E) (hB : (B.length : Int) = lenE E) {a b v : Int} (ha : 0 ≤ a ∧ a < E.i 0) (hb : 0 ≤ b ∧ b < E.i 1) :
    hadF (rsvE E a b) (writeL A (if inF (rsvE E a b) B then rsvE E a b else (B.length : Int)).toNat [v]) = v := by
  have h1 := rsvE_in hr ha hb hB
  have h2 := rsvE_in hr ha hb hA
  have e : rsvE E a b = ((rsvE E a b).toNat : Int) := (Int.toNat_of_nonneg h1.1).symm
  rw [if_pos h1, hadF_write, if_pos ⟨h2, e⟩]
theorem runS (E : Env) (h1 : symRng E pks 0 0) : ObsOk E Phi obS := ⟨fun _ => trivial, trivial⟩
theorem run0_0 (E : Env) (hfs : ∀ b ∈ cut0.fs, @BE.val E b = true) (hphi : Phi 0 E) (htab : TabR (tabsOf pks 0) E) : ObsOk E Phi ob0_0 := by
  have hr : rightE E := right_of (f0_21 E hfs)
  have t0 : (0 : Int) ≤ E.i 7 := of_decide_eq_true (f0_3 E hfs)
  have t1 : E.i 7 < E.i 0 := of_decide_eq_true (f0_2 E hfs)
  have s1 : (1 : Int) ≤ E.i 1 := hr.2.2.1
  have hl0 : ((lenE E).toNat : Int) = lenE E := eq_of_beq (f0_6 E hfs)
  have hrep : ∀ (a : Nat) (b : Int) (c : Nat) (d : Int), ((writeL (writeL (writeL (List.replicate ((lenE E).toNat * 1) (0 : Int)) 0 [1]) a [b]) c [d]).length : Int) = lenE E := fun a b c d => by
    rw [length_write1, length_write1, length_write1, List.length_replicate, Nat.mul_one]; exact hl0
  refine ⟨fun _ => ⟨⟨rfl, Int.le_refl _, s1, fun i hi => ?_⟩, rfl⟩, trivial⟩
  have hi' : (i : Int) < 1 := hi
  obtain rfl : i = 0 := by omega
  exact had0 hr (hrep _ _ _ _) (hrep _ _ _ _) ⟨t0, t1⟩ ⟨Int.le_refl _, by omega⟩
theorem gs_app {E : Env} (hr : rightE E) {t m v : Int} {L R : List Int} (hL : (R.length : Int) = lenE E) (ht : 0 ≤ E.i 7 ∧ E.i 7 < E.i 0) (h : GS E m L R) (hm : m < E.i 1) : GS E (m + 1) (L ++ [v]) (updF (rsvE E (E.i 7) m) v R) := by
  obtain ⟨h1, h2, h3, h4⟩ := h
  refine ⟨by rw [List.length_append]; simp; omega, by omega, by omega, fun i hi => ?_⟩
  by_cases e : (i : Int) = m
  · rw [e, hadF_same (rsvE_in hr ht ⟨by omega, hm⟩ hL) rfl, List.getD_eq_getElem?_getD, List.getElem?_append_right (by omega), show i - L.length = 0 by omega]; rfl
  · have hne : rsvE E (E.i 7) i ≠ rsvE E (E.i 7) m := fun he => e (reserved_inj hr ht ⟨by omega, by omega⟩ ht ⟨by omega, hm⟩ he).2
    rw [hadF_other hne, h4 i (by omega), List.getD_eq_getElem?_getD, List.getD_eq_getElem?_getD, List.getElem?_append_left (by omega)]
theorem gs_one {E : Env} (hr : rightE E) {v : Int} {R : List Int} (hL : (R.length : Int) = lenE E) (ht : 0 ≤ E.i 7 ∧ E.i 7 < E.i 0) : GS E 1 [v] (updF (rsvE E (E.i 7) 0) v R) := by
  have s1 : (1 : Int) ≤ E.i 1 := hr.2.2.1
  refine ⟨rfl, Int.le_refl _, s1, fun i hi => ?_⟩
  obtain rfl : i = 0 := by omega
  exact hadF_same (rsvE_in hr ht ⟨Int.le_refl _, by omega⟩ hL) rfl
theorem run1_0 (E : Env) (hfs : ∀ b ∈ cut1.fs, @BE.val E b = true) (hphi : Phi 1 E) (htab : TabR (tabsOf pks 0) E) : ObsOk E Phi ob1_0 := by
  have hr : rightE E := right_of (f1_25 E hfs)
  have hL : ((E.l 1617).length : Int) = lenE E := lenR_of (f1_1 E hfs) hr
  have t0 : (0 : Int) ≤ E.i 7 := of_decide_eq_true (f1_7 E hfs)
  have t1 : E.i 7 < E.i 0 := of_decide_eq_true (f1_6 E hfs)
  have s8 : E.i 1 ≤ (8 : Int) := hr.2.2.2.1
  have g : GS E (E.i 1607) (E.l 1609) (E.l 1617) := hphi
  obtain ⟨g1, g2, g3, g4⟩ := g
  have w : IntKind.i64.wrap (E.i 1607 + 1) = E.i 1607 + 1 := wrap64_small (by omega) (by omega)
  refine ⟨fun _ => decide_eq_true (show (0 : Int) ≤ E.i 1607 by omega), fun hc => ⟨?_, ?_⟩, fun hc => ?_, fun hc => ⟨gs_one hr hL ⟨t0, t1⟩, rfl⟩, trivial⟩
  · have hm : E.i 1607 < E.i 1 := of_decide_eq_true hc.2.1
    have := gs_app (t := 0) (v := E.t 0 (E.i 1606).toNat 0) hr hL ⟨t0, t1⟩ hphi hm
    show GS E (IntKind.i64.wrap (E.i 1607 + 1)) _ _
    rw [w]; exact this
  · show ((((E.l 1609).length : Int).toNat + (1 : Int).toNat * 1 + 0 : Nat) : Int) = ((E.l 1609 ++ [E.t 0 (E.i 1606).toNat 0]).length : Int)
    rw [List.length_append]; simp
  · have h1 : (1073741824 : Int) < ((((E.l 1609).length : Int).toNat + (1 : Int).toNat * 1 + 0 : Nat) : Int) := of_decide_eq_true hc.1
    simp at h1
    omega
theorem run2_0 (E : Env) (hfs : ∀ b ∈ cut2.fs, @BE.val E b = true) (hphi : Phi 2 E) (htab : TabR (tabsOf pks 0) E) : ObsOk E Phi ob2_0 := by
  have k0 : (0 : Int) ≤ E.i 1350 := of_decide_eq_true (f2_0 E hfs)
  obtain ⟨g, e⟩ := hphi
  refine ⟨fun _ => ⟨g, e, .inl k0⟩, fun hc => ?_, fun hc => ?_, fun _ => g, trivial⟩
  · have h1 : ((E.l 1330).length : Int) ≤ E.i 1350 := of_decide_eq_true hc.1
    have h2 : E.i 1350 < E.i 1328 := of_decide_eq_true hc.2.2.1
    omega
  · exfalso
    have h1 : ((E.l 1330).length : Int) > E.i 1 := of_decide_eq_true hc.1
    have := g.1
    have := g.2.2.1
    omega
theorem run3_0 (E : Env) (hfs : ∀ b ∈ cut3.fs, @BE.val E b = true) (hphi : Phi 3 E) (htab : TabR (tabsOf pks 0) E) : ObsOk E Phi ob3_0 := by
  have hr : rightE E := right_of (f3_30 E hfs)
  have s8 : E.i 1 ≤ (8 : Int) := hr.2.2.2.1
  have k0 : (0 : Int) ≤ E.i 1350 := of_decide_eq_true (f3_5 E hfs)
  have k1 : E.i 1350 < ((E.l 1330).length : Int) := of_decide_eq_true (f3_4 E hfs)
  have r0 : (0 : Int) ≤ E.i 1559 := of_decide_eq_true (f3_0 E hfs)
  obtain ⟨g, e, st⟩ := hphi
  have g1 := g.1
  have g3 := g.2.2.1
  have w : IntKind.i64.wrap (E.i 1350 + 1) = E.i 1350 + 1 := wrap64_small (by omega) (by omega)
  refine ⟨fun _ => ⟨g, e, .inr (by show (1 : Int) ≠ 0; decide)⟩, fun hc => ⟨g, e, ?_⟩, fun hc => ?_, fun hc => ?_, fun hc => decide_eq_true (show (0 : Int) ≤ IntKind.i64.wrap (E.i 1350 + 1) by rw [w]; omega), fun _ => ⟨g, e⟩, trivial⟩
  · have hn : E.i 1558 = 0 := by
      have := hc.1
      have h9 : (!(E.i 1558 != 0)) = true := this
      simpa using h9
    have hle : E.i 1559 ≤ E.i 1350 := st.resolve_right (fun h => h hn)
    have wr : IntKind.i64.wrap (E.i 1559 + 1) = E.i 1559 + 1 := wrap64_small (by omega) (by omega)
    by_cases e2 : E.i 1559 = E.i 1350
    · right
      show ofB (hadF (rsvE E (E.i 7) (E.i 1559)) (E.l 1337) == (E.l 1330).getD (((0 : Int).toNat + (E.i 1350).toNat * 1 + 0 : Nat) : Int).toNat 0) ≠ 0
      have h4 := g.2.2.2 (E.i 1350).toNat (by omega)
      rw [Int.toNat_of_nonneg k0] at h4
      have e3 : (((0 : Int).toNat + (E.i 1350).toNat * 1 + 0 : Nat) : Int).toNat = (E.i 1350).toNat := by rw [Int.toNat_natCast, Int.toNat_zero]; omega
      rw [e3, e2, h4]
      simp [ofB]
    · left
      show IntKind.i64.wrap (E.i 1559 + 1) ≤ E.i 1350
      rw [wr]; omega
  · exfalso
    have hn : E.i 1558 = 0 := by
      have h9 : (!(E.i 1558 != 0)) = true := hc.1
      simpa using h9
    have hle : E.i 1559 ≤ E.i 1350 := st.resolve_right (fun h => h hn)
    have h2 : E.i 1 ≤ E.i 1559 := of_decide_eq_true hc.2.1
    omega
  · refine .inr ⟨rfl, .inl ?_⟩
    show (E.i 1328 - IntKind.i64.wrap (E.i 1350 + 1)).toNat < (E.i 1328 - E.i 1350).toNat
    rw [w]; omega
theorem part0 (E : Env) (hfs : ∀ b ∈ cut0.fs, @BE.val E b = true) (hphi : Phi 0 E) (htab : TabR (tabsOf pks 0) E) : ∃ (ex : List BE) (rw : List (IE × IE)), (∀ b ∈ ex, @BE.val E b = true) ∧ Owed E Phi (oweAtR (tabsOf pks 0) ths [] Try.prog Try.f3 (rootOf Try.f3) base7 (extraG Try.prog) cuts cut0 ex rw) :=
  ⟨[], rw0, Bk.nn, Owed.eq (@e0_0 E) (run0_0 E hfs hphi htab)⟩
theorem part1 (E : Env) (hfs : ∀ b ∈ cut1.fs, @BE.val E b = true) (hphi : Phi 1 E) (htab : TabR (tabsOf pks 0) E) : ∃ (ex : List BE) (rw : List (IE × IE)), (∀ b ∈ ex, @BE.val E b = true) ∧ Owed E Phi (oweAtR (tabsOf pks 0) ths [] Try.prog Try.f3 (rootOf Try.f3) base7 (extraG Try.prog) cuts cut1 ex rw) :=
  ⟨[], rw1, Bk.nn, Owed.eq (@e1_0 E) (run1_0 E hfs hphi htab)⟩
theorem part2 (E : Env) (hfs : ∀ b ∈ cut2.fs, @BE.val E b = true) (hphi : Phi 2 E) (htab : TabR (tabsOf pks 0) E) : ∃ (ex : List BE) (rw : List (IE × IE)), (∀ b ∈ ex, @BE.val E b = true) ∧ Owed E Phi (oweAtR (tabsOf pks 0) ths [] Try.prog Try.f3 (rootOf Try.f3) base7 (extraG Try.prog) cuts cut2 ex rw) :=
  ⟨[], rw2, Bk.nn, Owed.eq (@e2_0 E) (run2_0 E hfs hphi htab)⟩
theorem part3 (E : Env) (hfs : ∀ b ∈ cut3.fs, @BE.val E b = true) (hphi : Phi 3 E) (htab : TabR (tabsOf pks 0) E) : ∃ (ex : List BE) (rw : List (IE × IE)), (∀ b ∈ ex, @BE.val E b = true) ∧ Owed E Phi (oweAtR (tabsOf pks 0) ths [] Try.prog Try.f3 (rootOf Try.f3) base7 (extraG Try.prog) cuts cut3 ex rw) :=
  ⟨[], rw3, Bk.nn, Owed.eq (@e3_0 E) (run3_0 E hfs hphi htab)⟩
theorem runsM (E : Env) (i : Nat) (k : Cut) (hi : cuts[i]? = some k) (hfs : ∀ b ∈ k.fs, @BE.val E b = true) (hphi : Phi i E) (htab : TabR (tabsOf pks 0) E) : ∃ (ex : List BE) (rw : List (IE × IE)), (∀ b ∈ ex, @BE.val E b = true) ∧ Owed E Phi (oweAtR (tabsOf pks 0) ths [] Try.prog Try.f3 (rootOf Try.f3) base7 (extraG Try.prog) cuts k ex rw) := by
  match i, hi with
  | 0, hi => obtain rfl : cut0 = k := Option.some.inj (show some cut0 = some k from hi); exact part0 E hfs hphi htab
  | 1, hi => obtain rfl : cut1 = k := Option.some.inj (show some cut1 = some k from hi); exact part1 E hfs hphi htab
  | 2, hi => obtain rfl : cut2 = k := Option.some.inj (show some cut2 = some k from hi); exact part2 E hfs hphi htab
  | 3, hi => obtain rfl : cut3 = k := Option.some.inj (show some cut3 = some k from hi); exact part3 E hfs hphi htab
  | n + 4, hi => exact absurd hi (by simp [cuts])
theorem startM (E : Env) (h1 : symRng E pks 0 0) : Owed E Phi (oweStartR (tabsOf pks 0) ths [] Try.prog Try.f3 (rootOf Try.f3) base7 (extraG Try.prog) cuts (rngFacts pks 0) (symArgs pks 0 0) (symHeap pks 0 0)) := Owed.eq (@eS E) (runS E h1)
theorem trOk : ∀ i ∈ ([] : List Nat), ∀ E, Phi i E := fun i hi E => by cases hi
theorem bodyOk : Try.f3.body = some (rootOf Try.f3) := by kernel_rfl
theorem law (E : Env) (ρ : Rho) (F : Nat → Nat → Prop) (w : World) (argv : Array Value) (h1 : symRng E pks 0 0) (h2 : @HeapOk E Empty _ ρ F (symHeap pks 0 0) w) (h3 : All2 (@SV.is E ρ) (symArgs pks 0 0) argv.toList) :
    Calls Try.prog 3 argv w fun e w' => e = .returned (.bool true) ∧ ∃ ρ' F', Reach ρ F w ρ' F' w' :=
  floydRM (ts := tabsOf pks 0) mixed_ok (c := @base7) @base7_ok (x := extraG Try.prog) (fun {_} => extraG_ok _) Try.func3 bodyOk ths_ok (tr := []) (Φ := Phi) trOk heads runsM E (tabsOf_ok E h1) (rngFacts_ok E h1) (startM E h1) h2 h3
end Go.Proofs.Ytalobhgefmhboaa.Sx.LGuardStands
