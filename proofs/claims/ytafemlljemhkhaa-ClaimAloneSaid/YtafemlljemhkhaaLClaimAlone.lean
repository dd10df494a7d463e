/-
  The law ClaimAlone, run on unknowns, from one loop's head to the next.
-/
import Derived.Test.YtafemlljemhkhaaLClaimAloneB1
import Derived.Test.YtafemlljemhkhaaLClaimAloneB2
namespace Go.Proofs.Ytafemlljemhkhaa.Sx.LClaimAlone
open Go Go.Proofs.Ytafemlljemhkhaa.Sx
set_option linter.unusedSectionVars false
set_option linter.unusedVariables false
set_option linter.unusedSimpArgs false
set_option maxRecDepth 1000000

theorem f0_7 (E : Env) (h : ∀ b ∈ cut0.fs, @BE.val E b = true) : @BE.val E ((.cmp .eql (.nat (.atom 8)) (.fn 2 cfgL))) = true := h _ (List.mem_of_getElem? (i := 7) rfl)
theorem f0_22 (E : Env) (h : ∀ b ∈ cut0.fs, @BE.val E b = true) : @BE.val E ((.cmp .neq (.fn 1 cfgL) (.lit 0))) = true := h _ (List.mem_of_getElem? (i := 22) rfl)
theorem f1_9 (E : Env) (h : ∀ b ∈ cut1.fs, @BE.val E b = true) : @BE.val E ((.cmp .eql (.nat (.atom 8)) (.fn 2 cfgL))) = true := h _ (List.mem_of_getElem? (i := 9) rfl)
theorem f1_24 (E : Env) (h : ∀ b ∈ cut1.fs, @BE.val E b = true) : @BE.val E ((.cmp .neq (.fn 1 cfgL) (.lit 0))) = true := h _ (List.mem_of_getElem? (i := 24) rfl)
theorem f2_9 (E : Env) (h : ∀ b ∈ cut2.fs, @BE.val E b = true) : @BE.val E ((.cmp .eql (.nat (.atom 8)) (.fn 2 cfgL))) = true := h _ (List.mem_of_getElem? (i := 9) rfl)
theorem f2_24 (E : Env) (h : ∀ b ∈ cut2.fs, @BE.val E b = true) : @BE.val E ((.cmp .neq (.fn 1 cfgL) (.lit 0))) = true := h _ (List.mem_of_getElem? (i := 24) rfl)

def C8 (E : Env) (g i c n fr0 ch : Int) (R : List Int) : Prop := rightE E ∧ ((rowI E).length : Int) = lenE E ∧ (∀ j, WordP (E.t 0 j 0)) ∧ NlA E g R ∧ 0 ≤ i ∧ i < E.i 2 ∧ c = E.i 2 ∧ ∃ fr, CtA E g i fr ch ∧ fr0 = fr + (if wd E (i + 1) % 4 = 0 then 1 else 0)
def C5 (E : Env) (g i c fr ch : Int) (R : List Int) : Prop := rightE E ∧ ((rowI E).length : Int) = lenE E ∧ (∀ j, WordP (E.t 0 j 0)) ∧ NlA E g R ∧ 0 ≤ i ∧ i ≤ E.i 2 ∧ c = E.i 2 ∧ CtA E g i fr ch
def Phi : Nat → Env → Prop
  | 0, E => LkA E (E.i 1007) (E.i 1008) (E.i 1006) (E.l 1010)
  | 1, E => TkA E (E.i 1207) (E.i 1208) (E.i 1206) (E.i 1209) (E.l 1213)
  | 2, E => NlA E (E.i 1456) (E.l 1465)
  | 5, E => C5 E (E.i 1456) (E.i 2004) (E.i 2100) (E.i 2002) (E.i 2003) (E.l 1465)
  | 8, E => C8 E (E.i 1456) (E.i 2004) (E.i 2100) 0 (E.i 2611) (E.i 2003) (E.l 1465)
  | 11, E => C8 E (E.i 1456) (E.i 2004) (E.i 2100) 0 (E.i 2611) (E.i 2003) (E.l 1465) ∧ wd E (E.i 2004 + 1) ≠ hadF (cellE E (E.i 2004 + 1) 0) (E.l 1465)
  | _, _ => False

theorem t0 {E : Env} (h : TabR (tabsOf pks 0) E) : ∀ i, WordP (E.t 0 i 0) := fun i => by
  have := h (0, 0, 0, 18446744073709551615) (List.mem_of_getElem? (i := 0) rfl) i
  exact ⟨this.1, Int.lt_of_le_of_lt this.2 (by decide)⟩
theorem len_rowI (E : Env) : ((rowI E).length : Int) = ((E.i 8).toNat : Int) := by unfold rowI; rw [List.length_map, List.length_range]
theorem mg {E : Env} {R : List Int} {x : Int} (h0 : 0 ≤ x) (h1 : x < E.i 2) : (mtE E R).getD ((((0 : Int).toNat + x.toNat * 1 + 0 : Nat) : Int).toNat + 0) 0 = hadF (cellE E (x + 1) 0) R := by
  have e : (x.toNat : Int) = x := by omega
  rw [atx1, mtE_get (by omega), e]
theorem runS (E : Env) (h1 : symRng E pks 0 0) : ObsOk E Phi obS := by
  refine ⟨fun hc => ?_, trivial⟩
  have hr : rightE E := right_of hc.2.2.1
  exact lkA0 hr
theorem run0_0 (E : Env) (hfs : ∀ b ∈ cut0.fs, @BE.val E b = true) (hphi : Phi 0 E) (htab : TabR (tabsOf pks 0) E) : ObsOk E Phi ob0_0 := by
  have hr : rightE E := right_of (f0_22 E hfs)
  have c := capC hr
  have ht := t0 htab
  have hl : ((rowI E).length : Int) = lenE E := (len_rowI E).trans (eq_of_beq (f0_7 E hfs))
  have hp : LkA E (E.i 1007) (E.i 1008) (E.i 1006) (E.l 1010) := id hphi
  have hw : (hadF (cellE E (begunF (E.i 1007) (E.i 9) (E.i 2)) 0) (E.l 1010)) = wd E (begunF (E.i 1007) (E.i 9) (E.i 2)) := by rw [hp.1]; rfl
  have rg := wd_rng ht (begunF (E.i 1007) (E.i 9) (E.i 2))
  have k0 := hp.2.1
  have k1 := hp.2.2.1
  have k2 := hp.2.2.2.1
  have u1 : IntKind.i64.wrap (E.i 1008 + 1) = E.i 1008 + 1 := wrap64_small (by omega) (by omega)
  have u2 : IntKind.i64.wrap (E.i 1006 + 1) = E.i 1006 + 1 := wrap64_small (by omega) (by omega)
  have u3 : IntKind.i64.wrap (E.i 2 + 1) = E.i 2 + 1 := wrap64_small (by omega) (by omega)
  refine ⟨fun hc => ?_, fun hc => ?_, fun hc => ?_, fun hc => ?_, fun hc => ?_, fun hc => ?_, fun hc => ?_, fun hc => ?_, trivial⟩
  · exact decide_eq_true (show 0 ≤ (hadF (cellE E (begunF (E.i 1007) (E.i 9) (E.i 2)) 0) (E.l 1010)) by rw [hw]; exact rg.1)
  · exact decide_eq_true (show (hadF (cellE E (begunF (E.i 1007) (E.i 9) (E.i 2)) 0) (E.l 1010)) < 18446744073709551616 by rw [hw]; exact rg.2)
  · exact nzC hr _
  · have hs : (hadF (cellE E (begunF (E.i 1007) (E.i 9) (E.i 2)) 0) (E.l 1010)) % 4 = 0 := eq_of_beq hc.1
    show TkA E (begunF (E.i 1007) (E.i 9) (E.i 2)) (E.i 1008) (IntKind.i64.wrap (E.i 1006 + 1)) (hadF (cellE E (begunF (E.i 1007) (E.i 9) (E.i 2)) 0) (E.l 1010)) (E.l 1010)
    rw [u2]
    exact lkA_tk hr hp (by rw [← hw]; exact hs)
  · have hs : (hadF (cellE E (begunF (E.i 1007) (E.i 9) (E.i 2)) 0) (E.l 1010)) % 4 ≠ 0 := bne_iff_ne.1 hc.2.1
    have hk : E.i 2 ≤ IntKind.i64.wrap (E.i 1008 + 1) := of_decide_eq_true hc.1
    rw [u1] at hk
    exact lkA_nl hr hp (by rw [← hw]; exact hs) hk
  · have hs : (hadF (cellE E (begunF (E.i 1007) (E.i 9) (E.i 2)) 0) (E.l 1010)) % 4 ≠ 0 := bne_iff_ne.1 hc.2.1
    have hk : IntKind.i64.wrap (E.i 1008 + 1) < E.i 2 := of_decide_eq_true hc.1
    rw [u1] at hk
    show LkA E (nxF (begunF (E.i 1007) (E.i 9) (E.i 2)) (E.i 2)) (IntKind.i64.wrap (E.i 1008 + 1)) (IntKind.i64.wrap (E.i 1006 + 1)) (E.l 1010)
    rw [u1, u2]
    exact lkA_go hr hp (by rw [← hw]; exact hs) hk
  · exfalso
    have hk : IntKind.i64.wrap (E.i 2 + 1) ≤ E.i 1006 := of_decide_eq_true hc.1
    rw [u3] at hk
    omega
  · exfalso
    have hk : IntKind.i64.wrap (E.i 2 + 1) ≤ E.i 1006 := of_decide_eq_true hc.1
    rw [u3] at hk
    omega
theorem run1_0 (E : Env) (hfs : ∀ b ∈ cut1.fs, @BE.val E b = true) (hphi : Phi 1 E) (htab : TabR (tabsOf pks 0) E) : ObsOk E Phi ob1_0 := by
  have hr : rightE E := right_of (f1_24 E hfs)
  have c := capC hr
  have ht := t0 htab
  have hl : ((rowI E).length : Int) = lenE E := (len_rowI E).trans (eq_of_beq (f1_9 E hfs))
  have hp : TkA E (E.i 1207) (E.i 1208) (E.i 1206) (E.i 1209) (E.l 1213) := id hphi
  have hlr : ((E.l 1213).length : Int) = lenE E := by rw [hp.1]; exact hl
  have sw := tkA_sw hr hp hlr
  have rg := wd_rng ht (E.i 1207)
  have hw : E.i 1209 = wd E (E.i 1207) := hp.2.2.2.2.2.1
  have k0 := hp.2.1
  have k1 := hp.2.2.1
  have k2 := hp.2.2.2.1
  have u3 : IntKind.i64.wrap (E.i 2 + 1) = E.i 2 + 1 := wrap64_small (by omega) (by omega)
  refine ⟨fun hc => ?_, fun hc => ?_, fun hc => ?_, fun hc => ?_, fun hc => ?_, fun hc => ?_, fun hc => ?_, fun hc => ?_, fun hc => ?_, trivial⟩
  · exact decide_eq_true (show 0 ≤ E.i 1209 by rw [hw]; exact rg.1)
  · exact decide_eq_true (show E.i 1209 < 18446744073709551616 by rw [hw]; exact rg.2)
  · exact nzC hr _
  · exact nzC hr _
  · exfalso
    have q : funs 16 (E.i 1209 :: cellE E (E.i 1207) 0 :: E.l 1213) = 0 := eq_of_beq hc.2.1
    rw [sw] at q; cases q
  · exfalso
    have q : funs 16 (E.i 1209 :: cellE E (E.i 1207) 0 :: E.l 1213) = 0 := eq_of_beq hc.2.1
    rw [sw] at q; cases q
  · exact tkA_nl hr ht hp hlr
  · exfalso
    have hk : IntKind.i64.wrap (E.i 2 + 1) ≤ E.i 1206 := of_decide_eq_true hc.1
    rw [u3] at hk
    omega
  · exfalso
    have hk : IntKind.i64.wrap (E.i 2 + 1) ≤ E.i 1206 := of_decide_eq_true hc.1
    rw [u3] at hk
    omega
theorem run2_0 (E : Env) (hfs : ∀ b ∈ cut2.fs, @BE.val E b = true) (hphi : Phi 2 E) (htab : TabR (tabsOf pks 0) E) : ObsOk E Phi ob2_0 := by
  have hr : rightE E := right_of (f2_24 E hfs)
  have c := capC hr
  have ht := t0 htab
  have hl : ((rowI E).length : Int) = lenE E := (len_rowI E).trans (eq_of_beq (f2_9 E hfs))
  have hp : NlA E (E.i 1456) (E.l 1465) := id hphi
  have l1 : ((mtE E (rowI E)).length : Int) = E.i 2 := by rw [mtE_len]; omega
  have l2 : ((mtE E (E.l 1465)).length : Int) = E.i 2 := by rw [mtE_len]; omega
  refine ⟨fun hc => ?_, fun hc => ?_, trivial⟩
  · exact hp
  · show C5 E (E.i 1456) 0 (minI ((mtE E (rowI E)).length : Int) ((mtE E (E.l 1465)).length : Int)) 0 0 (E.l 1465)
    rw [l1, l2]
    exact ⟨hr, hl, ht, hp, Int.le_refl _, by omega, by unfold minI; split <;> rfl, ctA0 hr ht hp⟩
theorem run3_0 (E : Env) (hfs : ∀ b ∈ cut3.fs, @BE.val E b = true) (hphi : Phi 3 E) (htab : TabR (tabsOf pks 0) E) : ObsOk E Phi ob3_0 := (show False from hphi).elim
theorem run4_0 (E : Env) (hfs : ∀ b ∈ cut4.fs, @BE.val E b = true) (hphi : Phi 4 E) (htab : TabR (tabsOf pks 0) E) : ObsOk E Phi ob4_0 := (show False from hphi).elim
theorem run6_0 (E : Env) (hfs : ∀ b ∈ cut6.fs, @BE.val E b = true) (hphi : Phi 6 E) (htab : TabR (tabsOf pks 0) E) : ObsOk E Phi ob6_0 := (show False from hphi).elim
theorem run7_0 (E : Env) (hfs : ∀ b ∈ cut7.fs, @BE.val E b = true) (hphi : Phi 7 E) (htab : TabR (tabsOf pks 0) E) : ObsOk E Phi ob7_0 := (show False from hphi).elim
theorem run9_0 (E : Env) (hfs : ∀ b ∈ cut9.fs, @BE.val E b = true) (hphi : Phi 9 E) (htab : TabR (tabsOf pks 0) E) : ObsOk E Phi ob9_0 := (show False from hphi).elim
theorem run10_0 (E : Env) (hfs : ∀ b ∈ cut10.fs, @BE.val E b = true) (hphi : Phi 10 E) (htab : TabR (tabsOf pks 0) E) : ObsOk E Phi ob10_0 := (show False from hphi).elim
theorem run5_0 (E : Env) (hfs : ∀ b ∈ cut5.fs, @BE.val E b = true) (hphi : Phi 5 E) (htab : TabR (tabsOf pks 0) E) : ObsOk E Phi ob5_0 := by
  obtain ⟨hr, hl, ht, hn, i0, i1, hc0, hct⟩ := hphi
  have c := capC hr
  have l1 : ((mtE E (rowI E)).length : Int) = E.i 2 := by rw [mtE_len]; omega
  have l2 : ((mtE E (E.l 1465)).length : Int) = E.i 2 := by rw [mtE_len]; omega
  refine ⟨fun hc => ?_, fun hc => ?_, fun hc => ?_, fun hc => ?_, fun hc => ?_, fun hc => ?_, fun hc => ?_, fun hc => ?_, trivial⟩
  · have q : E.i 2004 < E.i 2100 := of_decide_eq_true hc.2.2.2.1
    exact decide_eq_true (show 0 ≤ ((mtE E (rowI E)).getD ((((0 : Int).toNat + (E.i 2004).toNat * 1 + 0 : Nat) : Int).toNat + 0) 0) by rw [mg i0 (by omega)]; exact (wd_rng ht _).1)
  · have q : E.i 2004 < E.i 2100 := of_decide_eq_true hc.2.2.2.2.1
    exact decide_eq_true (show ((mtE E (rowI E)).getD ((((0 : Int).toNat + (E.i 2004).toNat * 1 + 0 : Nat) : Int).toNat + 0) 0) < 18446744073709551616 by rw [mg i0 (by omega)]; exact (wd_rng ht _).2)
  · have q : E.i 2004 < E.i 2100 := by
      have q1 : E.i 2004 < ((mtE E (rowI E)).length : Int) := of_decide_eq_true hc.2.2.2.2.1
      omega
    have hs : ((mtE E (rowI E)).getD ((((0 : Int).toNat + (E.i 2004).toNat * 1 + 0 : Nat) : Int).toNat + 0) 0) % 4 = 0 := eq_of_beq hc.1
    rw [mg i0 (by omega)] at hs
    have u : IntKind.i64.wrap (E.i 2002 + 1) = E.i 2002 + 1 := wrap64_small (by have := hct.1; omega) (by have := hct.2.1; omega)
    show C8 E (E.i 1456) (E.i 2004) (E.i 2100) 0 (IntKind.i64.wrap (E.i 2002 + 1)) (E.i 2003) (E.l 1465)
    rw [u]
    exact ⟨hr, hl, ht, hn, i0, by omega, hc0, _, hct, by rw [if_pos (show wd E (E.i 2004 + 1) % 4 = 0 from hs)]⟩
  · have q : E.i 2004 < E.i 2100 := by
      have q1 : E.i 2004 < ((mtE E (rowI E)).length : Int) := of_decide_eq_true hc.2.2.2.2.1
      omega
    have hs : ((mtE E (rowI E)).getD ((((0 : Int).toNat + (E.i 2004).toNat * 1 + 0 : Nat) : Int).toNat + 0) 0) % 4 ≠ 0 := bne_iff_ne.1 hc.1
    rw [mg i0 (by omega)] at hs
    show C8 E (E.i 1456) (E.i 2004) (E.i 2100) 0 (E.i 2002) (E.i 2003) (E.l 1465)
    exact ⟨hr, hl, ht, hn, i0, by omega, hc0, _, hct, by rw [if_neg (show ¬ wd E (E.i 2004 + 1) % 4 = 0 from hs)]; exact (Int.add_zero _).symm⟩
  · have q : ((mtE E (rowI E)).length : Int) ≤ E.i 2004 := of_decide_eq_true hc.1
    have q2 : E.i 2004 < E.i 2100 := of_decide_eq_true hc.2.2.1
    omega
  · have q : E.i 2100 ≤ E.i 2004 := of_decide_eq_true hc.2.2.1
    have e := ctA_end hr ht hn hct (by omega)
    exact beq_iff_eq.2 (show E.i 2003 = minI (E.i 2002) 1 by rw [e.2]; unfold minI; rfl)
  · exfalso
    have q : E.i 2100 ≤ E.i 2004 := of_decide_eq_true hc.2.2.1
    have e := ctA_end hr ht hn hct (by omega)
    have q2 : (!((E.i 1456 != 0) == decide (E.i 2002 > 0))) = true := hc.1
    have q3 : (E.i 1456 != 0) = decide (E.i 2002 > 0) := by
      rw [Bool.eq_iff_iff, bne_iff_ne, decide_eq_true_eq]; exact e.1
    rw [q3] at q2
    simp at q2
  · exfalso
    have q : (((mtE E (rowI E)).length : Int) != E.i 2) = true := hc.1
    rw [l1] at q
    exact (bne_iff_ne.1 q) rfl
theorem run8_0 (E : Env) (hfs : ∀ b ∈ cut8.fs, @BE.val E b = true) (hphi : Phi 8 E) (htab : TabR (tabsOf pks 0) E) : ObsOk E Phi ob8_0 := by
  obtain ⟨hr, hl, ht, hn, i0, i1, hc0, fr, hct, hf⟩ := hphi
  have c := capC hr
  have l1 : ((mtE E (rowI E)).length : Int) = E.i 2 := by rw [mtE_len]; omega
  have l2 : ((mtE E (E.l 1465)).length : Int) = E.i 2 := by rw [mtE_len]; omega
  have up : IntKind.i64.wrap (E.i 2004 + 1) = E.i 2004 + 1 := wrap64_small (by omega) (by omega)
  refine ⟨fun hc => ?_, fun hc => ?_, fun hc => ?_, fun hc => ?_, fun hc => ?_, trivial⟩
  · have hd : ((mtE E (rowI E)).getD ((((0 : Int).toNat + (E.i 2004).toNat * 1 + 0 : Nat) : Int).toNat + 0) 0) ≠ ((mtE E (E.l 1465)).getD ((((0 : Int).toNat + (E.i 2004).toNat * 1 + 0 : Nat) : Int).toNat + 0) 0) := bne_iff_ne.1 hc.1
    rw [mg i0 (by omega), mg i0 (by omega)] at hd
    exact ⟨⟨hr, hl, ht, hn, i0, i1, hc0, fr, hct, hf⟩, hd⟩
  · exact .inr ⟨rfl, .inl (show (E.i 2100 - IntKind.i64.wrap (E.i 2004 + 1)).toNat < (E.i 2100 - E.i 2004).toNat by rw [up]; omega)⟩
  · exact decide_eq_true (show 0 ≤ IntKind.i64.wrap (E.i 2004 + 1) by rw [up]; omega)
  · have hd : ((mtE E (rowI E)).getD ((((0 : Int).toNat + (E.i 2004).toNat * 1 + 0 : Nat) : Int).toNat + 0) 0) = ((mtE E (E.l 1465)).getD ((((0 : Int).toNat + (E.i 2004).toNat * 1 + 0 : Nat) : Int).toNat + 0) 0) := eq_of_beq hc.1
    rw [mg i0 (by omega), mg i0 (by omega)] at hd
    show C5 E (E.i 1456) (IntKind.i64.wrap (E.i 2004 + 1)) (E.i 2100) (E.i 2611) (E.i 2003) (E.l 1465)
    rw [up]
    exact ⟨hr, hl, ht, hn, by omega, by omega, hc0, ctA_same hr ht hl hn hct i0 i1 hd hf⟩
  · have q : ((mtE E (E.l 1465)).length : Int) ≤ E.i 2004 := of_decide_eq_true hc.1
    omega
theorem run11_0 (E : Env) (hfs : ∀ b ∈ cut11.fs, @BE.val E b = true) (hphi : Phi 11 E) (htab : TabR (tabsOf pks 0) E) : ObsOk E Phi ob11_0 := by
  have hne : wd E (E.i 2004 + 1) ≠ hadF (cellE E (E.i 2004 + 1) 0) (E.l 1465) := hphi.2
  obtain ⟨hr, hl, ht, hn, i0, i1, hc0, fr, hct, hf⟩ := hphi.1
  have c := capC hr
  have l1 : ((mtE E (rowI E)).length : Int) = E.i 2 := by rw [mtE_len]; omega
  have l2 : ((mtE E (E.l 1465)).length : Int) = E.i 2 := by rw [mtE_len]; omega
  have up : IntKind.i64.wrap (E.i 2004 + 1) = E.i 2004 + 1 := wrap64_small (by omega) (by omega)
  have dd := ctA_diff hr ht hl hn hct i0 i1 hne hf
  have u4 : IntKind.i64.wrap (E.i 2003 + 1) = E.i 2003 + 1 := by
    have := hct.2.2.1
    have := hct.2.2.2
    by_cases z : E.i 1456 = 0
    · rw [(hct.2.2.1 z).2]; exact wrap64_small (by omega) (by omega)
    · have := (hct.2.2.2 z).1
      exact wrap64_small (by rw [this]; split <;> omega) (by rw [this]; split <;> omega)
  have rg := nlA_rng hr ht hn
  have rw1 := wd_rng ht (E.i 2004 + 1)
  have gw : ((mtE E (rowI E)).getD ((((0 : Int).toNat + (E.i 2004).toNat * 1 + 0 : Nat) : Int).toNat + 0) 0) = wd E (E.i 2004 + 1) := mg i0 i1
  have gn : ((mtE E (E.l 1465)).getD ((((0 : Int).toNat + (E.i 2004).toNat * 1 + 0 : Nat) : Int).toNat + 0) 0) = hadF (cellE E (E.i 2004 + 1) 0) (E.l 1465) := mg i0 i1
  have rn := nlA_wd hr ht hl hn (i := E.i 2004 + 1) (by omega) (by omega)
  refine ⟨fun hc => ?_, fun hc => ?_, fun hc => ?_, fun hc => ?_, fun hc => ?_, fun hc => ?_, fun hc => ?_, fun hc => ?_, fun hc => ?_, fun hc => ?_, fun hc => ?_, fun hc => ?_, fun hc => ?_, trivial⟩
  · exfalso
    have q : E.i 1456 % 4294967296 ≠ IntKind.i64.wrap (E.i 2004 + 1) := bne_iff_ne.1 hc.1
    rw [up] at q
    exact q dd.2.1
  · exact decide_eq_true (show 0 ≤ ((mtE E (rowI E)).getD ((((0 : Int).toNat + (E.i 2004).toNat * 1 + 0 : Nat) : Int).toNat + 0) 0) by rw [gw]; exact rw1.1)
  · exact decide_eq_true (show ((mtE E (rowI E)).getD ((((0 : Int).toNat + (E.i 2004).toNat * 1 + 0 : Nat) : Int).toNat + 0) 0) < 18446744073709551616 by rw [gw]; exact rw1.2)
  · exfalso
    have q : ((mtE E (rowI E)).getD ((((0 : Int).toNat + (E.i 2004).toNat * 1 + 0 : Nat) : Int).toNat + 0) 0) % 4 ≠ 0 := bne_iff_ne.1 hc.1
    rw [gw] at q
    exact q dd.2.2.1
  · exact decide_eq_true (show 0 ≤ ((mtE E (E.l 1465)).getD ((((0 : Int).toNat + (E.i 2004).toNat * 1 + 0 : Nat) : Int).toNat + 0) 0) by rw [gn]; exact rn.1)
  · exact decide_eq_true (show ((mtE E (E.l 1465)).getD ((((0 : Int).toNat + (E.i 2004).toNat * 1 + 0 : Nat) : Int).toNat + 0) 0) < 18446744073709551616 by rw [gn]; exact rn.2)
  · exfalso
    have q : ((mtE E (E.l 1465)).getD ((((0 : Int).toNat + (E.i 2004).toNat * 1 + 0 : Nat) : Int).toNat + 0) 0) % 4 ≠ 1 := bne_iff_ne.1 hc.1
    rw [gn] at q
    exact q dd.2.2.2.1
  · exfalso
    have q : slotGenF ((mtE E (E.l 1465)).getD ((((0 : Int).toNat + (E.i 2004).toNat * 1 + 0 : Nat) : Int).toNat + 0) 0) ≠ slotGenF ((mtE E (rowI E)).getD ((((0 : Int).toNat + (E.i 2004).toNat * 1 + 0 : Nat) : Int).toNat + 0) 0) := bne_iff_ne.1 hc.1
    rw [gn, gw] at q
    exact q dd.2.2.2.2.1
  · exact decide_eq_true (show 0 ≤ E.i 1456 from rg.1)
  · exact decide_eq_true (show E.i 1456 < 18446744073709551616 from rg.2)
  · exfalso
    have q : E.i 1456 / 4294967296 % 1073741824 ≠ slotGenF ((mtE E (rowI E)).getD ((((0 : Int).toNat + (E.i 2004).toNat * 1 + 0 : Nat) : Int).toNat + 0) 0) := bne_iff_ne.1 hc.1
    rw [gw] at q
    exact q dd.2.2.2.2.2
  · exact .inr ⟨rfl, .inl (show (E.i 2100 - IntKind.i64.wrap (E.i 2004 + 1)).toNat < (E.i 2100 - E.i 2004).toNat by rw [up]; omega)⟩
  · show C5 E (E.i 1456) (IntKind.i64.wrap (E.i 2004 + 1)) (E.i 2100) (E.i 2611) (IntKind.i64.wrap (E.i 2003 + 1)) (E.l 1465)
    rw [up, u4]
    exact ⟨hr, hl, ht, hn, by omega, by omega, hc0, dd.1⟩
theorem part0 (E : Env) (hfs : ∀ b ∈ cut0.fs, @BE.val E b = true) (hphi : Phi 0 E) (htab : TabR (tabsOf pks 0) E) : ∃ (ex : List BE) (rw : List (IE × IE)), (∀ b ∈ ex, @BE.val E b = true) ∧ Owed E Phi (oweAtR (tabsOf pks 0) ths [] Try.prog Try.f6 (rootOf Try.f6) base11 (extraG Try.prog) cuts cut0 ex rw) :=
  ⟨[], rw0, Bk.nn, Owed.eq (@e0_0 E) (run0_0 E hfs hphi htab)⟩
theorem part1 (E : Env) (hfs : ∀ b ∈ cut1.fs, @BE.val E b = true) (hphi : Phi 1 E) (htab : TabR (tabsOf pks 0) E) : ∃ (ex : List BE) (rw : List (IE × IE)), (∀ b ∈ ex, @BE.val E b = true) ∧ Owed E Phi (oweAtR (tabsOf pks 0) ths [] Try.prog Try.f6 (rootOf Try.f6) base11 (extraG Try.prog) cuts cut1 ex rw) :=
  ⟨[], rw1, Bk.nn, Owed.eq (@e1_0 E) (run1_0 E hfs hphi htab)⟩
theorem part2 (E : Env) (hfs : ∀ b ∈ cut2.fs, @BE.val E b = true) (hphi : Phi 2 E) (htab : TabR (tabsOf pks 0) E) : ∃ (ex : List BE) (rw : List (IE × IE)), (∀ b ∈ ex, @BE.val E b = true) ∧ Owed E Phi (oweAtR (tabsOf pks 0) ths [] Try.prog Try.f6 (rootOf Try.f6) base11 (extraG Try.prog) cuts cut2 ex rw) :=
  ⟨[], rw2, Bk.nn, Owed.eq (@e2_0 E) (run2_0 E hfs hphi htab)⟩
theorem part3 (E : Env) (hfs : ∀ b ∈ cut3.fs, @BE.val E b = true) (hphi : Phi 3 E) (htab : TabR (tabsOf pks 0) E) : ∃ (ex : List BE) (rw : List (IE × IE)), (∀ b ∈ ex, @BE.val E b = true) ∧ Owed E Phi (oweAtR (tabsOf pks 0) ths [] Try.prog Try.f6 (rootOf Try.f6) base11 (extraG Try.prog) cuts cut3 ex rw) :=
  ⟨[], rw3, Bk.nn, Owed.eq (@e3_0 E) (run3_0 E hfs hphi htab)⟩
theorem part4 (E : Env) (hfs : ∀ b ∈ cut4.fs, @BE.val E b = true) (hphi : Phi 4 E) (htab : TabR (tabsOf pks 0) E) : ∃ (ex : List BE) (rw : List (IE × IE)), (∀ b ∈ ex, @BE.val E b = true) ∧ Owed E Phi (oweAtR (tabsOf pks 0) ths [] Try.prog Try.f6 (rootOf Try.f6) base11 (extraG Try.prog) cuts cut4 ex rw) :=
  ⟨[], rw4, Bk.nn, Owed.eq (@e4_0 E) (run4_0 E hfs hphi htab)⟩
theorem part5 (E : Env) (hfs : ∀ b ∈ cut5.fs, @BE.val E b = true) (hphi : Phi 5 E) (htab : TabR (tabsOf pks 0) E) : ∃ (ex : List BE) (rw : List (IE × IE)), (∀ b ∈ ex, @BE.val E b = true) ∧ Owed E Phi (oweAtR (tabsOf pks 0) ths [] Try.prog Try.f6 (rootOf Try.f6) base11 (extraG Try.prog) cuts cut5 ex rw) :=
  ⟨[], rw5, Bk.nn, Owed.eq (@e5_0 E) (run5_0 E hfs hphi htab)⟩
theorem part6 (E : Env) (hfs : ∀ b ∈ cut6.fs, @BE.val E b = true) (hphi : Phi 6 E) (htab : TabR (tabsOf pks 0) E) : ∃ (ex : List BE) (rw : List (IE × IE)), (∀ b ∈ ex, @BE.val E b = true) ∧ Owed E Phi (oweAtR (tabsOf pks 0) ths [] Try.prog Try.f6 (rootOf Try.f6) base11 (extraG Try.prog) cuts cut6 ex rw) :=
  ⟨[], rw6, Bk.nn, Owed.eq (@e6_0 E) (run6_0 E hfs hphi htab)⟩
theorem part7 (E : Env) (hfs : ∀ b ∈ cut7.fs, @BE.val E b = true) (hphi : Phi 7 E) (htab : TabR (tabsOf pks 0) E) : ∃ (ex : List BE) (rw : List (IE × IE)), (∀ b ∈ ex, @BE.val E b = true) ∧ Owed E Phi (oweAtR (tabsOf pks 0) ths [] Try.prog Try.f6 (rootOf Try.f6) base11 (extraG Try.prog) cuts cut7 ex rw) :=
  ⟨[], rw7, Bk.nn, Owed.eq (@e7_0 E) (run7_0 E hfs hphi htab)⟩
theorem part8 (E : Env) (hfs : ∀ b ∈ cut8.fs, @BE.val E b = true) (hphi : Phi 8 E) (htab : TabR (tabsOf pks 0) E) : ∃ (ex : List BE) (rw : List (IE × IE)), (∀ b ∈ ex, @BE.val E b = true) ∧ Owed E Phi (oweAtR (tabsOf pks 0) ths [] Try.prog Try.f6 (rootOf Try.f6) base11 (extraG Try.prog) cuts cut8 ex rw) :=
  ⟨[], rw8, Bk.nn, Owed.eq (@e8_0 E) (run8_0 E hfs hphi htab)⟩
theorem part9 (E : Env) (hfs : ∀ b ∈ cut9.fs, @BE.val E b = true) (hphi : Phi 9 E) (htab : TabR (tabsOf pks 0) E) : ∃ (ex : List BE) (rw : List (IE × IE)), (∀ b ∈ ex, @BE.val E b = true) ∧ Owed E Phi (oweAtR (tabsOf pks 0) ths [] Try.prog Try.f6 (rootOf Try.f6) base11 (extraG Try.prog) cuts cut9 ex rw) :=
  ⟨[], rw9, Bk.nn, Owed.eq (@e9_0 E) (run9_0 E hfs hphi htab)⟩
theorem part10 (E : Env) (hfs : ∀ b ∈ cut10.fs, @BE.val E b = true) (hphi : Phi 10 E) (htab : TabR (tabsOf pks 0) E) : ∃ (ex : List BE) (rw : List (IE × IE)), (∀ b ∈ ex, @BE.val E b = true) ∧ Owed E Phi (oweAtR (tabsOf pks 0) ths [] Try.prog Try.f6 (rootOf Try.f6) base11 (extraG Try.prog) cuts cut10 ex rw) :=
  ⟨[], rw10, Bk.nn, Owed.eq (@e10_0 E) (run10_0 E hfs hphi htab)⟩
theorem part11 (E : Env) (hfs : ∀ b ∈ cut11.fs, @BE.val E b = true) (hphi : Phi 11 E) (htab : TabR (tabsOf pks 0) E) : ∃ (ex : List BE) (rw : List (IE × IE)), (∀ b ∈ ex, @BE.val E b = true) ∧ Owed E Phi (oweAtR (tabsOf pks 0) ths [] Try.prog Try.f6 (rootOf Try.f6) base11 (extraG Try.prog) cuts cut11 ex rw) :=
  ⟨[], rw11, Bk.nn, Owed.eq (@e11_0 E) (run11_0 E hfs hphi htab)⟩
theorem runsM (E : Env) (i : Nat) (k : Cut) (hi : cuts[i]? = some k) (hfs : ∀ b ∈ k.fs, @BE.val E b = true) (hphi : Phi i E) (htab : TabR (tabsOf pks 0) E) : ∃ (ex : List BE) (rw : List (IE × IE)), (∀ b ∈ ex, @BE.val E b = true) ∧ Owed E Phi (oweAtR (tabsOf pks 0) ths [] Try.prog Try.f6 (rootOf Try.f6) base11 (extraG Try.prog) cuts k ex rw) := by
  match i, hi with
  | 0, hi => obtain rfl : cut0 = k := Option.some.inj (show some cut0 = some k from hi); exact part0 E hfs hphi htab
  | 1, hi => obtain rfl : cut1 = k := Option.some.inj (show some cut1 = some k from hi); exact part1 E hfs hphi htab
  | 2, hi => obtain rfl : cut2 = k := Option.some.inj (show some cut2 = some k from hi); exact part2 E hfs hphi htab
  | 3, hi => obtain rfl : cut3 = k := Option.some.inj (show some cut3 = some k from hi); exact part3 E hfs hphi htab
  | 4, hi => obtain rfl : cut4 = k := Option.some.inj (show some cut4 = some k from hi); exact part4 E hfs hphi htab
  | 5, hi => obtain rfl : cut5 = k := Option.some.inj (show some cut5 = some k from hi); exact part5 E hfs hphi htab
  | 6, hi => obtain rfl : cut6 = k := Option.some.inj (show some cut6 = some k from hi); exact part6 E hfs hphi htab
  | 7, hi => obtain rfl : cut7 = k := Option.some.inj (show some cut7 = some k from hi); exact part7 E hfs hphi htab
  | 8, hi => obtain rfl : cut8 = k := Option.some.inj (show some cut8 = some k from hi); exact part8 E hfs hphi htab
  | 9, hi => obtain rfl : cut9 = k := Option.some.inj (show some cut9 = some k from hi); exact part9 E hfs hphi htab
  | 10, hi => obtain rfl : cut10 = k := Option.some.inj (show some cut10 = some k from hi); exact part10 E hfs hphi htab
  | 11, hi => obtain rfl : cut11 = k := Option.some.inj (show some cut11 = some k from hi); exact part11 E hfs hphi htab
  | n + 12, hi => exact absurd hi (by simp [cuts])
theorem startM (E : Env) (h1 : symRng E pks 0 0) : Owed E Phi (oweStartR (tabsOf pks 0) ths [] Try.prog Try.f6 (rootOf Try.f6) base11 (extraG Try.prog) cuts (rngFacts pks 0) (symArgs pks 0 0) (symHeap pks 0 0)) := Owed.eq (@eS E) (runS E h1)
theorem trOk : ∀ i ∈ ([] : List Nat), ∀ E, Phi i E := fun i hi E => by cases hi
theorem bodyOk : Try.f6.body = some (rootOf Try.f6) := by kernel_rfl
theorem law (E : Env) (ρ : Rho) (F : Nat → Nat → Prop) (w : World) (argv : Array Value) (h1 : symRng E pks 0 0) (h2 : @HeapOk E Empty _ ρ F (symHeap pks 0 0) w) (h3 : All2 (@SV.is E ρ) (symArgs pks 0 0) argv.toList) :
    Calls Try.prog 6 argv w fun e w' => e = .returned (.bool true) ∧ ∃ ρ' F', Reach ρ F w ρ' F' w' :=
  floydRM (ts := tabsOf pks 0) mixed_ok (c := @base11) @base11_ok (x := extraG Try.prog) (fun {_} => extraG_ok _) Try.func6 bodyOk ths_ok (tr := []) (Φ := Phi) trOk heads runsM E (tabsOf_ok E h1) (rngFacts_ok E h1) (startM E h1) h2 h3
end Go.Proofs.Ytafemlljemhkhaa.Sx.LClaimAlone
