import Derived.Test.YtafemlljemhkhaaPSxSw
import Derived.Test.YtafemlljemhkhaaPSxSpr
namespace Go.Proofs.Ytafemlljemhkhaa.Sx
open Go
set_option linter.unusedSectionVars false
set_option linter.unusedVariables false
set_option linter.unusedSimpArgs false
set_option maxRecDepth 1000000
namespace SeE
open Bk Sm Sw
def L1 : IE := .latom 1100
def Fi : IE := .consL (.lit 0) (.consL (.lit 0) (.consL (.len L1) (.consL (.lit 0) L1)))
def X0 : IE := .consL (.atom 1070) (.consL (.atom 1020) (.consL (.atom 1021) (.consL (.atom 1022) (.consL (.atom 1023) (.consL (.atom 1024) (.consL (.atom 1025) (.consL (.atom 1026) (.consL (.atom 1050) (.consL (.atom 1051) (.consL (.atom 1052)
  (.consL (.atom 1001) (.consL (.atom 1061) (.consL (.atom 1062) (.consL (.atom 1063) (.consL (.atom 1064) (.consL (.atom 1065) (.consL (.atom 1066) (.consL (.len Fi) (.catL Fi R)))))))))))))))))))
def rI' (i : Nat) : IE := .fn (4200 + i) X0
def args : List SV := [p0, m0', g0, wi 1070]
def heap : Heap Empty := it Fi :: rest
def N : List Nat := [300, 198, 200, 202, 210]
noncomputable def root : Code := rootOf Try.f44
def I0 : SS Empty := (SS.mk [(.w (.one (.b (.ptr 300 (.lit 0))))), (.w (.one (.b (.ptr 198 (.lit 0))))), (.w (.one (.b (.ptr 210 (.lit 0))))), (.w (.one (.b (.int .i64 (.atom 1070))))), .unk, .unk, .unk, .unk, .unk, .unk, (.w (.one (.b (.int .i64 (.atom 1070))))), (.w (.one (.b (.int .i64 (.atom 1500))))), .unk, .unk, .unk, .unk, .unk, .unk, .unk, .unk, .unk, .unk, .unk] [(198, (.cells 122 [(.b (.int .i64 (.atom 1020))), (.b (.int .i64 (.atom 1021))), (.b (.int .i64 (.atom 1022))), (.b (.int .i64 (.atom 1023))), (.b (.int .i64 (.atom 1024))), (.b (.int .i64 (.atom 1025))), (.b (.int .i64 (.atom 1026))), (.b (.ptr 200 (.lit 0)))] 0)), (200, (.cells 130 [(.b (.sl 202 (.lit 0) (.len (.latom 1508)) (.len (.latom 1508)))), (.b (.int .i64 (.atom 1501))), (.b (.int .i64 (.atom 1502))), (.b (.int .i64 (.atom 1503))), (.b (.int .u64 (.atom 1504))), (.b (.int .u64 (.atom 1505))), (.b (.int .u64 (.atom 1506))), (.b (.bool (.atom 1507)))] 0)), (202, (.row .u64 27 (.latom 1508))), (300, (.mach 0 (.consL (.lit 1003) (.latom 1509)))), (210, (.cells 105 [(.b (.int .i64 (.atom 1510))), (.b (.int .u64 (.atom 1511))), (.b (.int .i64 (.atom 1052)))] 0))] 3)
def F0 : List BE := [.cmp .leq (.lit 0) (.atom 1500), (.cmp .neq (.fn 1 cfgX) (.lit 0)), (.cmp .leq (.len (.latom 1100)) (.lit 10000)), (.cmp .neq (.fn 7999 (.latom 1100)) (.lit 0)), (.cmp .neq (.fn 7999 (.latom 1000)) (.lit 0)), (.cmp .leq (.atom 1070) (.lit 1000)), (.cmp .leq (.lit 0) (.atom 1070))]
def cut0 : Cut := ⟨[0, 1, 0, 1], I0, F0, [((.atom 1070), (.atom 1500))]⟩
def cuts : List Cut := [cut0]
def Z : Own := ⟨[1500, 1501, 1502, 1503, 1504, 1505, 1506, 1507, 1510, 1511, 2600], [1508, 1509]⟩
def T0a : List (Nat × IE) := [(1501, rI' 0), (1502, rI' 1), (1503, rI' 2), (1504, rI' 3), (1505, rI' 4), (1506, rI' 5), (1507, rI' 6), (1510, rI' 7), (1511, rI' 8), (2600, rI' 99)]
def T0l : List (Nat × IE) := [(1508, .putL R (.lit 0) (.fnL 4201 X0)), (1509, .fnL 4200 X0)]
def end0 : EndE := ⟨(.w (.one (.b (.int .i64 (.atom 2600))))), [(198, (.cells 122 [(.b (.int .i64 (.atom 1020))), (.b (.int .i64 (.atom 1021))), (.b (.int .i64 (.atom 1022))), (.b (.int .i64 (.atom 1023))), (.b (.int .i64 (.atom 1024))), (.b (.int .i64 (.atom 1025))), (.b (.int .i64 (.atom 1026))), (.b (.ptr 200 (.lit 0)))] 0)), (200, (.cells 130 [(.b (.sl 202 (.lit 0) (.len (.latom 1508)) (.len (.latom 1508)))), (.b (.int .i64 (.atom 1501))), (.b (.int .i64 (.atom 1502))), (.b (.int .i64 (.atom 1503))), (.b (.int .u64 (.atom 1504))), (.b (.int .u64 (.atom 1505))), (.b (.int .u64 (.atom 1506))), (.b (.bool (.atom 1507)))] 0)), (202, (.row .u64 27 (.latom 1508))), (300, (.mach 0 (.consL (.lit 1003) (.latom 1509)))), (210, (.cells 105 [(.b (.int .i64 (.atom 1510))), (.b (.int .u64 (.atom 1511))), (.b (.int .i64 (.atom 1052)))] 0))], ⟨T0a, T0l, []⟩⟩
def ends : List EndE := [end0]
def ths : Ths := []
theorem ths_ok : ThsOk ths := fun E t h _ => by cases h
def fs0 : List BE := [right, .cmp .leq (.len L1) (.lit 10000), wordsB L1, wordsB R, .cmp .leq (.atom 1070) (.lit 1000), .cmp .leq (.lit 0) (.atom 1070)]
def obS : List Ob := [(.at_ 0 [(1026, (.atom 1026)), (1025, (.atom 1025)), (1024, (.atom 1024)), (1023, (.atom 1023)), (1022, (.atom 1022)), (1021, (.atom 1021)), (1020, (.atom 1020)), (1507, (.cmpI .neq (.atom 1066) (.lit 0))), (1506, (.atom 1065)), (1505, (.atom 1064)), (1504, (.atom 1063)), (1503, (.atom 1062)), (1502, (.atom 1061)), (1501, (.atom 1001)), (1052, (.atom 1052)), (1511, (.atom 1051)), (1510, (.atom 1050)), (1500, (.lit 0)), (1070, (.atom 1070))] [(1509, (.consL (.lit 0) (.consL (.lit 0) (.consL (.len (.latom 1100)) (.consL (.lit 0) (.latom 1100)))))), (1508, (.latom 1000))] [])]
theorem eS [Env] : oweStartE ths N Z ends Try.prog Try.f44 root baseS (extraG Try.prog) cuts fs0 args heap = obS := by kernel_rfl
def ob0 : List Ob := [(.at_ 100 [(1026, (.atom 1026)), (1025, (.atom 1025)), (1024, (.atom 1024)), (1023, (.atom 1023)), (1022, (.atom 1022)), (1021, (.atom 1021)), (1020, (.atom 1020)), (1507, (.cmpI .neq (.atom 1507) (.lit 0))), (1506, (.atom 1506)), (1505, (.atom 1505)), (1504, (.atom 1504)), (1503, (.atom 1503)), (1502, (.atom 1502)), (1501, (.atom 1501)), (1052, (.atom 1052)), (1511, (.atom 1511)), (1510, (.atom 1510)), (2600, (.atom 1500))] [(1509, (.latom 1509)), (1508, (.latom 1508))] [(.cmp .eql (.get (.latom 1509) (.lit 0) 0) (.lit 3)), (.cmp .lss (.atom 1500) (.atom 1070))]), (.need (.cmp .leq (.len (.latom 1509)) (.lit 1000000)) [(.cmp .neq (.get (.latom 1509) (.lit 0) 0) (.lit 3)), (.cmp .lss (.atom 1500) (.atom 1070))]), (.need (.cmp .neq (.fn 7999 (.latom 1509)) (.lit 0)) [(.cmp .leq (.len (.latom 1509)) (.lit 1000000)), (.cmp .neq (.get (.latom 1509) (.lit 0) 0) (.lit 3)), (.cmp .lss (.atom 1500) (.atom 1070))]), (.at_ 0 [(1026, (.atom 1026)), (1025, (.atom 1025)), (1024, (.atom 1024)), (1023, (.atom 1023)), (1022, (.atom 1022)), (1021, (.atom 1021)), (1020, (.atom 1020)), (1507, (.cmpI .neq (.fn 1206 (.consL (.atom 1020) (.consL (.atom 1021) (.consL (.atom 1022) (.consL (.atom 1023) (.consL (.atom 1024) (.consL (.atom 1025) (.consL (.atom 1026) (.consL (.atom 1510) (.consL (.atom 1511) (.consL (.atom 1052) (.consL (.atom 1501) (.consL (.atom 1502) (.consL (.atom 1503) (.consL (.atom 1504) (.consL (.atom 1505) (.consL (.atom 1506) (.consL (.cmpI .neq (.atom 1507) (.lit 0)) (.consL (.len (.latom 1509)) (.catL (.latom 1509) (.latom 1508))))))))))))))))))))) (.lit 0))), (1506, (.fn 1205 (.consL (.atom 1020) (.consL (.atom 1021) (.consL (.atom 1022) (.consL (.atom 1023) (.consL (.atom 1024) (.consL (.atom 1025) (.consL (.atom 1026) (.consL (.atom 1510) (.consL (.atom 1511) (.consL (.atom 1052) (.consL (.atom 1501) (.consL (.atom 1502) (.consL (.atom 1503) (.consL (.atom 1504) (.consL (.atom 1505) (.consL (.atom 1506) (.consL (.cmpI .neq (.atom 1507) (.lit 0)) (.consL (.len (.latom 1509)) (.catL (.latom 1509) (.latom 1508)))))))))))))))))))))), (1505, (.fn 1204 (.consL (.atom 1020) (.consL (.atom 1021) (.consL (.atom 1022) (.consL (.atom 1023) (.consL (.atom 1024) (.consL (.atom 1025) (.consL (.atom 1026) (.consL (.atom 1510) (.consL (.atom 1511) (.consL (.atom 1052) (.consL (.atom 1501) (.consL (.atom 1502) (.consL (.atom 1503) (.consL (.atom 1504) (.consL (.atom 1505) (.consL (.atom 1506) (.consL (.cmpI .neq (.atom 1507) (.lit 0)) (.consL (.len (.latom 1509)) (.catL (.latom 1509) (.latom 1508)))))))))))))))))))))), (1504, (.fn 1203 (.consL (.atom 1020) (.consL (.atom 1021) (.consL (.atom 1022) (.consL (.atom 1023) (.consL (.atom 1024) (.consL (.atom 1025) (.consL (.atom 1026) (.consL (.atom 1510) (.consL (.atom 1511) (.consL (.atom 1052) (.consL (.atom 1501) (.consL (.atom 1502) (.consL (.atom 1503) (.consL (.atom 1504) (.consL (.atom 1505) (.consL (.atom 1506) (.consL (.cmpI .neq (.atom 1507) (.lit 0)) (.consL (.len (.latom 1509)) (.catL (.latom 1509) (.latom 1508)))))))))))))))))))))), (1503, (.fn 1202 (.consL (.atom 1020) (.consL (.atom 1021) (.consL (.atom 1022) (.consL (.atom 1023) (.consL (.atom 1024) (.consL (.atom 1025) (.consL (.atom 1026) (.consL (.atom 1510) (.consL (.atom 1511) (.consL (.atom 1052) (.consL (.atom 1501) (.consL (.atom 1502) (.consL (.atom 1503) (.consL (.atom 1504) (.consL (.atom 1505) (.consL (.atom 1506) (.consL (.cmpI .neq (.atom 1507) (.lit 0)) (.consL (.len (.latom 1509)) (.catL (.latom 1509) (.latom 1508)))))))))))))))))))))), (1502, (.fn 1201 (.consL (.atom 1020) (.consL (.atom 1021) (.consL (.atom 1022) (.consL (.atom 1023) (.consL (.atom 1024) (.consL (.atom 1025) (.consL (.atom 1026) (.consL (.atom 1510) (.consL (.atom 1511) (.consL (.atom 1052) (.consL (.atom 1501) (.consL (.atom 1502) (.consL (.atom 1503) (.consL (.atom 1504) (.consL (.atom 1505) (.consL (.atom 1506) (.consL (.cmpI .neq (.atom 1507) (.lit 0)) (.consL (.len (.latom 1509)) (.catL (.latom 1509) (.latom 1508)))))))))))))))))))))), (1501, (.fn 1200 (.consL (.atom 1020) (.consL (.atom 1021) (.consL (.atom 1022) (.consL (.atom 1023) (.consL (.atom 1024) (.consL (.atom 1025) (.consL (.atom 1026) (.consL (.atom 1510) (.consL (.atom 1511) (.consL (.atom 1052) (.consL (.atom 1501) (.consL (.atom 1502) (.consL (.atom 1503) (.consL (.atom 1504) (.consL (.atom 1505) (.consL (.atom 1506) (.consL (.cmpI .neq (.atom 1507) (.lit 0)) (.consL (.len (.latom 1509)) (.catL (.latom 1509) (.latom 1508)))))))))))))))))))))), (1052, (.atom 1052)), (1511, (.fn 1208 (.consL (.atom 1020) (.consL (.atom 1021) (.consL (.atom 1022) (.consL (.atom 1023) (.consL (.atom 1024) (.consL (.atom 1025) (.consL (.atom 1026) (.consL (.atom 1510) (.consL (.atom 1511) (.consL (.atom 1052) (.consL (.atom 1501) (.consL (.atom 1502) (.consL (.atom 1503) (.consL (.atom 1504) (.consL (.atom 1505) (.consL (.atom 1506) (.consL (.cmpI .neq (.atom 1507) (.lit 0)) (.consL (.len (.latom 1509)) (.catL (.latom 1509) (.latom 1508)))))))))))))))))))))), (1510, (.fn 1207 (.consL (.atom 1020) (.consL (.atom 1021) (.consL (.atom 1022) (.consL (.atom 1023) (.consL (.atom 1024) (.consL (.atom 1025) (.consL (.atom 1026) (.consL (.atom 1510) (.consL (.atom 1511) (.consL (.atom 1052) (.consL (.atom 1501) (.consL (.atom 1502) (.consL (.atom 1503) (.consL (.atom 1504) (.consL (.atom 1505) (.consL (.atom 1506) (.consL (.cmpI .neq (.atom 1507) (.lit 0)) (.consL (.len (.latom 1509)) (.catL (.latom 1509) (.latom 1508)))))))))))))))))))))), (1500, (.op .add .i64 (.atom 1500) (.lit 1))), (1070, (.atom 1070))] [(1509, (.fnL 1200 (.consL (.atom 1020) (.consL (.atom 1021) (.consL (.atom 1022) (.consL (.atom 1023) (.consL (.atom 1024) (.consL (.atom 1025) (.consL (.atom 1026) (.consL (.atom 1510) (.consL (.atom 1511) (.consL (.atom 1052) (.consL (.atom 1501) (.consL (.atom 1502) (.consL (.atom 1503) (.consL (.atom 1504) (.consL (.atom 1505) (.consL (.atom 1506) (.consL (.cmpI .neq (.atom 1507) (.lit 0)) (.consL (.len (.latom 1509)) (.catL (.latom 1509) (.latom 1508)))))))))))))))))))))), (1508, (.putL (.latom 1508) (.lit 0) (.fnL 1201 (.consL (.atom 1020) (.consL (.atom 1021) (.consL (.atom 1022) (.consL (.atom 1023) (.consL (.atom 1024) (.consL (.atom 1025) (.consL (.atom 1026) (.consL (.atom 1510) (.consL (.atom 1511) (.consL (.atom 1052) (.consL (.atom 1501) (.consL (.atom 1502) (.consL (.atom 1503) (.consL (.atom 1504) (.consL (.atom 1505) (.consL (.atom 1506) (.consL (.cmpI .neq (.atom 1507) (.lit 0)) (.consL (.len (.latom 1509)) (.catL (.latom 1509) (.latom 1508)))))))))))))))))))))))] [(.cmp .neq (.fn 7999 (.latom 1509)) (.lit 0)), (.cmp .leq (.len (.latom 1509)) (.lit 1000000)), (.cmp .neq (.get (.latom 1509) (.lit 0) 0) (.lit 3)), (.cmp .lss (.atom 1500) (.atom 1070))]), (.at_ 100 [(1026, (.atom 1026)), (1025, (.atom 1025)), (1024, (.atom 1024)), (1023, (.atom 1023)), (1022, (.atom 1022)), (1021, (.atom 1021)), (1020, (.atom 1020)), (1507, (.cmpI .neq (.atom 1507) (.lit 0))), (1506, (.atom 1506)), (1505, (.atom 1505)), (1504, (.atom 1504)), (1503, (.atom 1503)), (1502, (.atom 1502)), (1501, (.atom 1501)), (1052, (.atom 1052)), (1511, (.atom 1511)), (1510, (.atom 1510)), (2600, (.atom 1070))] [(1509, (.latom 1509)), (1508, (.latom 1508))] [(.cmp .leq (.atom 1070) (.atom 1500))])]
theorem e0 [Env] : oweAtE ths N Z ends Try.prog Try.f44 root baseS (extraG Try.prog) cuts cut0 = ob0 := by kernel_rfl
def tree0 : Tree (SV × Heap Empty) := (.req (right) (.req (.cmp .leq (.len L1) (.lit 10000)) (.req (wordsB L1) (.req (wordsB R) (.req (.cmp .leq (.atom 1070) (.lit 1000)) (.req (.cmp .leq (.lit 0) (.atom 1070)) (.leaf (end0.sv.sub end0.T, subH end0.T end0.h))))))))
def Pre (E : Env) : Prop := @BE.val E (right) = true ∧ @BE.val E (.cmp .leq (.len L1) (.lit 10000)) = true ∧ @BE.val E (wordsB L1) = true ∧ @BE.val E (wordsB R) = true ∧ @BE.val E (.cmp .leq (.atom 1070) (.lit 1000)) = true ∧ @BE.val E (.cmp .leq (.lit 0) (.atom 1070)) = true
def W0 (E : Env) : Wd := ⟨Cx E, Gx E, Bx E, 0 :: 0 :: ((E.l 1100).length : Int) :: 0 :: E.l 1100⟩
def Wc (E0 E : Env) : Wd := ⟨Cx E0, ⟨E.i 1510, E.i 1511, E0.i 1052⟩, ⟨E.i 1501, E.i 1502, E.i 1503, E.i 1504, E.i 1505, E.i 1506, E.i 1507 != 0, E.l 1508⟩, E.l 1509⟩
def Inv (k : Nat) (E0 : Env) (w : Wd) : Prop := swW (10000 + k) w ∧ w.B.row.length = (E0.l 1000).length
def Phi (E0 : Env) : Nat → Env → Prop
  | 0, E => ∃ k : Nat, E.i 1500 = k ∧ k ≤ (E0.i 1070).toNat ∧ Inv k E0 (Wc E0 E) ∧ runM 2 (E0.i 1070).toNat (W0 E0) = ((runM 2 ((E0.i 1070).toNat - k) (Wc E0 E)).1 + k, (runM 2 ((E0.i 1070).toNat - k) (Wc E0 E)).2)
  | 100, E => E.i 2600 = (runM 2 (E0.i 1070).toNat (W0 E0)).1 ∧ Wc E0 E = (runM 2 (E0.i 1070).toNat (W0 E0)).2 ∧ (E.l 1508).length = (E0.l 1000).length ∧ E.i 1507 = ofB (runM 2 (E0.i 1070).toNat (W0 E0)).2.B.done
  | _, _ => True
theorem X0_val (E0 : Env) : decW ((@IE.lst E0 X0).tail) = W0 E0 := decW_eq _ _ _ _ _ _ _ _ _ _ _ _ _ _ _ _ _ _ _
theorem W0_F (E0 : Env) : (W0 E0).F = (⟨0, 0, E0.l 1100, [], []⟩ : Swp).enc := by simp [W0, Swp.enc]
theorem out_run (E0 : Env) (i : Nat) (hi : i < 99) : funs (4200 + i) (@IE.lst E0 X0) = outI (runM 2 (E0.i 1070).toNat (W0 E0)).2 i := by
  rw [funs_mch (by omega)]
  unfold mchI
  rw [if_neg (by omega), if_pos (by omega)]
  show (if (4200 + i) % 100 = 99 then _ else _) = _
  rw [if_neg (by omega), show (4200 + i) % 100 = i by omega, show (4200 + i - 4000) / 100 = 2 by omega, ← X0_val]
  rfl
theorem out_cnt (E0 : Env) : funs 4299 (@IE.lst E0 X0) = (runM 2 (E0.i 1070).toNat (W0 E0)).1 := by
  rw [← X0_val]; rfl
theorem out_runL (E0 : Env) (i : Nat) (hi : i < 99) : funsL (4200 + i) (@IE.lst E0 X0) = outL 2 (runM 2 (E0.i 1070).toNat (W0 E0)).2 i := by
  rw [funsL_mch (by omega)]
  unfold mchL
  rw [if_neg (by omega), if_pos (by omega), show (4200 + i) % 100 = i by omega, show (4200 + i - 4000) / 100 = 2 by omega, ← X0_val]
  rfl
def Xc : IE := .consL (.atom 1020) (.consL (.atom 1021) (.consL (.atom 1022) (.consL (.atom 1023) (.consL (.atom 1024) (.consL (.atom 1025) (.consL (.atom 1026) (.consL (.atom 1510) (.consL (.atom 1511) (.consL (.atom 1052) (.consL (.atom 1501) (.consL (.atom 1502) (.consL (.atom 1503) (.consL (.atom 1504) (.consL (.atom 1505) (.consL (.atom 1506) (.consL (.cmpI .neq (.atom 1507) (.lit 0)) (.consL (.len (.latom 1509)) (.catL (.latom 1509) (.latom 1508)))))))))))))))))))
theorem runS (E : Env) (hpre : Pre E) : ObsOk E (Phi E) obS := ⟨fun _ => by
  obtain ⟨h1, h2, h3, h4, h5, h6⟩ := hpre
  have hW : (⟨Cx E, Gx E, ⟨E.i 1001, E.i 1061, E.i 1062, E.i 1063, E.i 1064, E.i 1065, ofB (E.i 1066 != 0) != 0, E.l 1000⟩, 0 :: 0 :: ((E.l 1100).length : Int) :: 0 :: E.l 1100⟩ : Wd) = W0 E := by rw [ofB_ne0]; rfl
  have hI : Inv 0 E (W0 E) := by
    refine ⟨⟨⟨⟨0, 0, E.l 1100, [], []⟩, W0_F E, ⟨by simp only; omega, by simp only; omega⟩, ⟨by simp only; omega, by simp only; omega⟩, words_of h3, wordsP_nil, wordsP_nil, ?_⟩, words_of h4⟩, rfl⟩
    have h2 : ((E.l 1100).length : Int) ≤ 10000 := of_decide_eq_true h2
    show (E.l 1100).length + 0 + 0 ≤ 10000 + 0
    omega
  have key1 : ∀ w, w = W0 E → Inv 0 E w := fun w h => h ▸ hI
  have key2 : ∀ w, w = W0 E → runM 2 (E.i 1070).toNat (W0 E) = ((runM 2 ((E.i 1070).toNat - 0) w).1 + ((0 : Nat) : Int), (runM 2 ((E.i 1070).toNat - 0) w).2) := fun w h => by rw [h]; simp
  exact ⟨0, rfl, Nat.zero_le _, key1 _ hW, key2 _ hW⟩, trivial⟩
theorem run0 (E0 E : Env) (hpre : Pre E0) (hz : Z.of E0 E) (hfs : ∀ b ∈ cut0.fs, @BE.val E b = true) (hphi : Phi E0 0 E) : ObsOk E (Phi E0) ob0 := by
  obtain ⟨k, hk, hle, hinv, hrun⟩ := hphi
  obtain ⟨q1, q2, q3, q4, q5, q6⟩ := hpre
  have hmost0 : (0 : Int) ≤ E0.i 1070 := of_decide_eq_true q6
  have c70 : E.i 1070 = E0.i 1070 := hz.1 1070 rfl
  have hmost : E0.i 1070 ≤ 1000 := of_decide_eq_true q5
  obtain ⟨⟨⟨f, hf, hi⟩, hrow⟩, hlen⟩ := hinv
  have hF : E.l 1509 = f.enc := hf
  have hsame := (congrArg (fun b => (⟨Cx E0, ⟨E.i 1510, E.i 1511, E0.i 1052⟩, ⟨E.i 1501, E.i 1502, E.i 1503, E.i 1504, E.i 1505, E.i 1506, b, E.l 1508⟩, E.l 1509⟩ : Wd)) (ofB_ne0 (E.i 1507 != 0)))
  exact ⟨
    (fun hc => by
      have he : (E.l 1509).getD 0 0 = 3 := eq_of_beq hc.1
      have hend : endM 2 (Wc E0 E).F = true := by show decide ((E.l 1509).getD 0 0 = 3) = true; exact decide_eq_true he
      rw [runM_end hend] at hrun
      refine ⟨?_, ?_, hlen, ?_⟩
      · show E.i 1500 = _
        rw [hrun, hk]; simp
      · rw [hrun]; exact hsame
      · rw [hrun]; rfl),
    (fun hc => decide_eq_true (by
      show ((E.l 1509).length : Int) ≤ 1000000
      have := hi.len
      rw [hF]; omega)),
    (fun hc => (ofP_ne _).trans (decide_eq_true (by
      show wordsP (E.l 1509)
      rw [hF]; exact hi.words (by omega)))),
    (fun hc => by
      have hlt : E.i 1500 < E.i 1070 := of_decide_eq_true hc.2.2.2.1
      have hne : ¬ (E.l 1509).getD 0 0 = 3 := bne_iff_ne.1 hc.2.2.1
      have hend : endM 2 (Wc E0 E).F = false := by show decide ((E.l 1509).getD 0 0 = 3) = false; exact decide_eq_false hne
      have hst := swW.step (w := Wc E0 E) ⟨⟨f, hf, hi⟩, hrow⟩ (by omega)
      obtain ⟨n, hn⟩ : ∃ n, (E0.i 1070).toNat - k = n + 1 := ⟨(E0.i 1070).toNat - k - 1, by omega⟩
      have hX : decW (@IE.lst E Xc) = Wc E0 E := by
        rw [show decW (@IE.lst E Xc) = ⟨⟨E.i 1020, E.i 1021, E.i 1022, E.i 1023, E.i 1024, E.i 1025, E.i 1026⟩, ⟨E.i 1510, E.i 1511, E.i 1052⟩, ⟨E.i 1501, E.i 1502, E.i 1503, E.i 1504, E.i 1505, E.i 1506, ofB (E.i 1507 != 0) != 0, E.l 1508⟩, E.l 1509⟩ from decW_eq _ _ _ _ _ _ _ _ _ _ _ _ _ _ _ _ _ _ _, ofB_ne0,
          hz.1 1020 rfl, hz.1 1021 rfl, hz.1 1022 rfl, hz.1 1023 rfl, hz.1 1024 rfl, hz.1 1025 rfl, hz.1 1026 rfl, hz.1 1052 rfl]
        rfl
      have hall := step_all 2 (R := E.l 1508) hX rfl hst.2.2.1 hst.2.2.2 hst.2.1
      have key1 : ∀ w, w = stepM 2 (Wc E0 E) → Inv (k + 1) E0 w := fun w h => h ▸ ⟨hst.1, hst.2.1.trans hlen⟩
      have key2 : ∀ w, w = stepM 2 (Wc E0 E) → runM 2 (E0.i 1070).toNat (W0 E0) = ((runM 2 ((E0.i 1070).toNat - (k + 1)) w).1 + ((k + 1 : Nat) : Int), (runM 2 ((E0.i 1070).toNat - (k + 1)) w).2) := fun w h => by
        rw [h, hrun, hn, runM_step hend, show (E0.i 1070).toNat - (k + 1) = n by omega]
        simp only [Prod.mk.injEq, and_true]
        omega
      refine ⟨k + 1, ?_, by omega, ?_, ?_⟩
      · show Go.IntKind.i64.wrap (E.i 1500 + 1) = _
        rw [hk]
        exact (wI_id (by omega) (by omega)).trans (by omega)
      · exact key1 _ hall
      · exact key2 _ hall),
    (fun hc => by
      have hge : E.i 1070 ≤ E.i 1500 := of_decide_eq_true hc.1
      have hk0 : (E0.i 1070).toNat - k = 0 := by omega
      rw [hk0] at hrun
      have hrun : runM 2 (E0.i 1070).toNat (W0 E0) = (0 + (k : Int), Wc E0 E) := hrun
      refine ⟨?_, ?_, hlen, ?_⟩
      · show E.i 1070 = _
        rw [hrun, show E.i 1070 = (k : Int) by rw [c70]; omega]; simp
      · rw [hrun]; exact hsame
      · rw [hrun]; rfl),
    trivial⟩
theorem told0 (E0 E : Env) (hphi : Phi E0 100 E) (hz : Z.of E0 E) : ToldE end0.T E0 E := by
  obtain ⟨h1, hW, hl, h7⟩ := hphi
  have g : ∀ i, i < 99 → outI (Wc E0 E) i = funs (4200 + i) (@IE.lst E0 X0) := fun i hi => by rw [out_run E0 i hi, hW]
  refine ⟨lk_all ⟨g 0 (by decide), g 1 (by decide), g 2 (by decide), g 3 (by decide), g 4 (by decide), g 5 (by decide), ?_, g 7 (by decide), g 8 (by decide), h1.trans (out_cnt E0).symm, trivial⟩, lk_all ⟨?_, ?_, trivial⟩⟩
  · exact h7.trans (out_run E0 6 (by decide)).symm
  · show E.l 1508 = writeL (E0.l 1000) (0 : Int).toNat (funsL 4201 (@IE.lst E0 X0))
    rw [show funsL 4201 (@IE.lst E0 X0) = _ from out_runL E0 1 (by decide), ← hW]
    exact (writeL_whole _ _ hl).symm
  · show E.l 1509 = funsL 4200 (@IE.lst E0 X0)
    rw [show funsL 4200 (@IE.lst E0 X0) = _ from out_runL E0 0 (by decide), ← hW]
    rfl
theorem fs0_ok (E : Env) (hpre : Pre E) : ∀ b ∈ fs0, @BE.val E b = true := by
  intro b hb
  simp only [fs0, List.mem_cons, List.not_mem_nil, or_false] at hb
  rcases hb with rfl | rfl | rfl | rfl | rfl | rfl
  · exact hpre.1
  · exact hpre.2.1
  · exact hpre.2.2.1
  · exact hpre.2.2.2.1
  · exact hpre.2.2.2.2.1
  · exact hpre.2.2.2.2.2
theorem heads : (cuts.all fun k => isLoop (subAt root k.p) && Nat.ble k.ms.length 9) = true := by kernel_rfl
theorem bodyOk : Try.f44.body = some root := by kernel_rfl
def s0 : Summ := ⟨44, args, heap, tree0⟩
theorem preOf {E : Env} {K : SV × Heap Empty → Prop} (hK : @Tree.holds E _ K tree0) : Pre E := ⟨hK.1, hK.2.1, hK.2.2.1, hK.2.2.2.1, hK.2.2.2.2.1, hK.2.2.2.2.2.1⟩
theorem ok0 : s0.ok Try.prog := by
  refine Summ.loop (Z := Z) (ends := ends) (Φ := Phi) [⟨[1500], []⟩] (Bk.enters_of Try.func44 (by kernel_rfl)) ?_ ?_ ?_
  · intro E ρ F w argv ⟨K, hK⟩ H ha
    have hpre := preOf hK
    refine floydEO (us := ths) (N := N) mixed_ok (c := @baseS) @baseS_ok (x := extraG Try.prog) (fun {_} => extraG_ok _) Try.func44 bodyOk ths_ok (cuts := cuts) heads E (fun E' i k hk hz hfs hphi => ?_) (fs0 := fs0) ?_ (Owed.eq (@eS E) (runS E hpre)) ?_ H ha
    · match i, hk with
      | 0, hk => obtain rfl : cut0 = k := Option.some.inj (show some cut0 = some k from hk); exact Owed.eq (@e0 E') (run0 E E' hpre hz hfs hphi)
      | n + 1, hk => exact absurd hk (by simp [cuts])
    · intro b hb
      exact fs0_ok E hpre b hb
    · intro n hn
      exact hn
  · intro j en hj
    match j, hj with
    | 0, hj => obtain rfl : end0 = en := Option.some.inj (show some end0 = some en from hj); exact ⟨_, rfl, by kernel_rfl, by kernel_rfl, by kernel_rfl, by kernel_rfl, by kernel_rfl⟩
    | n + 1, hj => exact absurd hj (by simp [ends])
  · intro E E' j en hj hphi hz
    match j, hj with
    | 0, hj => obtain rfl : end0 = en := Option.some.inj (show some end0 = some en from hj); exact ⟨told0 E E' hphi hz, fun K hK => hK.2.2.2.2.2.2⟩
    | n + 1, hj => exact absurd hj (by simp [ends])
end SeE
end Go.Proofs.Ytafemlljemhkhaa.Sx
