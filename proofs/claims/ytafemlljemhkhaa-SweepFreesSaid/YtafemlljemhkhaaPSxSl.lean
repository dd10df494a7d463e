import Derived.Test.YtafemlljemhkhaaPSxSe
import Derived.Test.YtafemlljemhkhaaPSxCw
namespace Go.Proofs.Ytafemlljemhkhaa.Sx
open Go
set_option linter.unusedSectionVars false
set_option linter.unusedVariables false
set_option linter.unusedSimpArgs false
set_option maxRecDepth 1000000
namespace SlS
open Bk Sm Sw
def cfgN : IE := .consL (.atom 1020) (.consL (.atom 1021) (.consL (.atom 1022) (.consL (.atom 1023) (.consL (.atom 1024) (.consL (.atom 1025) (.consL (.atom 1026) (.consL (.atom 1061) .nilL)))))))
def condN : BE := .not (.and (.cmp .neq (.fn 1 Sw.cfgA) (.lit 0)) (.cmp .leq (.atom 1061) (.atom 1022)))
def args : List SV := [.w (.agg cfgC), .w (.one (.b (.isl 3 (.atom 1060) (.atom 1061))))]
def heap : Heap Empty := [(3, .tab [.int .u64, .int .u64, .int .u64] (.atom 1060) (.atom 1061) 0)]
def N : List Nat := [3]
noncomputable def root : Code := rootOf Try.f40
def I0 : SS Empty := (SS.mk [.unk, .unk, .unk, .unk, .unk, .unk, .unk, (.w (.one (.b (.ptr 2251971620765732 (.lit 0))))), .unk, (.w (.one (.b (.ref 131120)))), .unk, .unk, .unk, .unk, .unk, .unk, .unk, .unk, .unk, .unk, .unk, .unk, .unk, .unk, .unk, .unk, .unk, .unk, .unk, .unk, (.w (.one (.b (.isl 3 (.atom 1060) (.atom 1061))))), (.w (.one (.b (.int .i64 (.nat (.atom 1061)))))), (.w (.one (.b (.int .i64 (.atom 1500))))), .unk, .unk, .unk, .unk, .unk, .unk, .unk, .unk, .unk, .unk, .unk, .unk, .unk, .unk, .unk, .unk, .unk, .unk, .unk, .unk, .unk, .unk, .unk] [(3, (.tab [(.int .u64), (.int .u64), (.int .u64)] (.atom 1060) (.atom 1061) 0)), (2251971620765732, (.cells 122 [(.b (.int .i64 (.atom 1020))), (.b (.int .i64 (.atom 1021))), (.b (.int .i64 (.atom 1022))), (.b (.int .i64 (.atom 1023))), (.b (.int .i64 (.atom 1024))), (.b (.int .i64 (.atom 1025))), (.b (.int .i64 (.atom 1026))), (.b (.ptr 295170424277005500426 (.lit 0)))] 0)), (131120, (.mach 4 (.latom 1501))), (295170424277005500426, (.cells 130 [(.b (.sl 295170424277005500422 (.lit 0) (.len (.latom 1507)) (.len (.latom 1507)))), (.b (.int .i64 (.atom 1500))), (.b (.int .i64 (.atom 1502))), (.b (.int .i64 (.atom 1503))), (.b (.int .u64 (.lit 0))), (.b (.int .u64 (.atom 1504))), (.b (.int .u64 (.atom 1505))), (.b (.bool (.atom 1506)))] 0)), (295170424277005500422, (.row .u64 27 (.latom 1507)))] 28)
def F0 : List BE := [.cmp .leq (.lit 0) (.atom 1500), (.cmp .eql (.nat (.atom 1061)) (.atom 1061)), (.cmp .leq (.nat (.atom 1061)) (.atom 1022)), (.cmp .leq (.lit 16) (.fn 2 cfgX)), (.cmp .leq (.fn 2 cfgX) (.lit 845)), (.cmp .eql (.nat (.fn 2 cfgX)) (.fn 2 cfgX)), (.cmp .leq (.lit 1) (.atom 1020)), (.cmp .leq (.atom 1020) (.lit 8)), (.cmp .leq (.lit 1) (.atom 1021)), (.cmp .leq (.atom 1021) (.lit 8)), (.cmp .leq (.lit 1) (.atom 1022)), (.cmp .leq (.atom 1022) (.lit 64)), (.cmp .leq (.lit 1) (.atom 1023)), (.cmp .leq (.atom 1023) (.lit 6)), (.cmp .leq (.lit 1) (.atom 1024)), (.cmp .leq (.atom 1024) (.lit 64)), (.cmp .leq (.lit 1) (.atom 1025)), (.cmp .leq (.atom 1025) (.lit 64)), (.cmp .leq (.lit 0) (.atom 1026)), (.cmp .leq (.atom 1026) (.lit 1073741823)), (.cmp .neq (.fn 1 cfgX) (.lit 0)), (.cmp .leq (.lit 0) (.atom 1061))]
def cut0 : Cut := ⟨[0, 1, 0, 1, 1, 1, 1], I0, F0, [((.nat (.atom 1061)), (.atom 1500))]⟩
def cuts : List Cut := [cut0]
def Z : Own := ⟨[1500, 1502, 1503, 1504, 1505, 1506], [1501, 1507]⟩
def T0a : List (Nat × IE) := []
def T0l : List (Nat × IE) := []
def end0 : EndE := ⟨(.tup [(.one (.b .nilp)), (.one (.b (.ref 131122))), (.one (.b (.bool (.lit false))))]), [(3, (.tab [(.int .u64), (.int .u64), (.int .u64)] (.atom 1060) (.atom 1061) 0)), (131122, (.mach 1 .nilL))], ⟨T0a, T0l, []⟩⟩
def T1a : List (Nat × IE) := [(1500, .fn 7900 cfgN), (1502, .fn 7901 cfgN), (1503, .fn 7902 cfgN), (1504, .fn 7904 cfgN), (1505, .fn 7905 cfgN), (1506, .fn 7906 cfgN)]
def T1l : List (Nat × IE) := [(1501, .fnL 7901 (.tabL 0 (.atom 1061) 3)), (1507, .fnL 7900 cfgN)]
def end1 : EndE := ⟨(.tup [(.one (.b (.ptr 2251971620765732 (.lit 0)))), (.one (.b (.ref 131120))), (.one (.b (.bool (.lit true))))]), [(3, (.tab [(.int .u64), (.int .u64), (.int .u64)] (.atom 1060) (.atom 1061) 0)), (2251971620765732, (.cells 122 [(.b (.int .i64 (.atom 1020))), (.b (.int .i64 (.atom 1021))), (.b (.int .i64 (.atom 1022))), (.b (.int .i64 (.atom 1023))), (.b (.int .i64 (.atom 1024))), (.b (.int .i64 (.atom 1025))), (.b (.int .i64 (.atom 1026))), (.b (.ptr 295170424277005500426 (.lit 0)))] 0)), (131120, (.mach 4 (.latom 1501))), (295170424277005500426, (.cells 130 [(.b (.sl 295170424277005500422 (.lit 0) (.len (.latom 1507)) (.len (.latom 1507)))), (.b (.int .i64 (.atom 1500))), (.b (.int .i64 (.atom 1502))), (.b (.int .i64 (.atom 1503))), (.b (.int .u64 (.lit 0))), (.b (.int .u64 (.atom 1504))), (.b (.int .u64 (.atom 1505))), (.b (.bool (.atom 1506)))] 0)), (295170424277005500422, (.row .u64 27 (.latom 1507)))], ⟨T1a, T1l, []⟩⟩
def ends : List EndE := [end0, end1]
def ths : Ths := []
theorem ths_ok : ThsOk ths := fun E t h _ => by cases h
def fs0 : List BE := [.cmp .leq (.lit 0) (.atom 1061)]
def obS : List Ob := [(.at_ 100 [(1061, (.atom 1061)), (1060, (.atom 1060))] [] [(.not (.cmp .neq (.fn 1 cfgX) (.lit 0)))]), (.at_ 100 [(1061, (.atom 1061)), (1060, (.atom 1060))] [] [(.cmp .gtr (.nat (.atom 1061)) (.atom 1022)), (.cmp .eql (.nat (.fn 2 cfgX)) (.fn 2 cfgX)), (.cmp .neq (.fn 1 cfgX) (.lit 0))]), (.at_ 0 [(1506, (.lit 0)), (1505, (.lit 0)), (1504, (.lit 0)), (1503, (.lit 0)), (1502, (.lit 0)), (1026, (.atom 1026)), (1025, (.atom 1025)), (1024, (.atom 1024)), (1023, (.atom 1023)), (1022, (.atom 1022)), (1021, (.atom 1021)), (1020, (.atom 1020)), (1500, (.lit 0)), (1061, (.atom 1061)), (1060, (.atom 1060))] [(1507, (.putL (.putL (.putL (.rep (.fn 2 cfgX) 1) (.lit 0) (.consL (.lit 1) .nilL)) (.at_ (.lit 0) (.fn 4 (.consL (.atom 1020) (.consL (.atom 1021) (.consL (.atom 1022) (.consL (.atom 1023) (.consL (.atom 1024) (.consL (.atom 1025) (.consL (.atom 1026) (.consL (.lit 0) (.consL (.lit 0) .nilL)))))))))) 1 0) (.consL (.fn 24 (.consL (.lit 1) (.consL (.lit 0) .nilL))) .nilL)) (.at_ (.lit 0) (.fn 4 (.consL (.atom 1020) (.consL (.atom 1021) (.consL (.atom 1022) (.consL (.atom 1023) (.consL (.atom 1024) (.consL (.atom 1025) (.consL (.atom 1026) (.consL (.lit 0) (.consL (.lit 4) .nilL)))))))))) 1 0) (.consL (.conv .u64 (.atom 1023)) .nilL))), (1501, .nilL)] [(.not (.cmp .gtr (.nat (.atom 1061)) (.atom 1022))), (.cmp .eql (.nat (.fn 2 cfgX)) (.fn 2 cfgX)), (.cmp .neq (.fn 1 cfgX) (.lit 0))])]
theorem eS [Env] : oweStartE ths N Z ends Try.prog Try.f40 root baseS (extraG Try.prog) cuts fs0 args heap = obS := by kernel_rfl
def ob0 : List Ob := [(.less [((.nat (.atom 1061)), (.atom 1500))] [((.nat (.atom 1061)), (.op .add .i64 (.atom 1500) (.lit 1)))] [(.cmp .leq (.at_ (.fn 50 (.consL (.len (.latom 1501)) (.consL (.lit 3) .nilL))) (.lit 1) 1 0) (.lit 8796093022208)), (.and (.cmp .eql (.nat (.atom 1060)) (.nat (.atom 1060))) (.cmp .lss (.nat (.atom 1500)) (.nat (.atom 1061)))), (.cmp .lss (.atom 1500) (.nat (.atom 1061))), (.cmp .geq (.atom 1500) (.lit 0)), (.cmp .lss (.atom 1500) (.nat (.atom 1061)))]), (.need (.cmp .leq (.lit 0) (.op .add .i64 (.atom 1500) (.lit 1))) [(.cmp .leq (.at_ (.fn 50 (.consL (.len (.latom 1501)) (.consL (.lit 3) .nilL))) (.lit 1) 1 0) (.lit 8796093022208)), (.and (.cmp .eql (.nat (.atom 1060)) (.nat (.atom 1060))) (.cmp .lss (.nat (.atom 1500)) (.nat (.atom 1061)))), (.cmp .lss (.atom 1500) (.nat (.atom 1061))), (.cmp .geq (.atom 1500) (.lit 0)), (.cmp .lss (.atom 1500) (.nat (.atom 1061)))]), (.at_ 0 [(1506, (.cmpI .neq (.fn 12 (.consL (.fn 4 (.consL (.atom 1020) (.consL (.atom 1021) (.consL (.atom 1022) (.consL (.atom 1023) (.consL (.atom 1024) (.consL (.atom 1025) (.consL (.atom 1026) (.consL (.op .add .i64 (.atom 1500) (.lit 1)) (.consL (.lit 0) .nilL)))))))))) (.latom 1507))) (.lit 0))), (1505, (.fn 14 (.consL (.fn 24 (.consL (.lit 1) (.consL (.lit 0) .nilL))) (.consL (.fn 4 (.consL (.atom 1020) (.consL (.atom 1021) (.consL (.atom 1022) (.consL (.atom 1023) (.consL (.atom 1024) (.consL (.atom 1025) (.consL (.atom 1026) (.consL (.op .add .i64 (.atom 1500) (.lit 1)) (.consL (.lit 0) .nilL)))))))))) (.latom 1507))))), (1504, (.fn 10 (.consL (.fn 4 (.consL (.atom 1020) (.consL (.atom 1021) (.consL (.atom 1022) (.consL (.atom 1023) (.consL (.atom 1024) (.consL (.atom 1025) (.consL (.atom 1026) (.consL (.op .add .i64 (.atom 1500) (.lit 1)) (.consL (.lit 0) .nilL)))))))))) (.latom 1507)))), (1503, (.fn 4 (.consL (.atom 1020) (.consL (.atom 1021) (.consL (.atom 1022) (.consL (.atom 1023) (.consL (.atom 1024) (.consL (.atom 1025) (.consL (.atom 1026) (.consL (.op .add .i64 (.atom 1500) (.lit 1)) (.consL (.lit 0) .nilL))))))))))), (1502, (.lit 2)), (1026, (.atom 1026)), (1025, (.atom 1025)), (1024, (.atom 1024)), (1023, (.atom 1023)), (1022, (.atom 1022)), (1021, (.atom 1021)), (1020, (.atom 1020)), (1500, (.op .add .i64 (.atom 1500) (.lit 1))), (1061, (.atom 1061)), (1060, (.atom 1060))] [(1507, (.putL (.latom 1507) (.fn 13 (.consL (.fn 4 (.consL (.atom 1020) (.consL (.atom 1021) (.consL (.atom 1022) (.consL (.atom 1023) (.consL (.atom 1024) (.consL (.atom 1025) (.consL (.atom 1026) (.consL (.op .add .i64 (.atom 1500) (.lit 1)) (.consL (.lit 0) .nilL)))))))))) (.latom 1507))) (.consL (.fn 24 (.consL (.lit 1) (.consL (.lit 0) .nilL))) .nilL))), (1501, (.catL (.latom 1501) (.consL (.ite (.cmpI .lss (.op .add .i64 (.atom 1500) (.lit 1)) (.lit 0)) (.lit 0) (.ite (.cmpI .gtr (.op .add .i64 (.atom 1500) (.lit 1)) (.lit 4294967295)) (.lit 0) (.op .add .u64 (.lit 9223372036854775808) (.conv .u64 (.op .add .i64 (.atom 1500) (.lit 1)))))) (.consL (.tab 0 (.atom 1500) 1) (.consL (.tab 0 (.atom 1500) 2) .nilL)))))] [(.cmp .leq (.at_ (.fn 50 (.consL (.len (.latom 1501)) (.consL (.lit 3) .nilL))) (.lit 1) 1 0) (.lit 8796093022208)), (.and (.cmp .eql (.nat (.atom 1060)) (.nat (.atom 1060))) (.cmp .lss (.nat (.atom 1500)) (.nat (.atom 1061)))), (.cmp .lss (.atom 1500) (.nat (.atom 1061))), (.cmp .geq (.atom 1500) (.lit 0)), (.cmp .lss (.atom 1500) (.nat (.atom 1061)))]), (.bad 320 [(.cmp .lss (.lit 8796093022208) (.at_ (.fn 50 (.consL (.len (.latom 1501)) (.consL (.lit 3) .nilL))) (.lit 1) 1 0)), (.and (.cmp .eql (.nat (.atom 1060)) (.nat (.atom 1060))) (.cmp .lss (.nat (.atom 1500)) (.nat (.atom 1061)))), (.cmp .lss (.atom 1500) (.nat (.atom 1061))), (.cmp .geq (.atom 1500) (.lit 0)), (.cmp .lss (.atom 1500) (.nat (.atom 1061)))]), (.at_ 101 [(1506, (.cmpI .neq (.atom 1506) (.lit 0))), (1505, (.atom 1505)), (1504, (.atom 1504)), (1503, (.atom 1503)), (1502, (.atom 1502)), (1500, (.atom 1500)), (1026, (.atom 1026)), (1025, (.atom 1025)), (1024, (.atom 1024)), (1023, (.atom 1023)), (1022, (.atom 1022)), (1021, (.atom 1021)), (1020, (.atom 1020)), (1061, (.atom 1061)), (1060, (.atom 1060))] [(1507, (.latom 1507)), (1501, (.latom 1501))] [(.cmp .leq (.nat (.atom 1061)) (.atom 1500))])]
theorem e0 [Env] : oweAtE ths N Z ends Try.prog Try.f40 root baseS (extraG Try.prog) cuts cut0 = ob0 := by kernel_rfl
def tree0 : Tree (SV × Heap Empty) := (.req (.cmp .leq (.lit 0) (.atom 1061)) (.br (condN) (.leaf (end0.sv.sub end0.T, subH end0.T end0.h)) (.leaf (end1.sv.sub end1.T, subH end1.T end1.h))))
def Pre (E : Env) : Prop := @BE.val E (.cmp .leq (.lit 0) (.atom 1061)) = true
def tl (E0 : Env) (n : Nat) : List Int := (List.range n).flatMap fun i => (List.range 3).map fun j => E0.t 0 i j
theorem tl_succ (E0 : Env) (n : Nat) : tl E0 (n + 1) = tl E0 n ++ [E0.t 0 n 0, E0.t 0 n 1, E0.t 0 n 2] := by unfold tl; rw [List.range_succ (n := n), List.flatMap_append]; rfl
theorem tl_len (E0 : Env) (n : Nat) : (tl E0 n).length = 3 * n := by
  induction n with
  | zero => rfl
  | succ n ih => rw [tl_succ, List.length_append, ih]; rfl
theorem entF_one : ∀ (l : List Int) (i m : Nat) (a b r : Int), l.length = 3 * m → entF i (l ++ [a, b, r]) = entF i l ++ [9223372036854775808 + (((i + m : Nat) : Int) + 1), b, r]
  | [], i, 0, a, b, r, _ => by simp [entF]
  | x :: y :: z :: l, i, m + 1, a, b, r, h => by
    simp only [List.length_cons] at h
    simp only [List.cons_append, entF]
    rw [entF_one l (i + 1) m a b r (by omega), show i + 1 + m = i + (m + 1) by omega]
  | [], i, m + 1, a, b, r, h => by simp at h
  | [_], i, m, a, b, r, h => by simp at h; omega
  | [_, _], i, m, a, b, r, h => by simp at h; omega
  | _ :: _ :: _ :: _, i, 0, a, b, r, h => by simp at h
def Bk0 (E : Env) : Bnk := ⟨E.i 1500, E.i 1502, E.i 1503, 0, E.i 1504, E.i 1505, E.i 1506 != 0, E.l 1507⟩
def Phi (E0 : Env) : Nat → Env → Prop
  | 0, E => ∃ k : Nat, E.i 1500 = k ∧ (k : Int) ≤ E0.i 1061 ∧ E0.i 1061 ≤ E0.i 1022 ∧ (Cx E0).right ∧ (Bk0 E = slotsB (Cx E0) k ∧ E.i 1506 = ofB (slotsB (Cx E0) k).done) ∧ E.l 1501 = entF 0 (tl E0 k)
  | 100, E => ¬ ((Cx E0).right ∧ E0.i 1061 ≤ E0.i 1022)
  | 101, E => ((Cx E0).right ∧ E0.i 1061 ≤ E0.i 1022) ∧ (Bk0 E = slotsB (Cx E0) (E0.i 1061).toNat ∧ E.i 1506 = ofB (slotsB (Cx E0) (E0.i 1061).toNat).done) ∧ E.l 1501 = entF 0 (tl E0 (E0.i 1061).toNat)
  | _, _ => True
theorem right_yes {E : Env} (hr : (Cx E).right) : @BE.val E (.cmp .neq (.fn 1 Sw.cfgA) (.lit 0)) = true := by
  show ((if rightP (E.i 1020) (E.i 1021) (E.i 1022) (E.i 1023) (E.i 1024) (E.i 1025) (E.i 1026) then 1 else 0 : Int) != 0) = true
  rw [if_pos (show rightP (E.i 1020) (E.i 1021) (E.i 1022) (E.i 1023) (E.i 1024) (E.i 1025) (E.i 1026) from hr)]
  rfl
theorem cell0 {C : Cfg} (h : C.right) {i f : Int} (hi : 0 ≤ i ∧ i ≤ C.c) (hf : 0 ≤ f ∧ f ≤ 6) : 1 ≤ C.cell i f ∧ C.cell i f < lenF C.t C.s C.c C.h C.k C.e C.l := by
  have hr := cell_rng h hi.1 hi.2 hf.1 (show f < 6 + C.h by have := h.2.2.2.2.2.2.1; omega)
  have ht : 0 ≤ C.t * C.s := Int.mul_nonneg (by have := h.1; omega) (by have := h.2.2.1; omega)
  exact ⟨by have := hr.1; unfold Cfg.cell; omega, hr.2⟩
theorem slotsB_count (C : Cfg) : ∀ n : Nat, n ≤ 1000000 → (slotsB C n).count = n
  | 0, _ => rfl
  | n + 1, h => by
    show wI ((slotsB C n).count + 1) = _
    rw [slotsB_count C n (by omega), wI_id (by omega) (by omega)]; rfl
theorem setF_in {c v : Int} {l : List Int} (h : inF c l) : setF c v l = l.set c.toNat v := if_pos h
theorem new_row {E : Env} (hr : (Cx E).right) (r a b : IE) (h1 : @IE.lst E r = List.replicate (lenF (Cx E).t (Cx E).s (Cx E).c (Cx E).h (Cx E).k (Cx E).e (Cx E).l).toNat 0) (ha : @IE.val E a = (Cx E).cell 0 0) (hb : @IE.val E b = (Cx E).cell 0 4) :
    @IE.lst E (.putL (.putL (.putL r (.lit 0) (.consL (.lit 1) .nilL)) (.at_ (.lit 0) a 1 0) (.consL (.fn 24 (.consL (.lit 1) (.consL (.lit 0) .nilL))) .nilL)) (.at_ (.lit 0) b 1 0) (.consL (.conv .u64 (.atom 1023)) .nilL)) = newF (Cx E) := by
  have q1 := cell0 hr (i := 0) (f := 0) ⟨by omega, by have := hr.2.2.2.2.1; omega⟩ ⟨by omega, by omega⟩
  have q2 := cell0 hr (i := 0) (f := 4) ⟨by omega, by have := hr.2.2.2.2.1; omega⟩ ⟨by omega, by omega⟩
  have hh : IntKind.u64.wrap (E.i 1023) = (Cx E).h := by
    have g1 : 1 ≤ E.i 1023 := hr.2.2.2.2.2.2.1
    have g2 : E.i 1023 ≤ 6 := hr.2.2.2.2.2.2.2.1
    show E.i 1023 % (2 ^ 64 : Int) = _
    exact Int.emod_eq_of_lt (by omega) (by omega)
  unfold newF
  rw [setF_in (c := 0) ⟨by omega, by rw [List.length_replicate]; omega⟩, setF_in (c := (Cx E).cell 0 0) ⟨by omega, by rw [List.length_set, List.length_replicate]; omega⟩, setF_in (c := (Cx E).cell 0 4) ⟨by omega, by rw [List.length_set, List.length_set, List.length_replicate]; omega⟩]
  show (((@IE.lst E r).set _ 1).set (((0 : Int).toNat + (@IE.val E a).toNat * 1 + 0 : Nat) : Int).toNat (funs 24 [1, 0])).set (((0 : Int).toNat + (@IE.val E b).toNat * 1 + 0 : Nat) : Int).toNat (IntKind.u64.wrap (E.i 1023)) = _
  rw [h1, ha, hb, hh, taken_eq ⟨by omega, by omega⟩]
  congr 1
  · congr 1
    show ((0 : Int).toNat + ((Cx E).cell 0 0).toNat * 1 + 0 : Nat) = _
    simp
  · show ((0 : Int).toNat + ((Cx E).cell 0 4).toNat * 1 + 0 : Nat) = _
    simp
theorem runS (E : Env) (hpre : Pre E) : ObsOk E (Phi E) obS := ⟨(fun hc => by
    intro hr
    have q := hc.1
    have h2 : (!(@BE.val E (.cmp .neq (.fn 1 Sw.cfgA) (.lit 0)))) = true := q
    rw [right_yes hr.1] at h2
    cases h2), (fun hc => by
    intro hr
    have hp : (0 : Int) ≤ E.i 1061 := of_decide_eq_true hpre
    have q : ((E.i 1061).toNat : Int) > E.i 1022 := of_decide_eq_true hc.1
    have := hr.2
    omega), (fun hc => by
    have hp : (0 : Int) ≤ E.i 1061 := of_decide_eq_true hpre
    have hr : (Cx E).right := Sw.right_of hc.2.2.1
    have q : ¬ ((E.i 1061).toNat : Int) > E.i 1022 := of_decide_eq_false (show decide (((E.i 1061).toNat : Int) > E.i 1022) = false by
      have h1 : (!decide (((E.i 1061).toNat : Int) > E.i 1022)) = true := hc.1
      cases hd : decide (((E.i 1061).toNat : Int) > E.i 1022) with
      | false => rfl
      | true => rw [hd] at h1; cases h1)
    refine ⟨0, rfl, hp, by show E.i 1061 ≤ E.i 1022; omega, hr, ⟨?_, rfl⟩, rfl⟩
    refine (congrArg (fun r => (⟨0, 0, 0, 0, 0, 0, false, r⟩ : Bnk)) ?_)
    exact new_row hr (.rep (.fn 2 Sw.cfgA) 1) (.fn 4 (.consL (.atom 1020) (.consL (.atom 1021) (.consL (.atom 1022) (.consL (.atom 1023) (.consL (.atom 1024) (.consL (.atom 1025) (.consL (.atom 1026) (.consL (.lit 0) (.consL (.lit 0) .nilL)))))))))) (.fn 4 (.consL (.atom 1020) (.consL (.atom 1021) (.consL (.atom 1022) (.consL (.atom 1023) (.consL (.atom 1024) (.consL (.atom 1025) (.consL (.atom 1026) (.consL (.lit 0) (.consL (.lit 4) .nilL)))))))))) (by show List.replicate (_ * 1) 0 = _; rw [Nat.mul_one]; rfl) rfl rfl), trivial⟩
theorem run0 (E0 E : Env) (hpre : Pre E0) (hz : Z.of E0 E) (hfs : ∀ b ∈ cut0.fs, @BE.val E b = true) (hphi : Phi E0 0 E) : ObsOk E (Phi E0) ob0 := by
  obtain ⟨k, hk, hle, hcap, hr, ⟨hB, h6⟩, hent⟩ := hphi
  have hrow : E.l 1507 = (slotsB (Cx E0) k).row := congrArg Bnk.row hB
  have hp : (0 : Int) ≤ E0.i 1061 := of_decide_eq_true hpre
  have c61 : E.i 1061 = E0.i 1061 := hz.1 1061 rfl
  have hcap2 : E0.i 1022 ≤ 64 := hr.2.2.2.2.2.1
  have lt : E.i 1500 < ((E.i 1061).toNat : Int) → (k : Int) < E0.i 1061 := fun h => by rw [hk, c61] at h; omega
  have up : (k : Int) < E0.i 1061 → IntKind.i64.wrap (E.i 1500 + 1) = ((k + 1 : Nat) : Int) := fun h => by rw [hk]; exact (wI_id (by omega) (by omega)).trans (by omega)
  have elen : (E.l 1501).length ≤ 1000 := by
    have : ∀ n, (entF 0 (tl E0 n)).length = 3 * n := fun n => by
      induction n with
      | zero => rfl
      | succ n ih => rw [tl_succ, entF_one _ _ n _ _ _ (tl_len E0 n), List.length_append, ih]; rfl
    rw [hent, this]; omega
  exact ⟨
    (fun hc => have hl := lt (of_decide_eq_true hc.2.2.1); .inl (show (((E.i 1061).toNat : Int) - IntKind.i64.wrap (E.i 1500 + 1)).toNat < (((E.i 1061).toNat : Int) - E.i 1500).toNat by rw [up hl, hk, c61]; omega)),
    (fun hc => have hl := lt (of_decide_eq_true hc.2.2.1); decide_eq_true (show (0 : Int) ≤ IntKind.i64.wrap (E.i 1500 + 1) by rw [up hl]; omega)),
    (fun hc => by
      have hl := lt (of_decide_eq_true hc.2.2.1)
      refine ⟨k + 1, up hl, by omega, hcap, hr, ⟨?_, ?_⟩, ?_⟩
      · have hcell : funs 4 [E.i 1020, E.i 1021, E.i 1022, E.i 1023, E.i 1024, E.i 1025, E.i 1026, IntKind.i64.wrap (E.i 1500 + 1), 0] = (Cx E0).cell ((k : Int) + 1) 0 := by
          rw [hz.1 1020 rfl, hz.1 1021 rfl, hz.1 1022 rfl, hz.1 1023 rfl, hz.1 1024 rfl, hz.1 1025 rfl, hz.1 1026 rfl, up hl]; rfl
        have ht : funs 24 [1, 0] = 1 := taken_eq ⟨by omega, by omega⟩
        show (⟨IntKind.i64.wrap (E.i 1500 + 1), 2, funs 4 [E.i 1020, E.i 1021, E.i 1022, E.i 1023, E.i 1024, E.i 1025, E.i 1026, IntKind.i64.wrap (E.i 1500 + 1), 0], 0, funs 10 (funs 4 [E.i 1020, E.i 1021, E.i 1022, E.i 1023, E.i 1024, E.i 1025, E.i 1026, IntKind.i64.wrap (E.i 1500 + 1), 0] :: E.l 1507), funs 14 (funs 24 [1, 0] :: funs 4 [E.i 1020, E.i 1021, E.i 1022, E.i 1023, E.i 1024, E.i 1025, E.i 1026, IntKind.i64.wrap (E.i 1500 + 1), 0] :: E.l 1507), ofB (funs 12 (funs 4 [E.i 1020, E.i 1021, E.i 1022, E.i 1023, E.i 1024, E.i 1025, E.i 1026, IntKind.i64.wrap (E.i 1500 + 1), 0] :: E.l 1507) != 0) != 0, writeL (E.l 1507) (funs 13 (funs 4 [E.i 1020, E.i 1021, E.i 1022, E.i 1023, E.i 1024, E.i 1025, E.i 1026, IntKind.i64.wrap (E.i 1500 + 1), 0] :: E.l 1507)).toNat [funs 24 [1, 0]]⟩ : Bnk) = (slotsB (Cx E0) k).store ((Cx E0).cell ((k : Int) + 1) 0) 0 1
        rw [hcell, ht, ofB_ne0, hrow, show E.i 1500 = (slotsB (Cx E0) k).count by rw [slotsB_count _ _ (by omega), hk],
          show funs 12 ((Cx E0).cell ((k : Int) + 1) 0 :: (slotsB (Cx E0) k).row) = ofP (inF ((Cx E0).cell ((k : Int) + 1) 0) (slotsB (Cx E0) k).row) from rfl, ofP_ne,
          show writeL (slotsB (Cx E0) k).row (funs 13 ((Cx E0).cell ((k : Int) + 1) 0 :: (slotsB (Cx E0) k).row)).toNat [1] = setF ((Cx E0).cell ((k : Int) + 1) 0) 1 (slotsB (Cx E0) k).row from putsetF _ _ _]
        rfl
      · have hcell : funs 4 [E.i 1020, E.i 1021, E.i 1022, E.i 1023, E.i 1024, E.i 1025, E.i 1026, IntKind.i64.wrap (E.i 1500 + 1), 0] = (Cx E0).cell ((k : Int) + 1) 0 := by
          rw [hz.1 1020 rfl, hz.1 1021 rfl, hz.1 1022 rfl, hz.1 1023 rfl, hz.1 1024 rfl, hz.1 1025 rfl, hz.1 1026 rfl, up hl]; rfl
        show ofB (funs 12 (funs 4 [E.i 1020, E.i 1021, E.i 1022, E.i 1023, E.i 1024, E.i 1025, E.i 1026, IntKind.i64.wrap (E.i 1500 + 1), 0] :: E.l 1507) != 0) = ofB (decide (inF ((Cx E0).cell ((k : Int) + 1) 0) (slotsB (Cx E0) k).row))
        rw [hcell, hrow, show funs 12 ((Cx E0).cell ((k : Int) + 1) 0 :: (slotsB (Cx E0) k).row) = ofP (inF ((Cx E0).cell ((k : Int) + 1) 0) (slotsB (Cx E0) k).row) from rfl, ofP_ne]
      · show E.l 1501 ++ [iteI (ofB (decide (IntKind.i64.wrap (E.i 1500 + 1) < 0))) 0 (iteI (ofB (decide (IntKind.i64.wrap (E.i 1500 + 1) > 4294967295))) 0 (IntKind.u64.wrap (9223372036854775808 + IntKind.u64.wrap (IntKind.i64.wrap (E.i 1500 + 1))))), E.t 0 (E.i 1500).toNat 1, E.t 0 (E.i 1500).toNat 2] = _
        rw [up hl, hk, tl_succ, entF_one _ _ k _ _ _ (tl_len E0 k), hent, decide_eq_false (show ¬ (((k + 1 : Nat) : Int) < 0) by omega), decide_eq_false (show ¬ (((k + 1 : Nat) : Int) > 4294967295) by omega), hz.2.2]
        congr 1
        have e1 : IntKind.u64.wrap ((k + 1 : Nat) : Int) = ((k + 1 : Nat) : Int) := by
          show ((k + 1 : Nat) : Int) % (2 ^ 64 : Int) = _
          exact Int.emod_eq_of_lt (by omega) (by omega)
        have e2 : IntKind.u64.wrap (9223372036854775808 + ((k + 1 : Nat) : Int)) = 9223372036854775808 + ((k + 1 : Nat) : Int) := by
          show (9223372036854775808 + ((k + 1 : Nat) : Int)) % (2 ^ 64 : Int) = _
          exact Int.emod_eq_of_lt (by omega) (by omega)
        rw [e1, e2]
        simp [iteI, ofB]),
    (fun hc => by
      have h9 : (8796093022208 : Int) < (((((E.l 1501).length : Int) / 3).toNat + (1 : Int).toNat * 1 + 0 : Nat) : Int) := of_decide_eq_true hc.1
      have h7 : (1 : Int).toNat = 1 := rfl
      rw [h7] at h9
      omega),
    (fun hc => by
      have hge : ((E.i 1061).toNat : Int) ≤ E.i 1500 := of_decide_eq_true hc.1
      have hkk : k = (E0.i 1061).toNat := by rw [hk, c61] at hge; omega
      subst hkk
      refine ⟨⟨hr, hcap⟩, ⟨?_, ?_⟩, hent⟩
      · exact (congrArg (fun b => (⟨E.i 1500, E.i 1502, E.i 1503, 0, E.i 1504, E.i 1505, b, E.l 1507⟩ : Bnk)) (ofB_ne0 (E.i 1506 != 0))).trans hB
      · show ofB (E.i 1506 != 0) = _
        rw [← hB]; rfl), trivial⟩
theorem told0 (E0 E : Env) (hphi : Phi E0 100 E) (hz : Z.of E0 E) : ToldE end0.T E0 E := ⟨lk_all trivial, lk_all trivial⟩
theorem told1 (E0 E : Env) (hphi : Phi E0 101 E) (hz : Z.of E0 E) : ToldE end1.T E0 E := by
  obtain ⟨_, ⟨hB, h6⟩, h2⟩ := hphi
  have g : ∀ i, i < 90 → (Bk0 E).num i = funs (7900 + i) [E0.i 1020, E0.i 1021, E0.i 1022, E0.i 1023, E0.i 1024, E0.i 1025, E0.i 1026, E0.i 1061] := fun i hi => by rw [hB, funs_79 i _ _ _ _ _ _ _ _ hi]; rfl
  exact ⟨lk_all ⟨g 0 (by decide), g 1 (by decide), g 2 (by decide), g 4 (by decide), g 5 (by decide), (h6.trans (funs_79 6 (E0.i 1020) (E0.i 1021) (E0.i 1022) (E0.i 1023) (E0.i 1024) (E0.i 1025) (E0.i 1026) (E0.i 1061)).symm), trivial⟩, lk_all ⟨h2.trans (funsL_7901 _).symm, (congrArg Bnk.row hB).trans (funsL_7900 _ _ _ _ _ _ _ _).symm, trivial⟩⟩
theorem cond0_0 (E0 E : Env) (hphi : Phi E0 100 E) (hz : Z.of E0 E) : @BE.val E0 condN = true := by
  have e : @BE.val E0 condN = !(@BE.val E0 (.cmp .neq (.fn 1 Sw.cfgA) (.lit 0)) && decide (E0.i 1061 ≤ E0.i 1022)) := rfl
  rw [e]
  cases hb : @BE.val E0 (.cmp .neq (.fn 1 Sw.cfgA) (.lit 0)) with
  | false => rfl
  | true =>
    have : ¬ E0.i 1061 ≤ E0.i 1022 := fun h => hphi ⟨Sw.right_of hb, h⟩
    rw [decide_eq_false this]; rfl
theorem cond1_0 (E0 E : Env) (hphi : Phi E0 101 E) (hz : Z.of E0 E) : @BE.val E0 condN = false := by
  have e : @BE.val E0 condN = !(@BE.val E0 (.cmp .neq (.fn 1 Sw.cfgA) (.lit 0)) && decide (E0.i 1061 ≤ E0.i 1022)) := rfl
  rw [e, right_yes hphi.1.1, decide_eq_true hphi.1.2]; rfl
theorem fs0_ok (E : Env) (hpre : Pre E) : ∀ b ∈ fs0, @BE.val E b = true := by
  intro b hb
  simp only [fs0, List.mem_cons, List.not_mem_nil, or_false] at hb
  subst hb
  exact hpre
theorem heads : (cuts.all fun k => isLoop (subAt root k.p) && Nat.ble k.ms.length 9) = true := by kernel_rfl
theorem bodyOk : Try.f40.body = some root := by kernel_rfl
def s0 : Summ := ⟨40, args, heap, tree0⟩
theorem preOf {E : Env} {K : SV × Heap Empty → Prop} (hK : @Tree.holds E _ K tree0) : Pre E := hK.1
theorem ok0 : s0.ok Try.prog := by
  refine Summ.loop (Z := Z) (ends := ends) (Φ := Phi) [⟨[1500, 1502, 1503, 1504, 1505, 1506], [1501, 1507]⟩, ⟨[], []⟩] (Bk.enters_of Try.func40 (by kernel_rfl)) ?_ ?_ ?_
  · intro E ρ F w argv ⟨K, hK⟩ H ha
    have hpre := preOf hK
    refine floydEO (us := ths) (N := N) mixed_ok (c := @baseS) @baseS_ok (x := extraG Try.prog) (fun {_} => extraG_ok _) Try.func40 bodyOk ths_ok (cuts := cuts) heads E (fun E' i k hk hz hfs hphi => ?_) (fs0 := fs0) ?_ (Owed.eq (@eS E) (runS E hpre)) ?_ H ha
    · match i, hk with
      | 0, hk => obtain rfl : cut0 = k := Option.some.inj (show some cut0 = some k from hk); exact Owed.eq (@e0 E') (run0 E E' hpre hz hfs hphi)
      | n + 1, hk => exact absurd hk (by simp [cuts])
    · intro b hb
      exact fs0_ok E hpre b hb
    · intro n hn
      exact hn
  · intro j en hj
    match j, hj with
    | 0, hj => obtain rfl : end0 = en := Option.some.inj (show some end0 = some en from hj); exact ⟨_, rfl, by kernel_rfl, by kernel_rfl, by kernel_rfl, by kernel_rfl, by kernel_rfl⟩
    | 1, hj => obtain rfl : end1 = en := Option.some.inj (show some end1 = some en from hj); exact ⟨_, rfl, by kernel_rfl, by kernel_rfl, by kernel_rfl, by kernel_rfl, by kernel_rfl⟩
    | n + 2, hj => exact absurd hj (by simp [ends])
  · intro E E' j en hj hphi hz
    match j, hj with
    | 0, hj => obtain rfl : end0 = en := Option.some.inj (show some end0 = some en from hj); exact ⟨told0 E E' hphi hz, fun K hK => hK.2.1 (cond0_0 E E' hphi hz)⟩
    | 1, hj => obtain rfl : end1 = en := Option.some.inj (show some end1 = some en from hj); exact ⟨told1 E E' hphi hz, fun K hK => hK.2.2 (cond1_0 E E' hphi hz)⟩
    | n + 2, hj => exact absurd hj (by simp [ends])
end SlS
end Go.Proofs.Ytafemlljemhkhaa.Sx
