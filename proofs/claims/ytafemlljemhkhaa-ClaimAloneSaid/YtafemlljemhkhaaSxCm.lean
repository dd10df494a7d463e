/-
  ClaimAlone's metas: the words of a world's slots.
-/
import Derived.Test.YtafemlljemhkhaaSxCv
import Derived.Test.YtafemlljemhkhaaSxCt
import Derived.Test.YtafemlljemhkhaaSxCw
import Derived.Test.YtafemlljemhkhaaSxPw
import Derived.Test.YtafemlljemhkhaaSxC2
namespace Go.Proofs.Ytafemlljemhkhaa.Sx
open Go
set_option linter.unusedSectionVars false
set_option linter.unusedVariables false
set_option linter.unusedSimpArgs false
set_option maxRecDepth 1000000

noncomputable def baseA [Env] : CallF Empty := callF Try.prog (withS sumsT sums3) (extraG Try.prog) noL 100 50
theorem baseA_ok [Env] : CallOk Try.prog baseA := callF_ok ⟨mixed_ok, (withS_ok sumsT_ok sums3_ok).2, names_ok, (withS_ok sumsT_ok sums3_ok).1, extraG_ok _, fun _ _ _ _ _ _ _ _ _ _ _ _ _ _ _ _ h => (by cases h)⟩ 100 50
theorem lenF_le {t s c h k e l : Int} (hr : rightP t s c h k e l) : lenF t s c h k e l ≤ 845 := by
  unfold lenF
  rw [if_pos hr]
  obtain ⟨a1, a2, a3, a4, a5, a6, a7, a8, _⟩ := hr
  have h1 : t * s ≤ 8 * 8 := Int.mul_le_mul a2 a4 (by omega) (by omega)
  have h2 : (c + 1) * (6 + h) ≤ 65 * 12 := Int.mul_le_mul (by omega) (by omega) (by omega) (by omega)
  omega
namespace CmM
open Bk Sm

def args : List SV := [.w (.one (.b (.ptr 212 (.lit 0)))), .w (.one (.b (.ptr 214 (.lit 0))))]
def heap : Heap Empty := (212, .cells 23 cfgC 0) :: (214, .cells 26 [.b (.ptr 198 (.lit 0))] 0) :: memH
def N : List Nat := [212, 214, 198, 200, 202]
noncomputable def root : Code := rootOf Try.f28
def I0 : SS Empty := (SS.mk [(.w (.one (.b (.ptr 212 (.lit 0))))), .unk, .unk, (.w (.one (.b (.ref 131074)))), (.w (.one (.b (.ptr 17181442084 (.lit 0))))), (.w (.one (.b (.int .i64 (.lit 0))))), (.w (.one (.b (.int .i64 (.atom 1506))))), .unk, .unk, .unk, .unk, .unk, .unk, .unk, .unk, .unk, .unk, .unk, .unk, .unk, .unk, .unk, .unk, .unk, .unk, .unk, .unk, .unk, .unk, .unk, .unk, .unk] [(198, (.cells 122 [(.b (.int .i64 (.atom 1020))), (.b (.int .i64 (.atom 1021))), (.b (.int .i64 (.atom 1022))), (.b (.int .i64 (.atom 1023))), (.b (.int .i64 (.atom 1024))), (.b (.int .i64 (.atom 1025))), (.b (.int .i64 (.atom 1026))), (.b (.ptr 200 (.lit 0)))] 0)), (200, (.cells 130 [(.b (.sl 202 (.lit 0) (.len (.latom 1000)) (.len (.latom 1000)))), (.b (.int .i64 (.atom 1001))), (.b .unk), (.b .unk), (.b .unk), (.b .unk), (.b .unk), (.b .unk)] 0)), (202, (.row .u64 27 (.latom 1000))), (212, (.cells 23 [(.b (.int .i64 (.atom 1020))), (.b (.int .i64 (.atom 1021))), (.b (.int .i64 (.atom 1022))), (.b (.int .i64 (.atom 1023))), (.b (.int .i64 (.atom 1024))), (.b (.int .i64 (.atom 1025))), (.b (.int .i64 (.atom 1026)))] 0)), (214, (.cells 26 [(.b (.ptr 198 (.lit 0)))] 0)), (131074, (.mach 2 (.latom 1507))), (17181442084, (.cells 122 [(.b (.int .i64 (.atom 1020))), (.b (.int .i64 (.atom 1021))), (.b (.int .i64 (.atom 1022))), (.b (.int .i64 (.atom 1023))), (.b (.int .i64 (.atom 1024))), (.b (.int .i64 (.atom 1025))), (.b (.int .i64 (.atom 1026))), (.b (.ptr 2252005976309770 (.lit 0)))] 0)), (2252005976309770, (.cells 130 [(.b (.sl 2252005976309766 (.lit 0) (.len (.latom 1000)) (.len (.latom 1000)))), (.b (.int .i64 (.atom 1508))), (.b (.int .i64 (.atom 1509))), (.b (.int .i64 (.atom 1510))), (.b (.int .u64 (.lit 0))), (.b (.int .u64 (.atom 1511))), (.b (.int .u64 (.atom 1511))), (.b (.bool (.atom 1512)))] 0)), (2252005976309766, (.row .u64 27 (.latom 1000)))] 13)
def F0 : List BE := [(.cmp .leq (.lit 16) (.fn 2 cfgX)), (.cmp .leq (.fn 2 cfgX) (.lit 845)), (.cmp .eql (.nat (.fn 2 cfgX)) (.fn 2 cfgX)), (.cmp .eql (.len (.latom 1000)) (.fn 2 cfgX)), (.cmp .leq (.lit 1) (.atom 1020)), (.cmp .leq (.atom 1020) (.lit 8)), (.cmp .leq (.lit 1) (.atom 1021)), (.cmp .leq (.atom 1021) (.lit 8)), (.cmp .leq (.lit 1) (.atom 1022)), (.cmp .leq (.atom 1022) (.lit 64)), (.cmp .leq (.lit 1) (.atom 1023)), (.cmp .leq (.atom 1023) (.lit 6)), (.cmp .leq (.lit 1) (.atom 1024)), (.cmp .leq (.atom 1024) (.lit 64)), (.cmp .leq (.lit 1) (.atom 1025)), (.cmp .leq (.atom 1025) (.lit 64)), (.cmp .leq (.lit 0) (.atom 1026)), (.cmp .leq (.atom 1026) (.lit 1073741823)), (.cmp .neq (.fn 1 cfgX) (.lit 0)), (.cmp .eql (.len (.latom 1000)) (.nat (.fn 2 cfgX)))]
def cut0 : Cut := ⟨[0, 1, 0, 1, 1, 1], I0, F0, [((.op .add .i64 (.atom 1022) (.lit 1)), (.atom 1506))]⟩
def cuts : List Cut := [cut0]
def Z : Own := ⟨[1506, 1508, 1509, 1510, 1511, 1512], [1507]⟩
def T0a : List (Nat × IE) := []
def T0l : List (Nat × IE) := [(1507, .fnL 2 (.consL (.atom 1020) (.consL (.atom 1021) (.consL (.atom 1022) (.consL (.atom 1023) (.consL (.atom 1024) (.consL (.atom 1025) (.consL (.atom 1026) (.latom 1000)))))))))]
def end0 : EndE := ⟨(.w (.one (.b (.ref 131074)))), [(198, (.cells 122 [(.b (.int .i64 (.atom 1020))), (.b (.int .i64 (.atom 1021))), (.b (.int .i64 (.atom 1022))), (.b (.int .i64 (.atom 1023))), (.b (.int .i64 (.atom 1024))), (.b (.int .i64 (.atom 1025))), (.b (.int .i64 (.atom 1026))), (.b (.ptr 200 (.lit 0)))] 0)), (200, (.cells 130 [(.b (.sl 202 (.lit 0) (.len (.latom 1000)) (.len (.latom 1000)))), (.b (.int .i64 (.atom 1001))), (.b .unk), (.b .unk), (.b .unk), (.b .unk), (.b .unk), (.b .unk)] 0)), (202, (.row .u64 27 (.latom 1000))), (212, (.cells 23 [(.b (.int .i64 (.atom 1020))), (.b (.int .i64 (.atom 1021))), (.b (.int .i64 (.atom 1022))), (.b (.int .i64 (.atom 1023))), (.b (.int .i64 (.atom 1024))), (.b (.int .i64 (.atom 1025))), (.b (.int .i64 (.atom 1026)))] 0)), (214, (.cells 26 [(.b (.ptr 198 (.lit 0)))] 0)), (131074, (.mach 2 (.latom 1507)))], ⟨T0a, T0l, []⟩⟩
def ends : List EndE := [end0]
def ths : Ths := []
theorem ths_ok : ThsOk ths := fun E t h _ => by cases h
def fs0 : List BE := [.cmp .neq (.fn 1 cfgX) (.lit 0), .cmp .eql (.len R) (.nat (.fn 2 cfgX))]
def obS : List Ob := [(.need (.cmp .leq (.len (.latom 1000)) (.lit 31274997412295)) []), (.at_ 0 [(1512, (.lit 0)), (1511, (.lit 0)), (1510, (.lit 0)), (1509, (.lit 0)), (1508, (.lit 0)), (1026, (.atom 1026)), (1025, (.atom 1025)), (1024, (.atom 1024)), (1023, (.atom 1023)), (1022, (.atom 1022)), (1021, (.atom 1021)), (1020, (.atom 1020)), (1001, (.atom 1001)), (1506, (.lit 1))] [(1507, .nilL), (1000, (.latom 1000))] [(.cmp .eql (.len (.latom 1000)) (.fn 2 cfgX)), (.cmp .neq (.fn 1 cfgX) (.lit 0)), (.cmp .leq (.len (.latom 1000)) (.lit 31274997412295))])]
theorem eS [Env] : oweStartE ths N Z ends Try.prog Try.f28 root baseA (extraG Try.prog) cuts fs0 args heap = obS := by kernel_rfl
def ob0 : List Ob := [(.less [((.op .add .i64 (.atom 1022) (.lit 1)), (.atom 1506))] [((.op .add .i64 (.atom 1022) (.lit 1)), (.op .add .i64 (.atom 1506) (.lit 1)))] [(.cmp .leq (.at_ (.len (.latom 1507)) (.lit 1) 1 0) (.lit 1073741824)), (.cmp .leq (.atom 1506) (.atom 1022))]), (.at_ 0 [(1512, (.cmpI .neq (.fn 12 (.consL (.fn 4 (.consL (.atom 1020) (.consL (.atom 1021) (.consL (.atom 1022) (.consL (.atom 1023) (.consL (.atom 1024) (.consL (.atom 1025) (.consL (.atom 1026) (.consL (.atom 1506) (.consL (.lit 0) .nilL)))))))))) (.latom 1000))) (.lit 0))), (1511, (.fn 10 (.consL (.fn 4 (.consL (.atom 1020) (.consL (.atom 1021) (.consL (.atom 1022) (.consL (.atom 1023) (.consL (.atom 1024) (.consL (.atom 1025) (.consL (.atom 1026) (.consL (.atom 1506) (.consL (.lit 0) .nilL)))))))))) (.latom 1000)))), (1510, (.fn 4 (.consL (.atom 1020) (.consL (.atom 1021) (.consL (.atom 1022) (.consL (.atom 1023) (.consL (.atom 1024) (.consL (.atom 1025) (.consL (.atom 1026) (.consL (.atom 1506) (.consL (.lit 0) .nilL))))))))))), (1509, (.lit 1)), (1508, (.op .add .i64 (.atom 1508) (.lit 1))), (1026, (.atom 1026)), (1025, (.atom 1025)), (1024, (.atom 1024)), (1023, (.atom 1023)), (1022, (.atom 1022)), (1021, (.atom 1021)), (1020, (.atom 1020)), (1001, (.atom 1001)), (1506, (.op .add .i64 (.atom 1506) (.lit 1)))] [(1507, (.catL (.latom 1507) (.consL (.fn 10 (.consL (.fn 4 (.consL (.atom 1020) (.consL (.atom 1021) (.consL (.atom 1022) (.consL (.atom 1023) (.consL (.atom 1024) (.consL (.atom 1025) (.consL (.atom 1026) (.consL (.atom 1506) (.consL (.lit 0) .nilL)))))))))) (.latom 1000))) .nilL))), (1000, (.latom 1000))] [(.cmp .leq (.at_ (.len (.latom 1507)) (.lit 1) 1 0) (.lit 1073741824)), (.cmp .leq (.atom 1506) (.atom 1022))]), (.bad 320 [(.cmp .lss (.lit 1073741824) (.at_ (.len (.latom 1507)) (.lit 1) 1 0)), (.cmp .leq (.atom 1506) (.atom 1022))]), (.at_ 100 [(1026, (.atom 1026)), (1025, (.atom 1025)), (1024, (.atom 1024)), (1023, (.atom 1023)), (1022, (.atom 1022)), (1021, (.atom 1021)), (1020, (.atom 1020)), (1001, (.atom 1001))] [(1507, (.latom 1507)), (1000, (.latom 1000))] [(.cmp .lss (.atom 1022) (.atom 1506))])]
theorem e0 [Env] : oweAtE ths N Z ends Try.prog Try.f28 root baseA (extraG Try.prog) cuts cut0 = ob0 := by kernel_rfl
def tree0 : Tree (SV × Heap Empty) := (.req (.cmp .neq (.fn 1 cfgX) (.lit 0)) (.req (.cmp .eql (.len R) (.nat (.fn 2 cfgX))) (.leaf (end0.sv.sub end0.T, subH end0.T end0.h))))
def Pre (E : Env) : Prop := @BE.val E (.cmp .neq (.fn 1 cfgX) (.lit 0)) = true ∧ @BE.val E (.cmp .eql (.len R) (.nat (.fn 2 cfgX))) = true

def mt (E0 : Env) (n : Nat) : List Int := (List.range n).map fun i : Nat => hadF (cellF (E0.i 1020) (E0.i 1021) (E0.i 1022) (E0.i 1023) (E0.i 1024) (E0.i 1025) (E0.i 1026) ((i : Int) + 1) 0) (E0.l 1000)
theorem mt_succ (E0 : Env) (n : Nat) : mt E0 (n + 1) = mt E0 n ++ [hadF (cellF (E0.i 1020) (E0.i 1021) (E0.i 1022) (E0.i 1023) (E0.i 1024) (E0.i 1025) (E0.i 1026) ((n : Int) + 1) 0) (E0.l 1000)] := by unfold mt; rw [List.range_succ, List.map_append]; rfl
theorem mt_len (E0 : Env) (n : Nat) : (mt E0 n).length = n := by unfold mt; rw [List.length_map, List.length_range]
def Phi (E0 : Env) : Nat → Env → Prop
  | 0, E => ∃ n : Nat, E.i 1506 = ((n + 1 : Nat) : Int) ∧ (n : Int) ≤ E0.i 1022 ∧ E.l 1507 = mt E0 n
  | 100, E => E.l 1507 = mt E0 (E0.i 1022).toNat
  | _, _ => True
theorem right0 {E : Env} (h : Pre E) : rightP (E.i 1020) (E.i 1021) (E.i 1022) (E.i 1023) (E.i 1024) (E.i 1025) (E.i 1026) := @isW_val E cfgX _ _ _ _ _ _ _ rfl h.1
theorem len0 {E : Env} (h : Pre E) : ((E.l 1000).length : Int) ≤ 845 := by
  have h1 : ((E.l 1000).length : Int) = ((lenF (E.i 1020) (E.i 1021) (E.i 1022) (E.i 1023) (E.i 1024) (E.i 1025) (E.i 1026)).toNat : Int) := eq_of_beq h.2
  have h2 := lenF_le (right0 h)
  omega

theorem runS (E : Env) (hpre : Pre E) : ObsOk E (Phi E) obS := by
  have hr := right0 hpre
  have c1 : (1 : Int) ≤ E.i 1022 := hr.2.2.2.2.1
  exact ⟨fun _ => decide_eq_true (Int.le_trans (len0 hpre) (show (845 : Int) ≤ 31274997412295 by decide)), fun _ => ⟨0, rfl, (by show (0 : Int) ≤ E.i 1022; omega), rfl⟩, trivial⟩
theorem run0 (E0 E : Env) (hpre : Pre E0) (hz : Z.of E0 E) (hfs : ∀ b ∈ cut0.fs, @BE.val E b = true) (hphi : Phi E0 0 E) : ObsOk E (Phi E0) ob0 := by
  have e0 : E.l 1000 = E0.l 1000 := hz.2.1 1000 rfl
  have c0 : E.i 1020 = E0.i 1020 := hz.1 1020 rfl
  have c1 : E.i 1021 = E0.i 1021 := hz.1 1021 rfl
  have c2 : E.i 1022 = E0.i 1022 := hz.1 1022 rfl
  have c3 : E.i 1023 = E0.i 1023 := hz.1 1023 rfl
  have c4 : E.i 1024 = E0.i 1024 := hz.1 1024 rfl
  have c5 : E.i 1025 = E0.i 1025 := hz.1 1025 rfl
  have c6 : E.i 1026 = E0.i 1026 := hz.1 1026 rfl
  have hr := right0 hpre
  have hc : E0.i 1022 ≤ (64 : Int) := hr.2.2.2.2.2.1
  obtain ⟨n, hn, hle, hL⟩ := hphi
  have up : IntKind.i64.wrap (E.i 1506 + 1) = ((n + 1 + 1 : Nat) : Int) := by rw [hn, up1 (by omega) (by omega)]; rfl
  have uc : IntKind.i64.wrap (E.i 1022 + 1) = E0.i 1022 + 1 := by rw [c2, up1 (by omega) (by omega)]
  refine ⟨fun hc => ?_, fun hc => ?_, fun hc => ?_, fun hc => ?_, trivial⟩
  · have hl : E.i 1506 ≤ E.i 1022 := of_decide_eq_true hc.2.1
    rw [hn, c2] at hl
    exact .inl (show (IntKind.i64.wrap (E.i 1022 + 1) - IntKind.i64.wrap (E.i 1506 + 1)).toNat < (IntKind.i64.wrap (E.i 1022 + 1) - E.i 1506).toNat by rw [up, uc, hn]; omega)
  · have hl : E.i 1506 ≤ E.i 1022 := of_decide_eq_true hc.2.1
    rw [hn, c2] at hl
    refine ⟨n + 1, up, by omega, ?_⟩
    show E.l 1507 ++ [hadF (cellF (E.i 1020) (E.i 1021) (E.i 1022) (E.i 1023) (E.i 1024) (E.i 1025) (E.i 1026) (E.i 1506) 0) (E.l 1000)] = _
    rw [mt_succ, hL, hn, e0, c0, c1, c2, c3, c4, c5, c6]; rfl
  · have h9 : (1073741824 : Int) < ((((E.l 1507).length : Int).toNat + (1 : Int).toNat * 1 + 0 : Nat) : Int) := of_decide_eq_true hc.1
    have h7 : (1 : Int).toNat = 1 := rfl
    rw [hL, mt_len, h7] at h9
    omega
  · have hl : E.i 1022 < E.i 1506 := of_decide_eq_true hc.1
    rw [hn, c2] at hl
    have e : n = (E0.i 1022).toNat := by omega
    show E.l 1507 = _
    rw [hL, e]
theorem told0 (E0 E : Env) (hphi : Phi E0 100 E) (hz : Z.of E0 E) : ToldE end0.T E0 E := ⟨lk_all trivial, lk_all ⟨hphi, trivial⟩⟩
theorem fs0_ok (E : Env) (hpre : Pre E) : ∀ b ∈ fs0, @BE.val E b = true := by
  intro b hb
  simp only [fs0, List.mem_cons, List.not_mem_nil, or_false] at hb
  rcases hb with rfl | rfl
  · exact hpre.1
  · exact hpre.2
theorem heads : (cuts.all fun k => isLoop (subAt root k.p) && Nat.ble k.ms.length 9) = true := by kernel_rfl
theorem bodyOk : Try.f28.body = some root := by kernel_rfl
def s0 : Summ := ⟨28, args, heap, tree0⟩
theorem preOf {E : Env} {K : SV × Heap Empty → Prop} (hK : @Tree.holds E _ K tree0) : Pre E := ⟨hK.1, hK.2.1⟩
theorem ok0 : s0.ok Try.prog := by
  refine Summ.loop (Z := Z) (ends := ends) (Φ := Phi) [⟨[1506, 1508, 1509, 1510, 1511, 1512], []⟩] (Bk.enters_of Try.func28 (by kernel_rfl)) ?_ ?_ ?_
  · intro E ρ F w argv ⟨K, hK⟩ H ha
    have hpre := preOf hK
    refine floydEO (us := ths) (N := N) mixed_ok (c := @baseA) @baseA_ok (x := extraG Try.prog) (fun {_} => extraG_ok _) Try.func28 bodyOk ths_ok (cuts := cuts) heads E (fun E' i k hk hz hfs hphi => ?_) (fs0 := fs0) ?_ (Owed.eq (@eS E) (runS E hpre)) ?_ H ha
    · match i, hk with
      | 0, hk => obtain rfl : cut0 = k := Option.some.inj (show some cut0 = some k from hk); exact Owed.eq (@e0 E') (run0 E E' hpre hz hfs hphi)
      | n + 1, hk => exact absurd hk (by simp [cuts])
    · intro b hb
      exact fs0_ok E hpre b hb
    · intro n hn
      exact hn
  · intro j en hj
    match j, hj with
    | 0, hj => obtain rfl : end0 = en := Option.some.inj (show some end0 = some en from hj); exact ⟨_, rfl, by kernel_rfl, by kernel_rfl, by kernel_rfl, by kernel_rfl, by kernel_rfl⟩
    | n + 1, hj => exact absurd hj (by simp [ends])
  · intro E E' j en hj hphi hz
    match j, hj with
    | 0, hj => obtain rfl : end0 = en := Option.some.inj (show some end0 = some en from hj); exact ⟨told0 E E' hphi hz, fun K hK => hK.2.2⟩
    | n + 1, hj => exact absurd hj (by simp [ends])
end CmM

def sumsA : List Summ := CmM.s0 :: sumsT
theorem sumsA_ok : ∀ σ ∈ sumsA, σ.ok Try.prog := Bk.cc CmM.ok0 sumsT_ok
noncomputable def base11 [Env] : CallF Empty := callF Try.prog (withS sumsA sums3) (extraG Try.prog) noL 100 50
theorem base11_ok [Env] : CallOk Try.prog base11 := callF_ok ⟨mixed_ok, (withS_ok sumsA_ok sums3_ok).2, names_ok, (withS_ok sumsA_ok sums3_ok).1, extraG_ok _, fun _ _ _ _ _ _ _ _ _ _ _ _ _ _ _ _ h => (by cases h)⟩ 100 50

end Go.Proofs.Ytafemlljemhkhaa.Sx
