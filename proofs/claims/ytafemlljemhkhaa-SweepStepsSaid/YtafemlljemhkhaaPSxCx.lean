import Derived.Test.YtafemlljemhkhaaPSxNw
namespace Go.Proofs.Ytafemlljemhkhaa.Sx
open Go
set_option linter.unusedSectionVars false
set_option linter.unusedVariables false
set_option linter.unusedSimpArgs false
set_option maxRecDepth 1000000
namespace CvO
open Bk Sm
def args : List SV := [.w (.one (.b (.ref 216)))]
def heap : Heap Empty := [(216, .mach 4 (.latom 1101))]
def N : List Nat := [216]
noncomputable def root : Code := rootOf Try.f56
def I0 : SS Empty := (SS.mk [.unk, .unk, .unk,(.w (.one (.b (.ref 131074)))), .unk, .unk,(.w (.one (.b (.ref 216)))),(.w (.one (.b (.int .i64 (.fn 50 (.consL (.len (.latom 1101)) (.consL (.lit 3) .nilL))))))),(.w (.one (.b (.int .i64 (.atom 1500))))), .unk, .unk, .unk, .unk, .unk, .unk, .unk, .unk, .unk] [(216,(.mach 4 (.latom 1101))),(131074,(.mach 4 (.latom 1501)))] 5)
def F0 : List BE := [.cmp .leq (.lit 0) (.atom 1500),(.cmp .leq (.len (.latom 1101)) (.lit 300000000)),(.cmp .eql (.op .rem .i64 (.len (.latom 1101)) (.lit 3)) (.lit 0))]
def cut0 : Cut := ⟨[0,1,0,1,1],I0,F0, [((.fn 50 (.consL (.len (.latom 1101)) (.consL (.lit 3) .nilL))),(.atom 1500))]⟩
def cuts : List Cut := [cut0]
def Z : Own := ⟨[1500], [1501]⟩
def T0a : List (Nat × IE) := []
def T0l : List (Nat × IE) := [(1501, .latom 1101)]
def end0 : EndE := ⟨(.w (.one (.b (.ref 131074)))), [(216,(.mach 4 (.latom 1101))),(131074,(.mach 4 (.latom 1501)))],⟨T0a,T0l, []⟩⟩
def ends : List EndE := [end0]
def ths : Ths := []
theorem ths_ok : ThsOk ths := fun E t h _ => by cases h
def fs0 : List BE := [.cmp .leq (.len (.latom 1101)) (.lit 300000000), .cmp .eql (.op .rem .i64 (.len (.latom 1101)) (.lit 3)) (.lit 0)]
def obS : List Ob := [(.at_ 0 [(1500,(.lit 0))] [(1501, .nilL),(1101,(.latom 1101))] [])]
theorem eS [Env] : oweStartE ths N Z ends Try.prog Try.f56 root baseG5 (extraG Try.prog) cuts fs0 args heap = obS := by kernel_rfl
def ob0 : List Ob := [(.less [((.fn 50 (.consL (.len (.latom 1101)) (.consL (.lit 3) .nilL))),(.atom 1500))] [((.fn 50 (.consL (.len (.latom 1101)) (.consL (.lit 3) .nilL))),(.op .add .i64 (.atom 1500) (.lit 1)))] [(.cmp .leq (.at_ (.fn 50 (.consL (.len (.latom 1501)) (.consL (.lit 3) .nilL))) (.lit 1) 1 0) (.lit 8796093022208)),(.and (.cmp .geq (.atom 1500) (.lit 0)) (.cmp .lss (.atom 1500) (.fn 50 (.consL (.len (.latom 1101)) (.consL (.lit 3) .nilL))))),(.cmp .lss (.atom 1500) (.fn 50 (.consL (.len (.latom 1101)) (.consL (.lit 3) .nilL)))),(.cmp .geq (.atom 1500) (.lit 0)),(.cmp .lss (.atom 1500) (.fn 50 (.consL (.len (.latom 1101)) (.consL (.lit 3) .nilL))))]),(.need (.cmp .leq (.lit 0) (.op .add .i64 (.atom 1500) (.lit 1))) [(.cmp .leq (.at_ (.fn 50 (.consL (.len (.latom 1501)) (.consL (.lit 3) .nilL))) (.lit 1) 1 0) (.lit 8796093022208)),(.and (.cmp .geq (.atom 1500) (.lit 0)) (.cmp .lss (.atom 1500) (.fn 50 (.consL (.len (.latom 1101)) (.consL (.lit 3) .nilL))))),(.cmp .lss (.atom 1500) (.fn 50 (.consL (.len (.latom 1101)) (.consL (.lit 3) .nilL)))),(.cmp .geq (.atom 1500) (.lit 0)),(.cmp .lss (.atom 1500) (.fn 50 (.consL (.len (.latom 1101)) (.consL (.lit 3) .nilL))))]),(.at_ 0 [(1500,(.op .add .i64 (.atom 1500) (.lit 1)))] [(1501,(.catL (.latom 1501) (.consL (.get (.latom 1101) (.at_ (.lit 0) (.atom 1500) 3 0) 0) (.consL (.get (.latom 1101) (.at_ (.lit 0) (.atom 1500) 3 0) 1) (.consL (.get (.latom 1101) (.at_ (.lit 0) (.atom 1500) 3 0) 2) .nilL))))),(1101,(.latom 1101))] [(.cmp .leq (.at_ (.fn 50 (.consL (.len (.latom 1501)) (.consL (.lit 3) .nilL))) (.lit 1) 1 0) (.lit 8796093022208)),(.and (.cmp .geq (.atom 1500) (.lit 0)) (.cmp .lss (.atom 1500) (.fn 50 (.consL (.len (.latom 1101)) (.consL (.lit 3) .nilL))))),(.cmp .lss (.atom 1500) (.fn 50 (.consL (.len (.latom 1101)) (.consL (.lit 3) .nilL)))),(.cmp .geq (.atom 1500) (.lit 0)),(.cmp .lss (.atom 1500) (.fn 50 (.consL (.len (.latom 1101)) (.consL (.lit 3) .nilL))))]),(.bad 320 [(.cmp .lss (.lit 8796093022208) (.at_ (.fn 50 (.consL (.len (.latom 1501)) (.consL (.lit 3) .nilL))) (.lit 1) 1 0)),(.and (.cmp .geq (.atom 1500) (.lit 0)) (.cmp .lss (.atom 1500) (.fn 50 (.consL (.len (.latom 1101)) (.consL (.lit 3) .nilL))))),(.cmp .lss (.atom 1500) (.fn 50 (.consL (.len (.latom 1101)) (.consL (.lit 3) .nilL)))),(.cmp .geq (.atom 1500) (.lit 0)),(.cmp .lss (.atom 1500) (.fn 50 (.consL (.len (.latom 1101)) (.consL (.lit 3) .nilL))))]),(.at_ 100 [] [(1501,(.latom 1501)),(1101,(.latom 1101))] [(.cmp .leq (.fn 50 (.consL (.len (.latom 1101)) (.consL (.lit 3) .nilL))) (.atom 1500))])]
theorem e0 [Env] : oweAtE ths N Z ends Try.prog Try.f56 root baseG5 (extraG Try.prog) cuts cut0 = ob0 := by kernel_rfl
def tree0 : Tree (SV × Heap Empty) := (.req (.cmp .leq (.len (.latom 1101)) (.lit 300000000)) (.req (.cmp .eql (.op .rem .i64 (.len (.latom 1101)) (.lit 3)) (.lit 0)) (.leaf (end0.sv.sub end0.T,subH end0.T end0.h))))
def Pre (E : Env) : Prop := @BE.val E (.cmp .leq (.len (.latom 1101)) (.lit 300000000)) = true ∧ @BE.val E (.cmp .eql (.op .rem .i64 (.len (.latom 1101)) (.lit 3)) (.lit 0)) = true
def Phi (E0 : Env) : Nat → Env → Prop
  | 0,E => ∃ n : Nat,E.i 1500 = n ∧ 3 * n ≤ (E0.l 1101).length ∧ E.l 1501 = (E0.l 1101).take (3 * n)
  | 100,E => E.l 1501 = E0.l 1101
  | _,_ => True
theorem runS (E : Env) (hpre : Pre E) : ObsOk E (Phi E) obS := ⟨fun _ => ⟨0,rfl,Nat.zero_le _,rfl⟩,trivial⟩
theorem run0 (E0 E : Env) (hpre : Pre E0) (hz : Z.of E0 E) (hfs : ∀ b ∈ cut0.fs, @BE.val E b = true) (hphi : Phi E0 0 E) : ObsOk E (Phi E0) ob0 := by
  obtain ⟨n,hn,hle,hL⟩ := hphi
  have e2 : E.l 1101 = E0.l 1101 := hz.2.1 1101 rfl
  have hb : ((E0.l 1101).length : Int) ≤ 300000000 := of_decide_eq_true hpre.1
  have hv : ((E.l 1101).length : Int) / 3 = (((E0.l 1101).length / 3 : Nat) : Int) := by rw [e2,div3]
  have lt : E.i 1500 < ((E.l 1101).length : Int) / 3 → 3 * n + 3 ≤ (E0.l 1101).length := fun h => by rw [hn,hv] at h; omega
  have up : 3 * n + 3 ≤ (E0.l 1101).length → IntKind.i64.wrap (E.i 1500 + 1) = ((n + 1 : Nat) : Int) := fun h => by rw [hn,up1 (by omega) (by omega)]; rfl
  have hg : ∀ k : Nat,(E.l 1101).getD ((((0 : Int).toNat + (E.i 1500).toNat * 3 + 0 : Nat) : Int).toNat + k) 0 = (E0.l 1101).getD (3 * n + k) 0 := fun k => by rw [atx3,e2,hn]; rfl
  have hm : ((E0.l 1101).length : Int) % 3 = 0 := by
    have q : Int.tmod ((E0.l 1101).length : Int) 3 = 0 := eq_of_beq hpre.2
    rwa [Int.tmod_eq_emod_of_nonneg (by omega)] at q
  have bl1501 : (E.l 1501).length ≤ 300000000 := by
    rw [hL,List.length_take]
    omega
  exact ⟨(fun hc => have hl := lt (of_decide_eq_true hc.2.2.1); .inl (show (((E.l 1101).length : Int) / 3 - IntKind.i64.wrap (E.i 1500 + 1)).toNat < (((E.l 1101).length : Int) / 3 - E.i 1500).toNat by rw [up hl, hv, hn]; omega)),
    (fun hc => have hl := lt (of_decide_eq_true hc.2.2.1); decide_eq_true (show (0 : Int) ≤ IntKind.i64.wrap (E.i 1500 + 1) by rw [up hl]; omega)),
    (fun hc => by
      have hl := lt (of_decide_eq_true hc.2.2.1)
      refine ⟨n + 1,up hl,by omega, ?_⟩
      show E.l 1501 ++ [((E.l 1101).getD ((((0 : Int).toNat + (E.i 1500).toNat * 3 + 0 : Nat) : Int).toNat + 0) 0),((E.l 1101).getD ((((0 : Int).toNat + (E.i 1500).toNat * 3 + 0 : Nat) : Int).toNat + 1) 0),((E.l 1101).getD ((((0 : Int).toNat + (E.i 1500).toNat * 3 + 0 : Nat) : Int).toNat + 2) 0)] = _
      rw [take3 hl,hL,hg 0,hg 1,hg 2]; rfl),
    (fun hc => by
      have h9 : (8796093022208 : Int) < (((((E.l 1501).length : Int) / 3).toNat + (1 : Int).toNat * 1 + 0 : Nat) : Int) := of_decide_eq_true hc.1
      have h8 := bl1501
      have h7 : (1 : Int).toNat = 1 := rfl
      rw [h7] at h9
      omega),
    (fun hc => by
      have hge : ((E.l 1101).length : Int) / 3 ≤ E.i 1500 := of_decide_eq_true hc.1
      rw [hn,hv] at hge
      show E.l 1501 = E0.l 1101
      rw [hL,List.take_of_length_le (by omega)]),
    trivial⟩
theorem told0 (E0 E : Env) (hphi : Phi E0 100 E) (hz : Z.of E0 E) : ToldE end0.T E0 E := ⟨lk_all trivial,lk_all ⟨hphi,trivial⟩⟩
theorem fs0_ok (E : Env) (hpre : Pre E) : ∀ b ∈ fs0, @BE.val E b = true := by
  intro b hb
  simp only [fs0,List.mem_cons,List.not_mem_nil,or_false] at hb
  rcases hb with rfl | rfl
  · exact hpre.1
  · exact hpre.2
theorem heads : (cuts.all fun k => isLoop (subAt root k.p) && Nat.ble k.ms.length 9) = true := by kernel_rfl
theorem bodyOk : Try.f56.body = some root := by kernel_rfl
def s0 : Summ := ⟨56,args,heap,tree0⟩
theorem preOf {E : Env} {K : SV × Heap Empty → Prop} (hK : @Tree.holds E _ K tree0) : Pre E := ⟨hK.1,hK.2.1⟩
theorem ok0 : s0.ok Try.prog := by
  refine Summ.loop (Z := Z) (ends := ends) (Φ := Phi) [⟨[1500], []⟩] (Bk.enters_of Try.func56 (by kernel_rfl)) ?_ ?_ ?_
  · intro E ρ F w argv ⟨K, hK⟩ H ha
    have hpre := preOf hK
    refine floydEO (us := ths) (N := N) mixed_ok (c := @baseG5) @baseG5_ok (x := extraG Try.prog) (fun {_} => extraG_ok _) Try.func56 bodyOk ths_ok (cuts := cuts) heads E (fun E' i k hk hz hfs hphi => ?_) (fs0 := fs0) ?_ (Owed.eq (@eS E) (runS E hpre)) ?_ H ha
    · match i, hk with
      | 0,hk => obtain rfl : cut0 = k := Option.some.inj (show some cut0 = some k from hk); exact Owed.eq (@e0 E') (run0 E E' hpre hz hfs hphi)
      | n + 1,hk => exact absurd hk (by simp [cuts])
    · intro b hb
      exact fs0_ok E hpre b hb
    · intro n hn
      exact hn
  · intro j en hj
    match j,hj with
    | 0,hj => obtain rfl : end0 = en := Option.some.inj (show some end0 = some en from hj); exact ⟨_,rfl,by kernel_rfl,by kernel_rfl,by kernel_rfl,by kernel_rfl,by kernel_rfl⟩
    | n + 1,hj => exact absurd hj (by simp [ends])
  · intro E E' j en hj hphi hz
    match j,hj with
    | 0,hj => obtain rfl : end0 = en := Option.some.inj (show some end0 = some en from hj); exact ⟨told0 E E' hphi hz,fun K hK => hK.2.2⟩
    | n + 1,hj => exact absurd hj (by simp [ends])
end CvO
namespace CvS
open Bk Sm
def args : List SV := [.w (.one (.b (.ref 216))), .w (.one (.b (.ref 220)))]
def heap : Heap Empty := [(216, .mach 4 (.latom 1101)),(220, .mach 4 (.latom 1102))]
def N : List Nat := [216,220]
noncomputable def root : Code := rootOf Try.f55
def I0 : SS Empty := (SS.mk [(.w (.one (.b (.ref 216)))),(.w (.one (.b (.ref 220)))), .unk, .unk, .unk,(.w (.one (.b (.int .i64 (.atom 1500))))), .unk, .unk, .unk, .unk, .unk, .unk, .unk, .unk, .unk, .unk, .unk, .unk, .unk, .unk, .unk, .unk, .unk, .unk, .unk, .unk] [(216,(.mach 4 (.latom 1101))),(220,(.mach 4 (.latom 1102)))] 7)
def F0 : List BE := [.cmp .leq (.lit 0) (.atom 1500),(.cmp .eql (.fn 50 (.consL (.len (.latom 1101)) (.consL (.lit 3) .nilL))) (.fn 50 (.consL (.len (.latom 1102)) (.consL (.lit 3) .nilL)))),(.cmp .leq (.len (.latom 1101)) (.lit 300000000)),(.cmp .eql (.op .rem .i64 (.len (.latom 1101)) (.lit 3)) (.lit 0)),(.cmp .eql (.op .rem .i64 (.len (.latom 1102)) (.lit 3)) (.lit 0))]
def cut0 : Cut := ⟨[0,1,0,1,1],I0,F0, [((.fn 50 (.consL (.len (.latom 1101)) (.consL (.lit 3) .nilL))),(.atom 1500))]⟩
def cuts : List Cut := [cut0]
def Z : Own := ⟨[1500,2600], []⟩
def T0a : List (Nat × IE) := [(2600, .eqL (.latom 1101) (.latom 1102))]
def T0l : List (Nat × IE) := []
def end0 : EndE := ⟨(.w (.one (.b (.bool (.atom 2600))))), [(216,(.mach 4 (.latom 1101))),(220,(.mach 4 (.latom 1102)))],⟨T0a,T0l, []⟩⟩
def ends : List EndE := [end0]
def ths : Ths := []
theorem ths_ok : ThsOk ths := fun E t h _ => by cases h
def fs0 : List BE := [.cmp .leq (.len (.latom 1101)) (.lit 300000000), .cmp .eql (.op .rem .i64 (.len (.latom 1101)) (.lit 3)) (.lit 0), .cmp .eql (.op .rem .i64 (.len (.latom 1102)) (.lit 3)) (.lit 0)]
def obS : List Ob := [(.at_ 100 [(2600,(.lit 0))] [(1101,(.latom 1101)),(1102,(.latom 1102))] [(.cmp .neq (.fn 50 (.consL (.len (.latom 1101)) (.consL (.lit 3) .nilL))) (.fn 50 (.consL (.len (.latom 1102)) (.consL (.lit 3) .nilL))))]),(.at_ 0 [(1500,(.lit 0))] [(1101,(.latom 1101)),(1102,(.latom 1102))] [(.cmp .eql (.fn 50 (.consL (.len (.latom 1101)) (.consL (.lit 3) .nilL))) (.fn 50 (.consL (.len (.latom 1102)) (.consL (.lit 3) .nilL))))])]
theorem eS [Env] : oweStartE ths N Z ends Try.prog Try.f55 root baseG5 (extraG Try.prog) cuts fs0 args heap = obS := by kernel_rfl
def ob0 : List Ob := [(.at_ 100 [(2600,(.lit 0))] [(1101,(.latom 1101)),(1102,(.latom 1102))] [(.not (.and (.cmp .eql (.get (.latom 1101) (.at_ (.lit 0) (.atom 1500) 3 0) 0) (.get (.latom 1102) (.at_ (.lit 0) (.atom 1500) 3 0) 0)) (.and (.cmp .eql (.get (.latom 1101) (.at_ (.lit 0) (.atom 1500) 3 0) 1) (.get (.latom 1102) (.at_ (.lit 0) (.atom 1500) 3 0) 1)) (.cmp .eql (.get (.latom 1101) (.at_ (.lit 0) (.atom 1500) 3 0) 2) (.get (.latom 1102) (.at_ (.lit 0) (.atom 1500) 3 0) 2))))),(.and (.cmp .geq (.atom 1500) (.lit 0)) (.cmp .lss (.atom 1500) (.fn 50 (.consL (.len (.latom 1102)) (.consL (.lit 3) .nilL))))),(.cmp .lss (.atom 1500) (.fn 50 (.consL (.len (.latom 1102)) (.consL (.lit 3) .nilL)))),(.cmp .geq (.atom 1500) (.lit 0)),(.and (.cmp .geq (.atom 1500) (.lit 0)) (.cmp .lss (.atom 1500) (.fn 50 (.consL (.len (.latom 1101)) (.consL (.lit 3) .nilL))))),(.cmp .lss (.atom 1500) (.fn 50 (.consL (.len (.latom 1101)) (.consL (.lit 3) .nilL)))),(.cmp .geq (.atom 1500) (.lit 0)),(.cmp .lss (.atom 1500) (.fn 50 (.consL (.len (.latom 1101)) (.consL (.lit 3) .nilL))))]),(.less [((.fn 50 (.consL (.len (.latom 1101)) (.consL (.lit 3) .nilL))),(.atom 1500))] [((.fn 50 (.consL (.len (.latom 1101)) (.consL (.lit 3) .nilL))),(.op .add .i64 (.atom 1500) (.lit 1)))] [(.and (.cmp .eql (.get (.latom 1101) (.at_ (.lit 0) (.atom 1500) 3 0) 0) (.get (.latom 1102) (.at_ (.lit 0) (.atom 1500) 3 0) 0)) (.and (.cmp .eql (.get (.latom 1101) (.at_ (.lit 0) (.atom 1500) 3 0) 1) (.get (.latom 1102) (.at_ (.lit 0) (.atom 1500) 3 0) 1)) (.cmp .eql (.get (.latom 1101) (.at_ (.lit 0) (.atom 1500) 3 0) 2) (.get (.latom 1102) (.at_ (.lit 0) (.atom 1500) 3 0) 2)))),(.and (.cmp .geq (.atom 1500) (.lit 0)) (.cmp .lss (.atom 1500) (.fn 50 (.consL (.len (.latom 1102)) (.consL (.lit 3) .nilL))))),(.cmp .lss (.atom 1500) (.fn 50 (.consL (.len (.latom 1102)) (.consL (.lit 3) .nilL)))),(.cmp .geq (.atom 1500) (.lit 0)),(.and (.cmp .geq (.atom 1500) (.lit 0)) (.cmp .lss (.atom 1500) (.fn 50 (.consL (.len (.latom 1101)) (.consL (.lit 3) .nilL))))),(.cmp .lss (.atom 1500) (.fn 50 (.consL (.len (.latom 1101)) (.consL (.lit 3) .nilL)))),(.cmp .geq (.atom 1500) (.lit 0)),(.cmp .lss (.atom 1500) (.fn 50 (.consL (.len (.latom 1101)) (.consL (.lit 3) .nilL))))]),(.need (.cmp .leq (.lit 0) (.op .add .i64 (.atom 1500) (.lit 1))) [(.and (.cmp .eql (.get (.latom 1101) (.at_ (.lit 0) (.atom 1500) 3 0) 0) (.get (.latom 1102) (.at_ (.lit 0) (.atom 1500) 3 0) 0)) (.and (.cmp .eql (.get (.latom 1101) (.at_ (.lit 0) (.atom 1500) 3 0) 1) (.get (.latom 1102) (.at_ (.lit 0) (.atom 1500) 3 0) 1)) (.cmp .eql (.get (.latom 1101) (.at_ (.lit 0) (.atom 1500) 3 0) 2) (.get (.latom 1102) (.at_ (.lit 0) (.atom 1500) 3 0) 2)))),(.and (.cmp .geq (.atom 1500) (.lit 0)) (.cmp .lss (.atom 1500) (.fn 50 (.consL (.len (.latom 1102)) (.consL (.lit 3) .nilL))))),(.cmp .lss (.atom 1500) (.fn 50 (.consL (.len (.latom 1102)) (.consL (.lit 3) .nilL)))),(.cmp .geq (.atom 1500) (.lit 0)),(.and (.cmp .geq (.atom 1500) (.lit 0)) (.cmp .lss (.atom 1500) (.fn 50 (.consL (.len (.latom 1101)) (.consL (.lit 3) .nilL))))),(.cmp .lss (.atom 1500) (.fn 50 (.consL (.len (.latom 1101)) (.consL (.lit 3) .nilL)))),(.cmp .geq (.atom 1500) (.lit 0)),(.cmp .lss (.atom 1500) (.fn 50 (.consL (.len (.latom 1101)) (.consL (.lit 3) .nilL))))]),(.at_ 0 [(1500,(.op .add .i64 (.atom 1500) (.lit 1)))] [(1101,(.latom 1101)),(1102,(.latom 1102))] [(.and (.cmp .eql (.get (.latom 1101) (.at_ (.lit 0) (.atom 1500) 3 0) 0) (.get (.latom 1102) (.at_ (.lit 0) (.atom 1500) 3 0) 0)) (.and (.cmp .eql (.get (.latom 1101) (.at_ (.lit 0) (.atom 1500) 3 0) 1) (.get (.latom 1102) (.at_ (.lit 0) (.atom 1500) 3 0) 1)) (.cmp .eql (.get (.latom 1101) (.at_ (.lit 0) (.atom 1500) 3 0) 2) (.get (.latom 1102) (.at_ (.lit 0) (.atom 1500) 3 0) 2)))),(.and (.cmp .geq (.atom 1500) (.lit 0)) (.cmp .lss (.atom 1500) (.fn 50 (.consL (.len (.latom 1102)) (.consL (.lit 3) .nilL))))),(.cmp .lss (.atom 1500) (.fn 50 (.consL (.len (.latom 1102)) (.consL (.lit 3) .nilL)))),(.cmp .geq (.atom 1500) (.lit 0)),(.and (.cmp .geq (.atom 1500) (.lit 0)) (.cmp .lss (.atom 1500) (.fn 50 (.consL (.len (.latom 1101)) (.consL (.lit 3) .nilL))))),(.cmp .lss (.atom 1500) (.fn 50 (.consL (.len (.latom 1101)) (.consL (.lit 3) .nilL)))),(.cmp .geq (.atom 1500) (.lit 0)),(.cmp .lss (.atom 1500) (.fn 50 (.consL (.len (.latom 1101)) (.consL (.lit 3) .nilL))))]),(.at_ 100 [(2600,(.lit 1))] [(1101,(.latom 1101)),(1102,(.latom 1102))] [(.cmp .leq (.fn 50 (.consL (.len (.latom 1101)) (.consL (.lit 3) .nilL))) (.atom 1500))])]
theorem e0 [Env] : oweAtE ths N Z ends Try.prog Try.f55 root baseG5 (extraG Try.prog) cuts cut0 = ob0 := by kernel_rfl
def tree0 : Tree (SV × Heap Empty) := (.req (.cmp .leq (.len (.latom 1101)) (.lit 300000000)) (.req (.cmp .eql (.op .rem .i64 (.len (.latom 1101)) (.lit 3)) (.lit 0)) (.req (.cmp .eql (.op .rem .i64 (.len (.latom 1102)) (.lit 3)) (.lit 0)) (.leaf (end0.sv.sub end0.T,subH end0.T end0.h)))))
def Pre (E : Env) : Prop := @BE.val E (.cmp .leq (.len (.latom 1101)) (.lit 300000000)) = true ∧ @BE.val E (.cmp .eql (.op .rem .i64 (.len (.latom 1101)) (.lit 3)) (.lit 0)) = true ∧ @BE.val E (.cmp .eql (.op .rem .i64 (.len (.latom 1102)) (.lit 3)) (.lit 0)) = true
def Phi (E0 : Env) : Nat → Env → Prop
  | 0,E => ∃ n : Nat,E.i 1500 = n ∧ 3 * n ≤ (E0.l 1101).length ∧ (E0.l 1101).length = (E0.l 1102).length ∧ (E0.l 1101).take (3 * n) = (E0.l 1102).take (3 * n)
  | 100,E => E.i 2600 = ofB (decide (E0.l 1101 = E0.l 1102))
  | _,_ => True
theorem mods {E : Env} (hpre : Pre E) : (E.l 1101).length % 3 = 0 ∧ (E.l 1102).length % 3 = 0 := by
  have q1 : Int.tmod ((E.l 1101).length : Int) 3 = 0 := eq_of_beq hpre.2.1
  have q2 : Int.tmod ((E.l 1102).length : Int) 3 = 0 := eq_of_beq hpre.2.2
  rw [Int.tmod_eq_emod_of_nonneg (by omega)] at q1 q2
  omega
theorem runS (E : Env) (hpre : Pre E) : ObsOk E (Phi E) obS := by
  have hm := mods hpre
  refine ⟨fun hc => ?_,fun hc => ?_,trivial⟩
  · have q : ((E.l 1101).length : Int) / 3 ≠ ((E.l 1102).length : Int) / 3 := bne_iff_ne.1 hc.1
    show (0 : Int) = ofB (decide (E.l 1101 = E.l 1102))
    rw [decide_eq_false (fun e => q (by rw [e]))]; rfl
  · have q : ((E.l 1101).length : Int) / 3 = ((E.l 1102).length : Int) / 3 := eq_of_beq hc.1
    exact ⟨0,rfl,Nat.zero_le _,by omega,rfl⟩
theorem run0 (E0 E : Env) (hpre : Pre E0) (hz : Z.of E0 E) (hfs : ∀ b ∈ cut0.fs, @BE.val E b = true) (hphi : Phi E0 0 E) : ObsOk E (Phi E0) ob0 := by
  obtain ⟨n,hn,hle,hlen,hL⟩ := hphi
  have e2 : E.l 1101 = E0.l 1101 := hz.2.1 1101 rfl
  have hb : ((E0.l 1101).length : Int) ≤ 300000000 := of_decide_eq_true hpre.1
  have hv : ((E.l 1101).length : Int) / 3 = (((E0.l 1101).length / 3 : Nat) : Int) := by rw [e2,div3]
  have lt : E.i 1500 < ((E.l 1101).length : Int) / 3 → 3 * n + 3 ≤ (E0.l 1101).length := fun h => by rw [hn,hv] at h; omega
  have up : 3 * n + 3 ≤ (E0.l 1101).length → IntKind.i64.wrap (E.i 1500 + 1) = ((n + 1 : Nat) : Int) := fun h => by rw [hn,up1 (by omega) (by omega)]; rfl
  have hg : ∀ k : Nat,(E.l 1101).getD ((((0 : Int).toNat + (E.i 1500).toNat * 3 + 0 : Nat) : Int).toNat + k) 0 = (E0.l 1101).getD (3 * n + k) 0 := fun k => by rw [atx3,e2,hn]; rfl
  have hm := mods hpre
  have e4 : E.l 1102 = E0.l 1102 := hz.2.1 1102 rfl
  have hg2 : ∀ k : Nat,(E.l 1102).getD ((((0 : Int).toNat + (E.i 1500).toNat * 3 + 0 : Nat) : Int).toNat + k) 0 = (E0.l 1102).getD (3 * n + k) 0 := fun k => by rw [atx3,e4,hn]; rfl
  exact ⟨(fun hc => by
      have h : (!((((E.l 1101).getD ((((0 : Int).toNat + (E.i 1500).toNat * 3 + 0 : Nat) : Int).toNat + 0) 0) == ((E.l 1102).getD ((((0 : Int).toNat + (E.i 1500).toNat * 3 + 0 : Nat) : Int).toNat + 0) 0)) && ((((E.l 1101).getD ((((0 : Int).toNat + (E.i 1500).toNat * 3 + 0 : Nat) : Int).toNat + 1) 0) == ((E.l 1102).getD ((((0 : Int).toNat + (E.i 1500).toNat * 3 + 0 : Nat) : Int).toNat + 1) 0)) && (((E.l 1101).getD ((((0 : Int).toNat + (E.i 1500).toNat * 3 + 0 : Nat) : Int).toNat + 2) 0) == ((E.l 1102).getD ((((0 : Int).toNat + (E.i 1500).toNat * 3 + 0 : Nat) : Int).toNat + 2) 0))))) = true := hc.1
      show (0 : Int) = ofB (decide (E0.l 1101 = E0.l 1102))
      rw [decide_eq_false (fun q => by rw [show E.l 1101 = E.l 1102 by rw [e2,e4]; exact q] at h; simp at h)]; rfl),
    (fun hc => have hl := lt (of_decide_eq_true hc.2.2.2.2.2.1); .inl (show (((E.l 1101).length : Int) / 3 - IntKind.i64.wrap (E.i 1500 + 1)).toNat < (((E.l 1101).length : Int) / 3 - E.i 1500).toNat by rw [up hl,hv,hn]; omega)),
    (fun hc => have hl := lt (of_decide_eq_true hc.2.2.2.2.2.1); decide_eq_true (show (0 : Int) ≤ IntKind.i64.wrap (E.i 1500 + 1) by rw [up hl]; omega)),
    (fun hc => by
      have hl := lt (of_decide_eq_true hc.2.2.2.2.2.1)
      have h : ((((E.l 1101).getD ((((0 : Int).toNat + (E.i 1500).toNat * 3 + 0 : Nat) : Int).toNat + 0) 0) == ((E.l 1102).getD ((((0 : Int).toNat + (E.i 1500).toNat * 3 + 0 : Nat) : Int).toNat + 0) 0)) && ((((E.l 1101).getD ((((0 : Int).toNat + (E.i 1500).toNat * 3 + 0 : Nat) : Int).toNat + 1) 0) == ((E.l 1102).getD ((((0 : Int).toNat + (E.i 1500).toNat * 3 + 0 : Nat) : Int).toNat + 1) 0)) && (((E.l 1101).getD ((((0 : Int).toNat + (E.i 1500).toNat * 3 + 0 : Nat) : Int).toNat + 2) 0) == ((E.l 1102).getD ((((0 : Int).toNat + (E.i 1500).toNat * 3 + 0 : Nat) : Int).toNat + 2) 0)))) = true := hc.1
      rw [hg 0,hg 1,hg 2,hg2 0,hg2 1,hg2 2] at h
      simp only [Bool.and_eq_true,beq_iff_eq] at h
      refine ⟨n + 1,up hl,by omega,hlen, ?_⟩
      rw [take3 hl,take3 (by omega),hL]
      congr 1
      unfold ent
      rw [h.2.1,h.2.2,show (E0.l 1101).getD (3 * n) 0 = (E0.l 1102).getD (3 * n) 0 from h.1]),
    (fun hc => by
      have hge : ((E.l 1101).length : Int) / 3 ≤ E.i 1500 := of_decide_eq_true hc.1
      rw [hn,hv] at hge
      show (1 : Int) = ofB (decide (E0.l 1101 = E0.l 1102))
      rw [List.take_of_length_le (by omega),List.take_of_length_le (by omega)] at hL
      rw [decide_eq_true hL]; rfl),
    trivial⟩
theorem told0 (E0 E : Env) (hphi : Phi E0 100 E) (hz : Z.of E0 E) : ToldE end0.T E0 E := ⟨lk_all ⟨hphi,trivial⟩,lk_all trivial⟩
theorem fs0_ok (E : Env) (hpre : Pre E) : ∀ b ∈ fs0, @BE.val E b = true := by
  intro b hb
  simp only [fs0,List.mem_cons,List.not_mem_nil,or_false] at hb
  rcases hb with rfl | rfl | rfl
  · exact hpre.1
  · exact hpre.2.1
  · exact hpre.2.2
theorem heads : (cuts.all fun k => isLoop (subAt root k.p) && Nat.ble k.ms.length 9) = true := by kernel_rfl
theorem bodyOk : Try.f55.body = some root := by kernel_rfl
def s0 : Summ := ⟨55,args,heap,tree0⟩
theorem preOf {E : Env} {K : SV × Heap Empty → Prop} (hK : @Tree.holds E _ K tree0) : Pre E := ⟨hK.1,hK.2.1,hK.2.2.1⟩
theorem ok0 : s0.ok Try.prog := by
  refine Summ.loop (Z := Z) (ends := ends) (Φ := Phi) [⟨[1500], []⟩] (Bk.enters_of Try.func55 (by kernel_rfl)) ?_ ?_ ?_
  · intro E ρ F w argv ⟨K, hK⟩ H ha
    have hpre := preOf hK
    refine floydEO (us := ths) (N := N) mixed_ok (c := @baseG5) @baseG5_ok (x := extraG Try.prog) (fun {_} => extraG_ok _) Try.func55 bodyOk ths_ok (cuts := cuts) heads E (fun E' i k hk hz hfs hphi => ?_) (fs0 := fs0) ?_ (Owed.eq (@eS E) (runS E hpre)) ?_ H ha
    · match i, hk with
      | 0,hk => obtain rfl : cut0 = k := Option.some.inj (show some cut0 = some k from hk); exact Owed.eq (@e0 E') (run0 E E' hpre hz hfs hphi)
      | n + 1,hk => exact absurd hk (by simp [cuts])
    · intro b hb
      exact fs0_ok E hpre b hb
    · intro n hn
      exact hn
  · intro j en hj
    match j,hj with
    | 0,hj => obtain rfl : end0 = en := Option.some.inj (show some end0 = some en from hj); exact ⟨_,rfl,by kernel_rfl,by kernel_rfl,by kernel_rfl,by kernel_rfl,by kernel_rfl⟩
    | n + 1,hj => exact absurd hj (by simp [ends])
  · intro E E' j en hj hphi hz
    match j,hj with
    | 0,hj => obtain rfl : end0 = en := Option.some.inj (show some end0 = some en from hj); exact ⟨told0 E E' hphi hz,fun K hK => hK.2.2.2⟩
    | n + 1,hj => exact absurd hj (by simp [ends])
end CvS
end Go.Proofs.Ytafemlljemhkhaa.Sx
