import Derived.Test.YtafemlljemhkhaaPSxCv
import Derived.Test.YtafemlljemhkhaaPSxFe
namespace Go.Proofs.Ytafemlljemhkhaa.Sx
open Go
set_option linter.unusedSectionVars false
set_option linter.unusedVariables false
set_option linter.unusedSimpArgs false
set_option maxRecDepth 1000000
namespace CvN
open Bk Sm
def args : List SV := [.w (.one (.b (.isl 3 (.atom 1060) (.atom 1061))))]
def heap : Heap Empty := [(3, .tab [.int .u64, .int .u64, .int .u64] (.atom 1060) (.atom 1061) 1)]
def N : List Nat := [3]
noncomputable def root : Code := rootOf Try.f52
def I0 : SS Empty := (SS.mk [.unk, .unk, .unk,(.w (.one (.b (.ref 131074)))), .unk, .unk,(.w (.one (.b (.isl 3 (.atom 1060) (.atom 1061))))),(.w (.one (.b (.int .i64 (.nat (.atom 1061)))))),(.w (.one (.b (.int .i64 (.atom 1500))))), .unk, .unk, .unk, .unk, .unk, .unk, .unk, .unk, .unk] [(3,(.tab [(.int .u64),(.int .u64),(.int .u64)] (.atom 1060) (.atom 1061) 1)),(131074,(.mach 4 (.latom 1501)))] 5)
def F0 : List BE := [.cmp .leq (.lit 0) (.atom 1500),(.cmp .leq (.lit 0) (.atom 1061)),(.cmp .leq (.atom 1061) (.lit 8000000000000))]
def cut0 : Cut := ⟨[0,1,0,1,1],I0,F0, [((.nat (.atom 1061)),(.atom 1500))]⟩
def cuts : List Cut := [cut0]
def Z : Own := ⟨[1500], [1501]⟩
def T0a : List (Nat × IE) := []
def T0l : List (Nat × IE) := [(1501, .tabL 1 (.atom 1061) 3)]
def end0 : EndE := ⟨(.w (.one (.b (.ref 131074)))), [(3,(.tab [(.int .u64),(.int .u64),(.int .u64)] (.atom 1060) (.atom 1061) 1)),(131074,(.mach 4 (.latom 1501)))],⟨T0a,T0l, []⟩⟩
def ends : List EndE := [end0]
def ths : Ths := []
theorem ths_ok : ThsOk ths := fun E t h _ => by cases h
def fs0 : List BE := [.cmp .leq (.lit 0) (.atom 1061), .cmp .leq (.atom 1061) (.lit 8000000000000)]
def obS : List Ob := [(.at_ 0 [(1500,(.lit 0)),(1061,(.atom 1061)),(1060,(.atom 1060))] [(1501, .nilL)] [])]
theorem eS [Env] : oweStartE ths N Z ends Try.prog Try.f52 root baseG5 (extraG Try.prog) cuts fs0 args heap = obS := by kernel_rfl
def ob0 : List Ob := [(.less [((.nat (.atom 1061)),(.atom 1500))] [((.nat (.atom 1061)),(.op .add .i64 (.atom 1500) (.lit 1)))] [(.cmp .leq (.at_ (.fn 50 (.consL (.len (.latom 1501)) (.consL (.lit 3) .nilL))) (.lit 1) 1 0) (.lit 8796093022208)),(.and (.cmp .eql (.nat (.atom 1060)) (.nat (.atom 1060))) (.cmp .lss (.nat (.atom 1500)) (.nat (.atom 1061)))),(.cmp .lss (.atom 1500) (.nat (.atom 1061))),(.cmp .geq (.atom 1500) (.lit 0)),(.cmp .lss (.atom 1500) (.nat (.atom 1061)))]),(.need (.cmp .leq (.lit 0) (.op .add .i64 (.atom 1500) (.lit 1))) [(.cmp .leq (.at_ (.fn 50 (.consL (.len (.latom 1501)) (.consL (.lit 3) .nilL))) (.lit 1) 1 0) (.lit 8796093022208)),(.and (.cmp .eql (.nat (.atom 1060)) (.nat (.atom 1060))) (.cmp .lss (.nat (.atom 1500)) (.nat (.atom 1061)))),(.cmp .lss (.atom 1500) (.nat (.atom 1061))),(.cmp .geq (.atom 1500) (.lit 0)),(.cmp .lss (.atom 1500) (.nat (.atom 1061)))]),(.at_ 0 [(1500,(.op .add .i64 (.atom 1500) (.lit 1))),(1061,(.atom 1061)),(1060,(.atom 1060))] [(1501,(.catL (.latom 1501) (.consL (.tab 1 (.atom 1500) 0) (.consL (.tab 1 (.atom 1500) 1) (.consL (.tab 1 (.atom 1500) 2) .nilL)))))] [(.cmp .leq (.at_ (.fn 50 (.consL (.len (.latom 1501)) (.consL (.lit 3) .nilL))) (.lit 1) 1 0) (.lit 8796093022208)),(.and (.cmp .eql (.nat (.atom 1060)) (.nat (.atom 1060))) (.cmp .lss (.nat (.atom 1500)) (.nat (.atom 1061)))),(.cmp .lss (.atom 1500) (.nat (.atom 1061))),(.cmp .geq (.atom 1500) (.lit 0)),(.cmp .lss (.atom 1500) (.nat (.atom 1061)))]),(.bad 320 [(.cmp .lss (.lit 8796093022208) (.at_ (.fn 50 (.consL (.len (.latom 1501)) (.consL (.lit 3) .nilL))) (.lit 1) 1 0)),(.and (.cmp .eql (.nat (.atom 1060)) (.nat (.atom 1060))) (.cmp .lss (.nat (.atom 1500)) (.nat (.atom 1061)))),(.cmp .lss (.atom 1500) (.nat (.atom 1061))),(.cmp .geq (.atom 1500) (.lit 0)),(.cmp .lss (.atom 1500) (.nat (.atom 1061)))]),(.at_ 100 [(1061,(.atom 1061)),(1060,(.atom 1060))] [(1501,(.latom 1501))] [(.cmp .leq (.nat (.atom 1061)) (.atom 1500))])]
theorem e0 [Env] : oweAtE ths N Z ends Try.prog Try.f52 root baseG5 (extraG Try.prog) cuts cut0 = ob0 := by kernel_rfl
def tree0 : Tree (SV × Heap Empty) := (.req (.cmp .leq (.lit 0) (.atom 1061)) (.req (.cmp .leq (.atom 1061) (.lit 8000000000000)) (.leaf (end0.sv.sub end0.T,subH end0.T end0.h))))
def Pre (E : Env) : Prop := @BE.val E (.cmp .leq (.lit 0) (.atom 1061)) = true ∧ @BE.val E (.cmp .leq (.atom 1061) (.lit 8000000000000)) = true
def tl (E0 : Env) (n : Nat) : List Int := (List.range n).flatMap fun i => (List.range 3).map fun j => E0.t 1 i j
theorem tl_succ (E0 : Env) (n : Nat) : tl E0 (n + 1) = tl E0 n ++ [E0.t 1 n 0,E0.t 1 n 1,E0.t 1 n 2] := by unfold tl; rw [List.range_succ (n := n),List.flatMap_append]; rfl
theorem tl_len (E0 : Env) (n : Nat) : (tl E0 n).length = 3 * n := by
  induction n with
  | zero => rfl
  | succ n ih => rw [tl_succ,List.length_append,ih]; rfl
def Phi (E0 : Env) : Nat → Env → Prop
  | 0,E => ∃ n : Nat,E.i 1500 = n ∧ (n : Int) ≤ E0.i 1061 ∧ E.l 1501 = tl E0 n
  | 100,E => E.l 1501 = tl E0 (E0.i 1061).toNat
  | _,_ => True
theorem runS (E : Env) (hpre : Pre E) : ObsOk E (Phi E) obS := ⟨fun _ => ⟨0,rfl,of_decide_eq_true hpre.1,rfl⟩,trivial⟩
theorem run0 (E0 E : Env) (hpre : Pre E0) (hz : Z.of E0 E) (hfs : ∀ b ∈ cut0.fs, @BE.val E b = true) (hphi : Phi E0 0 E) : ObsOk E (Phi E0) ob0 := by
  have c1 : E.i 1061 = E0.i 1061 := hz.1 1061 rfl
  have et : E.t = E0.t := hz.2.2
  have b0 : (0 : Int) ≤ E0.i 1061 := of_decide_eq_true hpre.1
  have b1 : E0.i 1061 ≤ (8000000000000 : Int) := of_decide_eq_true hpre.2
  obtain ⟨n,hn,hle,hL⟩ := hphi
  have lt : E.i 1500 < ((E.i 1061).toNat : Int) → (n : Int) < E0.i 1061 := fun h => by rw [hn,c1] at h; omega
  have up : (n : Int) < E0.i 1061 → IntKind.i64.wrap (E.i 1500 + 1) = ((n + 1 : Nat) : Int) := fun h => by rw [hn,up1 (by omega) (by omega)]; rfl
  exact ⟨(fun hc => have hl := lt (of_decide_eq_true hc.2.2.1); .inl (show (((E.i 1061).toNat : Int) - IntKind.i64.wrap (E.i 1500 + 1)).toNat < (((E.i 1061).toNat : Int) - E.i 1500).toNat by rw [up hl, hn, c1]; omega)),
    (fun hc => have hl := lt (of_decide_eq_true hc.2.2.1); decide_eq_true (show (0 : Int) ≤ IntKind.i64.wrap (E.i 1500 + 1) by rw [up hl]; omega)),
    (fun hc => by
      have hl := lt (of_decide_eq_true hc.2.2.1)
      refine ⟨n + 1,up hl,by omega, ?_⟩
      show E.l 1501 ++ [E.t 1 (E.i 1500).toNat 0,E.t 1 (E.i 1500).toNat 1,E.t 1 (E.i 1500).toNat 2] = _
      rw [tl_succ,hL,et,hn]; rfl),
    (fun hc => by
      have h9 : (8796093022208 : Int) < (((((E.l 1501).length : Int) / 3).toNat + (1 : Int).toNat * 1 + 0 : Nat) : Int) := of_decide_eq_true hc.1
      have h7 : (1 : Int).toNat = 1 := rfl
      rw [h7,hL,tl_len] at h9
      omega),
    (fun hc => by
      have hge : ((E.i 1061).toNat : Int) ≤ E.i 1500 := of_decide_eq_true hc.1
      rw [hn,c1] at hge
      show E.l 1501 = _
      rw [hL,show n = (E0.i 1061).toNat by omega]),
    trivial⟩
theorem told0 (E0 E : Env) (hphi : Phi E0 100 E) (hz : Z.of E0 E) : ToldE end0.T E0 E := ⟨lk_all trivial,lk_all ⟨hphi,trivial⟩⟩
theorem fs0_ok (E : Env) (hpre : Pre E) : ∀ b ∈ fs0, @BE.val E b = true := by
  intro b hb
  simp only [fs0,List.mem_cons,List.not_mem_nil,or_false] at hb
  rcases hb with rfl | rfl
  · exact hpre.1
  · exact hpre.2
theorem heads : (cuts.all fun k => isLoop (subAt root k.p) && Nat.ble k.ms.length 9) = true := by kernel_rfl
theorem bodyOk : Try.f52.body = some root := by kernel_rfl
def s0 : Summ := ⟨52,args,heap,tree0⟩
theorem preOf {E : Env} {K : SV × Heap Empty → Prop} (hK : @Tree.holds E _ K tree0) : Pre E := ⟨hK.1,hK.2.1⟩
theorem ok0 : s0.ok Try.prog := by
  refine Summ.loop (Z := Z) (ends := ends) (Φ := Phi) [⟨[1500], []⟩] (Bk.enters_of Try.func52 (by kernel_rfl)) ?_ ?_ ?_
  · intro E ρ F w argv ⟨K, hK⟩ H ha
    have hpre := preOf hK
    refine floydEO (us := ths) (N := N) mixed_ok (c := @baseG5) @baseG5_ok (x := extraG Try.prog) (fun {_} => extraG_ok _) Try.func52 bodyOk ths_ok (cuts := cuts) heads E (fun E' i k hk hz hfs hphi => ?_) (fs0 := fs0) ?_ (Owed.eq (@eS E) (runS E hpre)) ?_ H ha
    · match i, hk with
      | 0,hk => obtain rfl : cut0 = k := Option.some.inj (show some cut0 = some k from hk); exact Owed.eq (@e0 E') (run0 E E' hpre hz hfs hphi)
      | n + 1,hk => exact absurd hk (by simp [cuts])
    · intro b hb
      exact fs0_ok E hpre b hb
    · intro n hn
      exact hn
  · intro j en hj
    match j,hj with
    | 0,hj => obtain rfl : end0 = en := Option.some.inj (show some end0 = some en from hj); exact ⟨_,rfl,by kernel_rfl,by kernel_rfl,by kernel_rfl,by kernel_rfl,by kernel_rfl⟩
    | n + 1,hj => exact absurd hj (by simp [ends])
  · intro E E' j en hj hphi hz
    match j,hj with
    | 0,hj => obtain rfl : end0 = en := Option.some.inj (show some end0 = some en from hj); exact ⟨told0 E E' hphi hz,fun K hK => hK.2.2⟩
    | n + 1,hj => exact absurd hj (by simp [ends])
end CvN
end Go.Proofs.Ytafemlljemhkhaa.Sx
