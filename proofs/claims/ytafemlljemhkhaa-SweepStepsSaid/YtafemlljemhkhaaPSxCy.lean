import Derived.Test.YtafemlljemhkhaaPSxNw
namespace Go.Proofs.Ytafemlljemhkhaa.Sx
open Go
set_option linter.unusedSectionVars false
set_option linter.unusedVariables false
set_option linter.unusedSimpArgs false
set_option maxRecDepth 1000000
def XKt : IE := .consL (.len (.latom 1100)) (.catL (.latom 1100) (.tabL 1 (.atom 1061) 3))
theorem tkt_3 (E : Env) : splitF true (E.l 1100) (CvN.tl E (E.i 1061).toNat) = @IE.lst E (.fnL 3 XKt) := by
  show _ = splitF true ((E.l 1100 ++ CvN.tl E (E.i 1061).toNat).take ((E.l 1100).length : Int).toNat) ((E.l 1100 ++ CvN.tl E (E.i 1061).toNat).drop ((E.l 1100).length : Int).toNat)
  rw [(tk_len _ _).1,(tk_len _ _).2]
theorem tkt_4 (E : Env) : splitF false (E.l 1100) (CvN.tl E (E.i 1061).toNat) = @IE.lst E (.fnL 4 XKt) := by
  show _ = splitF false ((E.l 1100 ++ CvN.tl E (E.i 1061).toNat).take ((E.l 1100).length : Int).toNat) ((E.l 1100 ++ CvN.tl E (E.i 1061).toNat).drop ((E.l 1100).length : Int).toNat)
  rw [(tk_len _ _).1,(tk_len _ _).2]
theorem split_tl {is : Bool} {S : List Int} (E0 : Env) (n : Nat) : splitF is S (CvN.tl E0 (n + 1)) = splitF is S (CvN.tl E0 n) ++ (if decide (idxF (E0.t 1 n 1) (E0.t 1 n 2) 0 S ≥ 0) = is then [E0.t 1 n 0, E0.t 1 n 1, E0.t 1 n 2] else []) := by
  rw [CvN.tl_succ,splitF_app _ _ (by rw [CvN.tl_len]; omega)]
  congr 1
theorem tl_get (E0 : Env) : ∀ (m n : Nat), n < m → ∀ j, j < 3 → (CvN.tl E0 m).getD (3 * n + j) 0 = E0.t 1 n j
  | 0,n,h,j,hj => by omega
  | m + 1, n, h, j, hj => by
    rw [CvN.tl_succ]
    by_cases hn : n < m
    · rw [List.getD_eq_getElem?_getD, List.getElem?_append_left (by rw [CvN.tl_len]; omega), ← List.getD_eq_getElem?_getD]
      exact tl_get E0 m n hn j hj
    · have e : n = m := by omega
      subst e
      rw [List.getD_eq_getElem?_getD,List.getElem?_append_right (by rw [CvN.tl_len]; omega),CvN.tl_len,show 3 * n + j - 3 * n = j by omega, ← List.getD_eq_getElem?_getD]
      match j,hj with
      | 0,_ => rfl
      | 1,_ => rfl
      | 2,_ => rfl
theorem take1 {L : List Int} {n : Nat} (h : n < L.length) : L.take (n + 1) = L.take n ++ [L.getD n 0] := by
  rw [List.take_add_one,List.getElem?_eq_getElem h,List.getD_eq_getElem?_getD,List.getElem?_eq_getElem h]; rfl
def cy0 : BE := (.and (.cmp .eql (.nat (.atom 1060)) (.nat (.atom 1060))) (.cmp .lss (.nat (.atom 1500)) (.nat (.atom 1061))))
def cy1 : BE := (.cmp .lss (.atom 1500) (.nat (.atom 1061)))
def cy2 : IE := (.fn 60 (.consL (.tab 1 (.atom 1500) 1) (.consL (.tab 1 (.atom 1500) 2) (.latom 1100))))
def cy3 : IE := (.fn 50 (.consL (.len (.latom 1101)) (.consL (.lit 3) .nilL)))
def cy4 : BE := (.and (.cmp .eql (.get (.latom 1101) (.at_ (.lit 0) (.atom 1500) 3 0) 0) (.tab 1 (.atom 1500) 0)) (.and (.cmp .eql (.get (.latom 1101) (.at_ (.lit 0) (.atom 1500) 3 0) 1) (.tab 1 (.atom 1500) 1)) (.cmp .eql (.get (.latom 1101) (.at_ (.lit 0) (.atom 1500) 3 0) 2) (.tab 1 (.atom 1500) 2))))
def cy5 : BE := (.cmp .leq (.at_ (.fn 50 (.consL (.len (.latom 1501)) (.consL (.lit 3) .nilL))) (.lit 1) 1 0) (.lit 8796093022208))
def cy6 : BE := (.cmp .leq (.len (.latom 1100)) (.lit 1073741824))
namespace CvDt
open Bk Sm
def args : List SV := [.w (.one (.b (.isl 3 (.atom 1060) (.atom 1061)))), .w (.one (.b (.ref 210))), .w (.one (.b (.bool (.lit true))))]
def heap : Heap Empty := [(210, .mach 2 (.latom 1100)),(3, .tab [.int .u64, .int .u64, .int .u64] (.atom 1060) (.atom 1061) 1)]
def N : List Nat := [210,3]
noncomputable def root : Code := rootOf Try.f98
def I0 : SS Empty := (SS.mk [(.w (.one (.b (.isl 3 (.atom 1060) (.atom 1061))))),(.w (.one (.b (.ref 210)))),(.w (.one (.b (.bool (.lit true))))), .unk, .unk, .unk, .unk,(.w (.one (.b (.ref 131074)))),(.w (.one (.b (.int .i64 (.atom 1500))))), .unk, .unk, .unk, .unk, .unk, .unk, .unk, .unk, .unk, .unk, .unk, .unk, .unk, .unk, .unk, .unk, .unk, .unk, .unk, .unk, .unk, .unk] [(210,(.mach 2 (.latom 1100))),(3,(.tab [(.int .u64),(.int .u64),(.int .u64)] (.atom 1060) (.atom 1061) 1)),(131074,(.mach 4 (.latom 1501)))] 3)
def F0 : List BE := [.cmp .leq (.lit 0) (.atom 1500),cy6,(.cmp .leq (.lit 0) (.atom 1061)),(.cmp .leq (.atom 1061) (.lit 100))]
def cut0 : Cut := ⟨[0,1,0,1,1],I0,F0, [((.nat (.atom 1061)),(.atom 1500))]⟩
def cuts : List Cut := [cut0]
def Z : Own := ⟨[1500], [1501]⟩
def T0a : List (Nat × IE) := []
def T0l : List (Nat × IE) := [(1501, .fnL 3 XKt)]
def end0 : EndE := ⟨(.w (.one (.b (.ref 131074)))), [(210,(.mach 2 (.latom 1100))),(3,(.tab [(.int .u64),(.int .u64),(.int .u64)] (.atom 1060) (.atom 1061) 1)),(131074,(.mach 4 (.latom 1501)))],⟨T0a,T0l, []⟩⟩
def ends : List EndE := [end0]
def ths : Ths := []
theorem ths_ok : ThsOk ths := fun E t h _ => by cases h
def fs0 : List BE := [.cmp .leq (.len (.latom 1100)) (.lit 1073741824), .cmp .leq (.lit 0) (.atom 1061), .cmp .leq (.atom 1061) (.lit 100)]
def obS : List Ob := [(.at_ 0 [(1500,(.lit 0)),(1061,(.atom 1061)),(1060,(.atom 1060))] [(1501, .nilL),(1100,(.latom 1100))] [])]
theorem eS [Env] : oweStartE ths N Z ends Try.prog Try.f98 root baseG5 (extraG Try.prog) cuts fs0 args heap = obS := by kernel_rfl
def ob0 : List Ob := [(.less [((.nat (.atom 1061)),(.atom 1500))] [((.nat (.atom 1061)),(.op .add .i64 (.atom 1500) (.lit 1)))] [cy5,cy0,cy1,(.cmp .geq (.atom 1500) (.lit 0)),(.cmp .leq (.lit 0) cy2),cy0,cy1,(.cmp .geq (.atom 1500) (.lit 0)),cy1]),(.need (.cmp .leq (.lit 0) (.op .add .i64 (.atom 1500) (.lit 1))) [cy5,cy0,cy1,(.cmp .geq (.atom 1500) (.lit 0)),(.cmp .leq (.lit 0) cy2),cy0,cy1,(.cmp .geq (.atom 1500) (.lit 0)),cy1]),(.at_ 0 [(1500,(.op .add .i64 (.atom 1500) (.lit 1))),(1061,(.atom 1061)),(1060,(.atom 1060))] [(1501,(.catL (.latom 1501) (.consL (.tab 1 (.atom 1500) 0) (.consL (.tab 1 (.atom 1500) 1) (.consL (.tab 1 (.atom 1500) 2) .nilL))))),(1100,(.latom 1100))] [cy5,cy0,cy1,(.cmp .geq (.atom 1500) (.lit 0)),(.cmp .leq (.lit 0) cy2),cy0,cy1,(.cmp .geq (.atom 1500) (.lit 0)),cy1]),(.bad 320 [(.cmp .lss (.lit 8796093022208) (.at_ (.fn 50 (.consL (.len (.latom 1501)) (.consL (.lit 3) .nilL))) (.lit 1) 1 0)),cy0,cy1,(.cmp .geq (.atom 1500) (.lit 0)),(.cmp .leq (.lit 0) cy2),cy0,cy1,(.cmp .geq (.atom 1500) (.lit 0)),cy1]),(.less [((.nat (.atom 1061)),(.atom 1500))] [((.nat (.atom 1061)),(.op .add .i64 (.atom 1500) (.lit 1)))] [(.cmp .lss cy2 (.lit 0)),cy0,cy1,(.cmp .geq (.atom 1500) (.lit 0)),cy1]),(.need (.cmp .leq (.lit 0) (.op .add .i64 (.atom 1500) (.lit 1))) [(.cmp .lss cy2 (.lit 0)),cy0,cy1,(.cmp .geq (.atom 1500) (.lit 0)),cy1]),(.at_ 0 [(1500,(.op .add .i64 (.atom 1500) (.lit 1))),(1061,(.atom 1061)),(1060,(.atom 1060))] [(1501,(.latom 1501)),(1100,(.latom 1100))] [(.cmp .lss cy2 (.lit 0)),cy0,cy1,(.cmp .geq (.atom 1500) (.lit 0)),cy1]),(.at_ 100 [(1061,(.atom 1061)),(1060,(.atom 1060))] [(1501,(.latom 1501)),(1100,(.latom 1100))] [(.cmp .leq (.nat (.atom 1061)) (.atom 1500))])]
theorem e0 [Env] : oweAtE ths N Z ends Try.prog Try.f98 root baseG5 (extraG Try.prog) cuts cut0 = ob0 := by kernel_rfl
def tree0 : Tree (SV × Heap Empty) := (.req cy6 (.req (.cmp .leq (.lit 0) (.atom 1061)) (.req (.cmp .leq (.atom 1061) (.lit 100)) (.leaf (end0.sv.sub end0.T,subH end0.T end0.h)))))
def Pre (E : Env) : Prop := @BE.val E cy6 = true ∧ @BE.val E (.cmp .leq (.lit 0) (.atom 1061)) = true ∧ @BE.val E (.cmp .leq (.atom 1061) (.lit 100)) = true
def Phi (E0 : Env) : Nat → Env → Prop
  | 0,E => ∃ n : Nat,E.i 1500 = n ∧ (n : Int) ≤ E0.i 1061 ∧ E.l 1501 = splitF true (E0.l 1100) (CvN.tl E0 n)
  | 100,E => E.l 1501 = splitF true (E0.l 1100) (CvN.tl E0 (E0.i 1061).toNat)
  | _,_ => True
theorem runS (E : Env) (hpre : Pre E) : ObsOk E (Phi E) obS := ⟨fun _ => ⟨0,rfl,of_decide_eq_true hpre.2.1,rfl⟩,trivial⟩
theorem run0 (E0 E : Env) (hpre : Pre E0) (hz : Z.of E0 E) (hfs : ∀ b ∈ cut0.fs, @BE.val E b = true) (hphi : Phi E0 0 E) : ObsOk E (Phi E0) ob0 := by
  obtain ⟨n,hn,hle,hL⟩ := hphi
  have e1 : E.l 1100 = E0.l 1100 := hz.2.1 1100 rfl
  have c1 : E.i 1061 = E0.i 1061 := hz.1 1061 rfl
  have et : E.t = E0.t := hz.2.2
  have b0 : (0 : Int) ≤ E0.i 1061 := of_decide_eq_true hpre.2.1
  have b1 : E0.i 1061 ≤ (100 : Int) := of_decide_eq_true hpre.2.2
  have lt : E.i 1500 < ((E.i 1061).toNat : Int) → (n : Int) < E0.i 1061 := fun h => by rw [hn,c1] at h; omega
  have up : (n : Int) < E0.i 1061 → IntKind.i64.wrap (E.i 1500 + 1) = ((n + 1 : Nat) : Int) := fun h => by rw [hn,up1 (by omega) (by omega)]; rfl
  have bl1501 : (E.l 1501).length ≤ 300000000 := by
    rw [hL]
    have q := splitF_len (is := true) (S := E0.l 1100) (CvN.tl E0 n)
    rw [CvN.tl_len] at q
    omega
  have hidx : idxF (E.t 1 (E.i 1500).toNat 1) (E.t 1 (E.i 1500).toNat 2) 0 (E.l 1100) = idxF (E0.t 1 n 1) (E0.t 1 n 2) 0 (E0.l 1100) := by rw [et,hn,e1]; rfl
  exact ⟨(fun hc => have hl := lt (of_decide_eq_true hc.2.2.1); .inl (show (((E.i 1061).toNat : Int) - IntKind.i64.wrap (E.i 1500 + 1)).toNat < (((E.i 1061).toNat : Int) - E.i 1500).toNat by rw [up hl, hn, c1]; omega)),
    (fun hc => have hl := lt (of_decide_eq_true hc.2.2.1); decide_eq_true (show (0 : Int) ≤ IntKind.i64.wrap (E.i 1500 + 1) by rw [up hl]; omega)),
    (fun hc => by
      have hl := lt (of_decide_eq_true hc.2.2.1)
      have hcv : (idxF (E.t 1 (E.i 1500).toNat 1) (E.t 1 (E.i 1500).toNat 2) 0 (E.l 1100) ≥ 0) := (show (0 : Int) ≤ idxF (E.t 1 (E.i 1500).toNat 1) (E.t 1 (E.i 1500).toNat 2) 0 (E.l 1100) from of_decide_eq_true hc.2.2.2.2.1)
      rw [hidx] at hcv
      refine ⟨n + 1,up hl,by omega, ?_⟩
      show E.l 1501 ++ [E.t 1 (E.i 1500).toNat 0,E.t 1 (E.i 1500).toNat 1,E.t 1 (E.i 1500).toNat 2] = _
      rw [split_tl,hL,if_pos (decide_eq_true hcv),et,hn]; rfl),
    (fun hc => by
      have h9 : (8796093022208 : Int) < (((((E.l 1501).length : Int) / 3).toNat + (1 : Int).toNat * 1 + 0 : Nat) : Int) := of_decide_eq_true hc.1
      have h8 := bl1501
      have h7 : (1 : Int).toNat = 1 := rfl
      rw [h7] at h9
      omega),
    (fun hc => have hl := lt (of_decide_eq_true hc.2.2.1); .inl (show (((E.i 1061).toNat : Int) - IntKind.i64.wrap (E.i 1500 + 1)).toNat < (((E.i 1061).toNat : Int) - E.i 1500).toNat by rw [up hl,hn,c1]; omega)),
    (fun hc => have hl := lt (of_decide_eq_true hc.2.2.1); decide_eq_true (show (0 : Int) ≤ IntKind.i64.wrap (E.i 1500 + 1) by rw [up hl]; omega)),
    (fun hc => by
      have hl := lt (of_decide_eq_true hc.2.2.1)
      have hcv : ¬ (idxF (E.t 1 (E.i 1500).toNat 1) (E.t 1 (E.i 1500).toNat 2) 0 (E.l 1100) ≥ 0) := (fun q => absurd (show idxF (E.t 1 (E.i 1500).toNat 1) (E.t 1 (E.i 1500).toNat 2) 0 (E.l 1100) < 0 from of_decide_eq_true hc.1) (by omega))
      rw [hidx] at hcv
      refine ⟨n + 1,up hl,by omega, ?_⟩
      show E.l 1501 = _
      rw [split_tl,hL,if_neg (by rw [decide_eq_false hcv]; decide),List.append_nil]),
    (fun hc => by
      have hge : ((E.i 1061).toNat : Int) ≤ E.i 1500 := of_decide_eq_true hc.1
      rw [hn,c1] at hge
      show E.l 1501 = _
      rw [hL,show n = (E0.i 1061).toNat by omega]),
    trivial⟩
theorem told0 (E0 E : Env) (hphi : Phi E0 100 E) (hz : Z.of E0 E) : ToldE end0.T E0 E := ⟨lk_all trivial,lk_all ⟨hphi.trans (tkt_3 E0),trivial⟩⟩
theorem fs0_ok (E : Env) (hpre : Pre E) : ∀ b ∈ fs0, @BE.val E b = true := by
  intro b hb
  simp only [fs0,List.mem_cons,List.not_mem_nil,or_false] at hb
  rcases hb with rfl | rfl | rfl
  · exact hpre.1
  · exact hpre.2.1
  · exact hpre.2.2
theorem heads : (cuts.all fun k => isLoop (subAt root k.p) && Nat.ble k.ms.length 9) = true := by kernel_rfl
theorem bodyOk : Try.f98.body = some root := by kernel_rfl
def s0 : Summ := ⟨98,args,heap,tree0⟩
theorem preOf {E : Env} {K : SV × Heap Empty → Prop} (hK : @Tree.holds E _ K tree0) : Pre E := ⟨hK.1,hK.2.1,hK.2.2.1⟩
theorem ok0 : s0.ok Try.prog := by
  refine Summ.loop (Z := Z) (ends := ends) (Φ := Phi) [⟨[1500], []⟩] (Bk.enters_of Try.func98 (by kernel_rfl)) ?_ ?_ ?_
  · intro E ρ F w argv ⟨K, hK⟩ H ha
    have hpre := preOf hK
    refine floydEO (us := ths) (N := N) mixed_ok (c := @baseG5) @baseG5_ok (x := extraG Try.prog) (fun {_} => extraG_ok _) Try.func98 bodyOk ths_ok (cuts := cuts) heads E (fun E' i k hk hz hfs hphi => ?_) (fs0 := fs0) ?_ (Owed.eq (@eS E) (runS E hpre)) ?_ H ha
    · match i, hk with
      | 0,hk => obtain rfl : cut0 = k := Option.some.inj (show some cut0 = some k from hk); exact Owed.eq (@e0 E') (run0 E E' hpre hz hfs hphi)
      | n + 1,hk => exact absurd hk (by simp [cuts])
    · intro b hb
      exact fs0_ok E hpre b hb
    · intro n hn
      exact hn
  · intro j en hj
    match j,hj with
    | 0,hj => obtain rfl : end0 = en := Option.some.inj (show some end0 = some en from hj); exact ⟨_,rfl,by kernel_rfl,by kernel_rfl,by kernel_rfl,by kernel_rfl,by kernel_rfl⟩
    | n + 1,hj => exact absurd hj (by simp [ends])
  · intro E E' j en hj hphi hz
    match j,hj with
    | 0,hj => obtain rfl : end0 = en := Option.some.inj (show some end0 = some en from hj); exact ⟨told0 E E' hphi hz,fun K hK => hK.2.2.2⟩
    | n + 1,hj => exact absurd hj (by simp [ends])
end CvDt
namespace CvEt
open Bk Sm
def args : List SV := [.w (.one (.b (.isl 3 (.atom 1060) (.atom 1061)))), .w (.one (.b (.ref 210))), .w (.one (.b (.bool (.lit false))))]
def heap : Heap Empty := [(210, .mach 2 (.latom 1100)),(3, .tab [.int .u64, .int .u64, .int .u64] (.atom 1060) (.atom 1061) 1)]
def N : List Nat := [210,3]
noncomputable def root : Code := rootOf Try.f98
def I0 : SS Empty := (SS.mk [(.w (.one (.b (.isl 3 (.atom 1060) (.atom 1061))))),(.w (.one (.b (.ref 210)))),(.w (.one (.b (.bool (.lit false))))), .unk, .unk, .unk, .unk,(.w (.one (.b (.ref 131074)))),(.w (.one (.b (.int .i64 (.atom 1500))))), .unk, .unk, .unk, .unk, .unk, .unk, .unk, .unk, .unk, .unk, .unk, .unk, .unk, .unk, .unk, .unk, .unk, .unk, .unk, .unk, .unk, .unk] [(210,(.mach 2 (.latom 1100))),(3,(.tab [(.int .u64),(.int .u64),(.int .u64)] (.atom 1060) (.atom 1061) 1)),(131074,(.mach 4 (.latom 1501)))] 3)
def F0 : List BE := [.cmp .leq (.lit 0) (.atom 1500),cy6,(.cmp .leq (.lit 0) (.atom 1061)),(.cmp .leq (.atom 1061) (.lit 100))]
def cut0 : Cut := ⟨[0,1,0,1,1],I0,F0, [((.nat (.atom 1061)),(.atom 1500))]⟩
def cuts : List Cut := [cut0]
def Z : Own := ⟨[1500], [1501]⟩
def T0a : List (Nat × IE) := []
def T0l : List (Nat × IE) := [(1501, .fnL 4 XKt)]
def end0 : EndE := ⟨(.w (.one (.b (.ref 131074)))), [(210,(.mach 2 (.latom 1100))),(3,(.tab [(.int .u64),(.int .u64),(.int .u64)] (.atom 1060) (.atom 1061) 1)),(131074,(.mach 4 (.latom 1501)))],⟨T0a,T0l, []⟩⟩
def ends : List EndE := [end0]
def ths : Ths := []
theorem ths_ok : ThsOk ths := fun E t h _ => by cases h
def fs0 : List BE := [.cmp .leq (.len (.latom 1100)) (.lit 1073741824), .cmp .leq (.lit 0) (.atom 1061), .cmp .leq (.atom 1061) (.lit 100)]
def obS : List Ob := [(.at_ 0 [(1500,(.lit 0)),(1061,(.atom 1061)),(1060,(.atom 1060))] [(1501, .nilL),(1100,(.latom 1100))] [])]
theorem eS [Env] : oweStartE ths N Z ends Try.prog Try.f98 root baseG5 (extraG Try.prog) cuts fs0 args heap = obS := by kernel_rfl
def ob0 : List Ob := [(.less [((.nat (.atom 1061)),(.atom 1500))] [((.nat (.atom 1061)),(.op .add .i64 (.atom 1500) (.lit 1)))] [cy5,cy0,cy1,(.cmp .geq (.atom 1500) (.lit 0)),(.not (.cmp .leq (.lit 0) cy2)),cy0,cy1,(.cmp .geq (.atom 1500) (.lit 0)),cy1]),(.need (.cmp .leq (.lit 0) (.op .add .i64 (.atom 1500) (.lit 1))) [cy5,cy0,cy1,(.cmp .geq (.atom 1500) (.lit 0)),(.not (.cmp .leq (.lit 0) cy2)),cy0,cy1,(.cmp .geq (.atom 1500) (.lit 0)),cy1]),(.at_ 0 [(1500,(.op .add .i64 (.atom 1500) (.lit 1))),(1061,(.atom 1061)),(1060,(.atom 1060))] [(1501,(.catL (.latom 1501) (.consL (.tab 1 (.atom 1500) 0) (.consL (.tab 1 (.atom 1500) 1) (.consL (.tab 1 (.atom 1500) 2) .nilL))))),(1100,(.latom 1100))] [cy5,cy0,cy1,(.cmp .geq (.atom 1500) (.lit 0)),(.not (.cmp .leq (.lit 0) cy2)),cy0,cy1,(.cmp .geq (.atom 1500) (.lit 0)),cy1]),(.bad 320 [(.cmp .lss (.lit 8796093022208) (.at_ (.fn 50 (.consL (.len (.latom 1501)) (.consL (.lit 3) .nilL))) (.lit 1) 1 0)),cy0,cy1,(.cmp .geq (.atom 1500) (.lit 0)),(.not (.cmp .leq (.lit 0) cy2)),cy0,cy1,(.cmp .geq (.atom 1500) (.lit 0)),cy1]),(.less [((.nat (.atom 1061)),(.atom 1500))] [((.nat (.atom 1061)),(.op .add .i64 (.atom 1500) (.lit 1)))] [(.cmp .leq (.lit 0) cy2),cy0,cy1,(.cmp .geq (.atom 1500) (.lit 0)),cy1]),(.need (.cmp .leq (.lit 0) (.op .add .i64 (.atom 1500) (.lit 1))) [(.cmp .leq (.lit 0) cy2),cy0,cy1,(.cmp .geq (.atom 1500) (.lit 0)),cy1]),(.at_ 0 [(1500,(.op .add .i64 (.atom 1500) (.lit 1))),(1061,(.atom 1061)),(1060,(.atom 1060))] [(1501,(.latom 1501)),(1100,(.latom 1100))] [(.cmp .leq (.lit 0) cy2),cy0,cy1,(.cmp .geq (.atom 1500) (.lit 0)),cy1]),(.at_ 100 [(1061,(.atom 1061)),(1060,(.atom 1060))] [(1501,(.latom 1501)),(1100,(.latom 1100))] [(.cmp .leq (.nat (.atom 1061)) (.atom 1500))])]
theorem e0 [Env] : oweAtE ths N Z ends Try.prog Try.f98 root baseG5 (extraG Try.prog) cuts cut0 = ob0 := by kernel_rfl
def tree0 : Tree (SV × Heap Empty) := (.req cy6 (.req (.cmp .leq (.lit 0) (.atom 1061)) (.req (.cmp .leq (.atom 1061) (.lit 100)) (.leaf (end0.sv.sub end0.T,subH end0.T end0.h)))))
def Pre (E : Env) : Prop := @BE.val E cy6 = true ∧ @BE.val E (.cmp .leq (.lit 0) (.atom 1061)) = true ∧ @BE.val E (.cmp .leq (.atom 1061) (.lit 100)) = true
def Phi (E0 : Env) : Nat → Env → Prop
  | 0,E => ∃ n : Nat,E.i 1500 = n ∧ (n : Int) ≤ E0.i 1061 ∧ E.l 1501 = splitF false (E0.l 1100) (CvN.tl E0 n)
  | 100,E => E.l 1501 = splitF false (E0.l 1100) (CvN.tl E0 (E0.i 1061).toNat)
  | _,_ => True
theorem runS (E : Env) (hpre : Pre E) : ObsOk E (Phi E) obS := ⟨fun _ => ⟨0,rfl,of_decide_eq_true hpre.2.1,rfl⟩,trivial⟩
theorem run0 (E0 E : Env) (hpre : Pre E0) (hz : Z.of E0 E) (hfs : ∀ b ∈ cut0.fs, @BE.val E b = true) (hphi : Phi E0 0 E) : ObsOk E (Phi E0) ob0 := by
  obtain ⟨n,hn,hle,hL⟩ := hphi
  have e1 : E.l 1100 = E0.l 1100 := hz.2.1 1100 rfl
  have c1 : E.i 1061 = E0.i 1061 := hz.1 1061 rfl
  have et : E.t = E0.t := hz.2.2
  have b0 : (0 : Int) ≤ E0.i 1061 := of_decide_eq_true hpre.2.1
  have b1 : E0.i 1061 ≤ (100 : Int) := of_decide_eq_true hpre.2.2
  have lt : E.i 1500 < ((E.i 1061).toNat : Int) → (n : Int) < E0.i 1061 := fun h => by rw [hn,c1] at h; omega
  have up : (n : Int) < E0.i 1061 → IntKind.i64.wrap (E.i 1500 + 1) = ((n + 1 : Nat) : Int) := fun h => by rw [hn,up1 (by omega) (by omega)]; rfl
  have bl1501 : (E.l 1501).length ≤ 300000000 := by
    rw [hL]
    have q := splitF_len (is := false) (S := E0.l 1100) (CvN.tl E0 n)
    rw [CvN.tl_len] at q
    omega
  have hidx : idxF (E.t 1 (E.i 1500).toNat 1) (E.t 1 (E.i 1500).toNat 2) 0 (E.l 1100) = idxF (E0.t 1 n 1) (E0.t 1 n 2) 0 (E0.l 1100) := by rw [et,hn,e1]; rfl
  exact ⟨(fun hc => have hl := lt (of_decide_eq_true hc.2.2.1); .inl (show (((E.i 1061).toNat : Int) - IntKind.i64.wrap (E.i 1500 + 1)).toNat < (((E.i 1061).toNat : Int) - E.i 1500).toNat by rw [up hl, hn, c1]; omega)),
    (fun hc => have hl := lt (of_decide_eq_true hc.2.2.1); decide_eq_true (show (0 : Int) ≤ IntKind.i64.wrap (E.i 1500 + 1) by rw [up hl]; omega)),
    (fun hc => by
      have hl := lt (of_decide_eq_true hc.2.2.1)
      have hcv : ¬ (idxF (E.t 1 (E.i 1500).toNat 1) (E.t 1 (E.i 1500).toNat 2) 0 (E.l 1100) ≥ 0) := (fun q => by have q2 : (!decide ((0 : Int) ≤ idxF (E.t 1 (E.i 1500).toNat 1) (E.t 1 (E.i 1500).toNat 2) 0 (E.l 1100))) = true := hc.2.2.2.2.1; rw [decide_eq_true q] at q2; cases q2)
      rw [hidx] at hcv
      refine ⟨n + 1,up hl,by omega, ?_⟩
      show E.l 1501 ++ [E.t 1 (E.i 1500).toNat 0,E.t 1 (E.i 1500).toNat 1,E.t 1 (E.i 1500).toNat 2] = _
      rw [split_tl,hL,if_pos (decide_eq_false hcv),et,hn]; rfl),
    (fun hc => by
      have h9 : (8796093022208 : Int) < (((((E.l 1501).length : Int) / 3).toNat + (1 : Int).toNat * 1 + 0 : Nat) : Int) := of_decide_eq_true hc.1
      have h8 := bl1501
      have h7 : (1 : Int).toNat = 1 := rfl
      rw [h7] at h9
      omega),
    (fun hc => have hl := lt (of_decide_eq_true hc.2.2.1); .inl (show (((E.i 1061).toNat : Int) - IntKind.i64.wrap (E.i 1500 + 1)).toNat < (((E.i 1061).toNat : Int) - E.i 1500).toNat by rw [up hl,hn,c1]; omega)),
    (fun hc => have hl := lt (of_decide_eq_true hc.2.2.1); decide_eq_true (show (0 : Int) ≤ IntKind.i64.wrap (E.i 1500 + 1) by rw [up hl]; omega)),
    (fun hc => by
      have hl := lt (of_decide_eq_true hc.2.2.1)
      have hcv : (idxF (E.t 1 (E.i 1500).toNat 1) (E.t 1 (E.i 1500).toNat 2) 0 (E.l 1100) ≥ 0) := (show (0 : Int) ≤ idxF (E.t 1 (E.i 1500).toNat 1) (E.t 1 (E.i 1500).toNat 2) 0 (E.l 1100) from of_decide_eq_true hc.1)
      rw [hidx] at hcv
      refine ⟨n + 1,up hl,by omega, ?_⟩
      show E.l 1501 = _
      rw [split_tl,hL,if_neg (by rw [decide_eq_true hcv]; decide),List.append_nil]),
    (fun hc => by
      have hge : ((E.i 1061).toNat : Int) ≤ E.i 1500 := of_decide_eq_true hc.1
      rw [hn,c1] at hge
      show E.l 1501 = _
      rw [hL,show n = (E0.i 1061).toNat by omega]),
    trivial⟩
theorem told0 (E0 E : Env) (hphi : Phi E0 100 E) (hz : Z.of E0 E) : ToldE end0.T E0 E := ⟨lk_all trivial,lk_all ⟨hphi.trans (tkt_4 E0),trivial⟩⟩
theorem fs0_ok (E : Env) (hpre : Pre E) : ∀ b ∈ fs0, @BE.val E b = true := by
  intro b hb
  simp only [fs0,List.mem_cons,List.not_mem_nil,or_false] at hb
  rcases hb with rfl | rfl | rfl
  · exact hpre.1
  · exact hpre.2.1
  · exact hpre.2.2
theorem heads : (cuts.all fun k => isLoop (subAt root k.p) && Nat.ble k.ms.length 9) = true := by kernel_rfl
theorem bodyOk : Try.f98.body = some root := by kernel_rfl
def s0 : Summ := ⟨98,args,heap,tree0⟩
theorem preOf {E : Env} {K : SV × Heap Empty → Prop} (hK : @Tree.holds E _ K tree0) : Pre E := ⟨hK.1,hK.2.1,hK.2.2.1⟩
theorem ok0 : s0.ok Try.prog := by
  refine Summ.loop (Z := Z) (ends := ends) (Φ := Phi) [⟨[1500], []⟩] (Bk.enters_of Try.func98 (by kernel_rfl)) ?_ ?_ ?_
  · intro E ρ F w argv ⟨K, hK⟩ H ha
    have hpre := preOf hK
    refine floydEO (us := ths) (N := N) mixed_ok (c := @baseG5) @baseG5_ok (x := extraG Try.prog) (fun {_} => extraG_ok _) Try.func98 bodyOk ths_ok (cuts := cuts) heads E (fun E' i k hk hz hfs hphi => ?_) (fs0 := fs0) ?_ (Owed.eq (@eS E) (runS E hpre)) ?_ H ha
    · match i, hk with
      | 0,hk => obtain rfl : cut0 = k := Option.some.inj (show some cut0 = some k from hk); exact Owed.eq (@e0 E') (run0 E E' hpre hz hfs hphi)
      | n + 1,hk => exact absurd hk (by simp [cuts])
    · intro b hb
      exact fs0_ok E hpre b hb
    · intro n hn
      exact hn
  · intro j en hj
    match j,hj with
    | 0,hj => obtain rfl : end0 = en := Option.some.inj (show some end0 = some en from hj); exact ⟨_,rfl,by kernel_rfl,by kernel_rfl,by kernel_rfl,by kernel_rfl,by kernel_rfl⟩
    | n + 1,hj => exact absurd hj (by simp [ends])
  · intro E E' j en hj hphi hz
    match j,hj with
    | 0,hj => obtain rfl : end0 = en := Option.some.inj (show some end0 = some en from hj); exact ⟨told0 E E' hphi hz,fun K hK => hK.2.2.2⟩
    | n + 1,hj => exact absurd hj (by simp [ends])
end CvEt
namespace CvT
open Bk Sm
def args : List SV := [.w (.one (.b (.ref 216))), .w (.one (.b (.isl 3 (.atom 1060) (.atom 1061))))]
def heap : Heap Empty := [(216, .mach 4 (.latom 1101)),(3, .tab [.int .u64, .int .u64, .int .u64] (.atom 1060) (.atom 1061) 1)]
def N : List Nat := [216,3]
noncomputable def root : Code := rootOf Try.f55
def I0 : SS Empty := (SS.mk [(.w (.one (.b (.ref 216)))),(.w (.one (.b (.isl 3 (.atom 1060) (.atom 1061))))), .unk, .unk, .unk,(.w (.one (.b (.int .i64 (.atom 1500))))), .unk, .unk, .unk, .unk, .unk, .unk, .unk, .unk, .unk, .unk, .unk, .unk, .unk, .unk, .unk, .unk, .unk, .unk, .unk, .unk] [(216,(.mach 4 (.latom 1101))),(3,(.tab [(.int .u64),(.int .u64),(.int .u64)] (.atom 1060) (.atom 1061) 1))] 7)
def F0 : List BE := [.cmp .leq (.lit 0) (.atom 1500),(.cmp .eql (.nat (.atom 1061)) (.atom 1061)),(.cmp .eql cy3 (.nat (.atom 1061))),(.cmp .leq (.len (.latom 1101)) (.lit 300000000)),(.cmp .eql (.op .rem .i64 (.len (.latom 1101)) (.lit 3)) (.lit 0)),(.cmp .leq (.lit 0) (.atom 1061)),(.cmp .leq (.atom 1061) (.lit 100))]
def cut0 : Cut := ⟨[0,1,0,1,1],I0,F0, [(cy3,(.atom 1500))]⟩
def cuts : List Cut := [cut0]
def Z : Own := ⟨[1500,2600], []⟩
def T0a : List (Nat × IE) := [(2600, .eqL (.latom 1101) (.tabL 1 (.atom 1061) 3))]
def T0l : List (Nat × IE) := []
def end0 : EndE := ⟨(.w (.one (.b (.bool (.atom 2600))))), [(216,(.mach 4 (.latom 1101))),(3,(.tab [(.int .u64),(.int .u64),(.int .u64)] (.atom 1060) (.atom 1061) 1))],⟨T0a,T0l, []⟩⟩
def ends : List EndE := [end0]
def ths : Ths := []
theorem ths_ok : ThsOk ths := fun E t h _ => by cases h
def fs0 : List BE := [.cmp .leq (.len (.latom 1101)) (.lit 300000000), .cmp .eql (.op .rem .i64 (.len (.latom 1101)) (.lit 3)) (.lit 0), .cmp .leq (.lit 0) (.atom 1061), .cmp .leq (.atom 1061) (.lit 100)]
def obS : List Ob := [(.at_ 100 [(1061,(.atom 1061)),(1060,(.atom 1060)),(2600,(.lit 0))] [(1101,(.latom 1101))] [(.cmp .neq cy3 (.nat (.atom 1061)))]),(.at_ 0 [(1500,(.lit 0)),(1061,(.atom 1061)),(1060,(.atom 1060))] [(1101,(.latom 1101))] [(.cmp .eql cy3 (.nat (.atom 1061)))])]
theorem eS [Env] : oweStartE ths N Z ends Try.prog Try.f55 root baseG5 (extraG Try.prog) cuts fs0 args heap = obS := by kernel_rfl
def ob0 : List Ob := [(.at_ 100 [(1061,(.atom 1061)),(1060,(.atom 1060)),(2600,(.lit 0))] [(1101,(.latom 1101))] [(.not cy4),cy0,cy1,(.cmp .geq (.atom 1500) (.lit 0)),(.and (.cmp .geq (.atom 1500) (.lit 0)) (.cmp .lss (.atom 1500) cy3)),(.cmp .lss (.atom 1500) cy3),(.cmp .geq (.atom 1500) (.lit 0)),(.cmp .lss (.atom 1500) cy3)]),(.less [(cy3,(.atom 1500))] [(cy3,(.op .add .i64 (.atom 1500) (.lit 1)))] [cy4,cy0,cy1,(.cmp .geq (.atom 1500) (.lit 0)),(.and (.cmp .geq (.atom 1500) (.lit 0)) (.cmp .lss (.atom 1500) cy3)),(.cmp .lss (.atom 1500) cy3),(.cmp .geq (.atom 1500) (.lit 0)),(.cmp .lss (.atom 1500) cy3)]),(.need (.cmp .leq (.lit 0) (.op .add .i64 (.atom 1500) (.lit 1))) [cy4,cy0,cy1,(.cmp .geq (.atom 1500) (.lit 0)),(.and (.cmp .geq (.atom 1500) (.lit 0)) (.cmp .lss (.atom 1500) cy3)),(.cmp .lss (.atom 1500) cy3),(.cmp .geq (.atom 1500) (.lit 0)),(.cmp .lss (.atom 1500) cy3)]),(.at_ 0 [(1500,(.op .add .i64 (.atom 1500) (.lit 1))),(1061,(.atom 1061)),(1060,(.atom 1060))] [(1101,(.latom 1101))] [cy4,cy0,cy1,(.cmp .geq (.atom 1500) (.lit 0)),(.and (.cmp .geq (.atom 1500) (.lit 0)) (.cmp .lss (.atom 1500) cy3)),(.cmp .lss (.atom 1500) cy3),(.cmp .geq (.atom 1500) (.lit 0)),(.cmp .lss (.atom 1500) cy3)]),(.at_ 100 [(1061,(.atom 1061)),(1060,(.atom 1060)),(2600,(.lit 1))] [(1101,(.latom 1101))] [(.cmp .leq cy3 (.atom 1500))])]
theorem e0 [Env] : oweAtE ths N Z ends Try.prog Try.f55 root baseG5 (extraG Try.prog) cuts cut0 = ob0 := by kernel_rfl
def tree0 : Tree (SV × Heap Empty) := (.req (.cmp .leq (.len (.latom 1101)) (.lit 300000000)) (.req (.cmp .eql (.op .rem .i64 (.len (.latom 1101)) (.lit 3)) (.lit 0)) (.req (.cmp .leq (.lit 0) (.atom 1061)) (.req (.cmp .leq (.atom 1061) (.lit 100)) (.leaf (end0.sv.sub end0.T,subH end0.T end0.h))))))
def Pre (E : Env) : Prop := @BE.val E (.cmp .leq (.len (.latom 1101)) (.lit 300000000)) = true ∧ @BE.val E (.cmp .eql (.op .rem .i64 (.len (.latom 1101)) (.lit 3)) (.lit 0)) = true ∧ @BE.val E (.cmp .leq (.lit 0) (.atom 1061)) = true ∧ @BE.val E (.cmp .leq (.atom 1061) (.lit 100)) = true
def Phi (E0 : Env) : Nat → Env → Prop
  | 0,E => ∃ n : Nat,E.i 1500 = n ∧ 3 * n ≤ (E0.l 1101).length ∧ (E0.l 1101).length = 3 * (E0.i 1061).toNat ∧ (E0.l 1101).take (3 * n) = CvN.tl E0 n
  | 100,E => E.i 2600 = ofB (decide (E0.l 1101 = CvN.tl E0 (E0.i 1061).toNat))
  | _,_ => True
theorem mods {E : Env} (hpre : Pre E) : (E.l 1101).length % 3 = 0 := by
  have q1 : Int.tmod ((E.l 1101).length : Int) 3 = 0 := eq_of_beq hpre.2.1
  rw [Int.tmod_eq_emod_of_nonneg (by omega)] at q1
  omega
theorem runS (E : Env) (hpre : Pre E) : ObsOk E (Phi E) obS := by
  have hm := mods hpre
  have b0 : (0 : Int) ≤ E.i 1061 := of_decide_eq_true hpre.2.2.1
  refine ⟨fun hc => ?_,fun hc => ?_,trivial⟩
  · have q : ((E.l 1101).length : Int) / 3 ≠ (((E.i 1061).toNat : Nat) : Int) := bne_iff_ne.1 hc.1
    show (0 : Int) = ofB (decide (E.l 1101 = CvN.tl E (E.i 1061).toNat))
    rw [decide_eq_false (fun e => q (by rw [e,CvN.tl_len]; omega))]; rfl
  · have q : ((E.l 1101).length : Int) / 3 = (((E.i 1061).toNat : Nat) : Int) := eq_of_beq hc.1
    exact ⟨0,rfl,Nat.zero_le _,by omega,rfl⟩
theorem run0 (E0 E : Env) (hpre : Pre E0) (hz : Z.of E0 E) (hfs : ∀ b ∈ cut0.fs, @BE.val E b = true) (hphi : Phi E0 0 E) : ObsOk E (Phi E0) ob0 := by
  obtain ⟨n,hn,hle,hlen,hL⟩ := hphi
  have e2 : E.l 1101 = E0.l 1101 := hz.2.1 1101 rfl
  have hb : ((E0.l 1101).length : Int) ≤ 300000000 := of_decide_eq_true hpre.1
  have hv : ((E.l 1101).length : Int) / 3 = (((E0.l 1101).length / 3 : Nat) : Int) := by rw [e2,div3]
  have lt : E.i 1500 < ((E.l 1101).length : Int) / 3 → 3 * n + 3 ≤ (E0.l 1101).length := fun h => by rw [hn,hv] at h; omega
  have up : 3 * n + 3 ≤ (E0.l 1101).length → IntKind.i64.wrap (E.i 1500 + 1) = ((n + 1 : Nat) : Int) := fun h => by rw [hn,up1 (by omega) (by omega)]; rfl
  have hg : ∀ k : Nat,(E.l 1101).getD ((((0 : Int).toNat + (E.i 1500).toNat * 3 + 0 : Nat) : Int).toNat + k) 0 = (E0.l 1101).getD (3 * n + k) 0 := fun k => by rw [atx3,e2,hn]; rfl
  have c1 : E.i 1061 = E0.i 1061 := hz.1 1061 rfl
  have et : E.t = E0.t := hz.2.2
  have b0 : (0 : Int) ≤ E0.i 1061 := of_decide_eq_true hpre.2.2.1
  have b1 : E0.i 1061 ≤ (100 : Int) := of_decide_eq_true hpre.2.2.2
  have hm := mods hpre
  exact ⟨(fun hc => by
      have hl := lt (of_decide_eq_true hc.2.2.2.2.2.1)
      have h : (!((((E.l 1101).getD ((((0 : Int).toNat + (E.i 1500).toNat * 3 + 0 : Nat) : Int).toNat + 0) 0) == (E.t 1 (E.i 1500).toNat 0)) && ((((E.l 1101).getD ((((0 : Int).toNat + (E.i 1500).toNat * 3 + 0 : Nat) : Int).toNat + 1) 0) == (E.t 1 (E.i 1500).toNat 1)) && (((E.l 1101).getD ((((0 : Int).toNat + (E.i 1500).toNat * 3 + 0 : Nat) : Int).toNat + 2) 0) == (E.t 1 (E.i 1500).toNat 2))))) = true := hc.1
      have ek : (E.i 1500).toNat = n := by rw [hn]; rfl
      rw [hg 0,hg 1,hg 2,et,ek] at h
      show (0 : Int) = ofB (decide (E0.l 1101 = CvN.tl E0 (E0.i 1061).toNat))
      rw [decide_eq_false (fun q => by rw [q,tl_get E0 _ n (by omega) 0 (by omega),tl_get E0 _ n (by omega) 1 (by omega),tl_get E0 _ n (by omega) 2 (by omega)] at h; simp at h)]; rfl),
    (fun hc => have hl := lt (of_decide_eq_true hc.2.2.2.2.2.1); .inl (show (((E.l 1101).length : Int) / 3 - IntKind.i64.wrap (E.i 1500 + 1)).toNat < (((E.l 1101).length : Int) / 3 - E.i 1500).toNat by rw [up hl,hv,hn]; omega)),
    (fun hc => have hl := lt (of_decide_eq_true hc.2.2.2.2.2.1); decide_eq_true (show (0 : Int) ≤ IntKind.i64.wrap (E.i 1500 + 1) by rw [up hl]; omega)),
    (fun hc => by
      have hl := lt (of_decide_eq_true hc.2.2.2.2.2.1)
      have h : ((((E.l 1101).getD ((((0 : Int).toNat + (E.i 1500).toNat * 3 + 0 : Nat) : Int).toNat + 0) 0) == (E.t 1 (E.i 1500).toNat 0)) && ((((E.l 1101).getD ((((0 : Int).toNat + (E.i 1500).toNat * 3 + 0 : Nat) : Int).toNat + 1) 0) == (E.t 1 (E.i 1500).toNat 1)) && (((E.l 1101).getD ((((0 : Int).toNat + (E.i 1500).toNat * 3 + 0 : Nat) : Int).toNat + 2) 0) == (E.t 1 (E.i 1500).toNat 2)))) = true := hc.1
      have ek : (E.i 1500).toNat = n := by rw [hn]; rfl
      rw [hg 0,hg 1,hg 2,et,ek] at h
      simp only [Bool.and_eq_true,beq_iff_eq] at h
      refine ⟨n + 1,up hl,by omega,hlen, ?_⟩
      rw [take3 hl,hL,CvN.tl_succ]
      congr 1
      unfold ent
      rw [h.2.1,h.2.2,show (E0.l 1101).getD (3 * n) 0 = E0.t 1 n 0 from h.1]),
    (fun hc => by
      have hge : ((E.l 1101).length : Int) / 3 ≤ E.i 1500 := of_decide_eq_true hc.1
      rw [hn,hv] at hge
      show (1 : Int) = ofB (decide (E0.l 1101 = CvN.tl E0 (E0.i 1061).toNat))
      rw [List.take_of_length_le (by omega),show n = (E0.i 1061).toNat by omega] at hL
      rw [decide_eq_true hL]; rfl),
    trivial⟩
theorem told0 (E0 E : Env) (hphi : Phi E0 100 E) (hz : Z.of E0 E) : ToldE end0.T E0 E := ⟨lk_all ⟨hphi,trivial⟩,lk_all trivial⟩
theorem fs0_ok (E : Env) (hpre : Pre E) : ∀ b ∈ fs0, @BE.val E b = true := by
  intro b hb
  simp only [fs0,List.mem_cons,List.not_mem_nil,or_false] at hb
  rcases hb with rfl | rfl | rfl | rfl
  · exact hpre.1
  · exact hpre.2.1
  · exact hpre.2.2.1
  · exact hpre.2.2.2
theorem heads : (cuts.all fun k => isLoop (subAt root k.p) && Nat.ble k.ms.length 9) = true := by kernel_rfl
theorem bodyOk : Try.f55.body = some root := by kernel_rfl
def s0 : Summ := ⟨55,args,heap,tree0⟩
theorem preOf {E : Env} {K : SV × Heap Empty → Prop} (hK : @Tree.holds E _ K tree0) : Pre E := ⟨hK.1,hK.2.1,hK.2.2.1,hK.2.2.2.1⟩
theorem ok0 : s0.ok Try.prog := by
  refine Summ.loop (Z := Z) (ends := ends) (Φ := Phi) [⟨[1500], []⟩] (Bk.enters_of Try.func55 (by kernel_rfl)) ?_ ?_ ?_
  · intro E ρ F w argv ⟨K, hK⟩ H ha
    have hpre := preOf hK
    refine floydEO (us := ths) (N := N) mixed_ok (c := @baseG5) @baseG5_ok (x := extraG Try.prog) (fun {_} => extraG_ok _) Try.func55 bodyOk ths_ok (cuts := cuts) heads E (fun E' i k hk hz hfs hphi => ?_) (fs0 := fs0) ?_ (Owed.eq (@eS E) (runS E hpre)) ?_ H ha
    · match i, hk with
      | 0,hk => obtain rfl : cut0 = k := Option.some.inj (show some cut0 = some k from hk); exact Owed.eq (@e0 E') (run0 E E' hpre hz hfs hphi)
      | n + 1,hk => exact absurd hk (by simp [cuts])
    · intro b hb
      exact fs0_ok E hpre b hb
    · intro n hn
      exact hn
  · intro j en hj
    match j,hj with
    | 0,hj => obtain rfl : end0 = en := Option.some.inj (show some end0 = some en from hj); exact ⟨_,rfl,by kernel_rfl,by kernel_rfl,by kernel_rfl,by kernel_rfl,by kernel_rfl⟩
    | n + 1,hj => exact absurd hj (by simp [ends])
  · intro E E' j en hj hphi hz
    match j,hj with
    | 0,hj => obtain rfl : end0 = en := Option.some.inj (show some end0 = some en from hj); exact ⟨told0 E E' hphi hz,fun K hK => hK.2.2.2.2⟩
    | n + 1,hj => exact absurd hj (by simp [ends])
end CvT
namespace CvU
open Bk Sm
def args : List SV := [.w (.one (.b (.ref 210))), .w (.one (.b (.ref 222)))]
def heap : Heap Empty := [(210, .mach 2 (.latom 1100)),(222, .mach 2 (.latom 1103))]
def N : List Nat := [210,222]
noncomputable def root : Code := rootOf Try.f57
def I0 : SS Empty := (SS.mk [(.w (.one (.b (.ref 210)))),(.w (.one (.b (.ref 222)))), .unk, .unk, .unk,(.w (.one (.b (.int .i64 (.atom 1500))))), .unk, .unk, .unk, .unk, .unk, .unk, .unk, .unk, .unk, .unk, .unk, .unk, .unk, .unk, .unk, .unk, .unk, .unk, .unk, .unk] [(210,(.mach 2 (.latom 1100))),(222,(.mach 2 (.latom 1103)))] 7)
def F0 : List BE := [.cmp .leq (.lit 0) (.atom 1500),(.cmp .eql (.len (.latom 1100)) (.len (.latom 1103))),cy6]
def cut0 : Cut := ⟨[0,1,0,1,1],I0,F0, [((.len (.latom 1100)),(.atom 1500))]⟩
def cuts : List Cut := [cut0]
def Z : Own := ⟨[1500,2600], []⟩
def T0a : List (Nat × IE) := [(2600, .eqL (.latom 1100) (.latom 1103))]
def T0l : List (Nat × IE) := []
def end0 : EndE := ⟨(.w (.one (.b (.bool (.atom 2600))))), [(210,(.mach 2 (.latom 1100))),(222,(.mach 2 (.latom 1103)))],⟨T0a,T0l, []⟩⟩
def ends : List EndE := [end0]
def ths : Ths := []
theorem ths_ok : ThsOk ths := fun E t h _ => by cases h
def fs0 : List BE := [.cmp .leq (.len (.latom 1100)) (.lit 1073741824)]
def obS : List Ob := [(.at_ 100 [(2600,(.lit 0))] [(1100,(.latom 1100)),(1103,(.latom 1103))] [(.cmp .neq (.len (.latom 1100)) (.len (.latom 1103)))]),(.at_ 0 [(1500,(.lit 0))] [(1100,(.latom 1100)),(1103,(.latom 1103))] [(.cmp .eql (.len (.latom 1100)) (.len (.latom 1103)))])]
theorem eS [Env] : oweStartE ths N Z ends Try.prog Try.f57 root baseG5 (extraG Try.prog) cuts fs0 args heap = obS := by kernel_rfl
def ob0 : List Ob := [(.at_ 100 [(2600,(.lit 0))] [(1100,(.latom 1100)),(1103,(.latom 1103))] [(.cmp .neq (.get (.latom 1100) (.at_ (.lit 0) (.atom 1500) 1 0) 0) (.get (.latom 1103) (.at_ (.lit 0) (.atom 1500) 1 0) 0)),(.and (.cmp .geq (.atom 1500) (.lit 0)) (.cmp .lss (.atom 1500) (.len (.latom 1103)))),(.cmp .lss (.atom 1500) (.len (.latom 1103))),(.cmp .geq (.atom 1500) (.lit 0)),(.and (.cmp .geq (.atom 1500) (.lit 0)) (.cmp .lss (.atom 1500) (.len (.latom 1100)))),(.cmp .lss (.atom 1500) (.len (.latom 1100))),(.cmp .geq (.atom 1500) (.lit 0)),(.cmp .lss (.atom 1500) (.len (.latom 1100)))]),(.at_ 0 [(1500,(.op .add .i64 (.atom 1500) (.lit 1)))] [(1100,(.latom 1100)),(1103,(.latom 1103))] [(.cmp .eql (.get (.latom 1100) (.at_ (.lit 0) (.atom 1500) 1 0) 0) (.get (.latom 1103) (.at_ (.lit 0) (.atom 1500) 1 0) 0)),(.and (.cmp .geq (.atom 1500) (.lit 0)) (.cmp .lss (.atom 1500) (.len (.latom 1103)))),(.cmp .lss (.atom 1500) (.len (.latom 1103))),(.cmp .geq (.atom 1500) (.lit 0)),(.and (.cmp .geq (.atom 1500) (.lit 0)) (.cmp .lss (.atom 1500) (.len (.latom 1100)))),(.cmp .lss (.atom 1500) (.len (.latom 1100))),(.cmp .geq (.atom 1500) (.lit 0)),(.cmp .lss (.atom 1500) (.len (.latom 1100)))]),(.at_ 100 [(2600,(.lit 1))] [(1100,(.latom 1100)),(1103,(.latom 1103))] [(.cmp .leq (.len (.latom 1100)) (.atom 1500))])]
theorem e0 [Env] : oweAtE ths N Z ends Try.prog Try.f57 root baseG5 (extraG Try.prog) cuts cut0 = ob0 := by kernel_rfl
def tree0 : Tree (SV × Heap Empty) := (.req cy6 (.leaf (end0.sv.sub end0.T,subH end0.T end0.h)))
def Pre (E : Env) : Prop := @BE.val E cy6 = true
def Phi (E0 : Env) : Nat → Env → Prop
  | 0,E => ∃ n : Nat,E.i 1500 = n ∧ n ≤ (E0.l 1100).length ∧ (E0.l 1100).length = (E0.l 1103).length ∧ (E0.l 1100).take n = (E0.l 1103).take n
  | 100,E => E.i 2600 = ofB (decide (E0.l 1100 = E0.l 1103))
  | _,_ => True
theorem runS (E : Env) (hpre : Pre E) : ObsOk E (Phi E) obS := by
  refine ⟨fun hc => ?_,fun hc => ?_,trivial⟩
  · have q : ((E.l 1100).length : Int) ≠ ((E.l 1103).length : Int) := bne_iff_ne.1 hc.1
    show (0 : Int) = ofB (decide (E.l 1100 = E.l 1103))
    rw [decide_eq_false (fun e => q (by rw [e]))]; rfl
  · have q : ((E.l 1100).length : Int) = ((E.l 1103).length : Int) := eq_of_beq hc.1
    exact ⟨0,rfl,Nat.zero_le _,by omega,rfl⟩
theorem run0 (E0 E : Env) (hpre : Pre E0) (hz : Z.of E0 E) (hfs : ∀ b ∈ cut0.fs, @BE.val E b = true) (hphi : Phi E0 0 E) : ObsOk E (Phi E0) ob0 := by
  obtain ⟨n,hn,hle,hlen,hL⟩ := hphi
  have e1 : E.l 1100 = E0.l 1100 := hz.2.1 1100 rfl
  have e3 : E.l 1103 = E0.l 1103 := hz.2.1 1103 rfl
  have hb : ((E0.l 1100).length : Int) ≤ 1073741824 := of_decide_eq_true hpre
  have lt : E.i 1500 < ((E.l 1100).length : Int) → n < (E0.l 1100).length := fun h => by rw [hn,e1] at h; omega
  have up : n < (E0.l 1100).length → IntKind.i64.wrap (E.i 1500 + 1) = ((n + 1 : Nat) : Int) := fun h => by rw [hn,up1 (by omega) (by omega)]; rfl
  have g1 : ((E.l 1100).getD ((((0 : Int).toNat + (E.i 1500).toNat * 1 + 0 : Nat) : Int).toNat + 0) 0) = (E0.l 1100).getD n 0 := by rw [atx1,e1,hn]; rfl
  have g3 : ((E.l 1103).getD ((((0 : Int).toNat + (E.i 1500).toNat * 1 + 0 : Nat) : Int).toNat + 0) 0) = (E0.l 1103).getD n 0 := by rw [atx1,e3,hn]; rfl
  exact ⟨(fun hc => by
      have h : ¬ ((E.l 1100).getD ((((0 : Int).toNat + (E.i 1500).toNat * 1 + 0 : Nat) : Int).toNat + 0) 0) = ((E.l 1103).getD ((((0 : Int).toNat + (E.i 1500).toNat * 1 + 0 : Nat) : Int).toNat + 0) 0) := bne_iff_ne.1 hc.1
      rw [g1,g3] at h
      show (0 : Int) = ofB (decide (E0.l 1100 = E0.l 1103))
      rw [decide_eq_false (fun q => h (by rw [q]))]; rfl),
    (fun hc => by
      have hl := lt (of_decide_eq_true hc.2.2.2.2.2.1)
      have h : ((E.l 1100).getD ((((0 : Int).toNat + (E.i 1500).toNat * 1 + 0 : Nat) : Int).toNat + 0) 0) = ((E.l 1103).getD ((((0 : Int).toNat + (E.i 1500).toNat * 1 + 0 : Nat) : Int).toNat + 0) 0) := eq_of_beq hc.1
      rw [g1,g3] at h
      refine ⟨n + 1,up hl,by omega,hlen, ?_⟩
      rw [take1 hl,take1 (by omega),hL,h]),
    (fun hc => by
      have hge : ((E.l 1100).length : Int) ≤ E.i 1500 := of_decide_eq_true hc.1
      rw [hn,e1] at hge
      show (1 : Int) = ofB (decide (E0.l 1100 = E0.l 1103))
      rw [List.take_of_length_le (by omega),List.take_of_length_le (by omega)] at hL
      rw [decide_eq_true hL]; rfl),
    trivial⟩
theorem told0 (E0 E : Env) (hphi : Phi E0 100 E) (hz : Z.of E0 E) : ToldE end0.T E0 E := ⟨lk_all ⟨hphi,trivial⟩,lk_all trivial⟩
theorem fs0_ok (E : Env) (hpre : Pre E) : ∀ b ∈ fs0, @BE.val E b = true := by
  intro b hb
  simp only [fs0,List.mem_cons,List.not_mem_nil,or_false] at hb
  subst hb
  exact hpre
theorem heads : (cuts.all fun k => isLoop (subAt root k.p) && Nat.ble k.ms.length 9) = true := by kernel_rfl
theorem bodyOk : Try.f57.body = some root := by kernel_rfl
def s0 : Summ := ⟨57,args,heap,tree0⟩
theorem preOf {E : Env} {K : SV × Heap Empty → Prop} (hK : @Tree.holds E _ K tree0) : Pre E := hK.1
theorem ok0 : s0.ok Try.prog := by
  refine Summ.loop (Z := Z) (ends := ends) (Φ := Phi) [⟨[1500], []⟩] (Bk.enters_of Try.func57 (by kernel_rfl)) ?_ ?_ ?_
  · intro E ρ F w argv ⟨K, hK⟩ H ha
    have hpre := preOf hK
    refine floydEO (us := ths) (N := N) mixed_ok (c := @baseG5) @baseG5_ok (x := extraG Try.prog) (fun {_} => extraG_ok _) Try.func57 bodyOk ths_ok (cuts := cuts) heads E (fun E' i k hk hz hfs hphi => ?_) (fs0 := fs0) ?_ (Owed.eq (@eS E) (runS E hpre)) ?_ H ha
    · match i, hk with
      | 0,hk => obtain rfl : cut0 = k := Option.some.inj (show some cut0 = some k from hk); exact Owed.eq (@e0 E') (run0 E E' hpre hz hfs hphi)
      | n + 1,hk => exact absurd hk (by simp [cuts])
    · intro b hb
      exact fs0_ok E hpre b hb
    · intro n hn
      exact hn
  · intro j en hj
    match j,hj with
    | 0,hj => obtain rfl : end0 = en := Option.some.inj (show some end0 = some en from hj); exact ⟨_,rfl,by kernel_rfl,by kernel_rfl,by kernel_rfl,by kernel_rfl,by kernel_rfl⟩
    | n + 1,hj => exact absurd hj (by simp [ends])
  · intro E E' j en hj hphi hz
    match j,hj with
    | 0,hj => obtain rfl : end0 = en := Option.some.inj (show some end0 = some en from hj); exact ⟨told0 E E' hphi hz,fun K hK => hK.2⟩
    | n + 1,hj => exact absurd hj (by simp [ends])
end CvU
def sumsY : List Summ := [CvDt.s0,CvEt.s0,CvT.s0,CvU.s0]
theorem sumsY_ok : ∀ σ ∈ sumsY, σ.ok Try.prog := Bk.cc CvDt.ok0 (Bk.cc CvEt.ok0 (Bk.cc CvT.ok0 (Bk.cc CvU.ok0 Bk.nn)))
end Go.Proofs.Ytafemlljemhkhaa.Sx
