import Derived.Test.YtafemlljemhkhaaPSxSh
import Derived.Test.YtafemlljemhkhaaPSxGr
import Derived.Test.YtafemlljemhkhaaPSxFe
import Derived.Test.YtafemlljemhkhaaPSxCl2
namespace Go.Proofs.Ytafemlljemhkhaa.Sx
open Go
set_option linter.unusedSectionVars false
set_option linter.unusedVariables false
set_option linter.unusedSimpArgs false
set_option maxRecDepth 1000000
noncomputable def baseG0 [Env] : CallF Empty := callF Try.prog (withS sums7 sums3) (extraG Try.prog) noL 100 50
theorem baseG0_ok [Env] : CallOk Try.prog baseG0 := callF_ok ⟨mixed_ok,(withS_ok sums7_ok sums3_ok).2,names_ok,(withS_ok sums7_ok sums3_ok).1,extraG_ok _,fun _ _ _ _ _ _ _ _ _ _ _ _ _ _ _ _ h => (by cases h)⟩ 100 50
def AllT (P : Nat → IE → Prop) : List (Nat × IE) → Prop
  | [] => True
  | p :: l => P p.1 p.2 ∧ AllT P l
theorem lk_all {P : Nat → IE → Prop} : ∀ {l : List (Nat × IE)}, AllT P l → ∀ i e, lkE l i = some e → P i e
  | [],_,i,e,h => by cases h
  | (j, x) :: l, ha, i, e, h => by
    simp only [lkE] at h
    by_cases hb : Nat.beq j i = true
    · rw [hb] at h; obtain rfl := Nat.eq_of_beq_eq_true hb; cases h; exact ha.1
    · rw [eq_false_of_ne_true hb] at h; exact lk_all ha.2 i e h
theorem atx1 (x : Int) : (((0 : Int).toNat + x.toNat * 1 + 0 : Nat) : Int).toNat + 0 = x.toNat := by rw [Int.toNat_natCast,Int.toNat_zero]; omega
theorem up1 {x : Int} (h0 : 0 ≤ x) (h1 : x ≤ 9000000000000000) : IntKind.i64.wrap (x + 1) = x + 1 := wrap64_small (by omega) (by omega)
theorem idx_step {b r : Int} {L : List Int} {i : Nat} (h : i < L.length) : idxF b r (i : Int) (L.drop i) = if covF b r (L.getD i 0) then (i : Int) else idxF b r ((i + 1 : Nat) : Int) (L.drop (i + 1)) := by
  rw [List.drop_eq_getElem_cons h,List.getD_eq_getElem?_getD,List.getElem?_eq_getElem h,Option.getD_some]
  simp only [idxF]
  rfl
theorem idx_end {b r : Int} {L : List Int} {i : Nat} (h : L.length ≤ i) : idxF b r (i : Int) (L.drop i) = -1 := by
  rw [List.drop_eq_nil_of_le h]; rfl
theorem atx3 (x : Int) : (((0 : Int).toNat + x.toNat * 3 + 0 : Nat) : Int).toNat = 3 * x.toNat := by rw [Int.toNat_natCast,Int.toNat_zero]; omega
theorem splitF_app {is : Bool} {S : List Int} : ∀ (A B : List Int), A.length % 3 = 0 → splitF is S (A ++ B) = splitF is S A ++ splitF is S B
  | [],B,_ => rfl
  | [_],B,h => by simp at h
  | [_,_],B,h => by simp at h
  | n :: b :: r :: A, B, h => by
    have ih := splitF_app (is := is) (S := S) A B (by simp only [List.length_cons] at h; omega)
    simp only [List.cons_append,splitF,ih]
    split <;> rfl
theorem splitF_len {is : Bool} {S : List Int} : ∀ (A : List Int), (splitF is S A).length ≤ A.length
  | [] => Nat.le_refl _
  | [_] => Nat.zero_le _
  | [_,_] => Nat.zero_le _
  | n :: b :: r :: A => by
    have ih := splitF_len (is := is) (S := S) A
    simp only [splitF]
    split <;> simp only [List.length_cons] <;> omega
theorem splitF_short {is : Bool} {S : List Int} : ∀ (A : List Int), A.length < 3 → splitF is S A = []
  | [],_ => rfl
  | [_],_ => rfl
  | [_,_],_ => rfl
  | _ :: _ :: _ :: _,h => by simp only [List.length_cons] at h; omega
theorem splitF_trim {is : Bool} {S : List Int} (L : List Int) : splitF is S (L.take (3 * (L.length / 3))) = splitF is S L := by
  have h1 : (L.take (3 * (L.length / 3))).length = 3 * (L.length / 3) := by rw [List.length_take]; omega
  have h2 := splitF_app (is := is) (S := S) (L.take (3 * (L.length / 3))) (L.drop (3 * (L.length / 3))) (by rw [h1]; omega)
  rw [List.take_append_drop] at h2
  rw [h2,splitF_short (L.drop (3 * (L.length / 3))) (by rw [List.length_drop]; omega),List.append_nil]
def ent (L : List Int) (n : Nat) : List Int := [L.getD (3 * n) 0,L.getD (3 * n + 1) 0,L.getD (3 * n + 2) 0]
theorem take3 {L : List Int} {n : Nat} (h : 3 * n + 3 ≤ L.length) : L.take (3 * (n + 1)) = L.take (3 * n) ++ ent L n := by
  have g : ∀ k, k < L.length → L.take (k + 1) = L.take k ++ [L.getD k 0] := fun k hk => by
    rw [List.take_add_one,List.getElem?_eq_getElem hk,List.getD_eq_getElem?_getD,List.getElem?_eq_getElem hk]; rfl
  rw [show 3 * (n + 1) = 3 * n + 1 + 1 + 1 by omega,g _ (by omega),g _ (by omega),g _ (by omega)]
  simp [ent]
theorem splitF_step {is : Bool} {S L : List Int} {n : Nat} (h : 3 * n + 3 ≤ L.length) : splitF is S (L.take (3 * (n + 1))) = splitF is S (L.take (3 * n)) ++ (if decide (idxF (L.getD (3 * n + 1) 0) (L.getD (3 * n + 2) 0) 0 S ≥ 0) = is then ent L n else []) := by
  rw [take3 h,splitF_app _ _ (by rw [List.length_take]; omega)]
  congr 1
theorem div3 (n : Nat) : ((n : Nat) : Int) / 3 = ((n / 3 : Nat) : Int) := (Int.natCast_ediv n 3).symm
theorem cov_of {b r x : Int} (h : (x != 0 && (decide (x ≥ b) && decide (x ≤ r))) = true) : covF b r x := by
  simp only [Bool.and_eq_true,bne_iff_ne,decide_eq_true_eq] at h
  exact ⟨h.1,h.2.1,h.2.2⟩
theorem ncov_of {b r x : Int} (h : (!(x != 0 && (decide (x ≥ b) && decide (x ≤ r)))) = true) : ¬ covF b r x := fun ⟨h1, h2, h3⟩ => by
  have : (x != 0 && (decide (x ≥ b) && decide (x ≤ r))) = true := by simp only [Bool.and_eq_true,bne_iff_ne,decide_eq_true_eq]; exact ⟨h1,h2,h3⟩
  rw [this] at h; cases h
theorem tk_len (A B : List Int) : (A ++ B).take ((A.length : Int)).toNat = A ∧ (A ++ B).drop ((A.length : Int)).toNat = B := by
  rw [Int.toNat_natCast]; exact ⟨List.take_left' rfl,List.drop_left' rfl⟩
def XK : IE := .consL (.len (.latom 1100)) (.catL (.latom 1100) (.latom 1101))
theorem tk_3 (E : Env) : splitF true (E.l 1100) (E.l 1101) = @IE.lst E (.fnL 3 XK) := by
  show _ = splitF true ((E.l 1100 ++ E.l 1101).take ((E.l 1100).length : Int).toNat) ((E.l 1100 ++ E.l 1101).drop ((E.l 1100).length : Int).toNat)
  rw [(tk_len _ _).1,(tk_len _ _).2]
theorem tk_4 (E : Env) : splitF false (E.l 1100) (E.l 1101) = @IE.lst E (.fnL 4 XK) := by
  show _ = splitF false ((E.l 1100 ++ E.l 1101).take ((E.l 1100).length : Int).toNat) ((E.l 1100 ++ E.l 1101).drop ((E.l 1100).length : Int).toNat)
  rw [(tk_len _ _).1,(tk_len _ _).2]
def cv0 : IE := (.fn 50 (.consL (.len (.latom 1101)) (.consL (.lit 3) .nilL)))
def cv1 : IE := (.fn 60 (.consL (.get (.latom 1101) (.at_ (.lit 0) (.atom 1500) 3 0) 1) (.consL (.get (.latom 1101) (.at_ (.lit 0) (.atom 1500) 3 0) 2) (.latom 1100))))
def cv2 : BE := (.and (.cmp .geq (.atom 1500) (.lit 0)) (.cmp .lss (.atom 1500) cv0))
def cv3 : BE := (.cmp .lss (.atom 1500) (.len (.latom 1100)))
def cv4 : BE := (.cmp .geq (.fn 60 (.consL (.get (.latom 1101) (.at_ (.lit 0) (.atom 1502) 3 0) 1) (.consL (.get (.latom 1101) (.at_ (.lit 0) (.atom 1502) 3 0) 2) (.latom 1100)))) (.lit 0))
def cv5 : IE := (.get (.latom 1100) (.at_ (.lit 0) (.atom 1500) 1 0) 0)
def cv6 : BE := (.cmp .leq (.len (.latom 1100)) (.lit 1073741824))
def cv7 : BE := (.cmp .leq (.at_ (.fn 50 (.consL (.len (.latom 1501)) (.consL (.lit 3) .nilL))) (.lit 1) 1 0) (.lit 8796093022208))
def cv8 : BE := (.and (.cmp .geq (.atom 1502) (.lit 0)) (.cmp .lss (.atom 1502) cv0))
def cv9 : BE := (.and (.cmp .geq (.atom 1500) (.lit 0)) cv3)
def cv10 : BE := (.cmp .leq (.len (.latom 1101)) (.lit 300000000))
namespace CvI
open Bk Sm
def args : List SV := [.w (.one (.b (.ref 210))), .w (.one (.fn (.func 94) [] [.ptr 206 (.lit 0)]))]
def heap : Heap Empty := [(206, .cells 82 [xu 1100,xu 1101,xu 1102] 0),(210, .mach 2 (.latom 1100))]
def N : List Nat := [206,210]
noncomputable def root : Code := rootOf Try.f122
def I0 : SS Empty := (SS.mk [(.w (.one (.b (.ref 210)))),(.w (.one (.fn (.func 94) [] [(.ptr 206 (.lit 0))]))), .unk, .unk, .unk, .unk, .unk,(.w (.one (.b (.int .i64 (.len (.latom 1100)))))),(.w (.one (.b (.int .i64 (.atom 1500))))), .unk, .unk, .unk, .unk, .unk, .unk, .unk, .unk, .unk, .unk] [(210,(.mach 2 (.latom 1100))),(206,(.cells 82 [(.b (.int .u64 (.atom 1100))),(.b (.int .u64 (.atom 1101))),(.b (.int .u64 (.atom 1102)))] 0))] 4)
def F0 : List BE := [.cmp .leq (.lit 0) (.atom 1500),cv6]
def cut0 : Cut := ⟨[0,1,0,1],I0,F0, [((.len (.latom 1100)),(.atom 1500))]⟩
def cuts : List Cut := [cut0]
def Z : Own := ⟨[1500,2600], []⟩
def T0a : List (Nat × IE) := [(2600, .fn 60 (.consL (.atom 1101) (.consL (.atom 1102) (.latom 1100))))]
def T0l : List (Nat × IE) := []
def end0 : EndE := ⟨(.w (.one (.b (.int .i64 (.atom 2600))))), [(210,(.mach 2 (.latom 1100))),(206,(.cells 82 [(.b (.int .u64 (.atom 1100))),(.b (.int .u64 (.atom 1101))),(.b (.int .u64 (.atom 1102)))] 0))],⟨T0a,T0l, []⟩⟩
def ends : List EndE := [end0]
def ths : Ths := []
theorem ths_ok : ThsOk ths := fun E t h _ => by cases h
def fs0 : List BE := [.cmp .leq (.len (.latom 1100)) (.lit 1073741824)]
def obS : List Ob := [(.at_ 0 [(1102,(.atom 1102)),(1101,(.atom 1101)),(1100,(.atom 1100)),(1500,(.lit 0))] [(1100,(.latom 1100))] [])]
theorem eS [Env] : oweStartE ths N Z ends Try.prog Try.f122 root baseG0 (extraG Try.prog) cuts fs0 args heap = obS := by kernel_rfl
def ob0 : List Ob := [(.at_ 100 [(1102,(.atom 1102)),(1101,(.atom 1101)),(1100,(.atom 1100)),(2600,(.atom 1500))] [(1100,(.latom 1100))] [(.and (.cmp .neq cv5 (.lit 0)) (.and (.cmp .geq cv5 (.atom 1101)) (.cmp .leq cv5 (.atom 1102)))),cv9,cv3,(.cmp .geq (.atom 1500) (.lit 0)),cv3]),(.at_ 0 [(1102,(.atom 1102)),(1101,(.atom 1101)),(1100,(.atom 1100)),(1500,(.op .add .i64 (.atom 1500) (.lit 1)))] [(1100,(.latom 1100))] [(.not (.and (.cmp .neq cv5 (.lit 0)) (.and (.cmp .geq cv5 (.atom 1101)) (.cmp .leq cv5 (.atom 1102))))),cv9,cv3,(.cmp .geq (.atom 1500) (.lit 0)),cv3]),(.at_ 100 [(1102,(.atom 1102)),(1101,(.atom 1101)),(1100,(.atom 1100)),(2600,(.lit (-1)))] [(1100,(.latom 1100))] [(.cmp .leq (.len (.latom 1100)) (.atom 1500))])]
theorem e0 [Env] : oweAtE ths N Z ends Try.prog Try.f122 root baseG0 (extraG Try.prog) cuts cut0 = ob0 := by kernel_rfl
def tree0 : Tree (SV × Heap Empty) := (.req cv6 (.leaf (end0.sv.sub end0.T,subH end0.T end0.h)))
def Pre (E : Env) : Prop := @BE.val E cv6 = true
def Phi (E0 : Env) : Nat → Env → Prop
  | 0,E => ∃ n : Nat,E.i 1500 = n ∧ n ≤ (E0.l 1100).length ∧ idxF (E0.i 1101) (E0.i 1102) n ((E0.l 1100).drop n) = idxF (E0.i 1101) (E0.i 1102) 0 (E0.l 1100)
  | 100,E => E.i 2600 = idxF (E0.i 1101) (E0.i 1102) 0 (E0.l 1100)
  | _,_ => True
theorem runS (E : Env) (hpre : Pre E) : ObsOk E (Phi E) obS := ⟨fun _ => ⟨0,rfl,Nat.zero_le _,rfl⟩,trivial⟩
theorem run0 (E0 E : Env) (hpre : Pre E0) (hz : Z.of E0 E) (hfs : ∀ b ∈ cut0.fs, @BE.val E b = true) (hphi : Phi E0 0 E) : ObsOk E (Phi E0) ob0 := by
  have e1 : E.l 1100 = E0.l 1100 := hz.2.1 1100 rfl
  have e2 : E.i 1101 = E0.i 1101 := hz.1 1101 rfl
  have e3 : E.i 1102 = E0.i 1102 := hz.1 1102 rfl
  have hlen : ((E0.l 1100).length : Int) ≤ 1073741824 := of_decide_eq_true hpre
  obtain ⟨n,hn,hle,hi⟩ := hphi
  have hget : (E.l 1100).getD ((((0 : Int).toNat + (E.i 1500).toNat * 1 + 0 : Nat) : Int).toNat + 0) 0 = (E0.l 1100).getD n 0 := by rw [atx1,e1,hn]; rfl
  have up : IntKind.i64.wrap (E.i 1500 + 1) = ((n + 1 : Nat) : Int) := by rw [hn,up1 (by omega) (by omega)]; rfl
  refine ⟨fun hc => ?_,fun hc => ?_,fun hc => ?_,trivial⟩
  · have hlt : E.i 1500 < ((E.l 1100).length : Int) := of_decide_eq_true hc.2.2.1
    rw [e1] at hlt
    have hcov : covF (E.i 1101) (E.i 1102) ((E.l 1100).getD ((((0 : Int).toNat + (E.i 1500).toNat * 1 + 0 : Nat) : Int).toNat + 0) 0) := cov_of hc.1
    rw [hget,e2,e3] at hcov
    show E.i 1500 = _
    rw [← hi,idx_step (by omega),if_pos hcov,hn]
  · have hlt : E.i 1500 < ((E.l 1100).length : Int) := of_decide_eq_true hc.2.2.1
    rw [e1] at hlt
    have hcov : ¬ covF (E.i 1101) (E.i 1102) ((E.l 1100).getD ((((0 : Int).toNat + (E.i 1500).toNat * 1 + 0 : Nat) : Int).toNat + 0) 0) := ncov_of hc.1
    rw [hget,e2,e3] at hcov
    refine ⟨n + 1,up,by omega, ?_⟩
    rw [← hi,idx_step (i := n) (by omega),if_neg hcov]
  · have hge : ((E.l 1100).length : Int) ≤ E.i 1500 := of_decide_eq_true hc.1
    rw [e1] at hge
    show (-1 : Int) = _
    rw [← hi,idx_end (by omega)]
theorem told0 (E0 E : Env) (hphi : Phi E0 100 E) (hz : Z.of E0 E) : ToldE end0.T E0 E := ⟨lk_all ⟨hphi,trivial⟩,lk_all trivial⟩
theorem fs0_ok (E : Env) (hpre : Pre E) : ∀ b ∈ fs0, @BE.val E b = true := by
  intro b hb
  simp only [fs0,List.mem_cons,List.not_mem_nil,or_false] at hb
  subst hb
  exact hpre
theorem heads : (cuts.all fun k => isLoop (subAt root k.p) && Nat.ble k.ms.length 9) = true := by kernel_rfl
theorem bodyOk : Try.f122.body = some root := by kernel_rfl
def s0 : Summ := ⟨122,args,heap,tree0⟩
theorem preOf {E : Env} {K : SV × Heap Empty → Prop} (hK : @Tree.holds E _ K tree0) : Pre E := hK.1
theorem ok0 : s0.ok Try.prog := by
  refine Summ.loop (Z := Z) (ends := ends) (Φ := Phi) [⟨[1500], []⟩] (Bk.enters_of Try.func122 (by kernel_rfl)) ?_ ?_ ?_
  · intro E ρ F w argv ⟨K, hK⟩ H ha
    have hpre := preOf hK
    refine floydEO (us := ths) (N := N) mixed_ok (c := @baseG0) @baseG0_ok (x := extraG Try.prog) (fun {_} => extraG_ok _) Try.func122 bodyOk ths_ok (cuts := cuts) heads E (fun E' i k hk hz hfs hphi => ?_) (fs0 := fs0) ?_ (Owed.eq (@eS E) (runS E hpre)) ?_ H ha
    · match i, hk with
      | 0,hk => obtain rfl : cut0 = k := Option.some.inj (show some cut0 = some k from hk); exact Owed.eq (@e0 E') (run0 E E' hpre hz hfs hphi)
      | n + 1,hk => exact absurd hk (by simp [cuts])
    · intro b hb
      exact fs0_ok E hpre b hb
    · intro n hn
      exact hn
  · intro j en hj
    match j,hj with
    | 0,hj => obtain rfl : end0 = en := Option.some.inj (show some end0 = some en from hj); exact ⟨_,rfl,by kernel_rfl,by kernel_rfl,by kernel_rfl,by kernel_rfl,by kernel_rfl⟩
    | n + 1,hj => exact absurd hj (by simp [ends])
  · intro E E' j en hj hphi hz
    match j,hj with
    | 0,hj => obtain rfl : end0 = en := Option.some.inj (show some end0 = some en from hj); exact ⟨told0 E E' hphi hz,fun K hK => hK.2⟩
    | n + 1,hj => exact absurd hj (by simp [ends])
end CvI
def sumsG1 : List Summ := CvI.s0 :: sums7
theorem sumsG1_ok : ∀ σ ∈ sumsG1, σ.ok Try.prog := Bk.cc CvI.ok0 sums7_ok
noncomputable def baseG1 [Env] : CallF Empty := callF Try.prog (withS sumsG1 sums3) (extraG Try.prog) noL 100 50
theorem baseG1_ok [Env] : CallOk Try.prog baseG1 := callF_ok ⟨mixed_ok,(withS_ok sumsG1_ok sums3_ok).2,names_ok,(withS_ok sumsG1_ok sums3_ok).1,extraG_ok _,fun _ _ _ _ _ _ _ _ _ _ _ _ _ _ _ _ h => (by cases h)⟩ 100 50
namespace CvA
open Bk Sm
def args : List SV := [.w (.one (.b (.ref 216))), .w (.one (.fn (.func 136) [] [.ptr 218 (.lit 0)]))]
def heap : Heap Empty := [(210, .mach 2 (.latom 1100)),(216, .mach 4 (.latom 1101)),(218, .cells 24 [.b (.ref 210)] 0)]
def N : List Nat := [210,216,218]
noncomputable def root : Code := rootOf Try.f135
def I0 : SS Empty := (SS.mk [.unk,(.w (.one (.fn (.func 136) [] [(.ptr 218 (.lit 0))]))), .unk, .unk, .unk, .unk,(.w (.one (.b (.ref 131076)))),(.w (.one (.b (.ref 131078)))), .unk, .unk,(.w (.one (.b (.ref 216)))),(.w (.one (.b (.int .i64 cv0)))),(.w (.one (.b (.int .i64 (.atom 1502))))), .unk, .unk, .unk, .unk, .unk, .unk, .unk, .unk, .unk, .unk, .unk, .unk, .unk, .unk, .unk, .unk, .unk] [(216,(.mach 4 (.latom 1101))),(218,(.cells 24 [(.b (.ref 210))] 0)),(210,(.mach 2 (.latom 1100))),(131076,(.mach 4 (.latom 1503))),(131078,(.mach 4 (.latom 1504)))] 7)
def F0 : List BE := [.cmp .leq (.lit 0) (.atom 1502),cv6,cv10]
def cut0 : Cut := ⟨[0,1,0,1,1],I0,F0, [(cv0,(.atom 1502))]⟩
def cuts : List Cut := [cut0]
def Z : Own := ⟨[1502], [1503,1504]⟩
def T0a : List (Nat × IE) := []
def T0l : List (Nat × IE) := [(1503, .fnL 3 XK),(1504, .fnL 4 XK)]
def end0 : EndE := ⟨(.tup [(.one (.b (.ref 131076))),(.one (.b (.ref 131078)))]), [(216,(.mach 4 (.latom 1101))),(218,(.cells 24 [(.b (.ref 210))] 0)),(210,(.mach 2 (.latom 1100))),(131076,(.mach 4 (.latom 1503))),(131078,(.mach 4 (.latom 1504)))],⟨T0a,T0l, []⟩⟩
def ends : List EndE := [end0]
def ths : Ths := []
theorem ths_ok : ThsOk ths := fun E t h _ => by cases h
def fs0 : List BE := [.cmp .leq (.len (.latom 1100)) (.lit 1073741824), .cmp .leq (.len (.latom 1101)) (.lit 300000000)]
def obS : List Ob := [(.at_ 0 [(1502,(.lit 0))] [(1504, .nilL),(1503, .nilL),(1100,(.latom 1100)),(1101,(.latom 1101))] [])]
theorem eS [Env] : oweStartE ths N Z ends Try.prog Try.f135 root baseG1 (extraG Try.prog) cuts fs0 args heap = obS := by kernel_rfl
def ob0 : List Ob := [(.less [(cv0,(.atom 1502))] [(cv0,(.op .add .i64 (.atom 1502) (.lit 1)))] [(.cmp .leq (.at_ (.fn 50 (.consL (.len (.latom 1503)) (.consL (.lit 3) .nilL))) (.lit 1) 1 0) (.lit 8796093022208)),cv4,cv8,(.cmp .lss (.atom 1502) cv0),(.cmp .geq (.atom 1502) (.lit 0)),(.cmp .lss (.atom 1502) cv0)]),(.need (.cmp .leq (.lit 0) (.op .add .i64 (.atom 1502) (.lit 1))) [(.cmp .leq (.at_ (.fn 50 (.consL (.len (.latom 1503)) (.consL (.lit 3) .nilL))) (.lit 1) 1 0) (.lit 8796093022208)),cv4,cv8,(.cmp .lss (.atom 1502) cv0),(.cmp .geq (.atom 1502) (.lit 0)),(.cmp .lss (.atom 1502) cv0)]),(.at_ 0 [(1502,(.op .add .i64 (.atom 1502) (.lit 1)))] [(1504,(.latom 1504)),(1503,(.catL (.latom 1503) (.consL (.get (.latom 1101) (.at_ (.lit 0) (.atom 1502) 3 0) 0) (.consL (.get (.latom 1101) (.at_ (.lit 0) (.atom 1502) 3 0) 1) (.consL (.get (.latom 1101) (.at_ (.lit 0) (.atom 1502) 3 0) 2) .nilL))))),(1100,(.latom 1100)),(1101,(.latom 1101))] [(.cmp .leq (.at_ (.fn 50 (.consL (.len (.latom 1503)) (.consL (.lit 3) .nilL))) (.lit 1) 1 0) (.lit 8796093022208)),cv4,cv8,(.cmp .lss (.atom 1502) cv0),(.cmp .geq (.atom 1502) (.lit 0)),(.cmp .lss (.atom 1502) cv0)]),(.bad 320 [(.cmp .lss (.lit 8796093022208) (.at_ (.fn 50 (.consL (.len (.latom 1503)) (.consL (.lit 3) .nilL))) (.lit 1) 1 0)),cv4,cv8,(.cmp .lss (.atom 1502) cv0),(.cmp .geq (.atom 1502) (.lit 0)),(.cmp .lss (.atom 1502) cv0)]),(.less [(cv0,(.atom 1502))] [(cv0,(.op .add .i64 (.atom 1502) (.lit 1)))] [(.cmp .leq (.at_ (.fn 50 (.consL (.len (.latom 1504)) (.consL (.lit 3) .nilL))) (.lit 1) 1 0) (.lit 8796093022208)),(.not cv4),cv8,(.cmp .lss (.atom 1502) cv0),(.cmp .geq (.atom 1502) (.lit 0)),(.cmp .lss (.atom 1502) cv0)]),(.need (.cmp .leq (.lit 0) (.op .add .i64 (.atom 1502) (.lit 1))) [(.cmp .leq (.at_ (.fn 50 (.consL (.len (.latom 1504)) (.consL (.lit 3) .nilL))) (.lit 1) 1 0) (.lit 8796093022208)),(.not cv4),cv8,(.cmp .lss (.atom 1502) cv0),(.cmp .geq (.atom 1502) (.lit 0)),(.cmp .lss (.atom 1502) cv0)]),(.at_ 0 [(1502,(.op .add .i64 (.atom 1502) (.lit 1)))] [(1504,(.catL (.latom 1504) (.consL (.get (.latom 1101) (.at_ (.lit 0) (.atom 1502) 3 0) 0) (.consL (.get (.latom 1101) (.at_ (.lit 0) (.atom 1502) 3 0) 1) (.consL (.get (.latom 1101) (.at_ (.lit 0) (.atom 1502) 3 0) 2) .nilL))))),(1503,(.latom 1503)),(1100,(.latom 1100)),(1101,(.latom 1101))] [(.cmp .leq (.at_ (.fn 50 (.consL (.len (.latom 1504)) (.consL (.lit 3) .nilL))) (.lit 1) 1 0) (.lit 8796093022208)),(.not cv4),cv8,(.cmp .lss (.atom 1502) cv0),(.cmp .geq (.atom 1502) (.lit 0)),(.cmp .lss (.atom 1502) cv0)]),(.bad 320 [(.cmp .lss (.lit 8796093022208) (.at_ (.fn 50 (.consL (.len (.latom 1504)) (.consL (.lit 3) .nilL))) (.lit 1) 1 0)),(.not cv4),cv8,(.cmp .lss (.atom 1502) cv0),(.cmp .geq (.atom 1502) (.lit 0)),(.cmp .lss (.atom 1502) cv0)]),(.at_ 100 [] [(1504,(.latom 1504)),(1503,(.latom 1503)),(1100,(.latom 1100)),(1101,(.latom 1101))] [(.cmp .leq cv0 (.atom 1502))])]
theorem e0 [Env] : oweAtE ths N Z ends Try.prog Try.f135 root baseG1 (extraG Try.prog) cuts cut0 = ob0 := by kernel_rfl
def tree0 : Tree (SV × Heap Empty) := (.req cv6 (.req cv10 (.leaf (end0.sv.sub end0.T,subH end0.T end0.h))))
def Pre (E : Env) : Prop := @BE.val E cv6 = true ∧ @BE.val E cv10 = true
def Phi (E0 : Env) : Nat → Env → Prop
  | 0,E => ∃ n : Nat,E.i 1502 = n ∧ 3 * n ≤ (E0.l 1101).length ∧ E.l 1503 = splitF true (E0.l 1100) ((E0.l 1101).take (3 * n)) ∧ E.l 1504 = splitF false (E0.l 1100) ((E0.l 1101).take (3 * n))
  | 100,E => E.l 1503 = splitF true (E0.l 1100) (E0.l 1101) ∧ E.l 1504 = splitF false (E0.l 1100) (E0.l 1101)
  | _,_ => True
theorem runS (E : Env) (hpre : Pre E) : ObsOk E (Phi E) obS := ⟨fun _ => ⟨0,rfl,Nat.zero_le _,rfl,rfl⟩,trivial⟩
theorem run0 (E0 E : Env) (hpre : Pre E0) (hz : Z.of E0 E) (hfs : ∀ b ∈ cut0.fs, @BE.val E b = true) (hphi : Phi E0 0 E) : ObsOk E (Phi E0) ob0 := by
  obtain ⟨n,hn,hle,h1503,h1504⟩ := hphi
  have e1 : E.l 1100 = E0.l 1100 := hz.2.1 1100 rfl
  have e2 : E.l 1101 = E0.l 1101 := hz.2.1 1101 rfl
  have hb : ((E0.l 1101).length : Int) ≤ 300000000 := of_decide_eq_true hpre.2
  have hv : ((E.l 1101).length : Int) / 3 = (((E0.l 1101).length / 3 : Nat) : Int) := by rw [e2,div3]
  have lt : E.i 1502 < ((E.l 1101).length : Int) / 3 → 3 * n + 3 ≤ (E0.l 1101).length := fun h => by rw [hn,hv] at h; omega
  have up : 3 * n + 3 ≤ (E0.l 1101).length → IntKind.i64.wrap (E.i 1502 + 1) = ((n + 1 : Nat) : Int) := fun h => by rw [hn,up1 (by omega) (by omega)]; rfl
  have hg : ∀ k : Nat,(E.l 1101).getD ((((0 : Int).toNat + (E.i 1502).toNat * 3 + 0 : Nat) : Int).toNat + k) 0 = (E0.l 1101).getD (3 * n + k) 0 := fun k => by rw [atx3,e2,hn]; rfl
  have bl1503 : (E.l 1503).length ≤ 300000000 := by
    rw [h1503]
    have q := splitF_len (is := true) (S := E0.l 1100) ((E0.l 1101).take (3 * n))
    rw [List.length_take] at q
    omega
  have bl1504 : (E.l 1504).length ≤ 300000000 := by
    rw [h1504]
    have q := splitF_len (is := false) (S := E0.l 1100) ((E0.l 1101).take (3 * n))
    rw [List.length_take] at q
    omega
  exact ⟨(fun hc => have hl := lt (of_decide_eq_true hc.2.2.2.1); .inl (show (((E.l 1101).length : Int) / 3 - IntKind.i64.wrap (E.i 1502 + 1)).toNat < (((E.l 1101).length : Int) / 3 - E.i 1502).toNat by rw [up hl, hv, hn]; omega)),
    (fun hc => have hl := lt (of_decide_eq_true hc.2.2.2.1); decide_eq_true (show (0 : Int) ≤ IntKind.i64.wrap (E.i 1502 + 1) by rw [up hl]; omega)),
    (fun hc => by
      have hl := lt (of_decide_eq_true hc.2.2.2.1)
      have hcv : idxF ((E.l 1101).getD ((((0 : Int).toNat + (E.i 1502).toNat * 3 + 0 : Nat) : Int).toNat + 1) 0) ((E.l 1101).getD ((((0 : Int).toNat + (E.i 1502).toNat * 3 + 0 : Nat) : Int).toNat + 2) 0) 0 (E.l 1100) ≥ 0 := of_decide_eq_true hc.2.1
      rw [hg 1,hg 2,e1] at hcv
      refine ⟨n + 1,up hl,by omega, ?_, ?_⟩
      · exact (by
        show E.l 1503 ++ [((E.l 1101).getD ((((0 : Int).toNat + (E.i 1502).toNat * 3 + 0 : Nat) : Int).toNat + 0) 0),((E.l 1101).getD ((((0 : Int).toNat + (E.i 1502).toNat * 3 + 0 : Nat) : Int).toNat + 1) 0),((E.l 1101).getD ((((0 : Int).toNat + (E.i 1502).toNat * 3 + 0 : Nat) : Int).toNat + 2) 0)] = _
        rw [splitF_step hl,h1503,hg 0,hg 1,hg 2]
        congr 1
        rw [if_pos (decide_eq_true hcv)]; rfl)
      · exact (by
        show E.l 1504 = _
        rw [splitF_step hl,h1504,if_neg (by rw [decide_eq_true hcv]; decide),List.append_nil])),
    (fun hc => by
      have h9 : (8796093022208 : Int) < (((((E.l 1503).length : Int) / 3).toNat + (1 : Int).toNat * 1 + 0 : Nat) : Int) := of_decide_eq_true hc.1
      have h8 := bl1503
      have h7 : (1 : Int).toNat = 1 := rfl
      rw [h7] at h9
      omega),
    (fun hc => have hl := lt (of_decide_eq_true hc.2.2.2.1); .inl (show (((E.l 1101).length : Int) / 3 - IntKind.i64.wrap (E.i 1502 + 1)).toNat < (((E.l 1101).length : Int) / 3 - E.i 1502).toNat by rw [up hl,hv,hn]; omega)),
    (fun hc => have hl := lt (of_decide_eq_true hc.2.2.2.1); decide_eq_true (show (0 : Int) ≤ IntKind.i64.wrap (E.i 1502 + 1) by rw [up hl]; omega)),
    (fun hc => by
      have hl := lt (of_decide_eq_true hc.2.2.2.1)
      have hcv : ¬ (idxF ((E.l 1101).getD ((((0 : Int).toNat + (E.i 1502).toNat * 3 + 0 : Nat) : Int).toNat + 1) 0) ((E.l 1101).getD ((((0 : Int).toNat + (E.i 1502).toNat * 3 + 0 : Nat) : Int).toNat + 2) 0) 0 (E.l 1100) ≥ 0) := fun q => by have q2 : (!decide (idxF ((E.l 1101).getD ((((0 : Int).toNat + (E.i 1502).toNat * 3 + 0 : Nat) : Int).toNat + 1) 0) ((E.l 1101).getD ((((0 : Int).toNat + (E.i 1502).toNat * 3 + 0 : Nat) : Int).toNat + 2) 0) 0 (E.l 1100) ≥ 0)) = true := hc.2.1; rw [decide_eq_true q] at q2; cases q2
      rw [hg 1,hg 2,e1] at hcv
      refine ⟨n + 1,up hl,by omega, ?_, ?_⟩
      · exact (by
        show E.l 1503 = _
        rw [splitF_step hl,h1503,if_neg (by rw [decide_eq_false hcv]; decide),List.append_nil])
      · exact (by
        show E.l 1504 ++ [((E.l 1101).getD ((((0 : Int).toNat + (E.i 1502).toNat * 3 + 0 : Nat) : Int).toNat + 0) 0),((E.l 1101).getD ((((0 : Int).toNat + (E.i 1502).toNat * 3 + 0 : Nat) : Int).toNat + 1) 0),((E.l 1101).getD ((((0 : Int).toNat + (E.i 1502).toNat * 3 + 0 : Nat) : Int).toNat + 2) 0)] = _
        rw [splitF_step hl,h1504,hg 0,hg 1,hg 2]
        congr 1
        rw [if_pos (decide_eq_false hcv)]; rfl)),
    (fun hc => by
      have h9 : (8796093022208 : Int) < (((((E.l 1504).length : Int) / 3).toNat + (1 : Int).toNat * 1 + 0 : Nat) : Int) := of_decide_eq_true hc.1
      have h8 := bl1504
      have h7 : (1 : Int).toNat = 1 := rfl
      rw [h7] at h9
      omega),
    (fun hc => by
      have hge : ((E.l 1101).length : Int) / 3 ≤ E.i 1502 := of_decide_eq_true hc.1
      rw [hn,hv] at hge
      have e3 : 3 * n = 3 * ((E0.l 1101).length / 3) := by omega
      exact ⟨(show E.l 1503 = _ by rw [h1503,e3,splitF_trim]),(show E.l 1504 = _ by rw [h1504,e3,splitF_trim])⟩),
    trivial⟩
theorem told0 (E0 E : Env) (hphi : Phi E0 100 E) (hz : Z.of E0 E) : ToldE end0.T E0 E := ⟨lk_all trivial,lk_all ⟨(hphi.1).trans (tk_3 E0),(hphi.2).trans (tk_4 E0),trivial⟩⟩
theorem fs0_ok (E : Env) (hpre : Pre E) : ∀ b ∈ fs0, @BE.val E b = true := by
  intro b hb
  simp only [fs0,List.mem_cons,List.not_mem_nil,or_false] at hb
  rcases hb with rfl | rfl
  · exact hpre.1
  · exact hpre.2
theorem heads : (cuts.all fun k => isLoop (subAt root k.p) && Nat.ble k.ms.length 9) = true := by kernel_rfl
theorem bodyOk : Try.f135.body = some root := by kernel_rfl
def s0 : Summ := ⟨135,args,heap,tree0⟩
theorem preOf {E : Env} {K : SV × Heap Empty → Prop} (hK : @Tree.holds E _ K tree0) : Pre E := ⟨hK.1,hK.2.1⟩
theorem ok0 : s0.ok Try.prog := by
  refine Summ.loop (Z := Z) (ends := ends) (Φ := Phi) [⟨[1502], []⟩] (Bk.enters_of Try.func135 (by kernel_rfl)) ?_ ?_ ?_
  · intro E ρ F w argv ⟨K, hK⟩ H ha
    have hpre := preOf hK
    refine floydEO (us := ths) (N := N) mixed_ok (c := @baseG1) @baseG1_ok (x := extraG Try.prog) (fun {_} => extraG_ok _) Try.func135 bodyOk ths_ok (cuts := cuts) heads E (fun E' i k hk hz hfs hphi => ?_) (fs0 := fs0) ?_ (Owed.eq (@eS E) (runS E hpre)) ?_ H ha
    · match i, hk with
      | 0,hk => obtain rfl : cut0 = k := Option.some.inj (show some cut0 = some k from hk); exact Owed.eq (@e0 E') (run0 E E' hpre hz hfs hphi)
      | n + 1,hk => exact absurd hk (by simp [cuts])
    · intro b hb
      exact fs0_ok E hpre b hb
    · intro n hn
      exact hn
  · intro j en hj
    match j,hj with
    | 0,hj => obtain rfl : end0 = en := Option.some.inj (show some end0 = some en from hj); exact ⟨_,rfl,by kernel_rfl,by kernel_rfl,by kernel_rfl,by kernel_rfl,by kernel_rfl⟩
    | n + 1,hj => exact absurd hj (by simp [ends])
  · intro E E' j en hj hphi hz
    match j,hj with
    | 0,hj => obtain rfl : end0 = en := Option.some.inj (show some end0 = some en from hj); exact ⟨told0 E E' hphi hz,fun K hK => hK.2.2⟩
    | n + 1,hj => exact absurd hj (by simp [ends])
end CvA
def sumsG2 : List Summ := CvA.s0 :: sumsG1
theorem sumsG2_ok : ∀ σ ∈ sumsG2, σ.ok Try.prog := Bk.cc CvA.ok0 sumsG1_ok
namespace CvC
open Bk Sm
def args : List SV := [.w (.agg [xu 1100,xu 1101,xu 1102]), .w (.one (.b (.ref 210)))]
def heap : Heap Empty := [(210, .mach 2 (.latom 1100))]
def N : List Nat := [210]
noncomputable def root : Code := rootOf Try.f125
def I0 : SS Empty := (SS.mk [.unk,(.w (.one (.b (.ref 210)))),(.w (.one (.b (.ptr 131072 (.lit 0))))), .unk, .unk,(.w (.one (.b (.int .i64 (.atom 1500))))), .unk, .unk, .unk, .unk, .unk, .unk, .unk, .unk, .unk, .unk, .unk, .unk, .unk, .unk, .unk, .unk, .unk, .unk, .unk, .unk, .unk, .unk, .unk, .unk, .unk, .unk, .unk, .unk, .unk] [(210,(.mach 2 (.latom 1100))),(131072,(.cells 109 [(.b (.int .u64 (.atom 1100))),(.b (.int .u64 (.atom 1101))),(.b (.int .u64 (.atom 1102)))] 0))] 3)
def F0 : List BE := [.cmp .leq (.lit 0) (.atom 1500),cv6]
def cut0 : Cut := ⟨[0,1,0,1],I0,F0, [((.len (.latom 1100)),(.atom 1500))]⟩
def cuts : List Cut := [cut0]
def Z : Own := ⟨[1500,2600], []⟩
def T0a : List (Nat × IE) := [(2600, .cmpI .geq (.fn 60 (.consL (.atom 1101) (.consL (.atom 1102) (.latom 1100)))) (.lit 0))]
def T0l : List (Nat × IE) := []
def end0 : EndE := ⟨(.w (.one (.b (.bool (.atom 2600))))), [(210,(.mach 2 (.latom 1100)))],⟨T0a,T0l, []⟩⟩
def ends : List EndE := [end0]
def ths : Ths := []
theorem ths_ok : ThsOk ths := fun E t h _ => by cases h
def fs0 : List BE := [.cmp .leq (.len (.latom 1100)) (.lit 1073741824)]
def obS : List Ob := [(.at_ 0 [(1102,(.atom 1102)),(1101,(.atom 1101)),(1100,(.atom 1100)),(1500,(.lit 0))] [(1100,(.latom 1100))] [])]
theorem eS [Env] : oweStartE ths N Z ends Try.prog Try.f125 root baseG0 (extraG Try.prog) cuts fs0 args heap = obS := by kernel_rfl
def ob0 : List Ob := [(.at_ 100 [(2600,(.lit 1))] [(1100,(.latom 1100))] [(.cmp .leq cv5 (.atom 1102)),cv9,cv3,(.cmp .geq (.atom 1500) (.lit 0)),(.cmp .geq cv5 (.atom 1101)),cv9,cv3,(.cmp .geq (.atom 1500) (.lit 0)),(.cmp .neq cv5 (.lit 0)),cv9,cv3,(.cmp .geq (.atom 1500) (.lit 0)),cv3]),(.at_ 0 [(1102,(.atom 1102)),(1101,(.atom 1101)),(1100,(.atom 1100)),(1500,(.op .add .i64 (.atom 1500) (.lit 1)))] [(1100,(.latom 1100))] [(.cmp .lss (.atom 1102) cv5),cv9,cv3,(.cmp .geq (.atom 1500) (.lit 0)),(.cmp .geq cv5 (.atom 1101)),cv9,cv3,(.cmp .geq (.atom 1500) (.lit 0)),(.cmp .neq cv5 (.lit 0)),cv9,cv3,(.cmp .geq (.atom 1500) (.lit 0)),cv3]),(.at_ 0 [(1102,(.atom 1102)),(1101,(.atom 1101)),(1100,(.atom 1100)),(1500,(.op .add .i64 (.atom 1500) (.lit 1)))] [(1100,(.latom 1100))] [(.not (.cmp .geq cv5 (.atom 1101))),cv9,cv3,(.cmp .geq (.atom 1500) (.lit 0)),(.cmp .neq cv5 (.lit 0)),cv9,cv3,(.cmp .geq (.atom 1500) (.lit 0)),cv3]),(.at_ 0 [(1102,(.atom 1102)),(1101,(.atom 1101)),(1100,(.atom 1100)),(1500,(.op .add .i64 (.atom 1500) (.lit 1)))] [(1100,(.latom 1100))] [(.cmp .eql cv5 (.lit 0)),cv9,cv3,(.cmp .geq (.atom 1500) (.lit 0)),cv3]),(.at_ 100 [(2600,(.lit 0))] [(1100,(.latom 1100))] [(.cmp .leq (.len (.latom 1100)) (.atom 1500))])]
theorem e0 [Env] : oweAtE ths N Z ends Try.prog Try.f125 root baseG0 (extraG Try.prog) cuts cut0 = ob0 := by kernel_rfl
def tree0 : Tree (SV × Heap Empty) := (.req cv6 (.leaf (end0.sv.sub end0.T,subH end0.T end0.h)))
def Pre (E : Env) : Prop := @BE.val E cv6 = true
def Phi (E0 : Env) : Nat → Env → Prop
  | 0,E => ∃ n : Nat,E.i 1500 = n ∧ n ≤ (E0.l 1100).length ∧ idxF (E0.i 1101) (E0.i 1102) n ((E0.l 1100).drop n) = idxF (E0.i 1101) (E0.i 1102) 0 (E0.l 1100)
  | 100,E => E.i 2600 = ofB (decide (idxF (E0.i 1101) (E0.i 1102) 0 (E0.l 1100) ≥ 0))
  | _,_ => True
theorem runS (E : Env) (hpre : Pre E) : ObsOk E (Phi E) obS := ⟨fun _ => ⟨0,rfl,Nat.zero_le _,rfl⟩,trivial⟩
theorem run0 (E0 E : Env) (hpre : Pre E0) (hz : Z.of E0 E) (hfs : ∀ b ∈ cut0.fs, @BE.val E b = true) (hphi : Phi E0 0 E) : ObsOk E (Phi E0) ob0 := by
  have e1 : E.l 1100 = E0.l 1100 := hz.2.1 1100 rfl
  have e2 : E.i 1101 = E0.i 1101 := hz.1 1101 rfl
  have e3 : E.i 1102 = E0.i 1102 := hz.1 1102 rfl
  have hlen : ((E0.l 1100).length : Int) ≤ 1073741824 := of_decide_eq_true hpre
  obtain ⟨n,hn,hle,hi⟩ := hphi
  have hget : ((E.l 1100).getD ((((0 : Int).toNat + (E.i 1500).toNat * 1 + 0 : Nat) : Int).toNat + 0) 0) = (E0.l 1100).getD n 0 := by rw [atx1,e1,hn]; rfl
  have up : n < (E0.l 1100).length → IntKind.i64.wrap (E.i 1500 + 1) = ((n + 1 : Nat) : Int) := fun h => by rw [hn,up1 (by omega) (by omega)]; rfl
  have lt : E.i 1500 < ((E.l 1100).length : Int) → n < (E0.l 1100).length := fun h => by rw [hn,e1] at h; omega
  exact ⟨(fun hc => by
      have hl := lt (of_decide_eq_true hc.2.2.1)
      have c1 : ((E.l 1100).getD ((((0 : Int).toNat + (E.i 1500).toNat * 1 + 0 : Nat) : Int).toNat + 0) 0) ≠ 0 := bne_iff_ne.1 (show (((E.l 1100).getD ((((0 : Int).toNat + (E.i 1500).toNat * 1 + 0 : Nat) : Int).toNat + 0) 0) != 0) = true from hc.2.2.2.2.2.2.2.2.1)
      have c2 : ((E.l 1100).getD ((((0 : Int).toNat + (E.i 1500).toNat * 1 + 0 : Nat) : Int).toNat + 0) 0) ≥ E.i 1101 := of_decide_eq_true hc.2.2.2.2.1
      have c3 : ((E.l 1100).getD ((((0 : Int).toNat + (E.i 1500).toNat * 1 + 0 : Nat) : Int).toNat + 0) 0) ≤ E.i 1102 := of_decide_eq_true hc.1
      rw [hget] at c1 c2 c3
      rw [e2] at c2
      rw [e3] at c3
      show (1 : Int) = _
      rw [← hi,idx_step hl,if_pos ⟨c1,c2,c3⟩]
      have : decide ((n : Int) ≥ 0) = true := decide_eq_true (by omega)
      rw [this]; rfl),
    (fun hc => by
      have hl := lt (of_decide_eq_true hc.2.2.1)
      have c1 : E.i 1102 < ((E.l 1100).getD ((((0 : Int).toNat + (E.i 1500).toNat * 1 + 0 : Nat) : Int).toNat + 0) 0) := of_decide_eq_true hc.1
      rw [hget,e3] at c1
      have nc : ¬ covF (E0.i 1101) (E0.i 1102) ((E0.l 1100).getD n 0) := fun q => by have := q.2.2; omega
      refine ⟨n + 1,up hl,by omega, ?_⟩
      rw [← hi,idx_step hl,if_neg nc]),
    (fun hc => by
      have hl := lt (of_decide_eq_true hc.2.2.1)
      have c1 : (!decide (((E.l 1100).getD ((((0 : Int).toNat + (E.i 1500).toNat * 1 + 0 : Nat) : Int).toNat + 0) 0) ≥ E.i 1101)) = true := hc.1
      rw [hget,e2] at c1
      have nc : ¬ covF (E0.i 1101) (E0.i 1102) ((E0.l 1100).getD n 0) := fun q => by rw [decide_eq_true q.2.1] at c1; cases c1
      refine ⟨n + 1,up hl,by omega, ?_⟩
      rw [← hi,idx_step hl,if_neg nc]),
    (fun hc => by
      have hl := lt (of_decide_eq_true hc.2.2.1)
      have c1 : ((E.l 1100).getD ((((0 : Int).toNat + (E.i 1500).toNat * 1 + 0 : Nat) : Int).toNat + 0) 0) = 0 := eq_of_beq (show (((E.l 1100).getD ((((0 : Int).toNat + (E.i 1500).toNat * 1 + 0 : Nat) : Int).toNat + 0) 0) == 0) = true from hc.1)
      rw [hget] at c1
      have nc : ¬ covF (E0.i 1101) (E0.i 1102) ((E0.l 1100).getD n 0) := fun q => q.1 c1
      refine ⟨n + 1,up hl,by omega, ?_⟩
      rw [← hi,idx_step hl,if_neg nc]),
    (fun hc => by
      have hge : ((E.l 1100).length : Int) ≤ E.i 1500 := of_decide_eq_true hc.1
      rw [hn,e1] at hge
      show (0 : Int) = _
      rw [← hi,idx_end (by omega)]; rfl),
    trivial⟩
theorem told0 (E0 E : Env) (hphi : Phi E0 100 E) (hz : Z.of E0 E) : ToldE end0.T E0 E := ⟨lk_all ⟨hphi,trivial⟩,lk_all trivial⟩
theorem fs0_ok (E : Env) (hpre : Pre E) : ∀ b ∈ fs0, @BE.val E b = true := by
  intro b hb
  simp only [fs0,List.mem_cons,List.not_mem_nil,or_false] at hb
  subst hb
  exact hpre
theorem heads : (cuts.all fun k => isLoop (subAt root k.p) && Nat.ble k.ms.length 9) = true := by kernel_rfl
theorem bodyOk : Try.f125.body = some root := by kernel_rfl
def s0 : Summ := ⟨125,args,heap,tree0⟩
theorem preOf {E : Env} {K : SV × Heap Empty → Prop} (hK : @Tree.holds E _ K tree0) : Pre E := hK.1
theorem ok0 : s0.ok Try.prog := by
  refine Summ.loop (Z := Z) (ends := ends) (Φ := Phi) [⟨[1500], []⟩] (Bk.enters_of Try.func125 (by kernel_rfl)) ?_ ?_ ?_
  · intro E ρ F w argv ⟨K, hK⟩ H ha
    have hpre := preOf hK
    refine floydEO (us := ths) (N := N) mixed_ok (c := @baseG0) @baseG0_ok (x := extraG Try.prog) (fun {_} => extraG_ok _) Try.func125 bodyOk ths_ok (cuts := cuts) heads E (fun E' i k hk hz hfs hphi => ?_) (fs0 := fs0) ?_ (Owed.eq (@eS E) (runS E hpre)) ?_ H ha
    · match i, hk with
      | 0,hk => obtain rfl : cut0 = k := Option.some.inj (show some cut0 = some k from hk); exact Owed.eq (@e0 E') (run0 E E' hpre hz hfs hphi)
      | n + 1,hk => exact absurd hk (by simp [cuts])
    · intro b hb
      exact fs0_ok E hpre b hb
    · intro n hn
      exact hn
  · intro j en hj
    match j,hj with
    | 0,hj => obtain rfl : end0 = en := Option.some.inj (show some end0 = some en from hj); exact ⟨_,rfl,by kernel_rfl,by kernel_rfl,by kernel_rfl,by kernel_rfl,by kernel_rfl⟩
    | n + 1,hj => exact absurd hj (by simp [ends])
  · intro E E' j en hj hphi hz
    match j,hj with
    | 0,hj => obtain rfl : end0 = en := Option.some.inj (show some end0 = some en from hj); exact ⟨told0 E E' hphi hz,fun K hK => hK.2⟩
    | n + 1,hj => exact absurd hj (by simp [ends])
end CvC
def sumsG3 : List Summ := CvC.s0 :: sumsG2
theorem sumsG3_ok : ∀ σ ∈ sumsG3, σ.ok Try.prog := Bk.cc CvC.ok0 sumsG2_ok
noncomputable def baseG3 [Env] : CallF Empty := callF Try.prog (withS sumsG3 sums3) (extraG Try.prog) noL 100 50
theorem baseG3_ok [Env] : CallOk Try.prog baseG3 := callF_ok ⟨mixed_ok,(withS_ok sumsG3_ok sums3_ok).2,names_ok,(withS_ok sumsG3_ok sums3_ok).1,extraG_ok _,fun _ _ _ _ _ _ _ _ _ _ _ _ _ _ _ _ h => (by cases h)⟩ 100 50
namespace CvD
open Bk Sm
def args : List SV := [.w (.one (.b (.ref 216))), .w (.one (.b (.ref 210))), .w (.one (.b (.bool (.lit true))))]
def heap : Heap Empty := [(210, .mach 2 (.latom 1100)),(216, .mach 4 (.latom 1101))]
def N : List Nat := [210,216]
noncomputable def root : Code := rootOf Try.f98
def I0 : SS Empty := (SS.mk [(.w (.one (.b (.ref 216)))),(.w (.one (.b (.ref 210)))),(.w (.one (.b (.bool (.lit true))))), .unk, .unk, .unk, .unk,(.w (.one (.b (.ref 131074)))),(.w (.one (.b (.int .i64 (.atom 1500))))), .unk, .unk, .unk, .unk, .unk, .unk, .unk, .unk, .unk, .unk, .unk, .unk, .unk, .unk, .unk, .unk, .unk, .unk, .unk, .unk, .unk, .unk] [(216,(.mach 4 (.latom 1101))),(210,(.mach 2 (.latom 1100))),(131074,(.mach 4 (.latom 1501)))] 3)
def F0 : List BE := [.cmp .leq (.lit 0) (.atom 1500),cv6,cv10]
def cut0 : Cut := ⟨[0,1,0,1,1],I0,F0, [(cv0,(.atom 1500))]⟩
def cuts : List Cut := [cut0]
def Z : Own := ⟨[1500], [1501]⟩
def T0a : List (Nat × IE) := []
def T0l : List (Nat × IE) := [(1501, .fnL 3 XK)]
def end0 : EndE := ⟨(.w (.one (.b (.ref 131074)))), [(216,(.mach 4 (.latom 1101))),(210,(.mach 2 (.latom 1100))),(131074,(.mach 4 (.latom 1501)))],⟨T0a,T0l, []⟩⟩
def ends : List EndE := [end0]
def ths : Ths := []
theorem ths_ok : ThsOk ths := fun E t h _ => by cases h
def fs0 : List BE := [.cmp .leq (.len (.latom 1100)) (.lit 1073741824), .cmp .leq (.len (.latom 1101)) (.lit 300000000)]
def obS : List Ob := [(.at_ 0 [(1500,(.lit 0))] [(1501, .nilL),(1100,(.latom 1100)),(1101,(.latom 1101))] [])]
theorem eS [Env] : oweStartE ths N Z ends Try.prog Try.f98 root baseG3 (extraG Try.prog) cuts fs0 args heap = obS := by kernel_rfl
def ob0 : List Ob := [(.less [(cv0,(.atom 1500))] [(cv0,(.op .add .i64 (.atom 1500) (.lit 1)))] [cv7,cv2,(.cmp .lss (.atom 1500) cv0),(.cmp .geq (.atom 1500) (.lit 0)),(.cmp .leq (.lit 0) cv1),cv2,(.cmp .lss (.atom 1500) cv0),(.cmp .geq (.atom 1500) (.lit 0)),(.cmp .lss (.atom 1500) cv0)]),(.need (.cmp .leq (.lit 0) (.op .add .i64 (.atom 1500) (.lit 1))) [cv7,cv2,(.cmp .lss (.atom 1500) cv0),(.cmp .geq (.atom 1500) (.lit 0)),(.cmp .leq (.lit 0) cv1),cv2,(.cmp .lss (.atom 1500) cv0),(.cmp .geq (.atom 1500) (.lit 0)),(.cmp .lss (.atom 1500) cv0)]),(.at_ 0 [(1500,(.op .add .i64 (.atom 1500) (.lit 1)))] [(1501,(.catL (.latom 1501) (.consL (.get (.latom 1101) (.at_ (.lit 0) (.atom 1500) 3 0) 0) (.consL (.get (.latom 1101) (.at_ (.lit 0) (.atom 1500) 3 0) 1) (.consL (.get (.latom 1101) (.at_ (.lit 0) (.atom 1500) 3 0) 2) .nilL))))),(1100,(.latom 1100)),(1101,(.latom 1101))] [cv7,cv2,(.cmp .lss (.atom 1500) cv0),(.cmp .geq (.atom 1500) (.lit 0)),(.cmp .leq (.lit 0) cv1),cv2,(.cmp .lss (.atom 1500) cv0),(.cmp .geq (.atom 1500) (.lit 0)),(.cmp .lss (.atom 1500) cv0)]),(.bad 320 [(.cmp .lss (.lit 8796093022208) (.at_ (.fn 50 (.consL (.len (.latom 1501)) (.consL (.lit 3) .nilL))) (.lit 1) 1 0)),cv2,(.cmp .lss (.atom 1500) cv0),(.cmp .geq (.atom 1500) (.lit 0)),(.cmp .leq (.lit 0) cv1),cv2,(.cmp .lss (.atom 1500) cv0),(.cmp .geq (.atom 1500) (.lit 0)),(.cmp .lss (.atom 1500) cv0)]),(.less [(cv0,(.atom 1500))] [(cv0,(.op .add .i64 (.atom 1500) (.lit 1)))] [(.cmp .lss cv1 (.lit 0)),cv2,(.cmp .lss (.atom 1500) cv0),(.cmp .geq (.atom 1500) (.lit 0)),(.cmp .lss (.atom 1500) cv0)]),(.need (.cmp .leq (.lit 0) (.op .add .i64 (.atom 1500) (.lit 1))) [(.cmp .lss cv1 (.lit 0)),cv2,(.cmp .lss (.atom 1500) cv0),(.cmp .geq (.atom 1500) (.lit 0)),(.cmp .lss (.atom 1500) cv0)]),(.at_ 0 [(1500,(.op .add .i64 (.atom 1500) (.lit 1)))] [(1501,(.latom 1501)),(1100,(.latom 1100)),(1101,(.latom 1101))] [(.cmp .lss cv1 (.lit 0)),cv2,(.cmp .lss (.atom 1500) cv0),(.cmp .geq (.atom 1500) (.lit 0)),(.cmp .lss (.atom 1500) cv0)]),(.at_ 100 [] [(1501,(.latom 1501)),(1100,(.latom 1100)),(1101,(.latom 1101))] [(.cmp .leq cv0 (.atom 1500))])]
theorem e0 [Env] : oweAtE ths N Z ends Try.prog Try.f98 root baseG3 (extraG Try.prog) cuts cut0 = ob0 := by kernel_rfl
def tree0 : Tree (SV × Heap Empty) := (.req cv6 (.req cv10 (.leaf (end0.sv.sub end0.T,subH end0.T end0.h))))
def Pre (E : Env) : Prop := @BE.val E cv6 = true ∧ @BE.val E cv10 = true
def Phi (E0 : Env) : Nat → Env → Prop
  | 0,E => ∃ n : Nat,E.i 1500 = n ∧ 3 * n ≤ (E0.l 1101).length ∧ E.l 1501 = splitF true (E0.l 1100) ((E0.l 1101).take (3 * n))
  | 100,E => E.l 1501 = splitF true (E0.l 1100) (E0.l 1101)
  | _,_ => True
theorem runS (E : Env) (hpre : Pre E) : ObsOk E (Phi E) obS := ⟨fun _ => ⟨0,rfl,Nat.zero_le _,rfl⟩,trivial⟩
theorem run0 (E0 E : Env) (hpre : Pre E0) (hz : Z.of E0 E) (hfs : ∀ b ∈ cut0.fs, @BE.val E b = true) (hphi : Phi E0 0 E) : ObsOk E (Phi E0) ob0 := by
  obtain ⟨n,hn,hle,h1501⟩ := hphi
  have e1 : E.l 1100 = E0.l 1100 := hz.2.1 1100 rfl
  have e2 : E.l 1101 = E0.l 1101 := hz.2.1 1101 rfl
  have hb : ((E0.l 1101).length : Int) ≤ 300000000 := of_decide_eq_true hpre.2
  have hv : ((E.l 1101).length : Int) / 3 = (((E0.l 1101).length / 3 : Nat) : Int) := by rw [e2,div3]
  have lt : E.i 1500 < ((E.l 1101).length : Int) / 3 → 3 * n + 3 ≤ (E0.l 1101).length := fun h => by rw [hn,hv] at h; omega
  have up : 3 * n + 3 ≤ (E0.l 1101).length → IntKind.i64.wrap (E.i 1500 + 1) = ((n + 1 : Nat) : Int) := fun h => by rw [hn,up1 (by omega) (by omega)]; rfl
  have hg : ∀ k : Nat,(E.l 1101).getD ((((0 : Int).toNat + (E.i 1500).toNat * 3 + 0 : Nat) : Int).toNat + k) 0 = (E0.l 1101).getD (3 * n + k) 0 := fun k => by rw [atx3,e2,hn]; rfl
  have bl1501 : (E.l 1501).length ≤ 300000000 := by
    rw [h1501]
    have q := splitF_len (is := true) (S := E0.l 1100) ((E0.l 1101).take (3 * n))
    rw [List.length_take] at q
    omega
  exact ⟨(fun hc => have hl := lt (of_decide_eq_true hc.2.2.1); .inl (show (((E.l 1101).length : Int) / 3 - IntKind.i64.wrap (E.i 1500 + 1)).toNat < (((E.l 1101).length : Int) / 3 - E.i 1500).toNat by rw [up hl, hv, hn]; omega)),
    (fun hc => have hl := lt (of_decide_eq_true hc.2.2.1); decide_eq_true (show (0 : Int) ≤ IntKind.i64.wrap (E.i 1500 + 1) by rw [up hl]; omega)),
    (fun hc => by
      have hl := lt (of_decide_eq_true hc.2.2.1)
      have hcv : idxF ((E.l 1101).getD ((((0 : Int).toNat + (E.i 1500).toNat * 3 + 0 : Nat) : Int).toNat + 1) 0) ((E.l 1101).getD ((((0 : Int).toNat + (E.i 1500).toNat * 3 + 0 : Nat) : Int).toNat + 2) 0) 0 (E.l 1100) ≥ 0 := (show (0 : Int) ≤ idxF ((E.l 1101).getD ((((0 : Int).toNat + (E.i 1500).toNat * 3 + 0 : Nat) : Int).toNat + 1) 0) ((E.l 1101).getD ((((0 : Int).toNat + (E.i 1500).toNat * 3 + 0 : Nat) : Int).toNat + 2) 0) 0 (E.l 1100) from of_decide_eq_true hc.2.2.2.2.1)
      rw [hg 1,hg 2,e1] at hcv
      refine ⟨n + 1,up hl,by omega, ?_⟩
      · exact (by
        show E.l 1501 ++ [((E.l 1101).getD ((((0 : Int).toNat + (E.i 1500).toNat * 3 + 0 : Nat) : Int).toNat + 0) 0),((E.l 1101).getD ((((0 : Int).toNat + (E.i 1500).toNat * 3 + 0 : Nat) : Int).toNat + 1) 0),((E.l 1101).getD ((((0 : Int).toNat + (E.i 1500).toNat * 3 + 0 : Nat) : Int).toNat + 2) 0)] = _
        rw [splitF_step hl,h1501,hg 0,hg 1,hg 2]
        congr 1
        rw [if_pos (decide_eq_true hcv)]; rfl)),
    (fun hc => by
      have h9 : (8796093022208 : Int) < (((((E.l 1501).length : Int) / 3).toNat + (1 : Int).toNat * 1 + 0 : Nat) : Int) := of_decide_eq_true hc.1
      have h8 := bl1501
      have h7 : (1 : Int).toNat = 1 := rfl
      rw [h7] at h9
      omega),
    (fun hc => have hl := lt (of_decide_eq_true hc.2.2.1); .inl (show (((E.l 1101).length : Int) / 3 - IntKind.i64.wrap (E.i 1500 + 1)).toNat < (((E.l 1101).length : Int) / 3 - E.i 1500).toNat by rw [up hl,hv,hn]; omega)),
    (fun hc => have hl := lt (of_decide_eq_true hc.2.2.1); decide_eq_true (show (0 : Int) ≤ IntKind.i64.wrap (E.i 1500 + 1) by rw [up hl]; omega)),
    (fun hc => by
      have hl := lt (of_decide_eq_true hc.2.2.1)
      have hcv : ¬ (idxF ((E.l 1101).getD ((((0 : Int).toNat + (E.i 1500).toNat * 3 + 0 : Nat) : Int).toNat + 1) 0) ((E.l 1101).getD ((((0 : Int).toNat + (E.i 1500).toNat * 3 + 0 : Nat) : Int).toNat + 2) 0) 0 (E.l 1100) ≥ 0) := fun q => absurd (show (idxF ((E.l 1101).getD ((((0 : Int).toNat + (E.i 1500).toNat * 3 + 0 : Nat) : Int).toNat + 1) 0) ((E.l 1101).getD ((((0 : Int).toNat + (E.i 1500).toNat * 3 + 0 : Nat) : Int).toNat + 2) 0) 0 (E.l 1100) < 0) from of_decide_eq_true hc.1) (by omega)
      rw [hg 1,hg 2,e1] at hcv
      refine ⟨n + 1,up hl,by omega, ?_⟩
      · exact (by
        show E.l 1501 = _
        rw [splitF_step hl,h1501,if_neg (by rw [decide_eq_false hcv]; decide),List.append_nil])),
    (fun hc => by
      have hge : ((E.l 1101).length : Int) / 3 ≤ E.i 1500 := of_decide_eq_true hc.1
      rw [hn,hv] at hge
      have e3 : 3 * n = 3 * ((E0.l 1101).length / 3) := by omega
      exact (show E.l 1501 = _ by rw [h1501,e3,splitF_trim])),
    trivial⟩
theorem told0 (E0 E : Env) (hphi : Phi E0 100 E) (hz : Z.of E0 E) : ToldE end0.T E0 E := ⟨lk_all trivial,lk_all ⟨(hphi).trans (tk_3 E0),trivial⟩⟩
theorem fs0_ok (E : Env) (hpre : Pre E) : ∀ b ∈ fs0, @BE.val E b = true := by
  intro b hb
  simp only [fs0,List.mem_cons,List.not_mem_nil,or_false] at hb
  rcases hb with rfl | rfl
  · exact hpre.1
  · exact hpre.2
theorem heads : (cuts.all fun k => isLoop (subAt root k.p) && Nat.ble k.ms.length 9) = true := by kernel_rfl
theorem bodyOk : Try.f98.body = some root := by kernel_rfl
def s0 : Summ := ⟨98,args,heap,tree0⟩
theorem preOf {E : Env} {K : SV × Heap Empty → Prop} (hK : @Tree.holds E _ K tree0) : Pre E := ⟨hK.1,hK.2.1⟩
theorem ok0 : s0.ok Try.prog := by
  refine Summ.loop (Z := Z) (ends := ends) (Φ := Phi) [⟨[1500], []⟩] (Bk.enters_of Try.func98 (by kernel_rfl)) ?_ ?_ ?_
  · intro E ρ F w argv ⟨K, hK⟩ H ha
    have hpre := preOf hK
    refine floydEO (us := ths) (N := N) mixed_ok (c := @baseG3) @baseG3_ok (x := extraG Try.prog) (fun {_} => extraG_ok _) Try.func98 bodyOk ths_ok (cuts := cuts) heads E (fun E' i k hk hz hfs hphi => ?_) (fs0 := fs0) ?_ (Owed.eq (@eS E) (runS E hpre)) ?_ H ha
    · match i, hk with
      | 0,hk => obtain rfl : cut0 = k := Option.some.inj (show some cut0 = some k from hk); exact Owed.eq (@e0 E') (run0 E E' hpre hz hfs hphi)
      | n + 1,hk => exact absurd hk (by simp [cuts])
    · intro b hb
      exact fs0_ok E hpre b hb
    · intro n hn
      exact hn
  · intro j en hj
    match j,hj with
    | 0,hj => obtain rfl : end0 = en := Option.some.inj (show some end0 = some en from hj); exact ⟨_,rfl,by kernel_rfl,by kernel_rfl,by kernel_rfl,by kernel_rfl,by kernel_rfl⟩
    | n + 1,hj => exact absurd hj (by simp [ends])
  · intro E E' j en hj hphi hz
    match j,hj with
    | 0,hj => obtain rfl : end0 = en := Option.some.inj (show some end0 = some en from hj); exact ⟨told0 E E' hphi hz,fun K hK => hK.2.2⟩
    | n + 1,hj => exact absurd hj (by simp [ends])
end CvD
namespace CvE
open Bk Sm
def args : List SV := [.w (.one (.b (.ref 216))), .w (.one (.b (.ref 210))), .w (.one (.b (.bool (.lit false))))]
def heap : Heap Empty := [(210, .mach 2 (.latom 1100)),(216, .mach 4 (.latom 1101))]
def N : List Nat := [210,216]
noncomputable def root : Code := rootOf Try.f98
def I0 : SS Empty := (SS.mk [(.w (.one (.b (.ref 216)))),(.w (.one (.b (.ref 210)))),(.w (.one (.b (.bool (.lit false))))), .unk, .unk, .unk, .unk,(.w (.one (.b (.ref 131074)))),(.w (.one (.b (.int .i64 (.atom 1500))))), .unk, .unk, .unk, .unk, .unk, .unk, .unk, .unk, .unk, .unk, .unk, .unk, .unk, .unk, .unk, .unk, .unk, .unk, .unk, .unk, .unk, .unk] [(216,(.mach 4 (.latom 1101))),(210,(.mach 2 (.latom 1100))),(131074,(.mach 4 (.latom 1501)))] 3)
def F0 : List BE := [.cmp .leq (.lit 0) (.atom 1500),cv6,cv10]
def cut0 : Cut := ⟨[0,1,0,1,1],I0,F0, [(cv0,(.atom 1500))]⟩
def cuts : List Cut := [cut0]
def Z : Own := ⟨[1500], [1501]⟩
def T0a : List (Nat × IE) := []
def T0l : List (Nat × IE) := [(1501, .fnL 4 XK)]
def end0 : EndE := ⟨(.w (.one (.b (.ref 131074)))), [(216,(.mach 4 (.latom 1101))),(210,(.mach 2 (.latom 1100))),(131074,(.mach 4 (.latom 1501)))],⟨T0a,T0l, []⟩⟩
def ends : List EndE := [end0]
def ths : Ths := []
theorem ths_ok : ThsOk ths := fun E t h _ => by cases h
def fs0 : List BE := [.cmp .leq (.len (.latom 1100)) (.lit 1073741824), .cmp .leq (.len (.latom 1101)) (.lit 300000000)]
def obS : List Ob := [(.at_ 0 [(1500,(.lit 0))] [(1501, .nilL),(1100,(.latom 1100)),(1101,(.latom 1101))] [])]
theorem eS [Env] : oweStartE ths N Z ends Try.prog Try.f98 root baseG3 (extraG Try.prog) cuts fs0 args heap = obS := by kernel_rfl
def ob0 : List Ob := [(.less [(cv0,(.atom 1500))] [(cv0,(.op .add .i64 (.atom 1500) (.lit 1)))] [cv7,cv2,(.cmp .lss (.atom 1500) cv0),(.cmp .geq (.atom 1500) (.lit 0)),(.not (.cmp .leq (.lit 0) cv1)),cv2,(.cmp .lss (.atom 1500) cv0),(.cmp .geq (.atom 1500) (.lit 0)),(.cmp .lss (.atom 1500) cv0)]),(.need (.cmp .leq (.lit 0) (.op .add .i64 (.atom 1500) (.lit 1))) [cv7,cv2,(.cmp .lss (.atom 1500) cv0),(.cmp .geq (.atom 1500) (.lit 0)),(.not (.cmp .leq (.lit 0) cv1)),cv2,(.cmp .lss (.atom 1500) cv0),(.cmp .geq (.atom 1500) (.lit 0)),(.cmp .lss (.atom 1500) cv0)]),(.at_ 0 [(1500,(.op .add .i64 (.atom 1500) (.lit 1)))] [(1501,(.catL (.latom 1501) (.consL (.get (.latom 1101) (.at_ (.lit 0) (.atom 1500) 3 0) 0) (.consL (.get (.latom 1101) (.at_ (.lit 0) (.atom 1500) 3 0) 1) (.consL (.get (.latom 1101) (.at_ (.lit 0) (.atom 1500) 3 0) 2) .nilL))))),(1100,(.latom 1100)),(1101,(.latom 1101))] [cv7,cv2,(.cmp .lss (.atom 1500) cv0),(.cmp .geq (.atom 1500) (.lit 0)),(.not (.cmp .leq (.lit 0) cv1)),cv2,(.cmp .lss (.atom 1500) cv0),(.cmp .geq (.atom 1500) (.lit 0)),(.cmp .lss (.atom 1500) cv0)]),(.bad 320 [(.cmp .lss (.lit 8796093022208) (.at_ (.fn 50 (.consL (.len (.latom 1501)) (.consL (.lit 3) .nilL))) (.lit 1) 1 0)),cv2,(.cmp .lss (.atom 1500) cv0),(.cmp .geq (.atom 1500) (.lit 0)),(.not (.cmp .leq (.lit 0) cv1)),cv2,(.cmp .lss (.atom 1500) cv0),(.cmp .geq (.atom 1500) (.lit 0)),(.cmp .lss (.atom 1500) cv0)]),(.less [(cv0,(.atom 1500))] [(cv0,(.op .add .i64 (.atom 1500) (.lit 1)))] [(.cmp .leq (.lit 0) cv1),cv2,(.cmp .lss (.atom 1500) cv0),(.cmp .geq (.atom 1500) (.lit 0)),(.cmp .lss (.atom 1500) cv0)]),(.need (.cmp .leq (.lit 0) (.op .add .i64 (.atom 1500) (.lit 1))) [(.cmp .leq (.lit 0) cv1),cv2,(.cmp .lss (.atom 1500) cv0),(.cmp .geq (.atom 1500) (.lit 0)),(.cmp .lss (.atom 1500) cv0)]),(.at_ 0 [(1500,(.op .add .i64 (.atom 1500) (.lit 1)))] [(1501,(.latom 1501)),(1100,(.latom 1100)),(1101,(.latom 1101))] [(.cmp .leq (.lit 0) cv1),cv2,(.cmp .lss (.atom 1500) cv0),(.cmp .geq (.atom 1500) (.lit 0)),(.cmp .lss (.atom 1500) cv0)]),(.at_ 100 [] [(1501,(.latom 1501)),(1100,(.latom 1100)),(1101,(.latom 1101))] [(.cmp .leq cv0 (.atom 1500))])]
theorem e0 [Env] : oweAtE ths N Z ends Try.prog Try.f98 root baseG3 (extraG Try.prog) cuts cut0 = ob0 := by kernel_rfl
def tree0 : Tree (SV × Heap Empty) := (.req cv6 (.req cv10 (.leaf (end0.sv.sub end0.T,subH end0.T end0.h))))
def Pre (E : Env) : Prop := @BE.val E cv6 = true ∧ @BE.val E cv10 = true
def Phi (E0 : Env) : Nat → Env → Prop
  | 0,E => ∃ n : Nat,E.i 1500 = n ∧ 3 * n ≤ (E0.l 1101).length ∧ E.l 1501 = splitF false (E0.l 1100) ((E0.l 1101).take (3 * n))
  | 100,E => E.l 1501 = splitF false (E0.l 1100) (E0.l 1101)
  | _,_ => True
theorem runS (E : Env) (hpre : Pre E) : ObsOk E (Phi E) obS := ⟨fun _ => ⟨0,rfl,Nat.zero_le _,rfl⟩,trivial⟩
theorem run0 (E0 E : Env) (hpre : Pre E0) (hz : Z.of E0 E) (hfs : ∀ b ∈ cut0.fs, @BE.val E b = true) (hphi : Phi E0 0 E) : ObsOk E (Phi E0) ob0 := by
  obtain ⟨n,hn,hle,h1501⟩ := hphi
  have e1 : E.l 1100 = E0.l 1100 := hz.2.1 1100 rfl
  have e2 : E.l 1101 = E0.l 1101 := hz.2.1 1101 rfl
  have hb : ((E0.l 1101).length : Int) ≤ 300000000 := of_decide_eq_true hpre.2
  have hv : ((E.l 1101).length : Int) / 3 = (((E0.l 1101).length / 3 : Nat) : Int) := by rw [e2,div3]
  have lt : E.i 1500 < ((E.l 1101).length : Int) / 3 → 3 * n + 3 ≤ (E0.l 1101).length := fun h => by rw [hn,hv] at h; omega
  have up : 3 * n + 3 ≤ (E0.l 1101).length → IntKind.i64.wrap (E.i 1500 + 1) = ((n + 1 : Nat) : Int) := fun h => by rw [hn,up1 (by omega) (by omega)]; rfl
  have hg : ∀ k : Nat,(E.l 1101).getD ((((0 : Int).toNat + (E.i 1500).toNat * 3 + 0 : Nat) : Int).toNat + k) 0 = (E0.l 1101).getD (3 * n + k) 0 := fun k => by rw [atx3,e2,hn]; rfl
  have bl1501 : (E.l 1501).length ≤ 300000000 := by
    rw [h1501]
    have q := splitF_len (is := false) (S := E0.l 1100) ((E0.l 1101).take (3 * n))
    rw [List.length_take] at q
    omega
  exact ⟨(fun hc => have hl := lt (of_decide_eq_true hc.2.2.1); .inl (show (((E.l 1101).length : Int) / 3 - IntKind.i64.wrap (E.i 1500 + 1)).toNat < (((E.l 1101).length : Int) / 3 - E.i 1500).toNat by rw [up hl, hv, hn]; omega)),
    (fun hc => have hl := lt (of_decide_eq_true hc.2.2.1); decide_eq_true (show (0 : Int) ≤ IntKind.i64.wrap (E.i 1500 + 1) by rw [up hl]; omega)),
    (fun hc => by
      have hl := lt (of_decide_eq_true hc.2.2.1)
      have hcv : ¬ (idxF ((E.l 1101).getD ((((0 : Int).toNat + (E.i 1500).toNat * 3 + 0 : Nat) : Int).toNat + 1) 0) ((E.l 1101).getD ((((0 : Int).toNat + (E.i 1500).toNat * 3 + 0 : Nat) : Int).toNat + 2) 0) 0 (E.l 1100) ≥ 0) := fun q => by have q2 : (!decide ((0 : Int) ≤ idxF ((E.l 1101).getD ((((0 : Int).toNat + (E.i 1500).toNat * 3 + 0 : Nat) : Int).toNat + 1) 0) ((E.l 1101).getD ((((0 : Int).toNat + (E.i 1500).toNat * 3 + 0 : Nat) : Int).toNat + 2) 0) 0 (E.l 1100))) = true := hc.2.2.2.2.1; rw [decide_eq_true (show (0 : Int) ≤ idxF ((E.l 1101).getD ((((0 : Int).toNat + (E.i 1500).toNat * 3 + 0 : Nat) : Int).toNat + 1) 0) ((E.l 1101).getD ((((0 : Int).toNat + (E.i 1500).toNat * 3 + 0 : Nat) : Int).toNat + 2) 0) 0 (E.l 1100) from q)] at q2; cases q2
      rw [hg 1,hg 2,e1] at hcv
      refine ⟨n + 1,up hl,by omega, ?_⟩
      · exact (by
        show E.l 1501 ++ [((E.l 1101).getD ((((0 : Int).toNat + (E.i 1500).toNat * 3 + 0 : Nat) : Int).toNat + 0) 0),((E.l 1101).getD ((((0 : Int).toNat + (E.i 1500).toNat * 3 + 0 : Nat) : Int).toNat + 1) 0),((E.l 1101).getD ((((0 : Int).toNat + (E.i 1500).toNat * 3 + 0 : Nat) : Int).toNat + 2) 0)] = _
        rw [splitF_step hl,h1501,hg 0,hg 1,hg 2]
        congr 1
        rw [if_pos (decide_eq_false hcv)]; rfl)),
    (fun hc => by
      have h9 : (8796093022208 : Int) < (((((E.l 1501).length : Int) / 3).toNat + (1 : Int).toNat * 1 + 0 : Nat) : Int) := of_decide_eq_true hc.1
      have h8 := bl1501
      have h7 : (1 : Int).toNat = 1 := rfl
      rw [h7] at h9
      omega),
    (fun hc => have hl := lt (of_decide_eq_true hc.2.2.1); .inl (show (((E.l 1101).length : Int) / 3 - IntKind.i64.wrap (E.i 1500 + 1)).toNat < (((E.l 1101).length : Int) / 3 - E.i 1500).toNat by rw [up hl,hv,hn]; omega)),
    (fun hc => have hl := lt (of_decide_eq_true hc.2.2.1); decide_eq_true (show (0 : Int) ≤ IntKind.i64.wrap (E.i 1500 + 1) by rw [up hl]; omega)),
    (fun hc => by
      have hl := lt (of_decide_eq_true hc.2.2.1)
      have hcv : idxF ((E.l 1101).getD ((((0 : Int).toNat + (E.i 1500).toNat * 3 + 0 : Nat) : Int).toNat + 1) 0) ((E.l 1101).getD ((((0 : Int).toNat + (E.i 1500).toNat * 3 + 0 : Nat) : Int).toNat + 2) 0) 0 (E.l 1100) ≥ 0 := (show (0 : Int) ≤ idxF ((E.l 1101).getD ((((0 : Int).toNat + (E.i 1500).toNat * 3 + 0 : Nat) : Int).toNat + 1) 0) ((E.l 1101).getD ((((0 : Int).toNat + (E.i 1500).toNat * 3 + 0 : Nat) : Int).toNat + 2) 0) 0 (E.l 1100) from of_decide_eq_true hc.1)
      rw [hg 1,hg 2,e1] at hcv
      refine ⟨n + 1,up hl,by omega, ?_⟩
      · exact (by
        show E.l 1501 = _
        rw [splitF_step hl,h1501,if_neg (by rw [decide_eq_true hcv]; decide),List.append_nil])),
    (fun hc => by
      have hge : ((E.l 1101).length : Int) / 3 ≤ E.i 1500 := of_decide_eq_true hc.1
      rw [hn,hv] at hge
      have e3 : 3 * n = 3 * ((E0.l 1101).length / 3) := by omega
      exact (show E.l 1501 = _ by rw [h1501,e3,splitF_trim])),
    trivial⟩
theorem told0 (E0 E : Env) (hphi : Phi E0 100 E) (hz : Z.of E0 E) : ToldE end0.T E0 E := ⟨lk_all trivial,lk_all ⟨(hphi).trans (tk_4 E0),trivial⟩⟩
theorem fs0_ok (E : Env) (hpre : Pre E) : ∀ b ∈ fs0, @BE.val E b = true := by
  intro b hb
  simp only [fs0,List.mem_cons,List.not_mem_nil,or_false] at hb
  rcases hb with rfl | rfl
  · exact hpre.1
  · exact hpre.2
theorem heads : (cuts.all fun k => isLoop (subAt root k.p) && Nat.ble k.ms.length 9) = true := by kernel_rfl
theorem bodyOk : Try.f98.body = some root := by kernel_rfl
def s0 : Summ := ⟨98,args,heap,tree0⟩
theorem preOf {E : Env} {K : SV × Heap Empty → Prop} (hK : @Tree.holds E _ K tree0) : Pre E := ⟨hK.1,hK.2.1⟩
theorem ok0 : s0.ok Try.prog := by
  refine Summ.loop (Z := Z) (ends := ends) (Φ := Phi) [⟨[1500], []⟩] (Bk.enters_of Try.func98 (by kernel_rfl)) ?_ ?_ ?_
  · intro E ρ F w argv ⟨K, hK⟩ H ha
    have hpre := preOf hK
    refine floydEO (us := ths) (N := N) mixed_ok (c := @baseG3) @baseG3_ok (x := extraG Try.prog) (fun {_} => extraG_ok _) Try.func98 bodyOk ths_ok (cuts := cuts) heads E (fun E' i k hk hz hfs hphi => ?_) (fs0 := fs0) ?_ (Owed.eq (@eS E) (runS E hpre)) ?_ H ha
    · match i, hk with
      | 0,hk => obtain rfl : cut0 = k := Option.some.inj (show some cut0 = some k from hk); exact Owed.eq (@e0 E') (run0 E E' hpre hz hfs hphi)
      | n + 1,hk => exact absurd hk (by simp [cuts])
    · intro b hb
      exact fs0_ok E hpre b hb
    · intro n hn
      exact hn
  · intro j en hj
    match j,hj with
    | 0,hj => obtain rfl : end0 = en := Option.some.inj (show some end0 = some en from hj); exact ⟨_,rfl,by kernel_rfl,by kernel_rfl,by kernel_rfl,by kernel_rfl,by kernel_rfl⟩
    | n + 1,hj => exact absurd hj (by simp [ends])
  · intro E E' j en hj hphi hz
    match j,hj with
    | 0,hj => obtain rfl : end0 = en := Option.some.inj (show some end0 = some en from hj); exact ⟨told0 E E' hphi hz,fun K hK => hK.2.2⟩
    | n + 1,hj => exact absurd hj (by simp [ends])
end CvE
def sumsG4 : List Summ := CvD.s0 :: sumsG3
theorem sumsG4_ok : ∀ σ ∈ sumsG4, σ.ok Try.prog := Bk.cc CvD.ok0 sumsG3_ok
def sumsG5 : List Summ := CvE.s0 :: sumsG4
theorem sumsG5_ok : ∀ σ ∈ sumsG5, σ.ok Try.prog := Bk.cc CvE.ok0 sumsG4_ok
noncomputable def baseG5 [Env] : CallF Empty := callF Try.prog (withS sumsG5 sums3) (extraG Try.prog) noL 100 50
theorem baseG5_ok [Env] : CallOk Try.prog baseG5 := callF_ok ⟨mixed_ok,(withS_ok sumsG5_ok sums3_ok).2,names_ok,(withS_ok sumsG5_ok sums3_ok).1,extraG_ok _,fun _ _ _ _ _ _ _ _ _ _ _ _ _ _ _ _ h => (by cases h)⟩ 100 50
end Go.Proofs.Ytafemlljemhkhaa.Sx
