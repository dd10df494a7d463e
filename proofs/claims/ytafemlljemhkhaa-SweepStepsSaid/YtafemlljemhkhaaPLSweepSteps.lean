/-
  The law SweepSteps, run on unknowns, from one loop's head to the next.
-/
import Derived.Test.YtafemlljemhkhaaPLSweepStepsB1
import Derived.Test.YtafemlljemhkhaaPLSweepStepsB2
import Derived.Test.YtafemlljemhkhaaPLSweepStepsB3
import Derived.Test.YtafemlljemhkhaaPLSweepStepsB4
import Derived.Test.YtafemlljemhkhaaPLSweepStepsB5
namespace Go.Proofs.Ytafemlljemhkhaa.Sx.LSweepSteps
open Go Go.Proofs.Ytafemlljemhkhaa.Sx
set_option linter.unusedSectionVars false
set_option linter.unusedVariables false
set_option linter.unusedSimpArgs false
set_option maxRecDepth 1000000
def LT : IE := .tabL 1 (.atom 10) 3
def ok3 (l : List Int) : Prop := l.length ≤ 210 ∧ l.length % 3 = 0
def PE (k s : List Int) : Prop := ok3 k ∧ s.length ≤ 65
def PF (k s o : List Int) : Prop := ok3 k ∧ s.length ≤ 65 ∧ ok3 o ∧ 0 < o.length ∧ ∀ x ∈ o,0 ≤ x ∧ x < 18446744073709551616
def Phi : Nat → Env → Prop
  | 3,E => (E.l 7410).length ≤ 64
  | 9,E => (E.l 7410).length ≤ 64
  | 19,E => (E.l 7410).length ≤ 64
  | 20,E => (E.l 7410).length ≤ 64
  | 21,E => (E.l 7410).length ≤ 64
  | 35,E => (E.l 7410).length ≤ 64
  | 36,E => (E.l 7410).length ≤ 64
  | 37,E => (E.l 7410).length ≤ 64
  | 4,E => PE (E.l 7624) (E.l 7625)
  | 10,E => PE (E.l 7624) (E.l 7625)
  | 22,E => PE (E.l 7624) (E.l 7625)
  | 38,E => PE (E.l 7624) (E.l 7625)
  | 5,E => PF (E.l 7823) (E.l 7824) (E.l 7825)
  | 11,E => PF (E.l 7823) (E.l 7824) (E.l 7825)
  | 23,E => PF (E.l 7823) (E.l 7824) (E.l 7825)
  | 24,E => PF (E.l 7823) (E.l 7824) (E.l 7825)
  | 39,E => PF (E.l 7823) (E.l 7824) (E.l 7825) ∧ ((E.l 8507).length : Int) = (((E.i 8).toNat : Nat) : Int)
  | 40,E => PF (E.l 7823) (E.l 7824) (E.l 7825) ∧ ((E.l 8507).length : Int) = (((E.i 8).toNat : Nat) : Int)
  | 41,E => PF (E.l 7823) (E.l 7824) (E.l 7825) ∧ ((E.l 8507).length : Int) = (((E.i 8).toNat : Nat) : Int)
  | 42,E => PF (E.l 7823) (E.l 7824) (E.l 7825) ∧ ((E.l 8507).length : Int) = (((E.i 8).toNat : Nat) : Int)
  | 25,E => ((E.l 1307).length : Int) = (((E.i 8).toNat : Nat) : Int)
  | 26,E => ((E.l 1307).length : Int) = (((E.i 8).toNat : Nat) : Int)
  | 27,E => ((E.l 1307).length : Int) = (((E.i 8).toNat : Nat) : Int)
  | 28,E => ((E.l 1307).length : Int) = (((E.i 8).toNat : Nat) : Int)
  | 29,E => ((E.l 1307).length : Int) = (((E.i 8).toNat : Nat) : Int)
  | 30,E => ((E.l 1307).length : Int) = (((E.i 8).toNat : Nat) : Int)
  | _,_ => True
theorem mg {α : Type} {l : List α} (i : Nat) {a : α} (h : l[i]? = some a) : a ∈ l := List.mem_of_getElem? h
theorem od {p : Prop} [Decidable p] (h : decide p = true) : p := of_decide_eq_true h
theorem dt {p : Prop} [Decidable p] (h : p) : decide p = true := decide_eq_true h
theorem eb {a b : Int} (h : (a == b) = true) : a = b := eq_of_beq h
theorem l1 (E : Env) (x : IE) {b : Int} (h : 1 ≤ b) : @IE.val E (.len (.consL x .nilL)) ≤ @IE.val E (.lit b) := h
theorem at1 (E : Env) {r : Nat} {b : Int} (h : ((E.l r).length : Int) + 1 ≤ b) : @IE.val E (.at_ (.len (.latom r)) (.lit 1) 1 0) ≤ @IE.val E (.lit b) := by
  have e : (1 : Int).toNat = 1 := rfl
  show ((((((E.l r).length : Int)).toNat + (1 : Int).toNat * 1 + 0 : Nat)) : Int) ≤ b
  rw [e]; omega
theorem at0 (E : Env) {r : Nat} {b : Int} (h : ((E.l r).length : Int) ≤ b) : @IE.val E (.at_ (.lit 0) (.len (.latom r)) 1 0) ≤ @IE.val E (.lit b) := by
  have e : (0 : Int).toNat = 0 := rfl
  show ((((0 : Int).toNat + ((E.l r).length : Int).toNat * 1 + 0 : Nat)) : Int) ≤ b
  rw [e]; omega
theorem bl (E : Env) (x : IE) (b : Int) (h : 1 ≤ b) : @BE.val E (.cmp .leq (.len (.consL x .nilL)) (.lit b)) = true := decide_eq_true (l1 E x h)
theorem b1 (E : Env) (r : Nat) (b : Int) (h : ((E.l r).length : Int) + 1 ≤ b) : @BE.val E (.cmp .leq (.at_ (.len (.latom r)) (.lit 1) 1 0) (.lit b)) = true := decide_eq_true (at1 E h)
theorem b0 (E : Env) (r : Nat) (b : Int) (h : ((E.l r).length : Int) ≤ b) : @BE.val E (.cmp .leq (.at_ (.lit 0) (.len (.latom r)) 1 0) (.lit b)) = true := decide_eq_true (at0 E h)
theorem tab_len (t : Nat → Nat → Int) (n : Nat) : ((List.range n).flatMap fun i => (List.range 3).map fun j => t i j).length = 3 * n := by
  induction n with
  | zero => rfl
  | succ n ih => rw [List.range_succ (n := n),List.flatMap_append,List.length_append,ih]; rfl
theorem LT_len (E : Env) : (@IE.lst E LT).length = 3 * (E.i 10).toNat := tab_len (E.t 1) _
theorem LT2 (E : Env) (n0 : 0 ≤ E.i 10) (n70 : (((E.i 10).toNat : Nat) : Int) ≤ 70) : (@IE.lst E LT).length = 3 * (E.i 10).toNat ∧ (@IE.lst E LT).length ≤ 210 := by
  have hT := LT_len E
  exact ⟨hT,by rw [hT]; omega⟩
theorem LT_words (E : Env) (htab : TabR (tabsOf pks 0) E) : ∀ x ∈ @IE.lst E LT, 0 ≤ x ∧ x < 18446744073709551616 := by
  show ∀ x ∈ ((List.range (E.i 10).toNat).flatMap fun i => (List.range 3).map fun j => E.t 1 i j),_
  intro x hx
  obtain ⟨i,_,hx⟩ := List.mem_flatMap.1 hx
  obtain ⟨j,hj,rfl⟩ := List.mem_map.1 hx
  have hj := List.mem_range.1 hj
  have t := fun q => htab q
  match j,hj with
  | 0,_ => have := t (1,0,0,18446744073709551615) (by decide) i; simp only at this; omega
  | 1,_ => have := t (1,1,0,18446744073709551615) (by decide) i; simp only at this; omega
  | 2,_ => have := t (1,2,0,18446744073709551615) (by decide) i; simp only at this; omega
theorem sp_3 (E : Env) (S : IE) : @IE.lst E (.fnL 3 (.consL (.len S) (.catL S LT))) = splitF true (@IE.lst E S) (@IE.lst E LT) := by
  show splitF true ((@IE.lst E S ++ @IE.lst E LT).take ((@IE.lst E S).length : Int).toNat) ((@IE.lst E S ++ @IE.lst E LT).drop ((@IE.lst E S).length : Int).toNat) = _
  rw [(tk_len _ _).1,(tk_len _ _).2]
theorem sp_4 (E : Env) (S : IE) : @IE.lst E (.fnL 4 (.consL (.len S) (.catL S LT))) = splitF false (@IE.lst E S) (@IE.lst E LT) := by
  show splitF false ((@IE.lst E S ++ @IE.lst E LT).take ((@IE.lst E S).length : Int).toNat) ((@IE.lst E S ++ @IE.lst E LT).drop ((@IE.lst E S).length : Int).toNat) = _
  rw [(tk_len _ _).1,(tk_len _ _).2]
theorem split_mem {is : Bool} {e : List Int} : ∀ {l : List Int} {x : Int}, x ∈ splitF is e l → x ∈ l
  | a :: b :: c :: l, x, h => by
    unfold splitF at h
    split at h
    · rcases List.mem_cons.1 h with h | h
      · exact List.mem_cons.2 (.inl h)
      · rcases List.mem_cons.1 h with h | h
        · exact List.mem_cons_of_mem _ (List.mem_cons.2 (.inl h))
        · rcases List.mem_cons.1 h with h | h
          · exact List.mem_cons_of_mem _ (List.mem_cons_of_mem _ (List.mem_cons.2 (.inl h)))
          · exact List.mem_cons_of_mem _ (List.mem_cons_of_mem _ (List.mem_cons_of_mem _ (split_mem h)))
    · exact List.mem_cons_of_mem _ (List.mem_cons_of_mem _ (List.mem_cons_of_mem _ (split_mem h)))
  | [],x,h => by simp [splitF] at h
  | [_],x,h => by simp [splitF] at h
  | [_,_],x,h => by simp [splitF] at h
theorem ok_split (b : Bool) (e : List Int) {l : List Int} (h : l.length ≤ 210) : ok3 (splitF b e l) := ⟨Nat.le_trans (splitF_len l) h,splM3 b e l⟩
theorem m3 {n : Nat} (h : n % 3 = 0) : Int.tmod (n : Int) 3 = 0 := by
  rw [Int.tmod_eq_emod_of_nonneg (by omega)]; omega
theorem nd1 {a z : Bool} (h : z = true) : (!(a && !z)) = true := by rw [h]; cases a <;> rfl
theorem nd2 {a b z : Bool} (h : z = true) : (!(a && (b && !z))) = true := by rw [h]; cases a <;> cases b <;> rfl
theorem nd3 {a b c z : Bool} (h : z = true) : (!(a && (b && (c && !z)))) = true := by rw [h]; cases a <;> cases b <;> cases c <;> rfl
theorem nd4 {a b c d z : Bool} (h : z = true) : (!(a && (b && (c && (d && !z))))) = true := by rw [h]; cases a <;> cases b <;> cases c <;> cases d <;> rfl
theorem right_of {E : Env} (h : @BE.val E (.cmp .neq (.fn 1 cfgL) (.lit 0)) = true) : rightP (E.i 0) (E.i 1) (E.i 2) (E.i 3) (E.i 4) (E.i 5) (E.i 6) := by
  have h : ((if rightP (E.i 0) (E.i 1) (E.i 2) (E.i 3) (E.i 4) (E.i 5) (E.i 6) then 1 else 0 : Int) != 0) = true := h
  by_cases hr : rightP (E.i 0) (E.i 1) (E.i 2) (E.i 3) (E.i 4) (E.i 5) (E.i 6)
  · exact hr
  · rw [if_neg hr] at h; exact absurd h (by decide)
theorem tsOf {E : Env} (hr : rightP (E.i 0) (E.i 1) (E.i 2) (E.i 3) (E.i 4) (E.i 5) (E.i 6)) : IntKind.i64.wrap (E.i 0 * E.i 1) = E.i 0 * E.i 1 ∧ 1 ≤ E.i 0 * E.i 1 ∧ E.i 0 * E.i 1 ≤ 64 := by
  have ht : 1 ≤ E.i 0 ∧ E.i 0 ≤ 8 := ⟨hr.1,hr.2.1⟩
  have hs : 1 ≤ E.i 1 ∧ E.i 1 ≤ 8 := ⟨hr.2.2.1,hr.2.2.2.1⟩
  have h1 := Int.mul_le_mul ht.2 hs.2 (by omega) (by omega : (0 : Int) ≤ 8)
  have h2 := Int.mul_le_mul ht.1 hs.1 (by omega) (by omega : (0 : Int) ≤ E.i 0)
  exact ⟨i64_small (by omega) (by omega),by omega,by omega⟩
theorem put_len (E : Env) (r : Nat) (c v : IE) : (@IE.lst E (.putL (.latom r) (.fn 13 (.consL c (.latom r))) (.consL v .nilL))).length = (E.l r).length := by
  rw [show @IE.lst E (.putL (.latom r) (.fn 13 (.consL c (.latom r))) (.consL v .nilL)) = setF (@IE.val E c) (@IE.val E v) (E.l r) from putsetF _ _ _,setF_len]
theorem lt_mx {a b : Int} (h : a < maxI 0 b) (h2 : b ≤ 300) (h0 : 0 ≤ a) : a < 300 := by
  unfold maxI at h
  split at h <;> omega
theorem runS (E : Env) (h1 : symRng E pks 0 0) (hx : E.i 10 ≤ 8000000000000) : ObsOk E Phi obS := by
  have h0 : 0 ≤ E.i 10 := od (rngFacts_ok E h1 (.cmp .leq (.lit 0) (.atom 10)) (mg 18 rfl))
  have hl := LT_len E
  have a1 : @BE.val E (.cmp .leq (.atom 10) (.lit 8000000000000)) = true := dt hx
  have a2 : @BE.val E (.cmp .leq (.len LT) (.lit 24000000000000)) = true := dt (show ((@IE.lst E LT).length : Int) ≤ 24000000000000 by omega)
  exact ⟨fun _ => a1,fun _ => a2,fun _ => a1,fun _ => a2,fun _ => a1,fun _ => a2,fun _ => a1,fun _ => a2,trivial⟩
theorem run3_0 (E : Env) (hfs : ∀ b ∈ cut3.fs, @BE.val E b = true) (hphi : Phi 3 E) (htab : TabR (tabsOf pks 0) E) : ObsOk E Phi ob3_0 := by
  have n0 : (0 : Int) ≤ E.i 10 := od (hfs (.cmp .leq (.lit 0) (.atom 10)) (mg 33 rfl))
  have n70 : (((E.i 10).toNat : Nat) : Int) ≤ 70 := od (hfs (.cmp .leq (.nat (.atom 10)) (.lit 70)) (mg 5 rfl))
  obtain ⟨hT,hT210⟩ := LT2 E n0 n70
  have hr := right_of (hfs (.cmp .neq (.fn 1 cfgL) (.lit 0)) (mg 29 rfl))
  obtain ⟨hts0,hts1,hts2⟩ := tsOf hr
  have r8 : (((E.i 8).toNat : Nat) : Int) ≤ 400 := od (hfs (.cmp .leq (.nat (.atom 8)) (.lit 400)) (mg 9 rfl))
  have hrow : ((E.l 7409).length : Int) = (((E.i 8).toNat : Nat) : Int) := eb (hfs (.cmp .eql (.len (.latom 7409)) (.nat (.atom 8))) (mg 1 rfl))
  have hs : (E.l 7410).length ≤ 64 := hphi
  exact ⟨(fun _ => hphi),
    (fun _ => hphi),trivial⟩
theorem run4_0 (E : Env) (hfs : ∀ b ∈ cut4.fs, @BE.val E b = true) (hphi : Phi 4 E) (htab : TabR (tabsOf pks 0) E) : ObsOk E Phi ob4_0 := by
  have n0 : (0 : Int) ≤ E.i 10 := od (hfs (.cmp .leq (.lit 0) (.atom 10)) (mg 32 rfl))
  have n70 : (((E.i 10).toNat : Nat) : Int) ≤ 70 := od (hfs (.cmp .leq (.nat (.atom 10)) (.lit 70)) (mg 4 rfl))
  obtain ⟨hT,hT210⟩ := LT2 E n0 n70
  have hr := right_of (hfs (.cmp .neq (.fn 1 cfgL) (.lit 0)) (mg 28 rfl))
  obtain ⟨hts0,hts1,hts2⟩ := tsOf hr
  have r8 : (((E.i 8).toNat : Nat) : Int) ≤ 400 := od (hfs (.cmp .leq (.nat (.atom 8)) (.lit 400)) (mg 8 rfl))
  have hrow : ((E.l 7623).length : Int) = (((E.i 8).toNat : Nat) : Int) := eb (hfs (.cmp .eql (.len (.latom 7623)) (.nat (.atom 8))) (mg 1 rfl))
  have hphi : PE (E.l 7624) (E.l 7625) := hphi
  have hk1 := hphi.1.1
  have hk2 := hphi.1.2
  have hs := hphi.2
  exact ⟨(fun _ => hphi),
    (fun _ => hphi),trivial⟩
theorem run5_0 (E : Env) (hfs : ∀ b ∈ cut5.fs, @BE.val E b = true) (hphi : Phi 5 E) (htab : TabR (tabsOf pks 0) E) : ObsOk E Phi ob5_0 := by
  have n0 : (0 : Int) ≤ E.i 10 := od (hfs (.cmp .leq (.lit 0) (.atom 10)) (mg 32 rfl))
  have n70 : (((E.i 10).toNat : Nat) : Int) ≤ 70 := od (hfs (.cmp .leq (.nat (.atom 10)) (.lit 70)) (mg 4 rfl))
  obtain ⟨hT,hT210⟩ := LT2 E n0 n70
  have hr := right_of (hfs (.cmp .neq (.fn 1 cfgL) (.lit 0)) (mg 28 rfl))
  obtain ⟨hts0,hts1,hts2⟩ := tsOf hr
  have r8 : (((E.i 8).toNat : Nat) : Int) ≤ 400 := od (hfs (.cmp .leq (.nat (.atom 8)) (.lit 400)) (mg 8 rfl))
  have hrow : ((E.l 7822).length : Int) = (((E.i 8).toNat : Nat) : Int) := eb (hfs (.cmp .eql (.len (.latom 7822)) (.nat (.atom 8))) (mg 1 rfl))
  have hphi : PF (E.l 7823) (E.l 7824) (E.l 7825) := hphi
  have hk1 := hphi.1.1
  have hk2 := hphi.1.2
  have hs := hphi.2.1
  have ho1 := hphi.2.2.1.1
  have ho2 := hphi.2.2.1.2
  have ho3 := hphi.2.2.2.1
  have ho0 : 0 ≤ (E.l 7825).getD 0 0 ∧ (E.l 7825).getD 0 0 < 18446744073709551616 := by
    rw [List.getD_eq_getElem?_getD,List.getElem?_eq_getElem ho3]
    exact hphi.2.2.2.2 _ (List.getElem_mem ..)
  exact ⟨(fun _ => dt (show (0 : Int) < ((E.l 7825).length : Int) / 3 from by omega)),
    (fun _ => beq_iff_eq.2 (m3 (show (E.l 7825).length % 3 = 0 by omega))),
    (fun _ => hphi),
    (fun _ => dt (show (0 : Int) < ((E.l 7825).length : Int) / 3 from by omega)),
    (fun _ => beq_iff_eq.2 (m3 (show (E.l 7825).length % 3 = 0 by omega))),
    (fun _ => hphi),trivial⟩
theorem run7_0 (E : Env) (hfs : ∀ b ∈ cut7.fs, @BE.val E b = true) (hphi : Phi 7 E) (htab : TabR (tabsOf pks 0) E) : ObsOk E Phi ob7_0 := by
  have n0 : (0 : Int) ≤ E.i 10 := od (hfs (.cmp .leq (.lit 0) (.atom 10)) (mg 33 rfl))
  have n70 : (((E.i 10).toNat : Nat) : Int) ≤ 70 := od (hfs (.cmp .leq (.nat (.atom 10)) (.lit 70)) (mg 5 rfl))
  obtain ⟨hT,hT210⟩ := LT2 E n0 n70
  have hr := right_of (hfs (.cmp .neq (.fn 1 cfgL) (.lit 0)) (mg 29 rfl))
  obtain ⟨hts0,hts1,hts2⟩ := tsOf hr
  have r8 : (((E.i 8).toNat : Nat) : Int) ≤ 400 := od (hfs (.cmp .leq (.nat (.atom 8)) (.lit 400)) (mg 9 rfl))
  have hrow : ((E.l 3707).length : Int) = (((E.i 8).toNat : Nat) : Int) := eb (hfs q84 (mg 1 rfl))
  have cb : E.i 3200 < maxI 0 (E.i 12) := od (hfs q81 (mg 2 rfl))
  have ca : (0 : Int) ≤ E.i 3200 := od (hfs (.cmp .leq (.lit 0) (.atom 3200)) (mg 0 rfl))
  have c12 : E.i 12 ≤ 300 := od (hfs (.cmp .leq (.atom 12) (.lit 300)) (mg 8 rfl))
  have c300 := lt_mx cb c12 ca
  have up : IntKind.i64.wrap (E.i 3200 + 1) = E.i 3200 + 1 := i64_small (by omega) (by omega)
  exact ⟨(fun _ => nd2 (bl E _ _ (by omega))),
    (fun _ => nd2 (dt (show ((@IE.lst E LT).length : Int) ≤ 300000000 from by omega))),trivial⟩
theorem run9_0 (E : Env) (hfs : ∀ b ∈ cut9.fs, @BE.val E b = true) (hphi : Phi 9 E) (htab : TabR (tabsOf pks 0) E) : ObsOk E Phi ob9_0 := by
  have n0 : (0 : Int) ≤ E.i 10 := od (hfs (.cmp .leq (.lit 0) (.atom 10)) (mg 34 rfl))
  have n70 : (((E.i 10).toNat : Nat) : Int) ≤ 70 := od (hfs (.cmp .leq (.nat (.atom 10)) (.lit 70)) (mg 6 rfl))
  obtain ⟨hT,hT210⟩ := LT2 E n0 n70
  have hr := right_of (hfs (.cmp .neq (.fn 1 cfgL) (.lit 0)) (mg 30 rfl))
  obtain ⟨hts0,hts1,hts2⟩ := tsOf hr
  have r8 : (((E.i 8).toNat : Nat) : Int) ≤ 400 := od (hfs (.cmp .leq (.nat (.atom 8)) (.lit 400)) (mg 10 rfl))
  have hrow : ((E.l 8107).length : Int) = (((E.i 8).toNat : Nat) : Int) := eb (hfs q76 (mg 1 rfl))
  have cb : E.i 7402 < maxI 0 (E.i 12) := od (hfs q65 (mg 2 rfl))
  have ca : (0 : Int) ≤ E.i 7402 := od (hfs (.cmp .leq (.lit 0) (.atom 7402)) (mg 0 rfl))
  have c12 : E.i 12 ≤ 300 := od (hfs (.cmp .leq (.atom 12) (.lit 300)) (mg 9 rfl))
  have c300 := lt_mx cb c12 ca
  have up : IntKind.i64.wrap (E.i 7402 + 1) = E.i 7402 + 1 := i64_small (by omega) (by omega)
  have hs : (E.l 7410).length ≤ 64 := hphi
  exact ⟨(fun _ => nd3 (dt (show ((@IE.lst E q5).length : Int) ≤ 1073741824 from by have q : (@IE.lst E q5).length = (E.l 7410).length + 1 := List.length_append ..; rw [q]; omega))),
    (fun _ => nd3 (dt (show ((@IE.lst E LT).length : Int) ≤ 300000000 from by omega))),
    (fun _ => nd1 (b1 E _ _ (by omega))),
    (fun _ => hphi),
    (fun _ => hphi),
    (fun _ => hphi),trivial⟩
theorem run10_0 (E : Env) (hfs : ∀ b ∈ cut10.fs, @BE.val E b = true) (hphi : Phi 10 E) (htab : TabR (tabsOf pks 0) E) : ObsOk E Phi ob10_0 := by
  have n0 : (0 : Int) ≤ E.i 10 := od (hfs (.cmp .leq (.lit 0) (.atom 10)) (mg 33 rfl))
  have n70 : (((E.i 10).toNat : Nat) : Int) ≤ 70 := od (hfs (.cmp .leq (.nat (.atom 10)) (.lit 70)) (mg 5 rfl))
  obtain ⟨hT,hT210⟩ := LT2 E n0 n70
  have hr := right_of (hfs (.cmp .neq (.fn 1 cfgL) (.lit 0)) (mg 29 rfl))
  obtain ⟨hts0,hts1,hts2⟩ := tsOf hr
  have r8 : (((E.i 8).toNat : Nat) : Int) ≤ 400 := od (hfs (.cmp .leq (.nat (.atom 8)) (.lit 400)) (mg 9 rfl))
  have hrow : ((E.l 8307).length : Int) = (((E.i 8).toNat : Nat) : Int) := eb (hfs (.cmp .eql (.len (.latom 8307)) (.nat (.atom 8))) (mg 1 rfl))
  have cb : E.i 7613 < maxI 0 (E.i 12) := od (hfs (.cmp .lss (.atom 7613) (.mx (.lit 0) (.atom 12))) (mg 2 rfl))
  have ca : (0 : Int) ≤ E.i 7613 := od (hfs (.cmp .leq (.lit 0) (.atom 7613)) (mg 0 rfl))
  have c12 : E.i 12 ≤ 300 := od (hfs (.cmp .leq (.atom 12) (.lit 300)) (mg 8 rfl))
  have c300 := lt_mx cb c12 ca
  have up : IntKind.i64.wrap (E.i 7613 + 1) = E.i 7613 + 1 := i64_small (by omega) (by omega)
  have hphi : PE (E.l 7624) (E.l 7625) := hphi
  have hk1 := hphi.1.1
  have hk2 := hphi.1.2
  have hs := hphi.2
  exact ⟨(fun _ => hphi),trivial⟩
theorem run11_0 (E : Env) (hfs : ∀ b ∈ cut11.fs, @BE.val E b = true) (hphi : Phi 11 E) (htab : TabR (tabsOf pks 0) E) : ObsOk E Phi ob11_0 := by
  have n0 : (0 : Int) ≤ E.i 10 := od (hfs (.cmp .leq (.lit 0) (.atom 10)) (mg 35 rfl))
  have n70 : (((E.i 10).toNat : Nat) : Int) ≤ 70 := od (hfs (.cmp .leq (.nat (.atom 10)) (.lit 70)) (mg 7 rfl))
  obtain ⟨hT,hT210⟩ := LT2 E n0 n70
  have hr := right_of (hfs (.cmp .neq (.fn 1 cfgL) (.lit 0)) (mg 31 rfl))
  obtain ⟨hts0,hts1,hts2⟩ := tsOf hr
  have r8 : (((E.i 8).toNat : Nat) : Int) ≤ 400 := od (hfs (.cmp .leq (.nat (.atom 8)) (.lit 400)) (mg 11 rfl))
  have hrow : ((E.l 8507).length : Int) = (((E.i 8).toNat : Nat) : Int) := eb (hfs (.cmp .eql (.len (.latom 8507)) (.nat (.atom 8))) (mg 3 rfl))
  have cb : E.i 7813 < maxI 0 (E.i 12) := od (hfs q56 (mg 4 rfl))
  have ca : (0 : Int) ≤ E.i 7813 := od (hfs (.cmp .leq (.lit 0) (.atom 7813)) (mg 2 rfl))
  have c12 : E.i 12 ≤ 300 := od (hfs (.cmp .leq (.atom 12) (.lit 300)) (mg 10 rfl))
  have c300 := lt_mx cb c12 ca
  have up : IntKind.i64.wrap (E.i 7813 + 1) = E.i 7813 + 1 := i64_small (by omega) (by omega)
  have hphi : PF (E.l 7823) (E.l 7824) (E.l 7825) := hphi
  have hk1 := hphi.1.1
  have hk2 := hphi.1.2
  have hs := hphi.2.1
  have ho1 := hphi.2.2.1.1
  have ho2 := hphi.2.2.1.2
  have ho3 := hphi.2.2.2.1
  have ho0 : 0 ≤ (E.l 7825).getD 0 0 ∧ (E.l 7825).getD 0 0 < 18446744073709551616 := by
    rw [List.getD_eq_getElem?_getD,List.getElem?_eq_getElem ho3]
    exact hphi.2.2.2.2 _ (List.getElem_mem ..)
  exact ⟨(fun _ => nd2 (dt (show (E.l 7825).getD 0 0 ≥ 0 from ho0.1))),
    (fun _ => nd2 (dt (show (E.l 7825).getD 0 0 < 18446744073709551616 from ho0.2))),
    (fun _ => nd1 (dt (show ((((0 : Int).toNat + (0 : Int).toNat * 0 + 1 : Nat)) : Int) ≤ ((E.l 7825).length : Int) from by have e : (0 : Int).toNat = 0 := rfl; rw [e]; omega))),
    (fun _ => hphi),
    (fun _ => hphi),trivial⟩
theorem run12_0 (E : Env) (hfs : ∀ b ∈ cut12.fs, @BE.val E b = true) (hphi : Phi 12 E) (htab : TabR (tabsOf pks 0) E) : ObsOk E Phi ob12_0 := by
  have n0 : (0 : Int) ≤ E.i 10 := od (hfs (.cmp .leq (.lit 0) (.atom 10)) (mg 33 rfl))
  have n70 : (((E.i 10).toNat : Nat) : Int) ≤ 70 := od (hfs (.cmp .leq (.nat (.atom 10)) (.lit 70)) (mg 5 rfl))
  obtain ⟨hT,hT210⟩ := LT2 E n0 n70
  have hr := right_of (hfs (.cmp .neq (.fn 1 cfgL) (.lit 0)) (mg 29 rfl))
  obtain ⟨hts0,hts1,hts2⟩ := tsOf hr
  have r8 : (((E.i 8).toNat : Nat) : Int) ≤ 400 := od (hfs (.cmp .leq (.nat (.atom 8)) (.lit 400)) (mg 9 rfl))
  have hrow : ((E.l 1307).length : Int) = (((E.i 8).toNat : Nat) : Int) := eb (hfs (.cmp .eql (.len (.latom 1307)) (.nat (.atom 8))) (mg 1 rfl))
  have cb : E.i 1000 < maxI 0 (E.i 12) := od (hfs q57 (mg 3 rfl))
  have ca : (0 : Int) ≤ E.i 1000 := od (hfs (.cmp .leq (.lit 0) (.atom 1000)) (mg 0 rfl))
  have c12 : E.i 12 ≤ 300 := od (hfs (.cmp .leq (.atom 12) (.lit 300)) (mg 8 rfl))
  have c300 := lt_mx cb c12 ca
  have up : IntKind.i64.wrap (E.i 1000 + 1) = E.i 1000 + 1 := i64_small (by omega) (by omega)
  exact ⟨(fun _ => hrow),
    (fun _ => hrow),
    (fun _ => hrow),
    (fun _ => hrow),trivial⟩
theorem run13_0 (E : Env) (hfs : ∀ b ∈ cut13.fs, @BE.val E b = true) (hphi : Phi 13 E) (htab : TabR (tabsOf pks 0) E) : ObsOk E Phi ob13_0 := by
  have n0 : (0 : Int) ≤ E.i 10 := od (hfs (.cmp .leq (.lit 0) (.atom 10)) (mg 34 rfl))
  have n70 : (((E.i 10).toNat : Nat) : Int) ≤ 70 := od (hfs (.cmp .leq (.nat (.atom 10)) (.lit 70)) (mg 6 rfl))
  obtain ⟨hT,hT210⟩ := LT2 E n0 n70
  have hr := right_of (hfs (.cmp .neq (.fn 1 cfgL) (.lit 0)) (mg 30 rfl))
  obtain ⟨hts0,hts1,hts2⟩ := tsOf hr
  have r8 : (((E.i 8).toNat : Nat) : Int) ≤ 400 := od (hfs (.cmp .leq (.nat (.atom 8)) (.lit 400)) (mg 10 rfl))
  have hrow : ((E.l 1307).length : Int) = (((E.i 8).toNat : Nat) : Int) := eb (hfs (.cmp .eql (.len (.latom 1307)) (.nat (.atom 8))) (mg 1 rfl))
  have cb : E.i 1000 < maxI 0 (E.i 12) := od (hfs q57 (mg 4 rfl))
  have ca : (0 : Int) ≤ E.i 1000 := od (hfs (.cmp .leq (.lit 0) (.atom 1000)) (mg 0 rfl))
  have c12 : E.i 12 ≤ 300 := od (hfs (.cmp .leq (.atom 12) (.lit 300)) (mg 9 rfl))
  have c300 := lt_mx cb c12 ca
  have up : IntKind.i64.wrap (E.i 1000 + 1) = E.i 1000 + 1 := i64_small (by omega) (by omega)
  exact ⟨(fun _ => hrow),
    (fun _ => hrow),
    (fun _ => hrow),
    (fun _ => hrow),trivial⟩
theorem run14_0 (E : Env) (hfs : ∀ b ∈ cut14.fs, @BE.val E b = true) (hphi : Phi 14 E) (htab : TabR (tabsOf pks 0) E) : ObsOk E Phi ob14_0 := by
  have n0 : (0 : Int) ≤ E.i 10 := od (hfs (.cmp .leq (.lit 0) (.atom 10)) (mg 34 rfl))
  have n70 : (((E.i 10).toNat : Nat) : Int) ≤ 70 := od (hfs (.cmp .leq (.nat (.atom 10)) (.lit 70)) (mg 6 rfl))
  obtain ⟨hT,hT210⟩ := LT2 E n0 n70
  have hr := right_of (hfs (.cmp .neq (.fn 1 cfgL) (.lit 0)) (mg 30 rfl))
  obtain ⟨hts0,hts1,hts2⟩ := tsOf hr
  have r8 : (((E.i 8).toNat : Nat) : Int) ≤ 400 := od (hfs (.cmp .leq (.nat (.atom 8)) (.lit 400)) (mg 10 rfl))
  have hrow : ((E.l 1307).length : Int) = (((E.i 8).toNat : Nat) : Int) := eb (hfs (.cmp .eql (.len (.latom 1307)) (.nat (.atom 8))) (mg 1 rfl))
  have cb : E.i 1000 < maxI 0 (E.i 12) := od (hfs q57 (mg 4 rfl))
  have ca : (0 : Int) ≤ E.i 1000 := od (hfs (.cmp .leq (.lit 0) (.atom 1000)) (mg 0 rfl))
  have c12 : E.i 12 ≤ 300 := od (hfs (.cmp .leq (.atom 12) (.lit 300)) (mg 9 rfl))
  have c300 := lt_mx cb c12 ca
  have up : IntKind.i64.wrap (E.i 1000 + 1) = E.i 1000 + 1 := i64_small (by omega) (by omega)
  exact ⟨(fun _ => hrow),
    (fun _ => hrow),
    (fun _ => hrow),
    (fun _ => hrow),trivial⟩
theorem run16_0 (E : Env) (hfs : ∀ b ∈ cut16.fs, @BE.val E b = true) (hphi : Phi 16 E) (htab : TabR (tabsOf pks 0) E) : ObsOk E Phi ob16_0 := by
  have n0 : (0 : Int) ≤ E.i 10 := od (hfs (.cmp .leq (.lit 0) (.atom 10)) (mg 35 rfl))
  have n70 : (((E.i 10).toNat : Nat) : Int) ≤ 70 := od (hfs (.cmp .leq (.nat (.atom 10)) (.lit 70)) (mg 7 rfl))
  obtain ⟨hT,hT210⟩ := LT2 E n0 n70
  have hr := right_of (hfs (.cmp .neq (.fn 1 cfgL) (.lit 0)) (mg 31 rfl))
  obtain ⟨hts0,hts1,hts2⟩ := tsOf hr
  have r8 : (((E.i 8).toNat : Nat) : Int) ≤ 400 := od (hfs (.cmp .leq (.nat (.atom 8)) (.lit 400)) (mg 11 rfl))
  have hrow : ((E.l 3707).length : Int) = (((E.i 8).toNat : Nat) : Int) := eb (hfs q84 (mg 1 rfl))
  have cb : E.i 3200 < maxI 0 (E.i 12) := od (hfs q81 (mg 4 rfl))
  have ca : (0 : Int) ≤ E.i 3200 := od (hfs (.cmp .leq (.lit 0) (.atom 3200)) (mg 0 rfl))
  have c12 : E.i 12 ≤ 300 := od (hfs (.cmp .leq (.atom 12) (.lit 300)) (mg 10 rfl))
  have c300 := lt_mx cb c12 ca
  have up : IntKind.i64.wrap (E.i 3200 + 1) = E.i 3200 + 1 := i64_small (by omega) (by omega)
  exact ⟨(fun _ => nd2 (bl E _ _ (by omega))),trivial⟩
theorem run17_0 (E : Env) (hfs : ∀ b ∈ cut17.fs, @BE.val E b = true) (hphi : Phi 17 E) (htab : TabR (tabsOf pks 0) E) : ObsOk E Phi ob17_0 := by
  have n0 : (0 : Int) ≤ E.i 10 := od (hfs (.cmp .leq (.lit 0) (.atom 10)) (mg 35 rfl))
  have n70 : (((E.i 10).toNat : Nat) : Int) ≤ 70 := od (hfs (.cmp .leq (.nat (.atom 10)) (.lit 70)) (mg 7 rfl))
  obtain ⟨hT,hT210⟩ := LT2 E n0 n70
  have hr := right_of (hfs (.cmp .neq (.fn 1 cfgL) (.lit 0)) (mg 31 rfl))
  obtain ⟨hts0,hts1,hts2⟩ := tsOf hr
  have r8 : (((E.i 8).toNat : Nat) : Int) ≤ 400 := od (hfs (.cmp .leq (.nat (.atom 8)) (.lit 400)) (mg 11 rfl))
  have hrow : ((E.l 3707).length : Int) = (((E.i 8).toNat : Nat) : Int) := eb (hfs q84 (mg 1 rfl))
  have cb : E.i 3200 < maxI 0 (E.i 12) := od (hfs q81 (mg 4 rfl))
  have ca : (0 : Int) ≤ E.i 3200 := od (hfs (.cmp .leq (.lit 0) (.atom 3200)) (mg 0 rfl))
  have c12 : E.i 12 ≤ 300 := od (hfs (.cmp .leq (.atom 12) (.lit 300)) (mg 10 rfl))
  have c300 := lt_mx cb c12 ca
  have up : IntKind.i64.wrap (E.i 3200 + 1) = E.i 3200 + 1 := i64_small (by omega) (by omega)
  exact ⟨(fun _ => nd2 (bl E _ _ (by omega))),trivial⟩
theorem run19_0 (E : Env) (hfs : ∀ b ∈ cut19.fs, @BE.val E b = true) (hphi : Phi 19 E) (htab : TabR (tabsOf pks 0) E) : ObsOk E Phi ob19_0 := by
  have n0 : (0 : Int) ≤ E.i 10 := od (hfs (.cmp .leq (.lit 0) (.atom 10)) (mg 35 rfl))
  have n70 : (((E.i 10).toNat : Nat) : Int) ≤ 70 := od (hfs (.cmp .leq (.nat (.atom 10)) (.lit 70)) (mg 7 rfl))
  obtain ⟨hT,hT210⟩ := LT2 E n0 n70
  have hr := right_of (hfs (.cmp .neq (.fn 1 cfgL) (.lit 0)) (mg 31 rfl))
  obtain ⟨hts0,hts1,hts2⟩ := tsOf hr
  have r8 : (((E.i 8).toNat : Nat) : Int) ≤ 400 := od (hfs (.cmp .leq (.nat (.atom 8)) (.lit 400)) (mg 11 rfl))
  have hrow : ((E.l 8107).length : Int) = (((E.i 8).toNat : Nat) : Int) := eb (hfs q76 (mg 1 rfl))
  have cb : E.i 7402 < maxI 0 (E.i 12) := od (hfs q65 (mg 3 rfl))
  have ca : (0 : Int) ≤ E.i 7402 := od (hfs (.cmp .leq (.lit 0) (.atom 7402)) (mg 0 rfl))
  have c12 : E.i 12 ≤ 300 := od (hfs (.cmp .leq (.atom 12) (.lit 300)) (mg 10 rfl))
  have c300 := lt_mx cb c12 ca
  have up : IntKind.i64.wrap (E.i 7402 + 1) = E.i 7402 + 1 := i64_small (by omega) (by omega)
  have hs : (E.l 7410).length ≤ 64 := hphi
  have hsl : IntKind.i64.wrap (((E.l 7410).length : Int) + 1) < IntKind.i64.wrap (E.i 0 * E.i 1) := od (hfs q46 (mg 2 rfl))
  rw [hts0,i64_small (by omega) (by omega)] at hsl
  exact ⟨(fun _ => nd2 (b1 E _ _ (by omega))),
    (fun _ => nd1 (b0 E _ _ (by omega))),
    (fun _ => hphi),trivial⟩
theorem run20_0 (E : Env) (hfs : ∀ b ∈ cut20.fs, @BE.val E b = true) (hphi : Phi 20 E) (htab : TabR (tabsOf pks 0) E) : ObsOk E Phi ob20_0 := by
  have n0 : (0 : Int) ≤ E.i 10 := od (hfs (.cmp .leq (.lit 0) (.atom 10)) (mg 36 rfl))
  have n70 : (((E.i 10).toNat : Nat) : Int) ≤ 70 := od (hfs (.cmp .leq (.nat (.atom 10)) (.lit 70)) (mg 8 rfl))
  obtain ⟨hT,hT210⟩ := LT2 E n0 n70
  have hr := right_of (hfs (.cmp .neq (.fn 1 cfgL) (.lit 0)) (mg 32 rfl))
  obtain ⟨hts0,hts1,hts2⟩ := tsOf hr
  have r8 : (((E.i 8).toNat : Nat) : Int) ≤ 400 := od (hfs (.cmp .leq (.nat (.atom 8)) (.lit 400)) (mg 12 rfl))
  have hrow : ((E.l 8107).length : Int) = (((E.i 8).toNat : Nat) : Int) := eb (hfs q76 (mg 1 rfl))
  have cb : E.i 7402 < maxI 0 (E.i 12) := od (hfs q65 (mg 4 rfl))
  have ca : (0 : Int) ≤ E.i 7402 := od (hfs (.cmp .leq (.lit 0) (.atom 7402)) (mg 0 rfl))
  have c12 : E.i 12 ≤ 300 := od (hfs (.cmp .leq (.atom 12) (.lit 300)) (mg 11 rfl))
  have c300 := lt_mx cb c12 ca
  have up : IntKind.i64.wrap (E.i 7402 + 1) = E.i 7402 + 1 := i64_small (by omega) (by omega)
  have hs : (E.l 7410).length ≤ 64 := hphi
  exact ⟨(fun _ => nd4 (dt (show ((@IE.lst E q5).length : Int) ≤ 1073741824 from by have q : (@IE.lst E q5).length = (E.l 7410).length + 1 := List.length_append ..; rw [q]; omega))),
    (fun _ => nd2 (b1 E _ _ (by omega))),
    (fun _ => nd1 (b0 E _ _ (by omega))),
    (fun _ => hphi),trivial⟩
theorem run21_0 (E : Env) (hfs : ∀ b ∈ cut21.fs, @BE.val E b = true) (hphi : Phi 21 E) (htab : TabR (tabsOf pks 0) E) : ObsOk E Phi ob21_0 := by
  have n0 : (0 : Int) ≤ E.i 10 := od (hfs (.cmp .leq (.lit 0) (.atom 10)) (mg 36 rfl))
  have n70 : (((E.i 10).toNat : Nat) : Int) ≤ 70 := od (hfs (.cmp .leq (.nat (.atom 10)) (.lit 70)) (mg 8 rfl))
  obtain ⟨hT,hT210⟩ := LT2 E n0 n70
  have hr := right_of (hfs (.cmp .neq (.fn 1 cfgL) (.lit 0)) (mg 32 rfl))
  obtain ⟨hts0,hts1,hts2⟩ := tsOf hr
  have r8 : (((E.i 8).toNat : Nat) : Int) ≤ 400 := od (hfs (.cmp .leq (.nat (.atom 8)) (.lit 400)) (mg 12 rfl))
  have hrow : ((E.l 8107).length : Int) = (((E.i 8).toNat : Nat) : Int) := eb (hfs q76 (mg 1 rfl))
  have cb : E.i 7402 < maxI 0 (E.i 12) := od (hfs q65 (mg 4 rfl))
  have ca : (0 : Int) ≤ E.i 7402 := od (hfs (.cmp .leq (.lit 0) (.atom 7402)) (mg 0 rfl))
  have c12 : E.i 12 ≤ 300 := od (hfs (.cmp .leq (.atom 12) (.lit 300)) (mg 11 rfl))
  have c300 := lt_mx cb c12 ca
  have up : IntKind.i64.wrap (E.i 7402 + 1) = E.i 7402 + 1 := i64_small (by omega) (by omega)
  have hs : (E.l 7410).length ≤ 64 := hphi
  exact ⟨(fun _ => nd4 (dt (show ((@IE.lst E q5).length : Int) ≤ 1073741824 from by have q : (@IE.lst E q5).length = (E.l 7410).length + 1 := List.length_append ..; rw [q]; omega))),
    (fun _ => nd2 (b1 E _ _ (by omega))),
    (fun _ => nd1 (b0 E _ _ (by omega))),
    (fun _ => hphi),trivial⟩
theorem run22_0 (E : Env) (hfs : ∀ b ∈ cut22.fs, @BE.val E b = true) (hphi : Phi 22 E) (htab : TabR (tabsOf pks 0) E) : ObsOk E Phi ob22_0 := by
  have n0 : (0 : Int) ≤ E.i 10 := od (hfs (.cmp .leq (.lit 0) (.atom 10)) (mg 33 rfl))
  have n70 : (((E.i 10).toNat : Nat) : Int) ≤ 70 := od (hfs (.cmp .leq (.nat (.atom 10)) (.lit 70)) (mg 5 rfl))
  obtain ⟨hT,hT210⟩ := LT2 E n0 n70
  have hr := right_of (hfs (.cmp .neq (.fn 1 cfgL) (.lit 0)) (mg 29 rfl))
  obtain ⟨hts0,hts1,hts2⟩ := tsOf hr
  have r8 : (((E.i 8).toNat : Nat) : Int) ≤ 400 := od (hfs (.cmp .leq (.nat (.atom 8)) (.lit 400)) (mg 9 rfl))
  have hrow : ((E.l 8307).length : Int) = (((E.i 8).toNat : Nat) : Int) := eb (hfs (.cmp .eql (.len (.latom 8307)) (.nat (.atom 8))) (mg 1 rfl))
  have cb : E.i 7613 < maxI 0 (E.i 12) := od (hfs (.cmp .lss (.atom 7613) (.mx (.lit 0) (.atom 12))) (mg 2 rfl))
  have ca : (0 : Int) ≤ E.i 7613 := od (hfs (.cmp .leq (.lit 0) (.atom 7613)) (mg 0 rfl))
  have c12 : E.i 12 ≤ 300 := od (hfs (.cmp .leq (.atom 12) (.lit 300)) (mg 8 rfl))
  have c300 := lt_mx cb c12 ca
  have up : IntKind.i64.wrap (E.i 7613 + 1) = E.i 7613 + 1 := i64_small (by omega) (by omega)
  have hphi : PE (E.l 7624) (E.l 7625) := hphi
  have hk1 := hphi.1.1
  have hk2 := hphi.1.2
  have hs := hphi.2
  exact ⟨(fun _ => hphi),trivial⟩
theorem run23_0 (E : Env) (hfs : ∀ b ∈ cut23.fs, @BE.val E b = true) (hphi : Phi 23 E) (htab : TabR (tabsOf pks 0) E) : ObsOk E Phi ob23_0 := by
  have n0 : (0 : Int) ≤ E.i 10 := od (hfs (.cmp .leq (.lit 0) (.atom 10)) (mg 36 rfl))
  have n70 : (((E.i 10).toNat : Nat) : Int) ≤ 70 := od (hfs (.cmp .leq (.nat (.atom 10)) (.lit 70)) (mg 8 rfl))
  obtain ⟨hT,hT210⟩ := LT2 E n0 n70
  have hr := right_of (hfs (.cmp .neq (.fn 1 cfgL) (.lit 0)) (mg 32 rfl))
  obtain ⟨hts0,hts1,hts2⟩ := tsOf hr
  have r8 : (((E.i 8).toNat : Nat) : Int) ≤ 400 := od (hfs (.cmp .leq (.nat (.atom 8)) (.lit 400)) (mg 12 rfl))
  have hrow : ((E.l 8507).length : Int) = (((E.i 8).toNat : Nat) : Int) := eb (hfs (.cmp .eql (.len (.latom 8507)) (.nat (.atom 8))) (mg 1 rfl))
  have cb : E.i 7813 < maxI 0 (E.i 12) := od (hfs q56 (mg 5 rfl))
  have ca : (0 : Int) ≤ E.i 7813 := od (hfs (.cmp .leq (.lit 0) (.atom 7813)) (mg 0 rfl))
  have c12 : E.i 12 ≤ 300 := od (hfs (.cmp .leq (.atom 12) (.lit 300)) (mg 11 rfl))
  have c300 := lt_mx cb c12 ca
  have up : IntKind.i64.wrap (E.i 7813 + 1) = E.i 7813 + 1 := i64_small (by omega) (by omega)
  have hphi : PF (E.l 7823) (E.l 7824) (E.l 7825) := hphi
  have hk1 := hphi.1.1
  have hk2 := hphi.1.2
  have hs := hphi.2.1
  have ho1 := hphi.2.2.1.1
  have ho2 := hphi.2.2.1.2
  have ho3 := hphi.2.2.2.1
  have ho0 : 0 ≤ (E.l 7825).getD 0 0 ∧ (E.l 7825).getD 0 0 < 18446744073709551616 := by
    rw [List.getD_eq_getElem?_getD,List.getElem?_eq_getElem ho3]
    exact hphi.2.2.2.2 _ (List.getElem_mem ..)
  exact ⟨(fun _ => nd2 (dt (show (E.l 7825).getD 0 0 ≥ 0 from ho0.1))),
    (fun _ => nd2 (dt (show (E.l 7825).getD 0 0 < 18446744073709551616 from ho0.2))),
    (fun _ => nd1 (dt (show ((((0 : Int).toNat + (0 : Int).toNat * 0 + 1 : Nat)) : Int) ≤ ((E.l 7825).length : Int) from by have e : (0 : Int).toNat = 0 := rfl; rw [e]; omega))),
    (fun _ => ⟨hphi.1,hphi.2.1⟩),
    (fun _ => ⟨hphi.1,hphi.2.1⟩),trivial⟩
theorem run24_0 (E : Env) (hfs : ∀ b ∈ cut24.fs, @BE.val E b = true) (hphi : Phi 24 E) (htab : TabR (tabsOf pks 0) E) : ObsOk E Phi ob24_0 := by
  have n0 : (0 : Int) ≤ E.i 10 := od (hfs (.cmp .leq (.lit 0) (.atom 10)) (mg 36 rfl))
  have n70 : (((E.i 10).toNat : Nat) : Int) ≤ 70 := od (hfs (.cmp .leq (.nat (.atom 10)) (.lit 70)) (mg 8 rfl))
  obtain ⟨hT,hT210⟩ := LT2 E n0 n70
  have hr := right_of (hfs (.cmp .neq (.fn 1 cfgL) (.lit 0)) (mg 32 rfl))
  obtain ⟨hts0,hts1,hts2⟩ := tsOf hr
  have r8 : (((E.i 8).toNat : Nat) : Int) ≤ 400 := od (hfs (.cmp .leq (.nat (.atom 8)) (.lit 400)) (mg 12 rfl))
  have hrow : ((E.l 8507).length : Int) = (((E.i 8).toNat : Nat) : Int) := eb (hfs (.cmp .eql (.len (.latom 8507)) (.nat (.atom 8))) (mg 1 rfl))
  have cb : E.i 7813 < maxI 0 (E.i 12) := od (hfs q56 (mg 5 rfl))
  have ca : (0 : Int) ≤ E.i 7813 := od (hfs (.cmp .leq (.lit 0) (.atom 7813)) (mg 0 rfl))
  have c12 : E.i 12 ≤ 300 := od (hfs (.cmp .leq (.atom 12) (.lit 300)) (mg 11 rfl))
  have c300 := lt_mx cb c12 ca
  have up : IntKind.i64.wrap (E.i 7813 + 1) = E.i 7813 + 1 := i64_small (by omega) (by omega)
  have hphi : PF (E.l 7823) (E.l 7824) (E.l 7825) := hphi
  have hk1 := hphi.1.1
  have hk2 := hphi.1.2
  have hs := hphi.2.1
  have ho1 := hphi.2.2.1.1
  have ho2 := hphi.2.2.1.2
  have ho3 := hphi.2.2.2.1
  have ho0 : 0 ≤ (E.l 7825).getD 0 0 ∧ (E.l 7825).getD 0 0 < 18446744073709551616 := by
    rw [List.getD_eq_getElem?_getD,List.getElem?_eq_getElem ho3]
    exact hphi.2.2.2.2 _ (List.getElem_mem ..)
  have subOk : ok3 (@IE.lst E q25) ∧ 0 < (@IE.lst E q25).length ∧ ∀ x ∈ @IE.lst E q25, 0 ≤ x ∧ x < 18446744073709551616 := by
    have q : ((@IE.lst E q25).length : Int) / 3 ≠ 0 := bne_iff_ne.1 (hfs (.cmp .neq q93 (.lit 0)) (mg 2 rfl))
    have e : @IE.lst E q25 = (E.l 7825).drop 3 := drop_sub (l := E.l 7825) (by omega) (by omega)
    rw [e] at q ⊢
    rw [List.length_drop] at q
    refine ⟨⟨by rw [List.length_drop]; omega,by rw [List.length_drop]; omega⟩,by rw [List.length_drop]; omega,fun x hx => hphi.2.2.2.2 x (List.mem_of_mem_drop hx)⟩
  exact ⟨(fun _ => nd2 (dt (show (E.l 7825).getD 0 0 ≥ 0 from ho0.1))),
    (fun _ => nd2 (dt (show (E.l 7825).getD 0 0 < 18446744073709551616 from ho0.2))),
    (fun _ => nd1 (dt (show ((((0 : Int).toNat + (0 : Int).toNat * 0 + 1 : Nat)) : Int) ≤ ((E.l 7825).length : Int) from by have e : (0 : Int).toNat = 0 := rfl; rw [e]; omega))),
    (fun _ => ⟨hphi,hrow⟩),
    (fun _ => ⟨hphi,hrow⟩),trivial⟩
theorem run25_0 (E : Env) (hfs : ∀ b ∈ cut25.fs, @BE.val E b = true) (hphi : Phi 25 E) (htab : TabR (tabsOf pks 0) E) : ObsOk E Phi ob25_0 := by
  have n0 : (0 : Int) ≤ E.i 10 := od (hfs (.cmp .leq (.lit 0) (.atom 10)) (mg 32 rfl))
  have n70 : (((E.i 10).toNat : Nat) : Int) ≤ 70 := od (hfs (.cmp .leq (.nat (.atom 10)) (.lit 70)) (mg 4 rfl))
  obtain ⟨hT,hT210⟩ := LT2 E n0 n70
  have hr := right_of (hfs (.cmp .neq (.fn 1 cfgL) (.lit 0)) (mg 28 rfl))
  obtain ⟨hts0,hts1,hts2⟩ := tsOf hr
  have r8 : (((E.i 8).toNat : Nat) : Int) ≤ 400 := od (hfs (.cmp .leq (.nat (.atom 8)) (.lit 400)) (mg 8 rfl))
  have cb : E.i 1000 < maxI 0 (E.i 12) := od (hfs q57 (mg 2 rfl))
  have ca : (0 : Int) ≤ E.i 1000 := od (hfs (.cmp .leq (.lit 0) (.atom 1000)) (mg 0 rfl))
  have c12 : E.i 12 ≤ 300 := od (hfs (.cmp .leq (.atom 12) (.lit 300)) (mg 7 rfl))
  have c300 := lt_mx cb c12 ca
  have up : IntKind.i64.wrap (E.i 1000 + 1) = E.i 1000 + 1 := i64_small (by omega) (by omega)
  have hrow : ((E.l 1307).length : Int) = (((E.i 8).toNat : Nat) : Int) := hphi
  exact ⟨(fun _ => dt (show ((E.l 1307).length : Int) ≤ 31274997412295 from by omega)),
    (fun _ => dt (show ((@IE.lst E LT).length : Int) ≤ 24000000000000 from by omega)),
    (fun _ => dt (show ((@IE.lst E LT).length : Int) ≤ 300000000 from by omega)),
    (fun _ => beq_iff_eq.2 (m3 (show (@IE.lst E LT).length % 3 = 0 by omega))),
    (fun _ => .inl (show (maxI 0 (E.i 12) - IntKind.i64.wrap (E.i 1000 + 1)).toNat < (maxI 0 (E.i 12) - E.i 1000).toNat from by rw [up]; omega)),
    (fun _ => dt (show (0 : Int) ≤ IntKind.i64.wrap (E.i 1000 + 1) from by rw [up]; omega)),
    (fun _ => beq_iff_eq.2 ((congrArg (fun n : Nat => (n : Int)) (put_len E 1307 _ _)).trans hrow)),trivial⟩
theorem run26_0 (E : Env) (hfs : ∀ b ∈ cut26.fs, @BE.val E b = true) (hphi : Phi 26 E) (htab : TabR (tabsOf pks 0) E) : ObsOk E Phi ob26_0 := by
  have n0 : (0 : Int) ≤ E.i 10 := od (hfs (.cmp .leq (.lit 0) (.atom 10)) (mg 32 rfl))
  have n70 : (((E.i 10).toNat : Nat) : Int) ≤ 70 := od (hfs (.cmp .leq (.nat (.atom 10)) (.lit 70)) (mg 4 rfl))
  obtain ⟨hT,hT210⟩ := LT2 E n0 n70
  have hr := right_of (hfs (.cmp .neq (.fn 1 cfgL) (.lit 0)) (mg 28 rfl))
  obtain ⟨hts0,hts1,hts2⟩ := tsOf hr
  have r8 : (((E.i 8).toNat : Nat) : Int) ≤ 400 := od (hfs (.cmp .leq (.nat (.atom 8)) (.lit 400)) (mg 8 rfl))
  have cb : E.i 1000 < maxI 0 (E.i 12) := od (hfs q57 (mg 2 rfl))
  have ca : (0 : Int) ≤ E.i 1000 := od (hfs (.cmp .leq (.lit 0) (.atom 1000)) (mg 0 rfl))
  have c12 : E.i 12 ≤ 300 := od (hfs (.cmp .leq (.atom 12) (.lit 300)) (mg 7 rfl))
  have c300 := lt_mx cb c12 ca
  have up : IntKind.i64.wrap (E.i 1000 + 1) = E.i 1000 + 1 := i64_small (by omega) (by omega)
  have hrow : ((E.l 1307).length : Int) = (((E.i 8).toNat : Nat) : Int) := hphi
  exact ⟨(fun _ => dt (show ((E.l 1307).length : Int) ≤ 31274997412295 from by omega)),
    (fun _ => dt (show ((@IE.lst E LT).length : Int) ≤ 24000000000000 from by omega)),
    (fun _ => dt (show ((@IE.lst E LT).length : Int) ≤ 300000000 from by omega)),
    (fun _ => beq_iff_eq.2 (m3 (show (@IE.lst E LT).length % 3 = 0 by omega))),
    (fun _ => .inl (show (maxI 0 (E.i 12) - IntKind.i64.wrap (E.i 1000 + 1)).toNat < (maxI 0 (E.i 12) - E.i 1000).toNat from by rw [up]; omega)),
    (fun _ => dt (show (0 : Int) ≤ IntKind.i64.wrap (E.i 1000 + 1) from by rw [up]; omega)),
    (fun _ => beq_iff_eq.2 ((congrArg (fun n : Nat => (n : Int)) (put_len E 1307 _ _)).trans hrow)),trivial⟩
theorem run27_0 (E : Env) (hfs : ∀ b ∈ cut27.fs, @BE.val E b = true) (hphi : Phi 27 E) (htab : TabR (tabsOf pks 0) E) : ObsOk E Phi ob27_0 := by
  have n0 : (0 : Int) ≤ E.i 10 := od (hfs (.cmp .leq (.lit 0) (.atom 10)) (mg 33 rfl))
  have n70 : (((E.i 10).toNat : Nat) : Int) ≤ 70 := od (hfs (.cmp .leq (.nat (.atom 10)) (.lit 70)) (mg 5 rfl))
  obtain ⟨hT,hT210⟩ := LT2 E n0 n70
  have hr := right_of (hfs (.cmp .neq (.fn 1 cfgL) (.lit 0)) (mg 29 rfl))
  obtain ⟨hts0,hts1,hts2⟩ := tsOf hr
  have r8 : (((E.i 8).toNat : Nat) : Int) ≤ 400 := od (hfs (.cmp .leq (.nat (.atom 8)) (.lit 400)) (mg 9 rfl))
  have cb : E.i 1000 < maxI 0 (E.i 12) := od (hfs q57 (mg 3 rfl))
  have ca : (0 : Int) ≤ E.i 1000 := od (hfs (.cmp .leq (.lit 0) (.atom 1000)) (mg 0 rfl))
  have c12 : E.i 12 ≤ 300 := od (hfs (.cmp .leq (.atom 12) (.lit 300)) (mg 8 rfl))
  have c300 := lt_mx cb c12 ca
  have up : IntKind.i64.wrap (E.i 1000 + 1) = E.i 1000 + 1 := i64_small (by omega) (by omega)
  have hrow : ((E.l 1307).length : Int) = (((E.i 8).toNat : Nat) : Int) := hphi
  exact ⟨(fun _ => dt (show ((E.l 1307).length : Int) ≤ 31274997412295 from by omega)),
    (fun hc => by
      have q : (_ && decide ((((E.i 10).toNat : Nat) : Int) < E.i 4)) = true := hc.1
      have q := od (Bool.and_eq_true _ _ ▸ q).2
      have q2 : E.i 4 ≤ ((@IE.lst E LT).length : Int) / 3 := od (hfs q23 (mg 1 rfl))
      omega),
    (fun _ => dt (show ((@IE.lst E LT).length : Int) ≤ 24000000000000 from by omega)),
    (fun _ => dt (show ((@IE.lst E LT).length : Int) ≤ 300000000 from by omega)),
    (fun _ => beq_iff_eq.2 (m3 (show (@IE.lst E LT).length % 3 = 0 by omega))),
    (fun _ => .inl (show (maxI 0 (E.i 12) - IntKind.i64.wrap (E.i 1000 + 1)).toNat < (maxI 0 (E.i 12) - E.i 1000).toNat from by rw [up]; omega)),
    (fun _ => dt (show (0 : Int) ≤ IntKind.i64.wrap (E.i 1000 + 1) from by rw [up]; omega)),
    (fun _ => beq_iff_eq.2 ((congrArg (fun n : Nat => (n : Int)) (put_len E 1307 _ _)).trans hrow)),trivial⟩
theorem run28_0 (E : Env) (hfs : ∀ b ∈ cut28.fs, @BE.val E b = true) (hphi : Phi 28 E) (htab : TabR (tabsOf pks 0) E) : ObsOk E Phi ob28_0 := by
  have n0 : (0 : Int) ≤ E.i 10 := od (hfs (.cmp .leq (.lit 0) (.atom 10)) (mg 33 rfl))
  have n70 : (((E.i 10).toNat : Nat) : Int) ≤ 70 := od (hfs (.cmp .leq (.nat (.atom 10)) (.lit 70)) (mg 5 rfl))
  obtain ⟨hT,hT210⟩ := LT2 E n0 n70
  have hr := right_of (hfs (.cmp .neq (.fn 1 cfgL) (.lit 0)) (mg 29 rfl))
  obtain ⟨hts0,hts1,hts2⟩ := tsOf hr
  have r8 : (((E.i 8).toNat : Nat) : Int) ≤ 400 := od (hfs (.cmp .leq (.nat (.atom 8)) (.lit 400)) (mg 9 rfl))
  have cb : E.i 1000 < maxI 0 (E.i 12) := od (hfs q57 (mg 3 rfl))
  have ca : (0 : Int) ≤ E.i 1000 := od (hfs (.cmp .leq (.lit 0) (.atom 1000)) (mg 0 rfl))
  have c12 : E.i 12 ≤ 300 := od (hfs (.cmp .leq (.atom 12) (.lit 300)) (mg 8 rfl))
  have c300 := lt_mx cb c12 ca
  have up : IntKind.i64.wrap (E.i 1000 + 1) = E.i 1000 + 1 := i64_small (by omega) (by omega)
  have hrow : ((E.l 1307).length : Int) = (((E.i 8).toNat : Nat) : Int) := hphi
  exact ⟨(fun _ => dt (show ((E.l 1307).length : Int) ≤ 31274997412295 from by omega)),
    (fun hc => by
      have q : (_ && decide ((((E.i 10).toNat : Nat) : Int) < E.i 4)) = true := hc.1
      have q := od (Bool.and_eq_true _ _ ▸ q).2
      have q2 : E.i 4 ≤ ((@IE.lst E LT).length : Int) / 3 := od (hfs q23 (mg 1 rfl))
      omega),
    (fun _ => dt (show ((@IE.lst E LT).length : Int) ≤ 24000000000000 from by omega)),
    (fun _ => dt (show ((@IE.lst E LT).length : Int) ≤ 300000000 from by omega)),
    (fun _ => beq_iff_eq.2 (m3 (show (@IE.lst E LT).length % 3 = 0 by omega))),
    (fun _ => .inl (show (maxI 0 (E.i 12) - IntKind.i64.wrap (E.i 1000 + 1)).toNat < (maxI 0 (E.i 12) - E.i 1000).toNat from by rw [up]; omega)),
    (fun _ => dt (show (0 : Int) ≤ IntKind.i64.wrap (E.i 1000 + 1) from by rw [up]; omega)),
    (fun _ => beq_iff_eq.2 ((congrArg (fun n : Nat => (n : Int)) (put_len E 1307 _ _)).trans hrow)),trivial⟩
theorem run29_0 (E : Env) (hfs : ∀ b ∈ cut29.fs, @BE.val E b = true) (hphi : Phi 29 E) (htab : TabR (tabsOf pks 0) E) : ObsOk E Phi ob29_0 := by
  have n0 : (0 : Int) ≤ E.i 10 := od (hfs (.cmp .leq (.lit 0) (.atom 10)) (mg 33 rfl))
  have n70 : (((E.i 10).toNat : Nat) : Int) ≤ 70 := od (hfs (.cmp .leq (.nat (.atom 10)) (.lit 70)) (mg 5 rfl))
  obtain ⟨hT,hT210⟩ := LT2 E n0 n70
  have hr := right_of (hfs (.cmp .neq (.fn 1 cfgL) (.lit 0)) (mg 29 rfl))
  obtain ⟨hts0,hts1,hts2⟩ := tsOf hr
  have r8 : (((E.i 8).toNat : Nat) : Int) ≤ 400 := od (hfs (.cmp .leq (.nat (.atom 8)) (.lit 400)) (mg 9 rfl))
  have cb : E.i 1000 < maxI 0 (E.i 12) := od (hfs q57 (mg 3 rfl))
  have ca : (0 : Int) ≤ E.i 1000 := od (hfs (.cmp .leq (.lit 0) (.atom 1000)) (mg 0 rfl))
  have c12 : E.i 12 ≤ 300 := od (hfs (.cmp .leq (.atom 12) (.lit 300)) (mg 8 rfl))
  have c300 := lt_mx cb c12 ca
  have up : IntKind.i64.wrap (E.i 1000 + 1) = E.i 1000 + 1 := i64_small (by omega) (by omega)
  have hrow : ((E.l 1307).length : Int) = (((E.i 8).toNat : Nat) : Int) := hphi
  exact ⟨(fun _ => dt (show ((E.l 1307).length : Int) ≤ 31274997412295 from by omega)),
    (fun hc => by
      have q : (!(decide (IntKind.i64.wrap (E.i 1000 + 1) ≥ E.i 1) && decide ((((E.i 10).toNat : Nat) : Int) < E.i 4))) = true := hc.1
      have q1 : E.i 1 ≤ IntKind.i64.wrap (E.i 1000 + 1) := od (hfs q99 (mg 2 rfl))
      have q2 : ((@IE.lst E LT).length : Int) / 3 < E.i 4 := od (hfs q66 (mg 1 rfl))
      rw [dt q1,dt (show (((E.i 10).toNat : Nat) : Int) < E.i 4 by omega)] at q
      cases q),
    (fun _ => dt (show ((@IE.lst E LT).length : Int) ≤ 24000000000000 from by omega)),
    (fun _ => dt (show ((@IE.lst E LT).length : Int) ≤ 300000000 from by omega)),
    (fun _ => beq_iff_eq.2 (m3 (show (@IE.lst E LT).length % 3 = 0 by omega))),
    (fun _ => .inl (show (maxI 0 (E.i 12) - IntKind.i64.wrap (E.i 1000 + 1)).toNat < (maxI 0 (E.i 12) - E.i 1000).toNat from by rw [up]; omega)),
    (fun _ => dt (show (0 : Int) ≤ IntKind.i64.wrap (E.i 1000 + 1) from by rw [up]; omega)),
    (fun _ => beq_iff_eq.2 ((congrArg (fun n : Nat => (n : Int)) (put_len E 1307 _ _)).trans hrow)),trivial⟩
theorem run30_0 (E : Env) (hfs : ∀ b ∈ cut30.fs, @BE.val E b = true) (hphi : Phi 30 E) (htab : TabR (tabsOf pks 0) E) : ObsOk E Phi ob30_0 := by
  have n0 : (0 : Int) ≤ E.i 10 := od (hfs (.cmp .leq (.lit 0) (.atom 10)) (mg 33 rfl))
  have n70 : (((E.i 10).toNat : Nat) : Int) ≤ 70 := od (hfs (.cmp .leq (.nat (.atom 10)) (.lit 70)) (mg 5 rfl))
  obtain ⟨hT,hT210⟩ := LT2 E n0 n70
  have hr := right_of (hfs (.cmp .neq (.fn 1 cfgL) (.lit 0)) (mg 29 rfl))
  obtain ⟨hts0,hts1,hts2⟩ := tsOf hr
  have r8 : (((E.i 8).toNat : Nat) : Int) ≤ 400 := od (hfs (.cmp .leq (.nat (.atom 8)) (.lit 400)) (mg 9 rfl))
  have cb : E.i 1000 < maxI 0 (E.i 12) := od (hfs q57 (mg 3 rfl))
  have ca : (0 : Int) ≤ E.i 1000 := od (hfs (.cmp .leq (.lit 0) (.atom 1000)) (mg 0 rfl))
  have c12 : E.i 12 ≤ 300 := od (hfs (.cmp .leq (.atom 12) (.lit 300)) (mg 8 rfl))
  have c300 := lt_mx cb c12 ca
  have up : IntKind.i64.wrap (E.i 1000 + 1) = E.i 1000 + 1 := i64_small (by omega) (by omega)
  have hrow : ((E.l 1307).length : Int) = (((E.i 8).toNat : Nat) : Int) := hphi
  exact ⟨(fun _ => dt (show ((E.l 1307).length : Int) ≤ 31274997412295 from by omega)),
    (fun hc => by
      have q : (!(decide (IntKind.i64.wrap (E.i 1000 + 1) ≥ E.i 1) && decide ((((E.i 10).toNat : Nat) : Int) < E.i 4))) = true := hc.1
      have q1 : E.i 1 ≤ IntKind.i64.wrap (E.i 1000 + 1) := od (hfs q99 (mg 2 rfl))
      have q2 : ((@IE.lst E LT).length : Int) / 3 < E.i 4 := od (hfs q66 (mg 1 rfl))
      rw [dt q1,dt (show (((E.i 10).toNat : Nat) : Int) < E.i 4 by omega)] at q
      cases q),
    (fun _ => dt (show ((@IE.lst E LT).length : Int) ≤ 24000000000000 from by omega)),
    (fun _ => dt (show ((@IE.lst E LT).length : Int) ≤ 300000000 from by omega)),
    (fun _ => beq_iff_eq.2 (m3 (show (@IE.lst E LT).length % 3 = 0 by omega))),
    (fun _ => .inl (show (maxI 0 (E.i 12) - IntKind.i64.wrap (E.i 1000 + 1)).toNat < (maxI 0 (E.i 12) - E.i 1000).toNat from by rw [up]; omega)),
    (fun _ => dt (show (0 : Int) ≤ IntKind.i64.wrap (E.i 1000 + 1) from by rw [up]; omega)),
    (fun _ => beq_iff_eq.2 ((congrArg (fun n : Nat => (n : Int)) (put_len E 1307 _ _)).trans hrow)),trivial⟩
theorem run31_0 (E : Env) (hfs : ∀ b ∈ cut31.fs, @BE.val E b = true) (hphi : Phi 31 E) (htab : TabR (tabsOf pks 0) E) : ObsOk E Phi ob31_0 := by
  have n0 : (0 : Int) ≤ E.i 10 := od (hfs (.cmp .leq (.lit 0) (.atom 10)) (mg 34 rfl))
  have n70 : (((E.i 10).toNat : Nat) : Int) ≤ 70 := od (hfs (.cmp .leq (.nat (.atom 10)) (.lit 70)) (mg 6 rfl))
  obtain ⟨hT,hT210⟩ := LT2 E n0 n70
  have hr := right_of (hfs (.cmp .neq (.fn 1 cfgL) (.lit 0)) (mg 30 rfl))
  obtain ⟨hts0,hts1,hts2⟩ := tsOf hr
  have r8 : (((E.i 8).toNat : Nat) : Int) ≤ 400 := od (hfs (.cmp .leq (.nat (.atom 8)) (.lit 400)) (mg 10 rfl))
  have hrow : ((E.l 3707).length : Int) = (((E.i 8).toNat : Nat) : Int) := eb (hfs q84 (mg 1 rfl))
  have cb : E.i 3200 < maxI 0 (E.i 12) := od (hfs q81 (mg 3 rfl))
  have ca : (0 : Int) ≤ E.i 3200 := od (hfs (.cmp .leq (.lit 0) (.atom 3200)) (mg 0 rfl))
  have c12 : E.i 12 ≤ 300 := od (hfs (.cmp .leq (.atom 12) (.lit 300)) (mg 9 rfl))
  have c300 := lt_mx cb c12 ca
  have up : IntKind.i64.wrap (E.i 3200 + 1) = E.i 3200 + 1 := i64_small (by omega) (by omega)
  exact ⟨(fun _ => dt (show ((@IE.lst E LT).length : Int) ≤ 24000000000000 from by omega)),
    (fun _ => dt (show ((@IE.lst E LT).length : Int) ≤ 300000000 from by omega)),
    (fun _ => beq_iff_eq.2 (m3 (show (@IE.lst E LT).length % 3 = 0 by omega))),
    (fun _ => bl E _ _ (by omega)),
    (fun _ => .inl (show (maxI 0 (E.i 12) - IntKind.i64.wrap (E.i 3200 + 1)).toNat < (maxI 0 (E.i 12) - E.i 3200).toNat from by rw [up]; omega)),
    (fun _ => dt (show (0 : Int) ≤ IntKind.i64.wrap (E.i 3200 + 1) from by rw [up]; omega)),
    (fun _ => (show ((1 : Nat)) ≤ 64 by decide)),trivial⟩
theorem run32_0 (E : Env) (hfs : ∀ b ∈ cut32.fs, @BE.val E b = true) (hphi : Phi 32 E) (htab : TabR (tabsOf pks 0) E) : ObsOk E Phi ob32_0 := by
  have n0 : (0 : Int) ≤ E.i 10 := od (hfs (.cmp .leq (.lit 0) (.atom 10)) (mg 35 rfl))
  have n70 : (((E.i 10).toNat : Nat) : Int) ≤ 70 := od (hfs (.cmp .leq (.nat (.atom 10)) (.lit 70)) (mg 7 rfl))
  obtain ⟨hT,hT210⟩ := LT2 E n0 n70
  have hr := right_of (hfs (.cmp .neq (.fn 1 cfgL) (.lit 0)) (mg 31 rfl))
  obtain ⟨hts0,hts1,hts2⟩ := tsOf hr
  have r8 : (((E.i 8).toNat : Nat) : Int) ≤ 400 := od (hfs (.cmp .leq (.nat (.atom 8)) (.lit 400)) (mg 11 rfl))
  have hrow : ((E.l 3707).length : Int) = (((E.i 8).toNat : Nat) : Int) := eb (hfs q84 (mg 1 rfl))
  have cb : E.i 3200 < maxI 0 (E.i 12) := od (hfs q81 (mg 4 rfl))
  have ca : (0 : Int) ≤ E.i 3200 := od (hfs (.cmp .leq (.lit 0) (.atom 3200)) (mg 0 rfl))
  have c12 : E.i 12 ≤ 300 := od (hfs (.cmp .leq (.atom 12) (.lit 300)) (mg 10 rfl))
  have c300 := lt_mx cb c12 ca
  have up : IntKind.i64.wrap (E.i 3200 + 1) = E.i 3200 + 1 := i64_small (by omega) (by omega)
  exact ⟨(fun _ => dt (show ((@IE.lst E (.fnL 3 q7)).length : Int) ≤ 24000000000000 from by have q := (ok_split true (@IE.lst E (.consL (.fn 10 q1) .nilL)) hT210).1; rw [← sp_3 E (.consL (.fn 10 q1) .nilL)] at q; exact Int.le_trans (Int.ofNat_le.2 q) (show ((210 : Nat) : Int) ≤ 24000000000000 by omega))),
    (fun _ => dt (show ((@IE.lst E (.fnL 3 q7)).length : Int) ≤ 300000000 from by have q := (ok_split true (@IE.lst E (.consL (.fn 10 q1) .nilL)) hT210).1; rw [← sp_3 E (.consL (.fn 10 q1) .nilL)] at q; exact Int.le_trans (Int.ofNat_le.2 q) (show ((210 : Nat) : Int) ≤ 300000000 by omega))),
    (fun _ => beq_iff_eq.2 (m3 (show (@IE.lst E (.fnL 3 q7)).length % 3 = 0 by have q := (ok_split true (@IE.lst E (.consL (.fn 10 q1) .nilL)) hT210).2; rw [← sp_3 E (.consL (.fn 10 q1) .nilL)] at q; exact q))),
    (fun _ => bl E _ _ (by omega)),
    (fun _ => .inl (show (maxI 0 (E.i 12) - IntKind.i64.wrap (E.i 3200 + 1)).toNat < (maxI 0 (E.i 12) - E.i 3200).toNat from by rw [up]; omega)),
    (fun _ => dt (show (0 : Int) ≤ IntKind.i64.wrap (E.i 3200 + 1) from by rw [up]; omega)),
    (fun _ => ⟨(by have q := ok_split true (@IE.lst E (.consL (.fn 10 q1) .nilL)) hT210; rw [← sp_3 E (.consL (.fn 10 q1) .nilL)] at q; exact q),(show ((1 : Nat)) ≤ 65 by decide)⟩),trivial⟩
theorem run33_0 (E : Env) (hfs : ∀ b ∈ cut33.fs, @BE.val E b = true) (hphi : Phi 33 E) (htab : TabR (tabsOf pks 0) E) : ObsOk E Phi ob33_0 := by
  have n0 : (0 : Int) ≤ E.i 10 := od (hfs (.cmp .leq (.lit 0) (.atom 10)) (mg 35 rfl))
  have n70 : (((E.i 10).toNat : Nat) : Int) ≤ 70 := od (hfs (.cmp .leq (.nat (.atom 10)) (.lit 70)) (mg 7 rfl))
  obtain ⟨hT,hT210⟩ := LT2 E n0 n70
  have hr := right_of (hfs (.cmp .neq (.fn 1 cfgL) (.lit 0)) (mg 31 rfl))
  obtain ⟨hts0,hts1,hts2⟩ := tsOf hr
  have r8 : (((E.i 8).toNat : Nat) : Int) ≤ 400 := od (hfs (.cmp .leq (.nat (.atom 8)) (.lit 400)) (mg 11 rfl))
  have hrow : ((E.l 3707).length : Int) = (((E.i 8).toNat : Nat) : Int) := eb (hfs q84 (mg 1 rfl))
  have cb : E.i 3200 < maxI 0 (E.i 12) := od (hfs q81 (mg 4 rfl))
  have ca : (0 : Int) ≤ E.i 3200 := od (hfs (.cmp .leq (.lit 0) (.atom 3200)) (mg 0 rfl))
  have c12 : E.i 12 ≤ 300 := od (hfs (.cmp .leq (.atom 12) (.lit 300)) (mg 10 rfl))
  have c300 := lt_mx cb c12 ca
  have up : IntKind.i64.wrap (E.i 3200 + 1) = E.i 3200 + 1 := i64_small (by omega) (by omega)
  exact ⟨(fun _ => dt (show ((@IE.lst E (.fnL 3 q7)).length : Int) ≤ 24000000000000 from by have q := (ok_split true (@IE.lst E (.consL (.fn 10 q1) .nilL)) hT210).1; rw [← sp_3 E (.consL (.fn 10 q1) .nilL)] at q; exact Int.le_trans (Int.ofNat_le.2 q) (show ((210 : Nat) : Int) ≤ 24000000000000 by omega))),
    (fun _ => dt (show ((@IE.lst E (.fnL 3 q7)).length : Int) ≤ 300000000 from by have q := (ok_split true (@IE.lst E (.consL (.fn 10 q1) .nilL)) hT210).1; rw [← sp_3 E (.consL (.fn 10 q1) .nilL)] at q; exact Int.le_trans (Int.ofNat_le.2 q) (show ((210 : Nat) : Int) ≤ 300000000 by omega))),
    (fun _ => beq_iff_eq.2 (m3 (show (@IE.lst E (.fnL 3 q7)).length % 3 = 0 by have q := (ok_split true (@IE.lst E (.consL (.fn 10 q1) .nilL)) hT210).2; rw [← sp_3 E (.consL (.fn 10 q1) .nilL)] at q; exact q))),
    (fun _ => bl E _ _ (by omega)),
    (fun _ => .inl (show (maxI 0 (E.i 12) - IntKind.i64.wrap (E.i 3200 + 1)).toNat < (maxI 0 (E.i 12) - E.i 3200).toNat from by rw [up]; omega)),
    (fun _ => dt (show (0 : Int) ≤ IntKind.i64.wrap (E.i 3200 + 1) from by rw [up]; omega)),
    (fun _ => ⟨(by have q := ok_split true (@IE.lst E (.consL (.fn 10 q1) .nilL)) hT210; rw [← sp_3 E (.consL (.fn 10 q1) .nilL)] at q; exact q), (show ((1 : Nat)) ≤ 65 by decide), (by have q := ok_split false (@IE.lst E (.consL (.fn 10 q1) .nilL)) hT210; rw [← sp_4 E (.consL (.fn 10 q1) .nilL)] at q; exact q), (by
        have q : ((@IE.lst E (.fnL 4 q7)).length : Int) / 3 ≠ 0 := bne_iff_ne.1 (hfs (.cmp .neq (.fn 50 (.consL (.len (.fnL 4 q7)) (.consL (.lit 3) .nilL))) (.lit 0)) (mg 2 rfl))
        show 0 < (@IE.lst E (.fnL 4 q7)).length
        omega),(by
        show ∀ x ∈ @IE.lst E (.fnL 4 q7),_
        intro x hx
        exact LT_words E htab x (split_mem ((congrArg (fun l : List Int => x ∈ l) (sp_4 E (.consL (.fn 10 q1) .nilL))).mp hx)))⟩),trivial⟩
theorem run34_0 (E : Env) (hfs : ∀ b ∈ cut34.fs, @BE.val E b = true) (hphi : Phi 34 E) (htab : TabR (tabsOf pks 0) E) : ObsOk E Phi ob34_0 := by
  have n0 : (0 : Int) ≤ E.i 10 := od (hfs (.cmp .leq (.lit 0) (.atom 10)) (mg 34 rfl))
  have n70 : (((E.i 10).toNat : Nat) : Int) ≤ 70 := od (hfs (.cmp .leq (.nat (.atom 10)) (.lit 70)) (mg 6 rfl))
  obtain ⟨hT,hT210⟩ := LT2 E n0 n70
  have hr := right_of (hfs (.cmp .neq (.fn 1 cfgL) (.lit 0)) (mg 30 rfl))
  obtain ⟨hts0,hts1,hts2⟩ := tsOf hr
  have r8 : (((E.i 8).toNat : Nat) : Int) ≤ 400 := od (hfs (.cmp .leq (.nat (.atom 8)) (.lit 400)) (mg 10 rfl))
  have hrow : ((E.l 3907).length : Int) = (((E.i 8).toNat : Nat) : Int) := eb (hfs (.cmp .eql (.len (.latom 3907)) (.nat (.atom 8))) (mg 1 rfl))
  have cb : E.i 3413 < maxI 0 (E.i 12) := od (hfs (.cmp .lss (.atom 3413) (.mx (.lit 0) (.atom 12))) (mg 2 rfl))
  have ca : (0 : Int) ≤ E.i 3413 := od (hfs (.cmp .leq (.lit 0) (.atom 3413)) (mg 0 rfl))
  have c12 : E.i 12 ≤ 300 := od (hfs (.cmp .leq (.atom 12) (.lit 300)) (mg 9 rfl))
  have c300 := lt_mx cb c12 ca
  have up : IntKind.i64.wrap (E.i 3413 + 1) = E.i 3413 + 1 := i64_small (by omega) (by omega)
  exact ⟨(fun _ => dt (show ((@IE.lst E LT).length : Int) ≤ 24000000000000 from by omega)),
    (fun _ => dt (show ((@IE.lst E LT).length : Int) ≤ 300000000 from by omega)),
    (fun _ => beq_iff_eq.2 (m3 (show (@IE.lst E LT).length % 3 = 0 by omega))),
    (fun _ => .inl (show (maxI 0 (E.i 12) - IntKind.i64.wrap (E.i 3413 + 1)).toNat < (maxI 0 (E.i 12) - E.i 3413).toNat from by rw [up]; omega)),
    (fun _ => dt (show (0 : Int) ≤ IntKind.i64.wrap (E.i 3413 + 1) from by rw [up]; omega)),trivial⟩
theorem run35_0 (E : Env) (hfs : ∀ b ∈ cut35.fs, @BE.val E b = true) (hphi : Phi 35 E) (htab : TabR (tabsOf pks 0) E) : ObsOk E Phi ob35_0 := by
  have n0 : (0 : Int) ≤ E.i 10 := od (hfs (.cmp .leq (.lit 0) (.atom 10)) (mg 35 rfl))
  have n70 : (((E.i 10).toNat : Nat) : Int) ≤ 70 := od (hfs (.cmp .leq (.nat (.atom 10)) (.lit 70)) (mg 7 rfl))
  obtain ⟨hT,hT210⟩ := LT2 E n0 n70
  have hr := right_of (hfs (.cmp .neq (.fn 1 cfgL) (.lit 0)) (mg 31 rfl))
  obtain ⟨hts0,hts1,hts2⟩ := tsOf hr
  have r8 : (((E.i 8).toNat : Nat) : Int) ≤ 400 := od (hfs (.cmp .leq (.nat (.atom 8)) (.lit 400)) (mg 11 rfl))
  have hrow : ((E.l 8107).length : Int) = (((E.i 8).toNat : Nat) : Int) := eb (hfs q76 (mg 1 rfl))
  have cb : E.i 7402 < maxI 0 (E.i 12) := od (hfs q65 (mg 3 rfl))
  have ca : (0 : Int) ≤ E.i 7402 := od (hfs (.cmp .leq (.lit 0) (.atom 7402)) (mg 0 rfl))
  have c12 : E.i 12 ≤ 300 := od (hfs (.cmp .leq (.atom 12) (.lit 300)) (mg 10 rfl))
  have c300 := lt_mx cb c12 ca
  have up : IntKind.i64.wrap (E.i 7402 + 1) = E.i 7402 + 1 := i64_small (by omega) (by omega)
  have hs : (E.l 7410).length ≤ 64 := hphi
  have hsl : IntKind.i64.wrap (((E.l 7410).length : Int) + 1) < IntKind.i64.wrap (E.i 0 * E.i 1) := od (hfs q46 (mg 2 rfl))
  rw [hts0,i64_small (by omega) (by omega)] at hsl
  exact ⟨(fun _ => dt (show ((@IE.lst E LT).length : Int) ≤ 24000000000000 from by omega)),
    (fun _ => dt (show ((@IE.lst E LT).length : Int) ≤ 300000000 from by omega)),
    (fun _ => beq_iff_eq.2 (m3 (show (@IE.lst E LT).length % 3 = 0 by omega))),
    (fun _ => dt (show ((@IE.lst E q5).length : Int) ≤ 1000000 from by have q : (@IE.lst E q5).length = (E.l 7410).length + 1 := List.length_append ..; rw [q]; omega)),
    (fun _ => .inl (show (maxI 0 (E.i 12) - IntKind.i64.wrap (E.i 7402 + 1)).toNat < (maxI 0 (E.i 12) - E.i 7402).toNat from by rw [up]; omega)),
    (fun _ => dt (show (0 : Int) ≤ IntKind.i64.wrap (E.i 7402 + 1) from by rw [up]; omega)),
    (fun _ => (show (@IE.lst E q5).length ≤ 64 by have q : (@IE.lst E q5).length = (E.l 7410).length + 1 := List.length_append ..; rw [q]; omega)),trivial⟩
theorem run36_0 (E : Env) (hfs : ∀ b ∈ cut36.fs, @BE.val E b = true) (hphi : Phi 36 E) (htab : TabR (tabsOf pks 0) E) : ObsOk E Phi ob36_0 := by
  have n0 : (0 : Int) ≤ E.i 10 := od (hfs (.cmp .leq (.lit 0) (.atom 10)) (mg 36 rfl))
  have n70 : (((E.i 10).toNat : Nat) : Int) ≤ 70 := od (hfs (.cmp .leq (.nat (.atom 10)) (.lit 70)) (mg 8 rfl))
  obtain ⟨hT,hT210⟩ := LT2 E n0 n70
  have hr := right_of (hfs (.cmp .neq (.fn 1 cfgL) (.lit 0)) (mg 32 rfl))
  obtain ⟨hts0,hts1,hts2⟩ := tsOf hr
  have r8 : (((E.i 8).toNat : Nat) : Int) ≤ 400 := od (hfs (.cmp .leq (.nat (.atom 8)) (.lit 400)) (mg 12 rfl))
  have hrow : ((E.l 8107).length : Int) = (((E.i 8).toNat : Nat) : Int) := eb (hfs q76 (mg 1 rfl))
  have cb : E.i 7402 < maxI 0 (E.i 12) := od (hfs q65 (mg 4 rfl))
  have ca : (0 : Int) ≤ E.i 7402 := od (hfs (.cmp .leq (.lit 0) (.atom 7402)) (mg 0 rfl))
  have c12 : E.i 12 ≤ 300 := od (hfs (.cmp .leq (.atom 12) (.lit 300)) (mg 11 rfl))
  have c300 := lt_mx cb c12 ca
  have up : IntKind.i64.wrap (E.i 7402 + 1) = E.i 7402 + 1 := i64_small (by omega) (by omega)
  have hs : (E.l 7410).length ≤ 64 := hphi
  exact ⟨(fun _ => dt (show ((@IE.lst E (.fnL 3 q17)).length : Int) ≤ 24000000000000 from by have q := (ok_split true (@IE.lst E q5) hT210).1; rw [← sp_3 E q5] at q; exact Int.le_trans (Int.ofNat_le.2 q) (show ((210 : Nat) : Int) ≤ 24000000000000 by omega))),
    (fun _ => dt (show ((@IE.lst E (.fnL 3 q17)).length : Int) ≤ 300000000 from by have q := (ok_split true (@IE.lst E q5) hT210).1; rw [← sp_3 E q5] at q; exact Int.le_trans (Int.ofNat_le.2 q) (show ((210 : Nat) : Int) ≤ 300000000 by omega))),
    (fun _ => beq_iff_eq.2 (m3 (show (@IE.lst E (.fnL 3 q17)).length % 3 = 0 by have q := (ok_split true (@IE.lst E q5) hT210).2; rw [← sp_3 E q5] at q; exact q))),
    (fun _ => dt (show ((@IE.lst E q5).length : Int) ≤ 1000000 from by have q : (@IE.lst E q5).length = (E.l 7410).length + 1 := List.length_append ..; rw [q]; omega)),
    (fun _ => .inl (show (maxI 0 (E.i 12) - IntKind.i64.wrap (E.i 7402 + 1)).toNat < (maxI 0 (E.i 12) - E.i 7402).toNat from by rw [up]; omega)),
    (fun _ => dt (show (0 : Int) ≤ IntKind.i64.wrap (E.i 7402 + 1) from by rw [up]; omega)),
    (fun _ => ⟨(by have q := ok_split true (@IE.lst E q5) hT210; rw [← sp_3 E q5] at q; exact q),(show (@IE.lst E q5).length ≤ 65 by have q : (@IE.lst E q5).length = (E.l 7410).length + 1 := List.length_append ..; rw [q]; omega)⟩),trivial⟩
theorem run37_0 (E : Env) (hfs : ∀ b ∈ cut37.fs, @BE.val E b = true) (hphi : Phi 37 E) (htab : TabR (tabsOf pks 0) E) : ObsOk E Phi ob37_0 := by
  have n0 : (0 : Int) ≤ E.i 10 := od (hfs (.cmp .leq (.lit 0) (.atom 10)) (mg 36 rfl))
  have n70 : (((E.i 10).toNat : Nat) : Int) ≤ 70 := od (hfs (.cmp .leq (.nat (.atom 10)) (.lit 70)) (mg 8 rfl))
  obtain ⟨hT,hT210⟩ := LT2 E n0 n70
  have hr := right_of (hfs (.cmp .neq (.fn 1 cfgL) (.lit 0)) (mg 32 rfl))
  obtain ⟨hts0,hts1,hts2⟩ := tsOf hr
  have r8 : (((E.i 8).toNat : Nat) : Int) ≤ 400 := od (hfs (.cmp .leq (.nat (.atom 8)) (.lit 400)) (mg 12 rfl))
  have hrow : ((E.l 8107).length : Int) = (((E.i 8).toNat : Nat) : Int) := eb (hfs q76 (mg 1 rfl))
  have cb : E.i 7402 < maxI 0 (E.i 12) := od (hfs q65 (mg 4 rfl))
  have ca : (0 : Int) ≤ E.i 7402 := od (hfs (.cmp .leq (.lit 0) (.atom 7402)) (mg 0 rfl))
  have c12 : E.i 12 ≤ 300 := od (hfs (.cmp .leq (.atom 12) (.lit 300)) (mg 11 rfl))
  have c300 := lt_mx cb c12 ca
  have up : IntKind.i64.wrap (E.i 7402 + 1) = E.i 7402 + 1 := i64_small (by omega) (by omega)
  have hs : (E.l 7410).length ≤ 64 := hphi
  exact ⟨(fun _ => dt (show ((@IE.lst E (.fnL 3 q17)).length : Int) ≤ 24000000000000 from by have q := (ok_split true (@IE.lst E q5) hT210).1; rw [← sp_3 E q5] at q; exact Int.le_trans (Int.ofNat_le.2 q) (show ((210 : Nat) : Int) ≤ 24000000000000 by omega))),
    (fun _ => dt (show ((@IE.lst E (.fnL 3 q17)).length : Int) ≤ 300000000 from by have q := (ok_split true (@IE.lst E q5) hT210).1; rw [← sp_3 E q5] at q; exact Int.le_trans (Int.ofNat_le.2 q) (show ((210 : Nat) : Int) ≤ 300000000 by omega))),
    (fun _ => beq_iff_eq.2 (m3 (show (@IE.lst E (.fnL 3 q17)).length % 3 = 0 by have q := (ok_split true (@IE.lst E q5) hT210).2; rw [← sp_3 E q5] at q; exact q))),
    (fun _ => dt (show ((@IE.lst E q5).length : Int) ≤ 1000000 from by have q : (@IE.lst E q5).length = (E.l 7410).length + 1 := List.length_append ..; rw [q]; omega)),
    (fun _ => .inl (show (maxI 0 (E.i 12) - IntKind.i64.wrap (E.i 7402 + 1)).toNat < (maxI 0 (E.i 12) - E.i 7402).toNat from by rw [up]; omega)),
    (fun _ => dt (show (0 : Int) ≤ IntKind.i64.wrap (E.i 7402 + 1) from by rw [up]; omega)),
    (fun _ => ⟨(by have q := ok_split true (@IE.lst E q5) hT210; rw [← sp_3 E q5] at q; exact q), (show (@IE.lst E q5).length ≤ 65 by have q : (@IE.lst E q5).length = (E.l 7410).length + 1 := List.length_append ..; rw [q]; omega), (by have q := ok_split false (@IE.lst E q5) hT210; rw [← sp_4 E q5] at q; exact q), (by
        have q : ((@IE.lst E (.fnL 4 q17)).length : Int) / 3 ≠ 0 := bne_iff_ne.1 (hfs (.cmp .neq (.fn 50 (.consL (.len (.fnL 4 q17)) (.consL (.lit 3) .nilL))) (.lit 0)) (mg 2 rfl))
        show 0 < (@IE.lst E (.fnL 4 q17)).length
        omega),(by
        show ∀ x ∈ @IE.lst E (.fnL 4 q17),_
        intro x hx
        exact LT_words E htab x (split_mem ((congrArg (fun l : List Int => x ∈ l) (sp_4 E q5)).mp hx)))⟩),trivial⟩
theorem run38_0 (E : Env) (hfs : ∀ b ∈ cut38.fs, @BE.val E b = true) (hphi : Phi 38 E) (htab : TabR (tabsOf pks 0) E) : ObsOk E Phi ob38_0 := by
  have n0 : (0 : Int) ≤ E.i 10 := od (hfs (.cmp .leq (.lit 0) (.atom 10)) (mg 33 rfl))
  have n70 : (((E.i 10).toNat : Nat) : Int) ≤ 70 := od (hfs (.cmp .leq (.nat (.atom 10)) (.lit 70)) (mg 5 rfl))
  obtain ⟨hT,hT210⟩ := LT2 E n0 n70
  have hr := right_of (hfs (.cmp .neq (.fn 1 cfgL) (.lit 0)) (mg 29 rfl))
  obtain ⟨hts0,hts1,hts2⟩ := tsOf hr
  have r8 : (((E.i 8).toNat : Nat) : Int) ≤ 400 := od (hfs (.cmp .leq (.nat (.atom 8)) (.lit 400)) (mg 9 rfl))
  have hrow : ((E.l 8307).length : Int) = (((E.i 8).toNat : Nat) : Int) := eb (hfs (.cmp .eql (.len (.latom 8307)) (.nat (.atom 8))) (mg 1 rfl))
  have cb : E.i 7613 < maxI 0 (E.i 12) := od (hfs (.cmp .lss (.atom 7613) (.mx (.lit 0) (.atom 12))) (mg 2 rfl))
  have ca : (0 : Int) ≤ E.i 7613 := od (hfs (.cmp .leq (.lit 0) (.atom 7613)) (mg 0 rfl))
  have c12 : E.i 12 ≤ 300 := od (hfs (.cmp .leq (.atom 12) (.lit 300)) (mg 8 rfl))
  have c300 := lt_mx cb c12 ca
  have up : IntKind.i64.wrap (E.i 7613 + 1) = E.i 7613 + 1 := i64_small (by omega) (by omega)
  have hphi : PE (E.l 7624) (E.l 7625) := hphi
  have hk1 := hphi.1.1
  have hk2 := hphi.1.2
  have hs := hphi.2
  exact ⟨(fun _ => dt (show ((E.l 7624).length : Int) ≤ 24000000000000 from by omega)),
    (fun _ => dt (show ((E.l 7624).length : Int) ≤ 300000000 from by omega)),
    (fun _ => beq_iff_eq.2 (m3 (show (E.l 7624).length % 3 = 0 by omega))),
    (fun _ => dt (show ((E.l 7625).length : Int) ≤ 1000000 from by omega)),
    (fun _ => .inl (show (maxI 0 (E.i 12) - IntKind.i64.wrap (E.i 7613 + 1)).toNat < (maxI 0 (E.i 12) - E.i 7613).toNat from by rw [up]; omega)),
    (fun _ => dt (show (0 : Int) ≤ IntKind.i64.wrap (E.i 7613 + 1) from by rw [up]; omega)),
    (fun _ => hphi),trivial⟩
theorem run39_0 (E : Env) (hfs : ∀ b ∈ cut39.fs, @BE.val E b = true) (hphi : Phi 39 E) (htab : TabR (tabsOf pks 0) E) : ObsOk E Phi ob39_0 := by
  have n0 : (0 : Int) ≤ E.i 10 := od (hfs (.cmp .leq (.lit 0) (.atom 10)) (mg 37 rfl))
  have n70 : (((E.i 10).toNat : Nat) : Int) ≤ 70 := od (hfs (.cmp .leq (.nat (.atom 10)) (.lit 70)) (mg 9 rfl))
  obtain ⟨hT,hT210⟩ := LT2 E n0 n70
  have hr := right_of (hfs (.cmp .neq (.fn 1 cfgL) (.lit 0)) (mg 33 rfl))
  obtain ⟨hts0,hts1,hts2⟩ := tsOf hr
  have r8 : (((E.i 8).toNat : Nat) : Int) ≤ 400 := od (hfs (.cmp .leq (.nat (.atom 8)) (.lit 400)) (mg 13 rfl))
  have cb : E.i 7813 < maxI 0 (E.i 12) := od (hfs q56 (mg 6 rfl))
  have ca : (0 : Int) ≤ E.i 7813 := od (hfs (.cmp .leq (.lit 0) (.atom 7813)) (mg 0 rfl))
  have c12 : E.i 12 ≤ 300 := od (hfs (.cmp .leq (.atom 12) (.lit 300)) (mg 12 rfl))
  have c300 := lt_mx cb c12 ca
  have up : IntKind.i64.wrap (E.i 7813 + 1) = E.i 7813 + 1 := i64_small (by omega) (by omega)
  have hrow := (show PF (E.l 7823) (E.l 7824) (E.l 7825) ∧ ((E.l 8507).length : Int) = (((E.i 8).toNat : Nat) : Int) from hphi).2
  have hphi : PF (E.l 7823) (E.l 7824) (E.l 7825) := (show PF (E.l 7823) (E.l 7824) (E.l 7825) ∧ ((E.l 8507).length : Int) = (((E.i 8).toNat : Nat) : Int) from hphi).1
  have hphi : PF (E.l 7823) (E.l 7824) (E.l 7825) := hphi
  have hk1 := hphi.1.1
  have hk2 := hphi.1.2
  have hs := hphi.2.1
  have ho1 := hphi.2.2.1.1
  have ho2 := hphi.2.2.1.2
  have ho3 := hphi.2.2.2.1
  have ho0 : 0 ≤ (E.l 7825).getD 0 0 ∧ (E.l 7825).getD 0 0 < 18446744073709551616 := by
    rw [List.getD_eq_getElem?_getD,List.getElem?_eq_getElem ho3]
    exact hphi.2.2.2.2 _ (List.getElem_mem ..)
  exact ⟨(fun _ => dt (show ((E.l 8507).length : Int) ≤ 31274997412295 from by omega)),
    (fun _ => dt (show ((E.l 7823).length : Int) ≤ 24000000000000 from by omega)),
    (fun _ => dt (show ((E.l 7823).length : Int) ≤ 300000000 from by omega)),
    (fun _ => beq_iff_eq.2 (m3 (show (E.l 7823).length % 3 = 0 by omega))),
    (fun _ => dt (show ((E.l 7824).length : Int) ≤ 1000000 from by omega)),
    (fun _ => .inl (show (maxI 0 (E.i 12) - IntKind.i64.wrap (E.i 7813 + 1)).toNat < (maxI 0 (E.i 12) - E.i 7813).toNat from by rw [up]; omega)),
    (fun _ => dt (show (0 : Int) ≤ IntKind.i64.wrap (E.i 7813 + 1) from by rw [up]; omega)),
    (fun _ => beq_iff_eq.2 ((congrArg (fun n : Nat => (n : Int)) (put_len E 8507 _ _)).trans hrow)),
    (fun _ => ⟨hphi.1,hphi.2.1⟩),trivial⟩
theorem run40_0 (E : Env) (hfs : ∀ b ∈ cut40.fs, @BE.val E b = true) (hphi : Phi 40 E) (htab : TabR (tabsOf pks 0) E) : ObsOk E Phi ob40_0 := by
  have n0 : (0 : Int) ≤ E.i 10 := od (hfs (.cmp .leq (.lit 0) (.atom 10)) (mg 37 rfl))
  have n70 : (((E.i 10).toNat : Nat) : Int) ≤ 70 := od (hfs (.cmp .leq (.nat (.atom 10)) (.lit 70)) (mg 9 rfl))
  obtain ⟨hT,hT210⟩ := LT2 E n0 n70
  have hr := right_of (hfs (.cmp .neq (.fn 1 cfgL) (.lit 0)) (mg 33 rfl))
  obtain ⟨hts0,hts1,hts2⟩ := tsOf hr
  have r8 : (((E.i 8).toNat : Nat) : Int) ≤ 400 := od (hfs (.cmp .leq (.nat (.atom 8)) (.lit 400)) (mg 13 rfl))
  have cb : E.i 7813 < maxI 0 (E.i 12) := od (hfs q56 (mg 6 rfl))
  have ca : (0 : Int) ≤ E.i 7813 := od (hfs (.cmp .leq (.lit 0) (.atom 7813)) (mg 0 rfl))
  have c12 : E.i 12 ≤ 300 := od (hfs (.cmp .leq (.atom 12) (.lit 300)) (mg 12 rfl))
  have c300 := lt_mx cb c12 ca
  have up : IntKind.i64.wrap (E.i 7813 + 1) = E.i 7813 + 1 := i64_small (by omega) (by omega)
  have hrow := (show PF (E.l 7823) (E.l 7824) (E.l 7825) ∧ ((E.l 8507).length : Int) = (((E.i 8).toNat : Nat) : Int) from hphi).2
  have hphi : PF (E.l 7823) (E.l 7824) (E.l 7825) := (show PF (E.l 7823) (E.l 7824) (E.l 7825) ∧ ((E.l 8507).length : Int) = (((E.i 8).toNat : Nat) : Int) from hphi).1
  have hphi : PF (E.l 7823) (E.l 7824) (E.l 7825) := hphi
  have hk1 := hphi.1.1
  have hk2 := hphi.1.2
  have hs := hphi.2.1
  have ho1 := hphi.2.2.1.1
  have ho2 := hphi.2.2.1.2
  have ho3 := hphi.2.2.2.1
  have ho0 : 0 ≤ (E.l 7825).getD 0 0 ∧ (E.l 7825).getD 0 0 < 18446744073709551616 := by
    rw [List.getD_eq_getElem?_getD,List.getElem?_eq_getElem ho3]
    exact hphi.2.2.2.2 _ (List.getElem_mem ..)
  exact ⟨(fun _ => dt (show ((E.l 8507).length : Int) ≤ 31274997412295 from by omega)),
    (fun _ => dt (show ((E.l 7823).length : Int) ≤ 24000000000000 from by omega)),
    (fun _ => dt (show ((E.l 7823).length : Int) ≤ 300000000 from by omega)),
    (fun _ => beq_iff_eq.2 (m3 (show (E.l 7823).length % 3 = 0 by omega))),
    (fun _ => dt (show ((E.l 7824).length : Int) ≤ 1000000 from by omega)),
    (fun _ => .inl (show (maxI 0 (E.i 12) - IntKind.i64.wrap (E.i 7813 + 1)).toNat < (maxI 0 (E.i 12) - E.i 7813).toNat from by rw [up]; omega)),
    (fun _ => dt (show (0 : Int) ≤ IntKind.i64.wrap (E.i 7813 + 1) from by rw [up]; omega)),
    (fun _ => beq_iff_eq.2 ((congrArg (fun n : Nat => (n : Int)) (put_len E 8507 _ _)).trans hrow)),
    (fun _ => ⟨hphi.1,hphi.2.1⟩),trivial⟩
theorem run41_0 (E : Env) (hfs : ∀ b ∈ cut41.fs, @BE.val E b = true) (hphi : Phi 41 E) (htab : TabR (tabsOf pks 0) E) : ObsOk E Phi ob41_0 := by
  have n0 : (0 : Int) ≤ E.i 10 := od (hfs (.cmp .leq (.lit 0) (.atom 10)) (mg 37 rfl))
  have n70 : (((E.i 10).toNat : Nat) : Int) ≤ 70 := od (hfs (.cmp .leq (.nat (.atom 10)) (.lit 70)) (mg 9 rfl))
  obtain ⟨hT,hT210⟩ := LT2 E n0 n70
  have hr := right_of (hfs (.cmp .neq (.fn 1 cfgL) (.lit 0)) (mg 33 rfl))
  obtain ⟨hts0,hts1,hts2⟩ := tsOf hr
  have r8 : (((E.i 8).toNat : Nat) : Int) ≤ 400 := od (hfs (.cmp .leq (.nat (.atom 8)) (.lit 400)) (mg 13 rfl))
  have cb : E.i 7813 < maxI 0 (E.i 12) := od (hfs q56 (mg 6 rfl))
  have ca : (0 : Int) ≤ E.i 7813 := od (hfs (.cmp .leq (.lit 0) (.atom 7813)) (mg 0 rfl))
  have c12 : E.i 12 ≤ 300 := od (hfs (.cmp .leq (.atom 12) (.lit 300)) (mg 12 rfl))
  have c300 := lt_mx cb c12 ca
  have up : IntKind.i64.wrap (E.i 7813 + 1) = E.i 7813 + 1 := i64_small (by omega) (by omega)
  have hrow := (show PF (E.l 7823) (E.l 7824) (E.l 7825) ∧ ((E.l 8507).length : Int) = (((E.i 8).toNat : Nat) : Int) from hphi).2
  have hphi : PF (E.l 7823) (E.l 7824) (E.l 7825) := (show PF (E.l 7823) (E.l 7824) (E.l 7825) ∧ ((E.l 8507).length : Int) = (((E.i 8).toNat : Nat) : Int) from hphi).1
  have hphi : PF (E.l 7823) (E.l 7824) (E.l 7825) := hphi
  have hk1 := hphi.1.1
  have hk2 := hphi.1.2
  have hs := hphi.2.1
  have ho1 := hphi.2.2.1.1
  have ho2 := hphi.2.2.1.2
  have ho3 := hphi.2.2.2.1
  have ho0 : 0 ≤ (E.l 7825).getD 0 0 ∧ (E.l 7825).getD 0 0 < 18446744073709551616 := by
    rw [List.getD_eq_getElem?_getD,List.getElem?_eq_getElem ho3]
    exact hphi.2.2.2.2 _ (List.getElem_mem ..)
  have subOk : ok3 (@IE.lst E q25) ∧ 0 < (@IE.lst E q25).length ∧ ∀ x ∈ @IE.lst E q25, 0 ≤ x ∧ x < 18446744073709551616 := by
    have q : ((@IE.lst E q25).length : Int) / 3 ≠ 0 := bne_iff_ne.1 (hfs (.cmp .neq q93 (.lit 0)) (mg 3 rfl))
    have e : @IE.lst E q25 = (E.l 7825).drop 3 := drop_sub (l := E.l 7825) (by omega) (by omega)
    rw [e] at q ⊢
    rw [List.length_drop] at q
    refine ⟨⟨by rw [List.length_drop]; omega,by rw [List.length_drop]; omega⟩,by rw [List.length_drop]; omega,fun x hx => hphi.2.2.2.2 x (List.mem_of_mem_drop hx)⟩
  exact ⟨(fun _ => dt (show ((E.l 8507).length : Int) ≤ 31274997412295 from by omega)),
    (fun _ => dt (show ((E.l 7823).length : Int) ≤ 24000000000000 from by omega)),
    (fun _ => dt (show ((E.l 7823).length : Int) ≤ 300000000 from by omega)),
    (fun _ => beq_iff_eq.2 (m3 (show (E.l 7823).length % 3 = 0 by omega))),
    (fun _ => dt (show ((E.l 7824).length : Int) ≤ 1000000 from by omega)),
    (fun _ => .inl (show (maxI 0 (E.i 12) - IntKind.i64.wrap (E.i 7813 + 1)).toNat < (maxI 0 (E.i 12) - E.i 7813).toNat from by rw [up]; omega)),
    (fun _ => dt (show (0 : Int) ≤ IntKind.i64.wrap (E.i 7813 + 1) from by rw [up]; omega)),
    (fun _ => beq_iff_eq.2 ((congrArg (fun n : Nat => (n : Int)) (put_len E 8507 _ _)).trans hrow)),
    (fun _ => ⟨hphi.1,hphi.2.1,subOk⟩),trivial⟩
theorem run42_0 (E : Env) (hfs : ∀ b ∈ cut42.fs, @BE.val E b = true) (hphi : Phi 42 E) (htab : TabR (tabsOf pks 0) E) : ObsOk E Phi ob42_0 := by
  have n0 : (0 : Int) ≤ E.i 10 := od (hfs (.cmp .leq (.lit 0) (.atom 10)) (mg 37 rfl))
  have n70 : (((E.i 10).toNat : Nat) : Int) ≤ 70 := od (hfs (.cmp .leq (.nat (.atom 10)) (.lit 70)) (mg 9 rfl))
  obtain ⟨hT,hT210⟩ := LT2 E n0 n70
  have hr := right_of (hfs (.cmp .neq (.fn 1 cfgL) (.lit 0)) (mg 33 rfl))
  obtain ⟨hts0,hts1,hts2⟩ := tsOf hr
  have r8 : (((E.i 8).toNat : Nat) : Int) ≤ 400 := od (hfs (.cmp .leq (.nat (.atom 8)) (.lit 400)) (mg 13 rfl))
  have cb : E.i 7813 < maxI 0 (E.i 12) := od (hfs q56 (mg 6 rfl))
  have ca : (0 : Int) ≤ E.i 7813 := od (hfs (.cmp .leq (.lit 0) (.atom 7813)) (mg 0 rfl))
  have c12 : E.i 12 ≤ 300 := od (hfs (.cmp .leq (.atom 12) (.lit 300)) (mg 12 rfl))
  have c300 := lt_mx cb c12 ca
  have up : IntKind.i64.wrap (E.i 7813 + 1) = E.i 7813 + 1 := i64_small (by omega) (by omega)
  have hrow := (show PF (E.l 7823) (E.l 7824) (E.l 7825) ∧ ((E.l 8507).length : Int) = (((E.i 8).toNat : Nat) : Int) from hphi).2
  have hphi : PF (E.l 7823) (E.l 7824) (E.l 7825) := (show PF (E.l 7823) (E.l 7824) (E.l 7825) ∧ ((E.l 8507).length : Int) = (((E.i 8).toNat : Nat) : Int) from hphi).1
  have hphi : PF (E.l 7823) (E.l 7824) (E.l 7825) := hphi
  have hk1 := hphi.1.1
  have hk2 := hphi.1.2
  have hs := hphi.2.1
  have ho1 := hphi.2.2.1.1
  have ho2 := hphi.2.2.1.2
  have ho3 := hphi.2.2.2.1
  have ho0 : 0 ≤ (E.l 7825).getD 0 0 ∧ (E.l 7825).getD 0 0 < 18446744073709551616 := by
    rw [List.getD_eq_getElem?_getD,List.getElem?_eq_getElem ho3]
    exact hphi.2.2.2.2 _ (List.getElem_mem ..)
  have subOk : ok3 (@IE.lst E q25) ∧ 0 < (@IE.lst E q25).length ∧ ∀ x ∈ @IE.lst E q25, 0 ≤ x ∧ x < 18446744073709551616 := by
    have q : ((@IE.lst E q25).length : Int) / 3 ≠ 0 := bne_iff_ne.1 (hfs (.cmp .neq q93 (.lit 0)) (mg 3 rfl))
    have e : @IE.lst E q25 = (E.l 7825).drop 3 := drop_sub (l := E.l 7825) (by omega) (by omega)
    rw [e] at q ⊢
    rw [List.length_drop] at q
    refine ⟨⟨by rw [List.length_drop]; omega,by rw [List.length_drop]; omega⟩,by rw [List.length_drop]; omega,fun x hx => hphi.2.2.2.2 x (List.mem_of_mem_drop hx)⟩
  exact ⟨(fun _ => dt (show ((E.l 8507).length : Int) ≤ 31274997412295 from by omega)),
    (fun _ => dt (show ((E.l 7823).length : Int) ≤ 24000000000000 from by omega)),
    (fun _ => dt (show ((E.l 7823).length : Int) ≤ 300000000 from by omega)),
    (fun _ => beq_iff_eq.2 (m3 (show (E.l 7823).length % 3 = 0 by omega))),
    (fun _ => dt (show ((E.l 7824).length : Int) ≤ 1000000 from by omega)),
    (fun _ => .inl (show (maxI 0 (E.i 12) - IntKind.i64.wrap (E.i 7813 + 1)).toNat < (maxI 0 (E.i 12) - E.i 7813).toNat from by rw [up]; omega)),
    (fun _ => dt (show (0 : Int) ≤ IntKind.i64.wrap (E.i 7813 + 1) from by rw [up]; omega)),
    (fun _ => beq_iff_eq.2 ((congrArg (fun n : Nat => (n : Int)) (put_len E 8507 _ _)).trans hrow)),
    (fun _ => ⟨hphi.1,hphi.2.1,subOk⟩),trivial⟩
theorem part0 (E : Env) (hfs : ∀ b ∈ cut0.fs, @BE.val E b = true) (hphi : Phi 0 E) (htab : TabR (tabsOf pks 0) E) : ∃ (ex : List BE) (rw : List (IE × IE)), (∀ b ∈ ex, @BE.val E b = true) ∧ Owed E Phi (oweAtR (tabsOf pks 0) ths [0, 1, 2, 6, 7, 8, 12, 13, 14, 15, 16, 17, 18, 31, 32, 33, 34] Try.prog Try.f12 (rootOf Try.f12) baseP (extraG Try.prog) cuts cut0 ex rw) :=
  ⟨[],rw0,Bk.nn,Owed.eq (@e0_0 E) True.intro⟩
theorem part1 (E : Env) (hfs : ∀ b ∈ cut1.fs, @BE.val E b = true) (hphi : Phi 1 E) (htab : TabR (tabsOf pks 0) E) : ∃ (ex : List BE) (rw : List (IE × IE)), (∀ b ∈ ex, @BE.val E b = true) ∧ Owed E Phi (oweAtR (tabsOf pks 0) ths [0, 1, 2, 6, 7, 8, 12, 13, 14, 15, 16, 17, 18, 31, 32, 33, 34] Try.prog Try.f12 (rootOf Try.f12) baseP (extraG Try.prog) cuts cut1 ex rw) :=
  ⟨[],rw1,Bk.nn,Owed.eq (@e1_0 E) True.intro⟩
theorem part2 (E : Env) (hfs : ∀ b ∈ cut2.fs, @BE.val E b = true) (hphi : Phi 2 E) (htab : TabR (tabsOf pks 0) E) : ∃ (ex : List BE) (rw : List (IE × IE)), (∀ b ∈ ex, @BE.val E b = true) ∧ Owed E Phi (oweAtR (tabsOf pks 0) ths [0, 1, 2, 6, 7, 8, 12, 13, 14, 15, 16, 17, 18, 31, 32, 33, 34] Try.prog Try.f12 (rootOf Try.f12) baseP (extraG Try.prog) cuts cut2 ex rw) :=
  ⟨[],rw2,Bk.nn,Owed.eq (@e2_0 E) True.intro⟩
theorem part3 (E : Env) (hfs : ∀ b ∈ cut3.fs, @BE.val E b = true) (hphi : Phi 3 E) (htab : TabR (tabsOf pks 0) E) : ∃ (ex : List BE) (rw : List (IE × IE)), (∀ b ∈ ex, @BE.val E b = true) ∧ Owed E Phi (oweAtR (tabsOf pks 0) ths [0, 1, 2, 6, 7, 8, 12, 13, 14, 15, 16, 17, 18, 31, 32, 33, 34] Try.prog Try.f12 (rootOf Try.f12) baseP (extraG Try.prog) cuts cut3 ex rw) :=
  ⟨[],rw3,Bk.nn,Owed.eq (@e3_0 E) (run3_0 E hfs hphi htab)⟩
theorem part4 (E : Env) (hfs : ∀ b ∈ cut4.fs, @BE.val E b = true) (hphi : Phi 4 E) (htab : TabR (tabsOf pks 0) E) : ∃ (ex : List BE) (rw : List (IE × IE)), (∀ b ∈ ex, @BE.val E b = true) ∧ Owed E Phi (oweAtR (tabsOf pks 0) ths [0, 1, 2, 6, 7, 8, 12, 13, 14, 15, 16, 17, 18, 31, 32, 33, 34] Try.prog Try.f12 (rootOf Try.f12) baseP (extraG Try.prog) cuts cut4 ex rw) :=
  ⟨[],rw4,Bk.nn,Owed.eq (@e4_0 E) (run4_0 E hfs hphi htab)⟩
theorem part5 (E : Env) (hfs : ∀ b ∈ cut5.fs, @BE.val E b = true) (hphi : Phi 5 E) (htab : TabR (tabsOf pks 0) E) : ∃ (ex : List BE) (rw : List (IE × IE)), (∀ b ∈ ex, @BE.val E b = true) ∧ Owed E Phi (oweAtR (tabsOf pks 0) ths [0, 1, 2, 6, 7, 8, 12, 13, 14, 15, 16, 17, 18, 31, 32, 33, 34] Try.prog Try.f12 (rootOf Try.f12) baseP (extraG Try.prog) cuts cut5 ex rw) :=
  ⟨[],rw5,Bk.nn,Owed.eq (@e5_0 E) (run5_0 E hfs hphi htab)⟩
theorem part6 (E : Env) (hfs : ∀ b ∈ cut6.fs, @BE.val E b = true) (hphi : Phi 6 E) (htab : TabR (tabsOf pks 0) E) : ∃ (ex : List BE) (rw : List (IE × IE)), (∀ b ∈ ex, @BE.val E b = true) ∧ Owed E Phi (oweAtR (tabsOf pks 0) ths [0, 1, 2, 6, 7, 8, 12, 13, 14, 15, 16, 17, 18, 31, 32, 33, 34] Try.prog Try.f12 (rootOf Try.f12) baseP (extraG Try.prog) cuts cut6 ex rw) :=
  ⟨[],rw6,Bk.nn,Owed.eq (@e6_0 E) True.intro⟩
theorem part7 (E : Env) (hfs : ∀ b ∈ cut7.fs, @BE.val E b = true) (hphi : Phi 7 E) (htab : TabR (tabsOf pks 0) E) : ∃ (ex : List BE) (rw : List (IE × IE)), (∀ b ∈ ex, @BE.val E b = true) ∧ Owed E Phi (oweAtR (tabsOf pks 0) ths [0, 1, 2, 6, 7, 8, 12, 13, 14, 15, 16, 17, 18, 31, 32, 33, 34] Try.prog Try.f12 (rootOf Try.f12) baseP (extraG Try.prog) cuts cut7 ex rw) :=
  ⟨[],rw7,Bk.nn,Owed.eq (@e7_0 E) (run7_0 E hfs hphi htab)⟩
theorem part8 (E : Env) (hfs : ∀ b ∈ cut8.fs, @BE.val E b = true) (hphi : Phi 8 E) (htab : TabR (tabsOf pks 0) E) : ∃ (ex : List BE) (rw : List (IE × IE)), (∀ b ∈ ex, @BE.val E b = true) ∧ Owed E Phi (oweAtR (tabsOf pks 0) ths [0, 1, 2, 6, 7, 8, 12, 13, 14, 15, 16, 17, 18, 31, 32, 33, 34] Try.prog Try.f12 (rootOf Try.f12) baseP (extraG Try.prog) cuts cut8 ex rw) :=
  ⟨[],rw8,Bk.nn,Owed.eq (@e8_0 E) True.intro⟩
theorem part9 (E : Env) (hfs : ∀ b ∈ cut9.fs, @BE.val E b = true) (hphi : Phi 9 E) (htab : TabR (tabsOf pks 0) E) : ∃ (ex : List BE) (rw : List (IE × IE)), (∀ b ∈ ex, @BE.val E b = true) ∧ Owed E Phi (oweAtR (tabsOf pks 0) ths [0, 1, 2, 6, 7, 8, 12, 13, 14, 15, 16, 17, 18, 31, 32, 33, 34] Try.prog Try.f12 (rootOf Try.f12) baseP (extraG Try.prog) cuts cut9 ex rw) :=
  ⟨[],rw9,Bk.nn,Owed.eq (@e9_0 E) (run9_0 E hfs hphi htab)⟩
theorem part10 (E : Env) (hfs : ∀ b ∈ cut10.fs, @BE.val E b = true) (hphi : Phi 10 E) (htab : TabR (tabsOf pks 0) E) : ∃ (ex : List BE) (rw : List (IE × IE)), (∀ b ∈ ex, @BE.val E b = true) ∧ Owed E Phi (oweAtR (tabsOf pks 0) ths [0, 1, 2, 6, 7, 8, 12, 13, 14, 15, 16, 17, 18, 31, 32, 33, 34] Try.prog Try.f12 (rootOf Try.f12) baseP (extraG Try.prog) cuts cut10 ex rw) :=
  ⟨[],rw10,Bk.nn,Owed.eq (@e10_0 E) (run10_0 E hfs hphi htab)⟩
theorem part11 (E : Env) (hfs : ∀ b ∈ cut11.fs, @BE.val E b = true) (hphi : Phi 11 E) (htab : TabR (tabsOf pks 0) E) : ∃ (ex : List BE) (rw : List (IE × IE)), (∀ b ∈ ex, @BE.val E b = true) ∧ Owed E Phi (oweAtR (tabsOf pks 0) ths [0, 1, 2, 6, 7, 8, 12, 13, 14, 15, 16, 17, 18, 31, 32, 33, 34] Try.prog Try.f12 (rootOf Try.f12) baseP (extraG Try.prog) cuts cut11 ex rw) :=
  ⟨[],rw11,Bk.nn,Owed.eq (@e11_0 E) (run11_0 E hfs hphi htab)⟩
theorem part12 (E : Env) (hfs : ∀ b ∈ cut12.fs, @BE.val E b = true) (hphi : Phi 12 E) (htab : TabR (tabsOf pks 0) E) : ∃ (ex : List BE) (rw : List (IE × IE)), (∀ b ∈ ex, @BE.val E b = true) ∧ Owed E Phi (oweAtR (tabsOf pks 0) ths [0, 1, 2, 6, 7, 8, 12, 13, 14, 15, 16, 17, 18, 31, 32, 33, 34] Try.prog Try.f12 (rootOf Try.f12) baseP (extraG Try.prog) cuts cut12 ex rw) :=
  ⟨[],rw12,Bk.nn,Owed.eq (@e12_0 E) (run12_0 E hfs hphi htab)⟩
theorem part13 (E : Env) (hfs : ∀ b ∈ cut13.fs, @BE.val E b = true) (hphi : Phi 13 E) (htab : TabR (tabsOf pks 0) E) : ∃ (ex : List BE) (rw : List (IE × IE)), (∀ b ∈ ex, @BE.val E b = true) ∧ Owed E Phi (oweAtR (tabsOf pks 0) ths [0, 1, 2, 6, 7, 8, 12, 13, 14, 15, 16, 17, 18, 31, 32, 33, 34] Try.prog Try.f12 (rootOf Try.f12) baseP (extraG Try.prog) cuts cut13 ex rw) :=
  ⟨[],rw13,Bk.nn,Owed.eq (@e13_0 E) (run13_0 E hfs hphi htab)⟩
theorem part14 (E : Env) (hfs : ∀ b ∈ cut14.fs, @BE.val E b = true) (hphi : Phi 14 E) (htab : TabR (tabsOf pks 0) E) : ∃ (ex : List BE) (rw : List (IE × IE)), (∀ b ∈ ex, @BE.val E b = true) ∧ Owed E Phi (oweAtR (tabsOf pks 0) ths [0, 1, 2, 6, 7, 8, 12, 13, 14, 15, 16, 17, 18, 31, 32, 33, 34] Try.prog Try.f12 (rootOf Try.f12) baseP (extraG Try.prog) cuts cut14 ex rw) :=
  ⟨[],rw14,Bk.nn,Owed.eq (@e14_0 E) (run14_0 E hfs hphi htab)⟩
theorem part15 (E : Env) (hfs : ∀ b ∈ cut15.fs, @BE.val E b = true) (hphi : Phi 15 E) (htab : TabR (tabsOf pks 0) E) : ∃ (ex : List BE) (rw : List (IE × IE)), (∀ b ∈ ex, @BE.val E b = true) ∧ Owed E Phi (oweAtR (tabsOf pks 0) ths [0, 1, 2, 6, 7, 8, 12, 13, 14, 15, 16, 17, 18, 31, 32, 33, 34] Try.prog Try.f12 (rootOf Try.f12) baseP (extraG Try.prog) cuts cut15 ex rw) :=
  ⟨[],rw15,Bk.nn,Owed.eq (@e15_0 E) True.intro⟩
theorem part16 (E : Env) (hfs : ∀ b ∈ cut16.fs, @BE.val E b = true) (hphi : Phi 16 E) (htab : TabR (tabsOf pks 0) E) : ∃ (ex : List BE) (rw : List (IE × IE)), (∀ b ∈ ex, @BE.val E b = true) ∧ Owed E Phi (oweAtR (tabsOf pks 0) ths [0, 1, 2, 6, 7, 8, 12, 13, 14, 15, 16, 17, 18, 31, 32, 33, 34] Try.prog Try.f12 (rootOf Try.f12) baseP (extraG Try.prog) cuts cut16 ex rw) :=
  ⟨[],rw16,Bk.nn,Owed.eq (@e16_0 E) (run16_0 E hfs hphi htab)⟩
theorem part17 (E : Env) (hfs : ∀ b ∈ cut17.fs, @BE.val E b = true) (hphi : Phi 17 E) (htab : TabR (tabsOf pks 0) E) : ∃ (ex : List BE) (rw : List (IE × IE)), (∀ b ∈ ex, @BE.val E b = true) ∧ Owed E Phi (oweAtR (tabsOf pks 0) ths [0, 1, 2, 6, 7, 8, 12, 13, 14, 15, 16, 17, 18, 31, 32, 33, 34] Try.prog Try.f12 (rootOf Try.f12) baseP (extraG Try.prog) cuts cut17 ex rw) :=
  ⟨[],rw17,Bk.nn,Owed.eq (@e17_0 E) (run17_0 E hfs hphi htab)⟩
theorem part18 (E : Env) (hfs : ∀ b ∈ cut18.fs, @BE.val E b = true) (hphi : Phi 18 E) (htab : TabR (tabsOf pks 0) E) : ∃ (ex : List BE) (rw : List (IE × IE)), (∀ b ∈ ex, @BE.val E b = true) ∧ Owed E Phi (oweAtR (tabsOf pks 0) ths [0, 1, 2, 6, 7, 8, 12, 13, 14, 15, 16, 17, 18, 31, 32, 33, 34] Try.prog Try.f12 (rootOf Try.f12) baseP (extraG Try.prog) cuts cut18 ex rw) :=
  ⟨[],rw18,Bk.nn,Owed.eq (@e18_0 E) True.intro⟩
theorem part19 (E : Env) (hfs : ∀ b ∈ cut19.fs, @BE.val E b = true) (hphi : Phi 19 E) (htab : TabR (tabsOf pks 0) E) : ∃ (ex : List BE) (rw : List (IE × IE)), (∀ b ∈ ex, @BE.val E b = true) ∧ Owed E Phi (oweAtR (tabsOf pks 0) ths [0, 1, 2, 6, 7, 8, 12, 13, 14, 15, 16, 17, 18, 31, 32, 33, 34] Try.prog Try.f12 (rootOf Try.f12) baseP (extraG Try.prog) cuts cut19 ex rw) :=
  ⟨[],rw19,Bk.nn,Owed.eq (@e19_0 E) (run19_0 E hfs hphi htab)⟩
theorem part20 (E : Env) (hfs : ∀ b ∈ cut20.fs, @BE.val E b = true) (hphi : Phi 20 E) (htab : TabR (tabsOf pks 0) E) : ∃ (ex : List BE) (rw : List (IE × IE)), (∀ b ∈ ex, @BE.val E b = true) ∧ Owed E Phi (oweAtR (tabsOf pks 0) ths [0, 1, 2, 6, 7, 8, 12, 13, 14, 15, 16, 17, 18, 31, 32, 33, 34] Try.prog Try.f12 (rootOf Try.f12) baseP (extraG Try.prog) cuts cut20 ex rw) :=
  ⟨[],rw20,Bk.nn,Owed.eq (@e20_0 E) (run20_0 E hfs hphi htab)⟩
theorem part21 (E : Env) (hfs : ∀ b ∈ cut21.fs, @BE.val E b = true) (hphi : Phi 21 E) (htab : TabR (tabsOf pks 0) E) : ∃ (ex : List BE) (rw : List (IE × IE)), (∀ b ∈ ex, @BE.val E b = true) ∧ Owed E Phi (oweAtR (tabsOf pks 0) ths [0, 1, 2, 6, 7, 8, 12, 13, 14, 15, 16, 17, 18, 31, 32, 33, 34] Try.prog Try.f12 (rootOf Try.f12) baseP (extraG Try.prog) cuts cut21 ex rw) :=
  ⟨[],rw21,Bk.nn,Owed.eq (@e21_0 E) (run21_0 E hfs hphi htab)⟩
theorem part22 (E : Env) (hfs : ∀ b ∈ cut22.fs, @BE.val E b = true) (hphi : Phi 22 E) (htab : TabR (tabsOf pks 0) E) : ∃ (ex : List BE) (rw : List (IE × IE)), (∀ b ∈ ex, @BE.val E b = true) ∧ Owed E Phi (oweAtR (tabsOf pks 0) ths [0, 1, 2, 6, 7, 8, 12, 13, 14, 15, 16, 17, 18, 31, 32, 33, 34] Try.prog Try.f12 (rootOf Try.f12) baseP (extraG Try.prog) cuts cut22 ex rw) :=
  ⟨[],rw22,Bk.nn,Owed.eq (@e22_0 E) (run22_0 E hfs hphi htab)⟩
theorem part23 (E : Env) (hfs : ∀ b ∈ cut23.fs, @BE.val E b = true) (hphi : Phi 23 E) (htab : TabR (tabsOf pks 0) E) : ∃ (ex : List BE) (rw : List (IE × IE)), (∀ b ∈ ex, @BE.val E b = true) ∧ Owed E Phi (oweAtR (tabsOf pks 0) ths [0, 1, 2, 6, 7, 8, 12, 13, 14, 15, 16, 17, 18, 31, 32, 33, 34] Try.prog Try.f12 (rootOf Try.f12) baseP (extraG Try.prog) cuts cut23 ex rw) :=
  ⟨[],rw23,Bk.nn,Owed.eq (@e23_0 E) (run23_0 E hfs hphi htab)⟩
theorem part24 (E : Env) (hfs : ∀ b ∈ cut24.fs, @BE.val E b = true) (hphi : Phi 24 E) (htab : TabR (tabsOf pks 0) E) : ∃ (ex : List BE) (rw : List (IE × IE)), (∀ b ∈ ex, @BE.val E b = true) ∧ Owed E Phi (oweAtR (tabsOf pks 0) ths [0, 1, 2, 6, 7, 8, 12, 13, 14, 15, 16, 17, 18, 31, 32, 33, 34] Try.prog Try.f12 (rootOf Try.f12) baseP (extraG Try.prog) cuts cut24 ex rw) :=
  ⟨[],rw24,Bk.nn,Owed.eq (@e24_0 E) (run24_0 E hfs hphi htab)⟩
theorem part25 (E : Env) (hfs : ∀ b ∈ cut25.fs, @BE.val E b = true) (hphi : Phi 25 E) (htab : TabR (tabsOf pks 0) E) : ∃ (ex : List BE) (rw : List (IE × IE)), (∀ b ∈ ex, @BE.val E b = true) ∧ Owed E Phi (oweAtR (tabsOf pks 0) ths [0, 1, 2, 6, 7, 8, 12, 13, 14, 15, 16, 17, 18, 31, 32, 33, 34] Try.prog Try.f12 (rootOf Try.f12) baseP (extraG Try.prog) cuts cut25 ex rw) :=
  ⟨[],rw25,Bk.nn,Owed.eq (@e25_0 E) (run25_0 E hfs hphi htab)⟩
theorem part26 (E : Env) (hfs : ∀ b ∈ cut26.fs, @BE.val E b = true) (hphi : Phi 26 E) (htab : TabR (tabsOf pks 0) E) : ∃ (ex : List BE) (rw : List (IE × IE)), (∀ b ∈ ex, @BE.val E b = true) ∧ Owed E Phi (oweAtR (tabsOf pks 0) ths [0, 1, 2, 6, 7, 8, 12, 13, 14, 15, 16, 17, 18, 31, 32, 33, 34] Try.prog Try.f12 (rootOf Try.f12) baseP (extraG Try.prog) cuts cut26 ex rw) :=
  ⟨[],rw26,Bk.nn,Owed.eq (@e26_0 E) (run26_0 E hfs hphi htab)⟩
theorem part27 (E : Env) (hfs : ∀ b ∈ cut27.fs, @BE.val E b = true) (hphi : Phi 27 E) (htab : TabR (tabsOf pks 0) E) : ∃ (ex : List BE) (rw : List (IE × IE)), (∀ b ∈ ex, @BE.val E b = true) ∧ Owed E Phi (oweAtR (tabsOf pks 0) ths [0, 1, 2, 6, 7, 8, 12, 13, 14, 15, 16, 17, 18, 31, 32, 33, 34] Try.prog Try.f12 (rootOf Try.f12) baseP (extraG Try.prog) cuts cut27 ex rw) :=
  ⟨[],rw27,Bk.nn,Owed.eq (@e27_0 E) (run27_0 E hfs hphi htab)⟩
theorem part28 (E : Env) (hfs : ∀ b ∈ cut28.fs, @BE.val E b = true) (hphi : Phi 28 E) (htab : TabR (tabsOf pks 0) E) : ∃ (ex : List BE) (rw : List (IE × IE)), (∀ b ∈ ex, @BE.val E b = true) ∧ Owed E Phi (oweAtR (tabsOf pks 0) ths [0, 1, 2, 6, 7, 8, 12, 13, 14, 15, 16, 17, 18, 31, 32, 33, 34] Try.prog Try.f12 (rootOf Try.f12) baseP (extraG Try.prog) cuts cut28 ex rw) :=
  ⟨[],rw28,Bk.nn,Owed.eq (@e28_0 E) (run28_0 E hfs hphi htab)⟩
theorem part29 (E : Env) (hfs : ∀ b ∈ cut29.fs, @BE.val E b = true) (hphi : Phi 29 E) (htab : TabR (tabsOf pks 0) E) : ∃ (ex : List BE) (rw : List (IE × IE)), (∀ b ∈ ex, @BE.val E b = true) ∧ Owed E Phi (oweAtR (tabsOf pks 0) ths [0, 1, 2, 6, 7, 8, 12, 13, 14, 15, 16, 17, 18, 31, 32, 33, 34] Try.prog Try.f12 (rootOf Try.f12) baseP (extraG Try.prog) cuts cut29 ex rw) :=
  ⟨[],rw29,Bk.nn,Owed.eq (@e29_0 E) (run29_0 E hfs hphi htab)⟩
theorem part30 (E : Env) (hfs : ∀ b ∈ cut30.fs, @BE.val E b = true) (hphi : Phi 30 E) (htab : TabR (tabsOf pks 0) E) : ∃ (ex : List BE) (rw : List (IE × IE)), (∀ b ∈ ex, @BE.val E b = true) ∧ Owed E Phi (oweAtR (tabsOf pks 0) ths [0, 1, 2, 6, 7, 8, 12, 13, 14, 15, 16, 17, 18, 31, 32, 33, 34] Try.prog Try.f12 (rootOf Try.f12) baseP (extraG Try.prog) cuts cut30 ex rw) :=
  ⟨[],rw30,Bk.nn,Owed.eq (@e30_0 E) (run30_0 E hfs hphi htab)⟩
theorem part31 (E : Env) (hfs : ∀ b ∈ cut31.fs, @BE.val E b = true) (hphi : Phi 31 E) (htab : TabR (tabsOf pks 0) E) : ∃ (ex : List BE) (rw : List (IE × IE)), (∀ b ∈ ex, @BE.val E b = true) ∧ Owed E Phi (oweAtR (tabsOf pks 0) ths [0, 1, 2, 6, 7, 8, 12, 13, 14, 15, 16, 17, 18, 31, 32, 33, 34] Try.prog Try.f12 (rootOf Try.f12) baseP (extraG Try.prog) cuts cut31 ex rw) :=
  ⟨[],rw31,Bk.nn,Owed.eq (@e31_0 E) (run31_0 E hfs hphi htab)⟩
theorem part32 (E : Env) (hfs : ∀ b ∈ cut32.fs, @BE.val E b = true) (hphi : Phi 32 E) (htab : TabR (tabsOf pks 0) E) : ∃ (ex : List BE) (rw : List (IE × IE)), (∀ b ∈ ex, @BE.val E b = true) ∧ Owed E Phi (oweAtR (tabsOf pks 0) ths [0, 1, 2, 6, 7, 8, 12, 13, 14, 15, 16, 17, 18, 31, 32, 33, 34] Try.prog Try.f12 (rootOf Try.f12) baseP (extraG Try.prog) cuts cut32 ex rw) :=
  ⟨[],rw32,Bk.nn,Owed.eq (@e32_0 E) (run32_0 E hfs hphi htab)⟩
theorem part33 (E : Env) (hfs : ∀ b ∈ cut33.fs, @BE.val E b = true) (hphi : Phi 33 E) (htab : TabR (tabsOf pks 0) E) : ∃ (ex : List BE) (rw : List (IE × IE)), (∀ b ∈ ex, @BE.val E b = true) ∧ Owed E Phi (oweAtR (tabsOf pks 0) ths [0, 1, 2, 6, 7, 8, 12, 13, 14, 15, 16, 17, 18, 31, 32, 33, 34] Try.prog Try.f12 (rootOf Try.f12) baseP (extraG Try.prog) cuts cut33 ex rw) :=
  ⟨[],rw33,Bk.nn,Owed.eq (@e33_0 E) (run33_0 E hfs hphi htab)⟩
theorem part34 (E : Env) (hfs : ∀ b ∈ cut34.fs, @BE.val E b = true) (hphi : Phi 34 E) (htab : TabR (tabsOf pks 0) E) : ∃ (ex : List BE) (rw : List (IE × IE)), (∀ b ∈ ex, @BE.val E b = true) ∧ Owed E Phi (oweAtR (tabsOf pks 0) ths [0, 1, 2, 6, 7, 8, 12, 13, 14, 15, 16, 17, 18, 31, 32, 33, 34] Try.prog Try.f12 (rootOf Try.f12) baseP (extraG Try.prog) cuts cut34 ex rw) :=
  ⟨[],rw34,Bk.nn,Owed.eq (@e34_0 E) (run34_0 E hfs hphi htab)⟩
theorem part35 (E : Env) (hfs : ∀ b ∈ cut35.fs, @BE.val E b = true) (hphi : Phi 35 E) (htab : TabR (tabsOf pks 0) E) : ∃ (ex : List BE) (rw : List (IE × IE)), (∀ b ∈ ex, @BE.val E b = true) ∧ Owed E Phi (oweAtR (tabsOf pks 0) ths [0, 1, 2, 6, 7, 8, 12, 13, 14, 15, 16, 17, 18, 31, 32, 33, 34] Try.prog Try.f12 (rootOf Try.f12) baseP (extraG Try.prog) cuts cut35 ex rw) :=
  ⟨[],rw35,Bk.nn,Owed.eq (@e35_0 E) (run35_0 E hfs hphi htab)⟩
theorem part36 (E : Env) (hfs : ∀ b ∈ cut36.fs, @BE.val E b = true) (hphi : Phi 36 E) (htab : TabR (tabsOf pks 0) E) : ∃ (ex : List BE) (rw : List (IE × IE)), (∀ b ∈ ex, @BE.val E b = true) ∧ Owed E Phi (oweAtR (tabsOf pks 0) ths [0, 1, 2, 6, 7, 8, 12, 13, 14, 15, 16, 17, 18, 31, 32, 33, 34] Try.prog Try.f12 (rootOf Try.f12) baseP (extraG Try.prog) cuts cut36 ex rw) :=
  ⟨[],rw36,Bk.nn,Owed.eq (@e36_0 E) (run36_0 E hfs hphi htab)⟩
theorem part37 (E : Env) (hfs : ∀ b ∈ cut37.fs, @BE.val E b = true) (hphi : Phi 37 E) (htab : TabR (tabsOf pks 0) E) : ∃ (ex : List BE) (rw : List (IE × IE)), (∀ b ∈ ex, @BE.val E b = true) ∧ Owed E Phi (oweAtR (tabsOf pks 0) ths [0, 1, 2, 6, 7, 8, 12, 13, 14, 15, 16, 17, 18, 31, 32, 33, 34] Try.prog Try.f12 (rootOf Try.f12) baseP (extraG Try.prog) cuts cut37 ex rw) :=
  ⟨[],rw37,Bk.nn,Owed.eq (@e37_0 E) (run37_0 E hfs hphi htab)⟩
theorem part38 (E : Env) (hfs : ∀ b ∈ cut38.fs, @BE.val E b = true) (hphi : Phi 38 E) (htab : TabR (tabsOf pks 0) E) : ∃ (ex : List BE) (rw : List (IE × IE)), (∀ b ∈ ex, @BE.val E b = true) ∧ Owed E Phi (oweAtR (tabsOf pks 0) ths [0, 1, 2, 6, 7, 8, 12, 13, 14, 15, 16, 17, 18, 31, 32, 33, 34] Try.prog Try.f12 (rootOf Try.f12) baseP (extraG Try.prog) cuts cut38 ex rw) :=
  ⟨[],rw38,Bk.nn,Owed.eq (@e38_0 E) (run38_0 E hfs hphi htab)⟩
theorem part39 (E : Env) (hfs : ∀ b ∈ cut39.fs, @BE.val E b = true) (hphi : Phi 39 E) (htab : TabR (tabsOf pks 0) E) : ∃ (ex : List BE) (rw : List (IE × IE)), (∀ b ∈ ex, @BE.val E b = true) ∧ Owed E Phi (oweAtR (tabsOf pks 0) ths [0, 1, 2, 6, 7, 8, 12, 13, 14, 15, 16, 17, 18, 31, 32, 33, 34] Try.prog Try.f12 (rootOf Try.f12) baseP (extraG Try.prog) cuts cut39 ex rw) :=
  ⟨[],rw39,Bk.nn,Owed.eq (@e39_0 E) (run39_0 E hfs hphi htab)⟩
theorem part40 (E : Env) (hfs : ∀ b ∈ cut40.fs, @BE.val E b = true) (hphi : Phi 40 E) (htab : TabR (tabsOf pks 0) E) : ∃ (ex : List BE) (rw : List (IE × IE)), (∀ b ∈ ex, @BE.val E b = true) ∧ Owed E Phi (oweAtR (tabsOf pks 0) ths [0, 1, 2, 6, 7, 8, 12, 13, 14, 15, 16, 17, 18, 31, 32, 33, 34] Try.prog Try.f12 (rootOf Try.f12) baseP (extraG Try.prog) cuts cut40 ex rw) :=
  ⟨[],rw40,Bk.nn,Owed.eq (@e40_0 E) (run40_0 E hfs hphi htab)⟩
theorem part41 (E : Env) (hfs : ∀ b ∈ cut41.fs, @BE.val E b = true) (hphi : Phi 41 E) (htab : TabR (tabsOf pks 0) E) : ∃ (ex : List BE) (rw : List (IE × IE)), (∀ b ∈ ex, @BE.val E b = true) ∧ Owed E Phi (oweAtR (tabsOf pks 0) ths [0, 1, 2, 6, 7, 8, 12, 13, 14, 15, 16, 17, 18, 31, 32, 33, 34] Try.prog Try.f12 (rootOf Try.f12) baseP (extraG Try.prog) cuts cut41 ex rw) :=
  ⟨[],rw41,Bk.nn,Owed.eq (@e41_0 E) (run41_0 E hfs hphi htab)⟩
theorem part42 (E : Env) (hfs : ∀ b ∈ cut42.fs, @BE.val E b = true) (hphi : Phi 42 E) (htab : TabR (tabsOf pks 0) E) : ∃ (ex : List BE) (rw : List (IE × IE)), (∀ b ∈ ex, @BE.val E b = true) ∧ Owed E Phi (oweAtR (tabsOf pks 0) ths [0, 1, 2, 6, 7, 8, 12, 13, 14, 15, 16, 17, 18, 31, 32, 33, 34] Try.prog Try.f12 (rootOf Try.f12) baseP (extraG Try.prog) cuts cut42 ex rw) :=
  ⟨[],rw42,Bk.nn,Owed.eq (@e42_0 E) (run42_0 E hfs hphi htab)⟩
theorem runsM (E : Env) (i : Nat) (k : Cut) (hi : cuts[i]? = some k) (hfs : ∀ b ∈ k.fs, @BE.val E b = true) (hphi : Phi i E) (htab : TabR (tabsOf pks 0) E) : ∃ (ex : List BE) (rw : List (IE × IE)), (∀ b ∈ ex, @BE.val E b = true) ∧ Owed E Phi (oweAtR (tabsOf pks 0) ths [0, 1, 2, 6, 7, 8, 12, 13, 14, 15, 16, 17, 18, 31, 32, 33, 34] Try.prog Try.f12 (rootOf Try.f12) baseP (extraG Try.prog) cuts k ex rw) := by
  match i,hi with
  | 0,hi => obtain rfl : cut0 = k := Option.some.inj (show some cut0 = some k from hi); exact part0 E hfs hphi htab
  | 1,hi => obtain rfl : cut1 = k := Option.some.inj (show some cut1 = some k from hi); exact part1 E hfs hphi htab
  | 2,hi => obtain rfl : cut2 = k := Option.some.inj (show some cut2 = some k from hi); exact part2 E hfs hphi htab
  | 3,hi => obtain rfl : cut3 = k := Option.some.inj (show some cut3 = some k from hi); exact part3 E hfs hphi htab
  | 4,hi => obtain rfl : cut4 = k := Option.some.inj (show some cut4 = some k from hi); exact part4 E hfs hphi htab
  | 5,hi => obtain rfl : cut5 = k := Option.some.inj (show some cut5 = some k from hi); exact part5 E hfs hphi htab
  | 6,hi => obtain rfl : cut6 = k := Option.some.inj (show some cut6 = some k from hi); exact part6 E hfs hphi htab
  | 7,hi => obtain rfl : cut7 = k := Option.some.inj (show some cut7 = some k from hi); exact part7 E hfs hphi htab
  | 8,hi => obtain rfl : cut8 = k := Option.some.inj (show some cut8 = some k from hi); exact part8 E hfs hphi htab
  | 9,hi => obtain rfl : cut9 = k := Option.some.inj (show some cut9 = some k from hi); exact part9 E hfs hphi htab
  | 10,hi => obtain rfl : cut10 = k := Option.some.inj (show some cut10 = some k from hi); exact part10 E hfs hphi htab
  | 11,hi => obtain rfl : cut11 = k := Option.some.inj (show some cut11 = some k from hi); exact part11 E hfs hphi htab
  | 12,hi => obtain rfl : cut12 = k := Option.some.inj (show some cut12 = some k from hi); exact part12 E hfs hphi htab
  | 13,hi => obtain rfl : cut13 = k := Option.some.inj (show some cut13 = some k from hi); exact part13 E hfs hphi htab
  | 14,hi => obtain rfl : cut14 = k := Option.some.inj (show some cut14 = some k from hi); exact part14 E hfs hphi htab
  | 15,hi => obtain rfl : cut15 = k := Option.some.inj (show some cut15 = some k from hi); exact part15 E hfs hphi htab
  | 16,hi => obtain rfl : cut16 = k := Option.some.inj (show some cut16 = some k from hi); exact part16 E hfs hphi htab
  | 17,hi => obtain rfl : cut17 = k := Option.some.inj (show some cut17 = some k from hi); exact part17 E hfs hphi htab
  | 18,hi => obtain rfl : cut18 = k := Option.some.inj (show some cut18 = some k from hi); exact part18 E hfs hphi htab
  | 19,hi => obtain rfl : cut19 = k := Option.some.inj (show some cut19 = some k from hi); exact part19 E hfs hphi htab
  | 20,hi => obtain rfl : cut20 = k := Option.some.inj (show some cut20 = some k from hi); exact part20 E hfs hphi htab
  | 21,hi => obtain rfl : cut21 = k := Option.some.inj (show some cut21 = some k from hi); exact part21 E hfs hphi htab
  | 22,hi => obtain rfl : cut22 = k := Option.some.inj (show some cut22 = some k from hi); exact part22 E hfs hphi htab
  | 23,hi => obtain rfl : cut23 = k := Option.some.inj (show some cut23 = some k from hi); exact part23 E hfs hphi htab
  | 24,hi => obtain rfl : cut24 = k := Option.some.inj (show some cut24 = some k from hi); exact part24 E hfs hphi htab
  | 25,hi => obtain rfl : cut25 = k := Option.some.inj (show some cut25 = some k from hi); exact part25 E hfs hphi htab
  | 26,hi => obtain rfl : cut26 = k := Option.some.inj (show some cut26 = some k from hi); exact part26 E hfs hphi htab
  | 27,hi => obtain rfl : cut27 = k := Option.some.inj (show some cut27 = some k from hi); exact part27 E hfs hphi htab
  | 28,hi => obtain rfl : cut28 = k := Option.some.inj (show some cut28 = some k from hi); exact part28 E hfs hphi htab
  | 29,hi => obtain rfl : cut29 = k := Option.some.inj (show some cut29 = some k from hi); exact part29 E hfs hphi htab
  | 30,hi => obtain rfl : cut30 = k := Option.some.inj (show some cut30 = some k from hi); exact part30 E hfs hphi htab
  | 31,hi => obtain rfl : cut31 = k := Option.some.inj (show some cut31 = some k from hi); exact part31 E hfs hphi htab
  | 32,hi => obtain rfl : cut32 = k := Option.some.inj (show some cut32 = some k from hi); exact part32 E hfs hphi htab
  | 33,hi => obtain rfl : cut33 = k := Option.some.inj (show some cut33 = some k from hi); exact part33 E hfs hphi htab
  | 34,hi => obtain rfl : cut34 = k := Option.some.inj (show some cut34 = some k from hi); exact part34 E hfs hphi htab
  | 35,hi => obtain rfl : cut35 = k := Option.some.inj (show some cut35 = some k from hi); exact part35 E hfs hphi htab
  | 36,hi => obtain rfl : cut36 = k := Option.some.inj (show some cut36 = some k from hi); exact part36 E hfs hphi htab
  | 37,hi => obtain rfl : cut37 = k := Option.some.inj (show some cut37 = some k from hi); exact part37 E hfs hphi htab
  | 38,hi => obtain rfl : cut38 = k := Option.some.inj (show some cut38 = some k from hi); exact part38 E hfs hphi htab
  | 39,hi => obtain rfl : cut39 = k := Option.some.inj (show some cut39 = some k from hi); exact part39 E hfs hphi htab
  | 40,hi => obtain rfl : cut40 = k := Option.some.inj (show some cut40 = some k from hi); exact part40 E hfs hphi htab
  | 41,hi => obtain rfl : cut41 = k := Option.some.inj (show some cut41 = some k from hi); exact part41 E hfs hphi htab
  | 42,hi => obtain rfl : cut42 = k := Option.some.inj (show some cut42 = some k from hi); exact part42 E hfs hphi htab
  | n + 43,hi => exact absurd hi (by simp [cuts])
theorem startM (E : Env) (h1 : symRng E pks 0 0) (hx : E.i 10 ≤ 8000000000000) : Owed E Phi (oweStartR (tabsOf pks 0) ths [0,1,2,6,7,8,12,13,14,15,16,17,18,31,32,33,34] Try.prog Try.f12 (rootOf Try.f12) baseP (extraG Try.prog) cuts (rngFacts pks 0) (symArgsG gs 0 0) (symHeap pks 0 0)) := Owed.eq (@eS E) (runS E h1 hx)
theorem trOk : ∀ i ∈ ([0, 1, 2, 6, 7, 8, 12, 13, 14, 15, 16, 17, 18, 31, 32, 33, 34] : List Nat), ∀ E, Phi i E := by
  intro i hi E
  simp only [List.mem_cons,List.not_mem_nil,or_false] at hi
  rcases hi with rfl | rfl | rfl | rfl | rfl | rfl | rfl | rfl | rfl | rfl | rfl | rfl | rfl | rfl | rfl | rfl | rfl <;> trivial
theorem bodyOk : Try.f12.body = some (rootOf Try.f12) := by kernel_rfl
theorem law (E : Env) (ρ : Rho) (F : Nat → Nat → Prop) (w : World) (argv : Array Value) (h1 : symRng E pks 0 0) (h2 : @HeapOk E Empty _ ρ F (symHeap pks 0 0) w) (h3 : All2 (@SV.is E ρ) (symArgsG gs 0 0) argv.toList) (hx : E.i 10 ≤ 8000000000000) :
    Calls Try.prog 12 argv w fun e w' => e = .returned (.bool true) ∧ ∃ ρ' F',Reach ρ F w ρ' F' w' :=
  floydRM (ts := tabsOf pks 0) mixed_ok (c := @baseP) @baseP_ok (x := extraG Try.prog) (fun {_} => extraG_ok _) Try.func12 bodyOk ths_ok (tr := [0,1,2,6,7,8,12,13,14,15,16,17,18,31,32,33,34]) (Φ := Phi) trOk heads runsM E (tabsOf_ok E h1) (rngFacts_ok E h1) (startM E h1 hx) h2 h3
end Go.Proofs.Ytafemlljemhkhaa.Sx.LSweepSteps
