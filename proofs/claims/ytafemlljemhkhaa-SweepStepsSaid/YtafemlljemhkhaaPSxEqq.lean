import Derived.Test.YtafemlljemhkhaaPSxFbc
namespace Go.Proofs.Ytafemlljemhkhaa.Sx
open Go
set_option linter.unusedSectionVars false
set_option linter.unusedVariables false
set_option linter.unusedSimpArgs false
def beOf : IE → BE
  | .lit n => .lit (n != 0)
  | .atom i => .atom i
  | .cmpI o a b => .cmp o a b
  | .notI a => mkNot (beOf a)
  | .andI a b => mkAnd (beOf a) (beOf b)
  | .eqI a b => mkEq (beOf a) (beOf b)
  | x => .cmp .neq x (.lit 0)
theorem beOf_val [Env] : ∀ (c : IE), (beOf c).val = (c.val != 0)
  | .lit n => by simp only [beOf,BE.val,IE.val]
  | .atom i => by simp only [beOf,BE.val,IE.val]
  | .cmpI o a b => by simp only [beOf,BE.val,IE.val]; cases cmpVal o a.val b.val <;> rfl
  | .notI a => by simp only [beOf,mkNot_val,beOf_val a,IE.val]; by_cases h : a.val = 0 <;> simp [h,ofB]
  | .andI a b => by simp only [beOf,mkAnd_val,beOf_val a,beOf_val b,IE.val]; by_cases h : a.val = 0 <;> by_cases h2 : b.val = 0 <;> simp [h,h2,ofB]
  | .eqI a b => by
    simp only [beOf,mkEq_val,beOf_val a,beOf_val b,IE.val]
    generalize (a.val != 0) = x
    generalize (b.val != 0) = y
    cases x <;> cases y <;> rfl
  | .op _ _ _ _ | .conv _ _ | .mn _ _ | .mx _ _ | .at_ _ _ _ _ | .dif _ _ | .nat _ | .eqL _ _ | .ite _ _ _ | .get _ _ _ | .len _ | .tab _ _ _ | .fn _ _
  | .latom _ | .nilL | .consL _ _ | .rep _ _ | .putL _ _ _ | .subL _ _ _ _ | .ofTab _ _ | .fnL _ _ | .catL _ _ | .tabL _ _ _ => by simp only [beOf,BE.val]; rfl
def deB : BE → BE
  | .cmp .neq x (.lit 0) => beOf x
  | .not a => mkNot (deB a)
  | .eq a b => mkEq (deB a) (deB b)
  | .and a b => mkAnd (deB a) (deB b)
  | b => b
theorem deB_val [Env] (b : BE) : (deB b).val = b.val := by
  induction b with
  | lit b => rfl
  | atom i => rfl
  | not a ih => simp only [deB,mkNot_val,ih,BE.val]
  | eq a b iha ihb => simp only [deB,mkEq_val,iha,ihb,BE.val]
  | and a b iha ihb => simp only [deB,mkAnd_val,iha,ihb,BE.val]
  | cmp o a b =>
    unfold deB
    split
    · rename_i x heq
      cases heq
      rw [beOf_val]; rfl
    all_goals (first | rfl | (rename_i heq; cases heq))
def nrmB (b : BE) : BE := ((deB b).repl []).sim
theorem nrmB_val [Env] (b : BE) : (nrmB b).val = b.val := by unfold nrmB; rw [BE.sim_val,BE.repl_val (rs := []) (fun p hp => by cases hp),deB_val]
def SB.sub (S : Sub) : SB → SB
  | .unk => .unk
  | .bool b => .bool (nrmB (b.sub S))
  | .int k e => .int k (nrmN (e.sub S))
  | .nilp => .nilp
  | .ptr n o => .ptr n (nrmN (o.sub S))
  | .sl n o l c => .sl n (nrmN (o.sub S)) (nrmN (l.sub S)) (nrmN (c.sub S))
  | .isl n o l => .isl n (nrmN (o.sub S)) (nrmN (l.sub S))
  | .nils => .nils
  | .nilf => .nilf
  | .ref n => .ref n
  | .gptr n e => .gptr n (nrmN (e.sub S))
def SBs.sub (S : Sub) : List SB → List SB
  | [] => []
  | x :: l => x.sub S :: SBs.sub S l
def SC.sub (S : Sub) : SC → SC
  | .b x => .b (x.sub S)
  | .fn f p q => .fn f (SBs.sub S p) (SBs.sub S q)
def SCs.sub (S : Sub) : List SC → List SC
  | [] => []
  | x :: l => x.sub S :: SCs.sub S l
def SW.sub (S : Sub) : SW → SW
  | .one c => .one (c.sub S)
  | .agg l => .agg (SCs.sub S l)
def SWs.sub (S : Sub) : List SW → List SW
  | [] => []
  | x :: l => x.sub S :: SWs.sub S l
def SV.sub (S : Sub) : SV → SV
  | .unk => .unk
  | .w x => .w (x.sub S)
  | .tup l => .tup (SWs.sub S l)
def SVs.sub (S : Sub) : List SV → List SV
  | [] => []
  | x :: l => x.sub S :: SVs.sub S l
def SO.sub (S : Sub) : SO Empty → SO Empty
  | .cells e l t => .cells e (SCs.sub S l) t
  | .row k e l => .row k e (nrmL (l.sub S))
  | .abs a => .abs a
  | .tab c o n id => .tab c (o.sub S) (n.sub S) id
  | .mach k l => .mach k (nrmL (l.sub S))
def subH (S : Sub) : Heap Empty → Heap Empty
  | [] => []
  | (n,o) :: h => (n,o.sub S) :: subH S h
section
variable {S : Sub} (hS : S.okB = true) (E : Env) {ρ : Rho}
include hS
theorem nval (x : IE) : @IE.val E (nrmN (x.sub S)) = @IE.val (E.by S) x := by rw [@nrmN_val E,(IE.sub_spec E hS x).1]
theorem nlst (x : IE) : @IE.lst E (nrmL (x.sub S)) = @IE.lst (E.by S) x := by rw [@nrmL_lst E,(IE.sub_spec E hS x).2]
theorem bval (x : BE) : @BE.val E (nrmB (x.sub S)) = @BE.val (E.by S) x := by rw [@nrmB_val E,BE.sub_val E hS x]
theorem SB.sub_is (x : SB) (v : Value) : @SB.is E ρ (x.sub S) v ↔ @SB.is (E.by S) ρ x v := by
  cases x <;> simp only [SB.sub,SB.is,nval hS E,bval hS E]
theorem SBs.sub_is : ∀ (l : List SB) (vs : List Value), All2 (@SB.is E ρ) (SBs.sub S l) vs ↔ All2 (@SB.is (E.by S) ρ) l vs
  | [], [] => Iff.rfl
  | x :: l,v :: vs => by simp only [SBs.sub,All2]; rw [SB.sub_is hS E x v,SBs.sub_is l vs]
  | [],_ :: _ => Iff.rfl
  | _ :: _, [] => Iff.rfl
theorem SC.sub_is (x : SC) (v : Value) : @SC.is E ρ (x.sub S) v ↔ @SC.is (E.by S) ρ x v := by
  cases x with
  | b y => exact SB.sub_is hS E y v
  | fn f p q =>
    simp only [SC.sub,SC.is]
    constructor
    · rintro ⟨vs,us,hv,h1,h2⟩; exact ⟨vs,us,hv,(SBs.sub_is hS E _ _).1 h1,(SBs.sub_is hS E _ _).1 h2⟩
    · rintro ⟨vs,us,hv,h1,h2⟩; exact ⟨vs,us,hv,(SBs.sub_is hS E _ _).2 h1,(SBs.sub_is hS E _ _).2 h2⟩
theorem SCs.sub_is : ∀ (l : List SC) (vs : List Value), All2 (@SC.is E ρ) (SCs.sub S l) vs ↔ All2 (@SC.is (E.by S) ρ) l vs
  | [], [] => Iff.rfl
  | x :: l,v :: vs => by simp only [SCs.sub,All2]; rw [SC.sub_is hS E x v,SCs.sub_is l vs]
  | [],_ :: _ => Iff.rfl
  | _ :: _, [] => Iff.rfl
theorem SW.sub_is (x : SW) (v : Value) : @SW.is E ρ (x.sub S) v ↔ @SW.is (E.by S) ρ x v := by
  cases x with
  | one c => exact SC.sub_is hS E c v
  | agg l =>
    simp only [SW.sub,SW.is]
    constructor
    · rintro ⟨vs,hv,h1⟩; exact ⟨vs,hv,(SCs.sub_is hS E _ _).1 h1⟩
    · rintro ⟨vs,hv,h1⟩; exact ⟨vs,hv,(SCs.sub_is hS E _ _).2 h1⟩
theorem SWs.sub_is : ∀ (l : List SW) (vs : List Value), All2 (@SW.is E ρ) (SWs.sub S l) vs ↔ All2 (@SW.is (E.by S) ρ) l vs
  | [], [] => Iff.rfl
  | x :: l,v :: vs => by simp only [SWs.sub,All2]; rw [SW.sub_is hS E x v,SWs.sub_is l vs]
  | [],_ :: _ => Iff.rfl
  | _ :: _, [] => Iff.rfl
theorem SV.sub_is (x : SV) (v : Value) : @SV.is E ρ (x.sub S) v ↔ @SV.is (E.by S) ρ x v := by
  cases x with
  | unk => exact Iff.rfl
  | w x => exact SW.sub_is hS E x v
  | tup l =>
    simp only [SV.sub,SV.is]
    constructor
    · rintro ⟨vs,hv,h1⟩; exact ⟨vs,hv,(SWs.sub_is hS E _ _).1 h1⟩
    · rintro ⟨vs,hv,h1⟩; exact ⟨vs,hv,(SWs.sub_is hS E _ _).2 h1⟩
theorem SVs.sub_is : ∀ (l : List SV) (vs : List Value), All2 (@SV.is E ρ) (SVs.sub S l) vs ↔ All2 (@SV.is (E.by S) ρ) l vs
  | [], [] => Iff.rfl
  | x :: l,v :: vs => by simp only [SVs.sub,All2]; rw [SV.sub_is hS E x v,SVs.sub_is l vs]
  | [],_ :: _ => Iff.rfl
  | _ :: _, [] => Iff.rfl
theorem SO.sub_ok (o : SO Empty) (r : RV) (F : Nat → Prop) (w : World) : @SO.ok E Empty _ ρ r F w (o.sub S) ↔ @SO.ok (E.by S) Empty _ ρ r F w o := by
  cases o with
  | cells e l t =>
    simp only [SO.sub,SO.ok]
    constructor
    · rintro ⟨b, vs, h1, h2, ⟨us, rest, h3, h4, h5⟩, h6⟩
      exact ⟨b,vs,h1,h2,⟨us,rest,h3,h4,(SCs.sub_is hS E _ _).1 h5⟩,h6⟩
    · rintro ⟨b, vs, h1, h2, ⟨us, rest, h3, h4, h5⟩, h6⟩
      exact ⟨b,vs,h1,h2,⟨us,rest,h3,h4,(SCs.sub_is hS E _ _).2 h5⟩,h6⟩
  | row k e l => simp only [SO.sub,SO.ok,nlst hS E]
  | abs a => exact a.elim
  | tab c o n id => simp only [SO.sub,SO.ok,(IE.sub_spec E hS o).1,(IE.sub_spec E hS n).1]; exact Iff.rfl
  | mach k l => simp only [SO.sub,SO.ok,nlst hS E]
end
theorem look_subH (S : Sub) : ∀ (h : Heap Empty) (n : Nat), look (subH S h) n = (look h n).map (SO.sub S)
  | [],n => rfl
  | (m, o) :: h, n => by
    simp only [subH,look]
    cases (m == n) with
    | true => rfl
    | false => exact look_subH S h n
theorem namesH_subH (S : Sub) : ∀ (h : Heap Empty), namesH (subH S h) = namesH h
  | [] => rfl
  | (m,o) :: h => by simp only [subH,namesH,namesH_subH S h]
theorem SO.sub_wr (S : Sub) (o : SO Empty) : (o.sub S).wr = o.wr := by cases o <;> rfl
theorem subH_ok {S : Sub} (hS : S.okB = true) (E : Env) {ρ : Rho} {F : Nat → Nat → Prop} {h : Heap Empty} {w : World} : @HeapOk E Empty _ ρ F (subH S h) w ↔ @HeapOk (E.by S) Empty _ ρ F h w := by
  constructor
  · intro H
    refine @HeapOk.mk (E.by S) Empty _ ρ F h w (fun n => ?_) (fun n o r hn hr => ?_) H.disj (fun n o hn hw => ?_) H.size
    · rw [← H.dom n,look_subH]; cases look h n <;> rfl
    · exact (SO.sub_ok hS E o r (F n) w).1 (H.obj n _ r (by rw [look_subH,hn]; rfl) hr)
    · exact H.low n (o.sub S) (by rw [look_subH,hn]; rfl) (by rw [SO.sub_wr]; exact hw)
  · intro H
    refine @HeapOk.mk E Empty _ ρ F (subH S h) w (fun n => ?_) (fun n o r hn hr => ?_) (@HeapOk.disj (E.by S) Empty _ ρ F h w H) (fun n o hn hw => ?_) (@HeapOk.size (E.by S) Empty _ ρ F h w H)
    · rw [← @HeapOk.dom (E.by S) Empty _ ρ F h w H n,look_subH]; cases look h n <;> rfl
    · rw [look_subH] at hn
      obtain ⟨o',ho',rfl⟩ := Option.map_eq_some_iff.1 hn
      exact (SO.sub_ok hS E o' r (F n) w).2 (@HeapOk.obj (E.by S) Empty _ ρ F h w H n o' r ho' hr)
    · rw [look_subH] at hn
      obtain ⟨o',ho',rfl⟩ := Option.map_eq_some_iff.1 hn
      exact @HeapOk.low (E.by S) Empty _ ρ F h w H n o' ho' (by rw [← SO.sub_wr S]; exact hw)
def subT (S : Sub) : Tree (SV × Heap Empty) → Tree (SV × Heap Empty)
  | .leaf l => .leaf (l.1.sub S,subH S l.2)
  | .fail n => .fail n
  | .br b t f => mkBr (nrmB (b.sub S)) (subT S t) (subT S f)
  | .req b t => mkReqT (nrmB (b.sub S)) (subT S t)
where mkReqT (b : BE) (t : Tree (SV × Heap Empty)) : Tree (SV × Heap Empty) := match b with
  | .lit true => t
  | b => .req b t
theorem subT_ok {S : Sub} (hS : S.okB = true) (E : Env) {K : SV × Heap Empty → Prop} : ∀ {t : Tree (SV × Heap Empty)}, @Tree.holds E _ K (subT S t) → @Tree.holds (E.by S) _ (fun r => K (r.1.sub S, subH S r.2)) t
  | .leaf l,h => h
  | .fail n,h => h
  | .br b t f, h => by
    obtain ⟨h1,h2⟩ := @mkBr_holds E _ _ _ _ _ h
    rw [bval hS E b] at h1 h2
    exact ⟨fun e => subT_ok hS E (h1 e),fun e => subT_ok hS E (h2 e)⟩
  | .req b t, h => by
    simp only [subT] at h
    unfold subT.mkReqT at h
    split at h
    · rename_i he
      exact ⟨by rw [← bval hS E b,he]; rfl,subT_ok hS E h⟩
    · exact ⟨by rw [← bval hS E b]; exact h.1,subT_ok hS E h.2⟩
structure Summ where
  g : Nat
  ps : List SV
  hp : Heap Empty
  t : Tree (SV × Heap Empty)
def Summ.ok (P : Program) (σ : Summ) : Prop :=
  enters P σ.g ∧ ∀ (E : Env) (ρ : Rho) (F : Nat → Nat → Prop) (w : World) (argv : Array Value) (K : SV × Heap Empty → Prop), @HeapOk E Empty _ ρ F σ.hp w → All2 (@SV.is E ρ) σ.ps argv.toList → @Tree.holds E _ K σ.t → @CallsTo E Empty _ P [] ρ F w σ.g argv K
theorem Summ.of {P : Program} {c : ∀ [Env], CallF Empty} (hc : ∀ [Env], CallOk P (@c _)) {g : Nat} {ps : List SV} {hp : Heap Empty} {t : Tree (SV × Heap Empty)} (he : enters P g) (ht : ∀ [Env], c g ps [] hp 1 = t) : Summ.ok P ⟨g, ps, hp, t⟩ :=
  ⟨he,fun E ρ F w argv K H ha hK => (@hc E g ps [] hp 1 ρ F w argv K H ha (by rw [@ht E]; exact hK)).2⟩
def SB.same : SB → SB → Bool
  | .bool b, .bool c => BE.beq b c
  | .int k e, .int k' f => decide (k = k') && IE.beq e f
  | .nilp, .nilp => true
  | .ptr n o, .ptr m q => Nat.beq n m && IE.beq o q
  | .sl n o l c, .sl m q l' c' => Nat.beq n m && (IE.beq o q && (IE.beq l l' && IE.beq c c'))
  | .nils, .nils => true
  | .nilf, .nilf => true
  | .ref n, .ref m => Nat.beq n m
  | _,_ => false
theorem SB.same_eq {x y : SB} (h : SB.same x y = true) : x = y := by
  cases x <;> cases y <;> simp only [SB.same,Bool.and_eq_true,decide_eq_true_eq,Bool.false_eq_true] at h
  case bool.bool => rw [BE.beq_eq h]
  case int.int => rw [h.1,IE.beq_eq h.2]
  case nilp.nilp => rfl
  case ptr.ptr => rw [Nat.eq_of_beq_eq_true h.1,IE.beq_eq h.2]
  case sl.sl => rw [Nat.eq_of_beq_eq_true h.1,IE.beq_eq h.2.1,IE.beq_eq h.2.2.1,IE.beq_eq h.2.2.2]
  case nils.nils => rfl
  case nilf.nilf => rfl
  case ref.ref => rw [Nat.eq_of_beq_eq_true h]
def SBs.same : List SB → List SB → Bool
  | [], [] => true
  | x :: l,y :: m => SB.same x y && SBs.same l m
  | _,_ => false
theorem SBs.same_eq : ∀ {l m : List SB}, SBs.same l m = true → l = m
  | [], [],_ => rfl
  | x :: l, y :: m, h => by
    simp only [SBs.same,Bool.and_eq_true] at h
    rw [SB.same_eq h.1,SBs.same_eq h.2]
  | [],_ :: _,h => by simp only [SBs.same,Bool.false_eq_true] at h
  | _ :: _, [],h => by simp only [SBs.same,Bool.false_eq_true] at h
def SC.same : SC → SC → Bool
  | .b x, .b y => SB.same x y
  | .fn f p q, .fn f' p' q' => sameFn f f' && (SBs.same p p' && SBs.same q q')
  | _,_ => false
theorem SC.same_eq {x y : SC} (h : SC.same x y = true) : x = y := by
  cases x <;> cases y <;> simp only [SC.same,Bool.and_eq_true,Bool.false_eq_true] at h
  case b.b => rw [SB.same_eq h]
  case fn.fn => rw [sameFn_eq h.1,SBs.same_eq h.2.1,SBs.same_eq h.2.2]
def keptB (h0 h1 : Heap Empty) (φ : Nat → Nat) (k : Nat) : Prot → Bool
  | [] => true
  | (n, j) :: l => (!Nat.beq (φ k) n || (match j with
    | none => false
    | some j => match look h0 k, look h1 k with
      | some (.cells _ l _), some (.cells _ l' _) => (match l[j]?, l'[j]? with
        | some c,some c' => SC.same c c' && c.det
        | _,_ => false)
      | _,_ => false)) && keptB h0 h1 φ k l
theorem keptB_spec {h0 h1 : Heap Empty} {φ : Nat → Nat} {k : Nat} : ∀ {prot : Prot}, keptB h0 h1 φ k prot = true → ∀ j, prot.pr (φ k) j →
    ∃ e l t e' l' t' c,look h0 k = some (.cells e l t) ∧ look h1 k = some (.cells e' l' t') ∧ l[j]? = some c ∧ l'[j]? = some c ∧ c.det = true
  | [],_,j,hp => by simp [Prot.pr,Prot.has] at hp
  | (n, i) :: l, h, j, hp => by
    simp only [keptB,Bool.and_eq_true,Bool.or_eq_true,Bool.not_eq_true'] at h
    by_cases hl : Prot.pr l (φ k) j
    · exact keptB_spec h.2 j hl
    · have hp' : n = φ k ∧ (i = none ∨ i = some j) := by
        simp only [Prot.pr,Prot.has,List.any_cons,Bool.or_eq_true,Bool.and_eq_true,beq_iff_eq] at hp
        rcases hp with ⟨h1,h2⟩ | h1
        · refine ⟨h1, ?_⟩
          cases i with
          | none => exact .inl rfl
          | some j' => simp only [beq_iff_eq] at h2; exact .inr (by rw [h2])
        · exact absurd h1 hl
      obtain ⟨rfl,hi⟩ := hp'
      rcases h.1 with h1 | h1
      · rw [Nat.beq_refl] at h1; cases h1
      · rcases hi with rfl | rfl
        · cases h1
        · simp only at h1
          split at h1
          · rename_i e l1 t e' l2 t' g1 g2
            split at h1
            · rename_i c c' g3 g4
              simp only [Bool.and_eq_true] at h1
              have := SC.same_eq h1.1
              subst this
              exact ⟨e,l1,t,e',l2,t',c,g1,g2,g3,g4,h1.2⟩
            · cases h1
          · cases h1
def keptAll (h0 h1 : Heap Empty) (φ : Nat → Nat) (prot : Prot) : List Nat → Bool
  | [] => true
  | k :: l => keptB h0 h1 φ k prot && keptAll h0 h1 φ prot l
theorem keptAll_spec {h0 h1 : Heap Empty} {φ : Nat → Nat} {prot : Prot} : ∀ {l : List Nat}, keptAll h0 h1 φ prot l = true → ∀ k ∈ l, keptB h0 h1 φ k prot = true
  | [],_,k,hk => by cases hk
  | x :: l, h, k, hk => by
    simp only [keptAll,Bool.and_eq_true] at h
    rcases List.mem_cons.1 hk with rfl | hk
    · exact h.1
    · exact keptAll_spec h.2 k hk
def nmD (l : List (Nat × Nat)) (n : Nat) : Nat := match lkN l n with
  | some m => m
  | none => n
def freshN (s : List (Nat × Nat)) (base : Nat) : List Nat → Nat → List (Nat × Nat)
  | [],_ => []
  | n :: l, i => match lkN s n with
    | some _ => freshN s base l i
    | none => (n,2 * (base + i)) :: freshN s base l (i + 1)
def newB (h : Heap Empty) (ψ : Nat → Nat) (old : List (Nat × Nat)) : List Nat → Bool
  | [] => true
  | k :: l => (match lkN old k with
    | some _ => true
    | none => (match look h (ψ k) with
      | none => hiB (ψ k) == hiB k
      | some _ => false)) && newB h ψ old l
theorem newB_spec {h : Heap Empty} {ψ : Nat → Nat} {old : List (Nat × Nat)} : ∀ {l : List Nat}, newB h ψ old l = true → ∀ k ∈ l, lkN old k = none → look h (ψ k) = none ∧ (Hi (ψ k) ↔ Hi k)
  | [],_,k,hk,_ => by cases hk
  | x :: l, hb, k, hk, hn => by
    simp only [newB,Bool.and_eq_true] at hb
    rcases List.mem_cons.1 hk with rfl | hk
    · have h1 := hb.1
      rw [hn] at h1
      simp only at h1
      split at h1
      · rename_i hl
        refine ⟨hl, ?_⟩
        rw [← hiB_iff, ← hiB_iff,beq_iff_eq.1 h1]
      · cases h1
    · exact newB_spec hb.2 k hk hn
def notInB (ψ : Nat → Nat) (m : Nat) : List Nat → Bool
  | [] => true
  | k :: l => !Nat.beq (ψ k) m && notInB ψ m l
theorem notInB_spec {ψ : Nat → Nat} {m : Nat} : ∀ {l : List Nat}, notInB ψ m l = true → ∀ k ∈ l, ψ k ≠ m
  | [],_,k,hk => by cases hk
  | x :: l, h, k, hk => by
    simp only [notInB,Bool.and_eq_true,Bool.not_eq_true'] at h
    rcases List.mem_cons.1 hk with rfl | hk
    · intro e; rw [e,Nat.beq_refl] at h; cases h.1
    · exact notInB_spec h.2 k hk
def injB (ψ : Nat → Nat) : List Nat → Bool
  | [] => true
  | k :: l => notInB ψ (ψ k) l && injB ψ l
theorem injB_spec {ψ : Nat → Nat} : ∀ {l : List Nat}, injB ψ l = true → ∀ a ∈ l, ∀ b ∈ l, ψ a = ψ b → a = b
  | [],_,a,ha,_,_,_ => by cases ha
  | x :: l, h, a, ha, b, hb, e => by
    simp only [injB,Bool.and_eq_true] at h
    rcases List.mem_cons.1 ha with h1 | h1 <;> rcases List.mem_cons.1 hb with h2 | h2
    · rw [h1,h2]
    · subst h1; exact absurd e.symm (notInB_spec h.1 b h2)
    · subst h2; exact absurd e (notInB_spec h.1 a h1)
    · exact injB_spec h.2 a h1 b h2 e
def memB (h : Heap Empty) (n : Nat) : Bool := (look h n).isSome
theorem memB_mem [Env] {h : Heap Empty} {n : Nat} (hm : memB h n = true) : n ∈ namesH h := by
  obtain ⟨o,ho⟩ := Option.isSome_iff_exists.1 hm
  exact look_namesH ho
def endF (prot : Prot) (h h0 : Heap Empty) (old : List (Nat × Nat)) (nm : Nat) (r : SV × Heap Empty) : Tree (SV × Heap Empty) :=
  let l := old ++ freshN old (nm * 65536) (namesH r.2) 0
  let ψ := nmD l
  if newB h ψ old (namesH r.2) && (injB ψ (namesH r.2) && (closedH (memB r.2) r.2 && (inAll (memB r.2) r.1.nms && keptAll h0 r.2 (nmD old) prot (namesH h0)))) then .leaf (r.1.ren ψ,merge h ψ r.2) else .fail 191
def allKnown (s : List (Nat × Nat)) (h : Heap Empty) : List (Nat × Nat) → Bool
  | [] => true
  | (k,_) :: l => memB h k && allKnown s h l
theorem allKnown_spec {s : List (Nat × Nat)} {h : Heap Empty} : ∀ {l : List (Nat × Nat)}, allKnown s h l = true → ∀ k m, lkN l k = some m → memB h k = true
  | [],_,k,m,hk => by cases hk
  | (x, y) :: l, ha, k, m, hk => by
    simp only [allKnown,Bool.and_eq_true] at ha
    simp only [lkN] at hk
    cases hb : Nat.beq x k with
    | true => rw [← Nat.eq_of_beq_eq_true hb]; exact ha.1
    | false => rw [hb] at hk; exact allKnown_spec ha.2 k m hk
theorem lkN_append {l m : List (Nat × Nat)} {k x : Nat} (h : lkN l k = some x) : lkN (l ++ m) k = some x := by
  induction l with
  | nil => cases h
  | cons p l ih =>
    obtain ⟨a,b⟩ := p
    simp only [List.cons_append,lkN] at h ⊢
    cases hb : Nat.beq a k with
    | true => rw [hb] at h; exact h
    | false => rw [hb] at h; exact ih h
def matchA (σ : Summ) (args : List SV) (h : Heap Empty) : Sub := mObjs σ.hp h 60 [] (mSVs σ.ps args ⟨[], [], []⟩)
def useS (σ : Summ) (args : List SV) (prot : Prot) (h : Heap Empty) (nm : Nat) : Option (Tree (SV × Heap Empty)) :=
  let S := matchA σ args h
  let hs := namesH σ.hp
  let h0 := subH S σ.hp
  let args0 := SVs.sub S σ.ps
  if S.okB && (fitSVs S hs σ.ps args && (fitH S hs h σ.hp && (injS S hs hs && (allKnown S.n σ.hp S.n && (closedH (memB h0) h0 && inAll (memB h0) (SV.nmsL args0)))))) then
    some ((subT S σ.t).bind (endF prot (merge h (nmD S.n) h0) h0 S.n nm))
  else none
theorem fitSVs_is (E : Env) {S : Sub} (hS : S.okB = true) {hs : List Nat} {ρ : Rho} : ∀ {ps xs : List SV} {vs : List Value}, fitSVs S hs ps xs = true → All2 (@SV.is E ρ) xs vs → All2 (@SV.is (E.by S) (S.rho hs ρ)) ps vs
  | [], [], vs, _, h => by cases vs with
    | nil => trivial
    | cons _ _ => exact h.elim
  | p :: ps, x :: xs, vs, hf, h => by
    cases vs with
    | nil => exact h.elim
    | cons v vs =>
      simp only [fitSVs,Bool.and_eq_true] at hf
      exact ⟨fitSV_is E hS hf.1 h.1,fitSVs_is E hS hf.2 h.2⟩
  | [],_ :: _,_,hf,_ => by simp only [fitSVs,Bool.false_eq_true] at hf
  | _ :: _, [],_,hf,_ => by simp only [fitSVs,Bool.false_eq_true] at hf
theorem SO.ren_wr {φ : Nat → Nat} (o : SO Empty) : (o.ren φ).wr = o.wr := by cases o <;> rfl
theorem useS_ok {P : Program} {σ : Summ} (hσ : σ.ok P) (E : Env) {args : List SV} {prot : Prot} {h : Heap Empty} {nm : Nat} {t : Tree (SV × Heap Empty)} {ρ : Rho} {F : Nat → Nat → Prop} {w : World} {argv : Array Value} {K : SV × Heap Empty → Prop}
    (hu : useS σ args prot h nm = some t) (H : @HeapOk E Empty _ ρ F h w) (ha : All2 (@SV.is E ρ) args argv.toList) (hK : @Tree.holds E _ K t) : @CallsTo E Empty _ P prot ρ F w σ.g argv K := by
  unfold useS at hu
  simp only at hu
  generalize hSS : matchA σ args h = S at hu
  split at hu
  case isFalse => cases hu
  rename_i hc
  cases hu
  simp only [Bool.and_eq_true] at hc
  obtain ⟨hS,hfa,hfh,hinj,hkn,hcl,hcv⟩ := hc
  have hlk : ∀ k ∈ namesH σ.hp, ∃ o m x r, look σ.hp k = some o ∧ lkN S.n k = some m ∧ look h m = some x ∧ ρ m = some r ∧ fitSO S (namesH σ.hp) o x = true ∧ (Hi k ↔ Hi m) := fun k hk => by
    obtain ⟨o,ho⟩ := mem_namesH hk
    obtain ⟨m,x,h1,h2,h3,h4⟩ := fitH_spec hfh k o ho
    obtain ⟨r,hr⟩ := @HeapOk.rho_some E Empty _ _ _ _ _ H _ _ h2
    exact ⟨o,m,x,r,ho,h1,h2,hr,h3,h4⟩
  have hnm : ∀ k m,lkN S.n k = some m → nmD S.n k = m := fun k m hk => by unfold nmD; rw [hk]
  have hn0 : namesH (subH S σ.hp) = namesH σ.hp := namesH_subH S σ.hp
  have hinj' : ∀ a ∈ namesH (subH S σ.hp), ∀ b ∈ namesH (subH S σ.hp), nmD S.n a = nmD S.n b → a = b := by
    rw [hn0]
    intro a ha' b hb e
    apply Classical.byContradiction
    intro hne
    obtain ⟨_,m,_,_,_,a1,_⟩ := hlk a ha'
    obtain ⟨_,j,_,_,_,b1,_⟩ := hlk b hb
    rw [hnm a m a1,hnm b j b1] at e
    exact injS_spec hinj a ha' b hb (fun e => hne e.symm) m j a1 b1 e.symm
  have hhi : ∀ k ∈ namesH (subH S σ.hp), Hi (nmD S.n k) ↔ Hi k := by
    rw [hn0]
    intro k hk
    obtain ⟨_,m,_,_,_,a1,_,_,_,a3⟩ := hlk k hk
    rw [hnm k m a1]; exact a3.symm
  have hrho : ∀ k ∈ namesH σ.hp, S.rho (namesH σ.hp) ρ k = ρ (nmD S.n k) := fun k hk => by
    obtain ⟨_,m,_,_,_,a1,_⟩ := hlk k hk
    unfold Sub.rho
    rw [if_pos (by simpa using hk),a1,hnm k m a1]
  have hcl' : ∀ k o, look (subH S σ.hp) k = some o → closedIn (subH S σ.hp) o.nms := fun k o ho n hn =>
    memB_mem (inAll_mem (closedH_spec hcl k o ho (by unfold memB; rw [ho]; rfl)) n hn)
  have hcv' : closedIn (subH S σ.hp) (SV.nmsL (SVs.sub S σ.ps)) := fun n hn => memB_mem (inAll_mem hcv n hn)
  have hlook := look_merge h (nmD S.n) (subH S σ.hp) hinj'
  have fit : ∀ k o, look (subH S σ.hp) k = some o → look (merge h (nmD S.n) (subH S σ.hp)) (nmD S.n k) = some (o.ren (nmD S.n)) := fun k o ho => by
    rw [hlook,invN_of hinj' (look_namesH ho)]
    simp only [ho,Option.map_some]
  have H2 : @HeapOk E Empty _ ρ F (merge h (nmD S.n) (subH S σ.hp)) w := by
    refine @HeapOk.mk E Empty _ ρ F _ w (fun n => ?_) (fun n o r hn hr => ?_) H.disj (fun n o hn hw => ?_) H.size
    · rw [hlook]
      cases hi : invN (nmD S.n) (namesH (subH S σ.hp)) n with
      | none => exact H.dom n
      | some k =>
        obtain ⟨hk,rfl⟩ := invN_some hi
        rw [hn0] at hk
        obtain ⟨o,m,x,r,a0,a1,a2,a3,_⟩ := hlk k hk
        rw [hnm k m a1,a3]
        simp only [look_subH,a0,Option.map_some]
        rfl
    · rw [hlook] at hn
      cases hi : invN (nmD S.n) (namesH (subH S σ.hp)) n with
      | none => rw [hi] at hn; exact H.obj n o r hn hr
      | some k =>
        rw [hi] at hn
        obtain ⟨hk,rfl⟩ := invN_some hi
        rw [hn0] at hk
        obtain ⟨o',m,x,r',a0,a1,a2,a3,a4,a5⟩ := hlk k hk
        simp only [look_subH,a0,Option.map_some,Option.some.injEq] at hn
        subst hn
        rw [hnm k m a1] at hr ⊢
        rw [a3] at hr
        cases hr
        have g1 := (fitSO_ok E hS a4 (H.obj m x r a2 a3)).1
        have g2 := (SO.sub_ok hS E o' r (F m) w).2 g1
        exact (@SO.ren_ok E Empty _ _ ρ (nmD S.n) (o'.sub S) (fun j hj => hrho j (by rw [← hn0]; exact hcl' k _ (by rw [look_subH,a0]; rfl) j hj)) r (F m) w).1 g2
    · rw [hlook] at hn
      cases hi : invN (nmD S.n) (namesH (subH S σ.hp)) n with
      | none => rw [hi] at hn; exact H.low n o hn hw
      | some k =>
        rw [hi] at hn
        obtain ⟨hk,rfl⟩ := invN_some hi
        rw [hn0] at hk
        obtain ⟨o',m,x,r',a0,a1,a2,a3,a4,a5⟩ := hlk k hk
        simp only [look_subH,a0,Option.map_some,Option.some.injEq] at hn
        subst hn
        rw [hnm k m a1]
        refine H.low m x a2 ?_
        rw [← (fitSO_ok E hS a4 (H.obj m x r' a2 a3)).2, ← SO.sub_wr S, ← SO.ren_wr (φ := nmD S.n)]
        exact hw
  have hargs : All2 (@SV.is E ρ) ((SVs.sub S σ.ps).map (SV.ren (nmD S.n))) argv.toList :=
    (@SVs.ren_is E (S.rho (namesH σ.hp) ρ) ρ (nmD S.n) _ (fun n hn => hrho n (by rw [← hn0]; exact hcv' n hn)) _).1 ((SVs.sub_is hS E _ _).2 (fitSVs_is E hS hfa ha))
  refine @lift E Empty _ P prot σ.g argv _ (subH S σ.hp) ρ F w H2 (nmD S.n) hinj' hhi fit hcl' (SVs.sub S σ.ps) hargs hcv' (subT S σ.t) K (fun ρ0 F0 K0 g1 g2 g3 => ?_) ?_
  · refine Calls.mono (hσ.2 (E.by S) ρ0 F0 w argv _ ((subH_ok hS E).1 g1) ((SVs.sub_is hS E _ _).1 g2) (subT_ok hS E g3)) fun e w' he => ?_
    obtain ⟨s,h',v, ρ',F',k1,k2,k3,k4,k5⟩ := he
    exact ⟨s.sub S,subH S h',v, ρ',F',k1,k2,(SV.sub_is hS E _ _).2 k3,(subH_ok hS E).2 k4,k5⟩
  · rw [@Tree.holds_bind E] at hK
    refine @Tree.holds_mono E _ _ _ (fun r hr => ?_) _ hK
    unfold endF at hr
    simp only at hr
    split at hr
    case isFalse => exact hr.elim
    rename_i hb
    simp only [Bool.and_eq_true] at hb
    obtain ⟨b1,b2,b3,b4,b5⟩ := hb
    have hnone : ∀ k, k ∉ namesH (subH S σ.hp) → lkN S.n k = none := fun k hk => by
      cases hl : lkN S.n k with
      | none => rfl
      | some m =>
        exfalso
        apply hk
        rw [hn0]
        exact memB_mem (allKnown_spec hkn k m hl)
    refine ⟨_, @LiftEnd.mk Empty prot _ _ _ _ _ _ (fun k hk => ?_) (fun k hk hk0 => newB_spec b1 k hk (hnone k hk0)) (injB_spec b2) (fun k o ho n hn => memB_mem (inAll_mem (closedH_spec b3 k o ho (by unfold memB; rw [ho]; rfl)) n hn)) (fun n hn => memB_mem (inAll_mem b4 n hn)) (fun k hk j hp => keptB_spec (keptAll_spec b5 k hk) j hp),hr⟩
    rw [hn0] at hk
    obtain ⟨_,m,_,_,_,a1,_⟩ := hlk k hk
    rw [hnm k m a1]
    unfold nmD
    rw [lkN_append a1]
def sumG (g : Nat) (args : List SV) (prot : Prot) (h : Heap Empty) (nm : Nat) : List Summ → Option (Tree (SV × Heap Empty))
  | [] => none
  | σ :: l => if Nat.beq σ.g g = true then (match useS σ args prot h nm with
    | some t => some t
    | none => sumG g args prot h nm l) else sumG g args prot h nm l
def withS (l : List Summ) (Γ : SumF Empty) : SumF Empty := fun g args prot h nm => match sumG g args prot h nm l with
  | some t => some t
  | none => Γ g args prot h nm
theorem sumG_some {g : Nat} {args : List SV} {prot : Prot} {h : Heap Empty} {nm : Nat} {t : Tree (SV × Heap Empty)} : ∀ {l : List Summ}, sumG g args prot h nm l = some t → ∃ σ ∈ l, σ.g = g ∧ useS σ args prot h nm = some t
  | [],hs => by cases hs
  | σ :: l, hs => by
    simp only [sumG] at hs
    split at hs
    · rename_i hg
      split at hs
      · rename_i t' ht
        cases hs
        exact ⟨σ,List.mem_cons_self ..,Nat.eq_of_beq_eq_true hg,ht⟩
      · obtain ⟨τ,h1,h2⟩ := sumG_some hs; exact ⟨τ,List.mem_cons_of_mem _ h1,h2⟩
    · obtain ⟨τ,h1,h2⟩ := sumG_some hs; exact ⟨τ,List.mem_cons_of_mem _ h1,h2⟩
theorem withS_ok [E : Env] {P : Program} {l : List Summ} (hl : ∀ σ ∈ l, σ.ok P) {Γ : SumF Empty} (hΓ : SumOk P Γ ∧ ∀ g args prot hp nm t, Γ g args prot hp nm = some t → enters P g) :
    SumOk P (withS l Γ) ∧ ∀ g args prot hp nm t,withS l Γ g args prot hp nm = some t → enters P g := by
  constructor
  · intro g args prot h nm t ρ F w argv K ht H ha hK
    unfold withS at ht
    split at ht
    · rename_i t' ht'
      cases ht
      obtain ⟨σ,h1,rfl,h3⟩ := sumG_some ht'
      exact useS_ok (hl σ h1) E h3 H ha hK
    · exact hΓ.1 g args prot h nm t ρ F w argv K ht H ha hK
  · intro g args prot h nm t ht
    unfold withS at ht
    split at ht
    · rename_i t' ht'
      cases ht
      obtain ⟨σ,h1,rfl,h3⟩ := sumG_some ht'
      exact (hl σ h1).1
    · exact hΓ.2 g args prot h nm t ht
end Go.Proofs.Ytafemlljemhkhaa.Sx
namespace Go.Proofs.Ytafemlljemhkhaa.Sx
open Go
set_option linter.unusedSectionVars false
set_option linter.unusedVariables false
set_option linter.unusedSimpArgs false
structure Eqs where
  n : List (IE × IE)
  l : List (IE × IE)
  b : List (BE × BE)
structure Eqs.hold (E : Env) (q : Eqs) : Prop where
  n : ∀ p ∈ q.n, @IE.val E p.1 = @IE.val E p.2
  l : ∀ p ∈ q.l, @IE.lst E p.1 = @IE.lst E p.2
  b : ∀ p ∈ q.b, @BE.val E p.1 = @BE.val E p.2
def hasP (x y : IE) : List (IE × IE) → Bool
  | [] => false
  | (a,b) :: l => (IE.beq a x && IE.beq b y) || hasP x y l
theorem hasP_mem {x y : IE} : ∀ {l : List (IE × IE)}, hasP x y l = true → (x, y) ∈ l
  | [],h => by cases h
  | (a, b) :: l, h => by
    simp only [hasP,Bool.or_eq_true,Bool.and_eq_true] at h
    rcases h with h | h
    · rw [IE.beq_eq h.1,IE.beq_eq h.2]; exact List.mem_cons_self ..
    · exact List.mem_cons_of_mem _ (hasP_mem h)
def hasB (x y : BE) : List (BE × BE) → Bool
  | [] => false
  | (a,b) :: l => (BE.beq a x && BE.beq b y) || hasB x y l
theorem hasB_mem {x y : BE} : ∀ {l : List (BE × BE)}, hasB x y l = true → (x, y) ∈ l
  | [],h => by cases h
  | (a, b) :: l, h => by
    simp only [hasB,Bool.or_eq_true,Bool.and_eq_true] at h
    rcases h with h | h
    · rw [BE.beq_eq h.1,BE.beq_eq h.2]; exact List.mem_cons_self ..
    · exact List.mem_cons_of_mem _ (hasB_mem h)
def eqvN (q : Eqs) (x y : IE) : Bool := IE.beq x y || hasP x y q.n
def eqvL (q : Eqs) (x y : IE) : Bool := IE.beq x y || hasP x y q.l
def eqvB (q : Eqs) (x y : BE) : Bool := BE.beq x y || hasB x y q.b
section
variable {E : Env} {q : Eqs} (hq : q.hold E) {ρ : Rho}
include hq
theorem eqvN_ok {x y : IE} (h : eqvN q x y = true) : @IE.val E x = @IE.val E y := by
  simp only [eqvN,Bool.or_eq_true] at h
  rcases h with h | h
  · rw [IE.beq_eq h]
  · exact hq.n _ (hasP_mem h)
theorem eqvL_ok {x y : IE} (h : eqvL q x y = true) : @IE.lst E x = @IE.lst E y := by
  simp only [eqvL,Bool.or_eq_true] at h
  rcases h with h | h
  · rw [IE.beq_eq h]
  · exact hq.l _ (hasP_mem h)
theorem eqvB_ok {x y : BE} (h : eqvB q x y = true) : @BE.val E x = @BE.val E y := by
  simp only [eqvB,Bool.or_eq_true] at h
  rcases h with h | h
  · rw [BE.beq_eq h]
  · exact hq.b _ (hasB_mem h)
end
def eqvSB (q : Eqs) : SB → SB → Bool
  | _, .unk => true
  | .bool b, .bool c => eqvB q b c
  | .int k e, .int k' f => decide (k = k') && eqvN q e f
  | .nilp, .nilp => true
  | .ptr n o, .ptr m p => Nat.beq n m && eqvN q o p
  | .sl n o l c, .sl m o' l' c' => Nat.beq n m && (eqvN q o o' && (eqvN q l l' && eqvN q c c'))
  | .sl n o l _, .isl m o' l' => Nat.beq n m && (eqvN q o o' && eqvN q l l')
  | .isl n o l, .isl m o' l' => Nat.beq n m && (eqvN q o o' && eqvN q l l')
  | .nils, .nils => true
  | .nilf, .nilf => true
  | .ref n, .ref m => Nat.beq n m
  | _,_ => false
theorem eqvSB_ok {E : Env} {q : Eqs} (hq : q.hold E) {ρ : Rho} {x y : SB} (h : eqvSB q x y = true) {v : Value} (hx : @SB.is E ρ x v) : @SB.is E ρ y v := by
  unfold eqvSB at h
  split at h
  · exact @SB.is_one E _ _ _ hx
  · show v = .bool _; rw [← eqvB_ok hq h]; exact hx
  · simp only [Bool.and_eq_true, decide_eq_true_eq] at h
    show v = .int _ _
    rw [← eqvN_ok hq h.2, ← h.1]; exact hx
  · exact hx
  · simp only [Bool.and_eq_true] at h
    obtain ⟨b,hb,rfl⟩ := hx
    exact ⟨b,by rw [← Nat.eq_of_beq_eq_true h.1]; exact hb,by rw [eqvN_ok hq h.2]⟩
  · simp only [Bool.and_eq_true] at h
    obtain ⟨h1,h2,h3,h4⟩ := h
    obtain ⟨b,hb,rfl⟩ := hx
    exact ⟨b,by rw [← Nat.eq_of_beq_eq_true h1]; exact hb,by rw [eqvN_ok hq h2,eqvN_ok hq h3,eqvN_ok hq h4]⟩
  · simp only [Bool.and_eq_true] at h
    obtain ⟨h1,h2,h3⟩ := h
    obtain ⟨b,hb,rfl⟩ := hx
    exact ⟨_,_,by rw [eqvN_ok hq h3], .inr ⟨b,by rw [← Nat.eq_of_beq_eq_true h1]; exact hb,by rw [eqvN_ok hq h2]⟩⟩
  · simp only [Bool.and_eq_true] at h
    obtain ⟨h1,h2,h3⟩ := h
    obtain ⟨a,c,rfl,hr⟩ := hx
    exact ⟨a,c,by rw [eqvN_ok hq h3],by rw [← eqvN_ok hq h3, ← eqvN_ok hq h2, ← Nat.eq_of_beq_eq_true h1]; exact hr⟩
  · exact hx
  · exact hx
  · rw [← Nat.eq_of_beq_eq_true h]; exact hx
  · cases h
def eqvSC (q : Eqs) : SC → SC → Bool
  | .b x, .b y => eqvSB q x y
  | .fn f p r, .fn f' p' r' => sameFn f f' && (SBs.same p p' && SBs.same r r')
  | _,_ => false
theorem eqvSC_ok {E : Env} {q : Eqs} (hq : q.hold E) {ρ : Rho} {x y : SC} (h : eqvSC q x y = true) {v : Value} (hx : @SC.is E ρ x v) : @SC.is E ρ y v := by
  cases x <;> cases y <;> simp only [eqvSC,Bool.and_eq_true,Bool.false_eq_true] at h
  case b.b => exact eqvSB_ok hq h hx
  case fn.fn => rw [← sameFn_eq h.1, ← SBs.same_eq h.2.1, ← SBs.same_eq h.2.2]; exact hx
def eqvSCs (q : Eqs) : List SC → List SC → Bool
  | [], [] => true
  | x :: l,y :: m => eqvSC q x y && eqvSCs q l m
  | _,_ => false
theorem eqvSCs_ok {E : Env} {q : Eqs} (hq : q.hold E) {ρ : Rho} : ∀ {l m : List SC} {vs : List Value}, eqvSCs q l m = true → All2 (@SC.is E ρ) l vs → All2 (@SC.is E ρ) m vs
  | [], [],vs,_,h => h
  | x :: l,y :: m, [],_,h => h.elim
  | x :: l, y :: m, v :: vs, hf, h => by
    simp only [eqvSCs,Bool.and_eq_true] at hf
    exact ⟨eqvSC_ok hq hf.1 h.1,eqvSCs_ok hq hf.2 h.2⟩
  | [],_ :: _,_,hf,_ => by simp only [eqvSCs,Bool.false_eq_true] at hf
  | _ :: _, [],_,hf,_ => by simp only [eqvSCs,Bool.false_eq_true] at hf
def eqvSW (q : Eqs) : SW → SW → Bool
  | .one x, .one y => eqvSC q x y
  | .agg l, .agg m => eqvSCs q l m
  | _,_ => false
theorem eqvSW_ok {E : Env} {q : Eqs} (hq : q.hold E) {ρ : Rho} {x y : SW} (h : eqvSW q x y = true) {v : Value} (hx : @SW.is E ρ x v) : @SW.is E ρ y v := by
  cases x <;> cases y <;> simp only [eqvSW,Bool.false_eq_true] at h
  case one.one => exact eqvSC_ok hq h hx
  case agg.agg => obtain ⟨vs,hv,g⟩ := hx; exact ⟨vs,hv,eqvSCs_ok hq h g⟩
def eqvSWs (q : Eqs) : List SW → List SW → Bool
  | [], [] => true
  | x :: l,y :: m => eqvSW q x y && eqvSWs q l m
  | _,_ => false
theorem eqvSWs_ok {E : Env} {q : Eqs} (hq : q.hold E) {ρ : Rho} : ∀ {l m : List SW} {vs : List Value}, eqvSWs q l m = true → All2 (@SW.is E ρ) l vs → All2 (@SW.is E ρ) m vs
  | [], [],vs,_,h => h
  | x :: l,y :: m, [],_,h => h.elim
  | x :: l, y :: m, v :: vs, hf, h => by
    simp only [eqvSWs,Bool.and_eq_true] at hf
    exact ⟨eqvSW_ok hq hf.1 h.1,eqvSWs_ok hq hf.2 h.2⟩
  | [],_ :: _,_,hf,_ => by simp only [eqvSWs,Bool.false_eq_true] at hf
  | _ :: _, [],_,hf,_ => by simp only [eqvSWs,Bool.false_eq_true] at hf
def eqvSV (q : Eqs) : SV → SV → Bool
  | _, .unk => true
  | .w x, .w y => eqvSW q x y
  | .tup l, .tup m => eqvSWs q l m
  | _,_ => false
theorem eqvSV_ok {E : Env} {q : Eqs} (hq : q.hold E) {ρ : Rho} {x y : SV} (h : eqvSV q x y = true) {v : Value} (hx : @SV.is E ρ x v) : @SV.is E ρ y v := by
  unfold eqvSV at h
  split at h
  · trivial
  · exact eqvSW_ok hq h hx
  · obtain ⟨vs,hv,g⟩ := hx; exact ⟨vs,hv,eqvSWs_ok hq h g⟩
  · cases h
def eqvSO (q : Eqs) : SO Empty → SO Empty → Bool
  | .cells e l t, .cells e' l' t' => Nat.beq e e' && (Nat.beq t t' && eqvSCs q l l')
  | .row k e l, .row k' e' l' => decide (k = k') && (Nat.beq e e' && eqvL q l l')
  | .tab c o n i, .tab c' o' n' i' => sameCols c c' && (IE.beq o o' && (IE.beq n n' && Nat.beq i i'))
  | .mach k l, .mach k' l' => (Nat.beq k' k || (Nat.beq k 1 && Nat.ble 2 k')) && eqvL q l l'
  | _,_ => false
theorem eqvSO_ok {E : Env} {q : Eqs} (hq : q.hold E) {ρ : Rho} {x y : SO Empty} {r : RV} {F : Nat → Prop} {w : World} (h : eqvSO q x y = true) (hx : @SO.ok E Empty _ ρ r F w x) : @SO.ok E Empty _ ρ r F w y ∧ y.wr = x.wr := by
  cases x <;> cases y <;> simp only [eqvSO,Bool.and_eq_true,Bool.false_eq_true,decide_eq_true_eq] at h
  case cells.cells =>
    obtain ⟨h1,h2,h3⟩ := h
    obtain ⟨b,vs,hr,hb,⟨us,rest,g1,g2,g3⟩,hF⟩ := hx
    rw [Nat.eq_of_beq_eq_true h1] at hb
    rw [Nat.eq_of_beq_eq_true h2] at g2
    exact ⟨⟨b,vs,hr,hb,⟨us,rest,g1,g2,eqvSCs_ok hq h3 g3⟩,hF⟩,rfl⟩
  case row.row =>
    obtain ⟨h1,h2,h3⟩ := h
    have hl := eqvL_ok hq h3
    refine ⟨?_,rfl⟩
    rcases hx with hx | ⟨b,rest,hr,hb,hF⟩
    · exact .inl ⟨by rw [← hl]; exact hx.1,hx.2⟩
    · exact .inr ⟨b,rest,hr,by rw [← hl, ← h1, ← Nat.eq_of_beq_eq_true h2]; exact hb,hF⟩
  case tab.tab =>
    obtain ⟨h1,h2,h3,h4⟩ := h
    rw [← sameCols_eq h1, ← IE.beq_eq h2, ← IE.beq_eq h3, ← Nat.eq_of_beq_eq_true h4]
    exact ⟨hx,rfl⟩
  case mach.mach =>
    obtain ⟨h1,h2⟩ := h
    refine ⟨?_,rfl⟩
    have hl := eqvL_ok hq h2
    show MachOk _ _ _ _ _
    rw [← hl]
    refine MachOk.conv ?_ hx
    simpa using h1
  all_goals (first | (rename_i a _; exact a.elim) | (rename_i a; exact a.elim) | (rename_i a _ _ _ _; exact a.elim))
def eqvH (q : Eqs) : Heap Empty → Heap Empty → Bool
  | [], [] => true
  | (n,x) :: h,(m,y) :: h' => Nat.beq n m && (eqvSO q x y && eqvH q h h')
  | _,_ => false
theorem eqvH_look {q : Eqs} : ∀ {h h' : Heap Empty}, eqvH q h h' = true → ∀ n, (look h n = none ∧ look h' n = none) ∨ ∃ x y, look h n = some x ∧ look h' n = some y ∧ eqvSO q x y = true
  | [], [],_,n => .inl ⟨rfl,rfl⟩
  | (k, x) :: h, (m, y) :: h', hf, n => by
    simp only [eqvH,Bool.and_eq_true] at hf
    obtain ⟨h1,h2,h3⟩ := hf
    have := Nat.eq_of_beq_eq_true h1
    subst this
    simp only [look]
    cases hb : (k == n) with
    | true => exact .inr ⟨x,y,rfl,rfl,h2⟩
    | false => exact eqvH_look h3 n
  | [],_ :: _,hf,_ => by simp only [eqvH,Bool.false_eq_true] at hf
  | _ :: _, [],hf,_ => by simp only [eqvH,Bool.false_eq_true] at hf
theorem eqvH_ok {E : Env} {q : Eqs} (hq : q.hold E) {h h' : Heap Empty} (he : eqvH q h h' = true) {ρ : Rho} {F : Nat → Nat → Prop} {w : World} (H : @HeapOk E Empty _ ρ F h w) : @HeapOk E Empty _ ρ F h' w := by
  refine @HeapOk.mk E Empty _ ρ F h' w (fun n => ?_) (fun n o r hn hr => ?_) H.disj (fun n o hn hw => ?_) H.size
  · rw [← H.dom n]
    rcases eqvH_look he n with ⟨h1,h2⟩ | ⟨x,y,h1,h2,_⟩ <;> rw [h1,h2] <;> rfl
  · rcases eqvH_look he n with ⟨h1, h2⟩ | ⟨x, y, h1, h2, h3⟩
    · rw [h2] at hn; cases hn
    · rw [h2] at hn; cases hn
      exact (eqvSO_ok hq h3 (H.obj n x r h1 hr)).1
  · rcases eqvH_look he n with ⟨h1, h2⟩ | ⟨x, y, h1, h2, h3⟩
    · rw [h2] at hn; cases hn
    · rw [h2] at hn; cases hn
      refine H.low n x h1 ?_
      obtain ⟨r,hr⟩ := @HeapOk.rho_some E Empty _ _ _ _ _ H _ _ h1
      rw [← (eqvSO_ok hq h3 (H.obj n x r h1 hr)).2]; exact hw
def Eqv (E : Env) (r r' : SV × Heap Empty) : Prop := (∀ ρ v, @SV.is E ρ r.1 v → @SV.is E ρ r'.1 v) ∧ ∀ ρ F w, @HeapOk E Empty _ ρ F r.2 w → @HeapOk E Empty _ ρ F r'.2 w
theorem Eqv.of {E : Env} {q : Eqs} (hq : q.hold E) {r r' : SV × Heap Empty} (h : (eqvSV q r.1 r'.1 && eqvH q r.2 r'.2) = true) : Eqv E r r' := by
  simp only [Bool.and_eq_true] at h
  exact ⟨fun ρ v hv => eqvSV_ok hq h.1 hv,fun ρ F w H => eqvH_ok hq h.2 H⟩
theorem Summ.conv {P : Program} {σ : Summ} (h : σ.ok P) {t' : Tree (SV × Heap Empty)} (hc : ∀ (E : Env) (K : SV × Heap Empty → Prop), @Tree.holds E _ K t' → @Tree.holds E _ (fun r => ∃ r', K r' ∧ Eqv E r r') σ.t) : Summ.ok P ⟨σ.g, σ.ps, σ.hp, t'⟩ :=
  ⟨h.1, fun E ρ F w argv K H ha hK => Calls.mono (h.2 E ρ F w argv _ H ha (hc E K hK)) fun e w' he => by
    obtain ⟨s,h',v, ρ',F',⟨r',k1,k2,k3⟩,rfl,g2,g3,g4⟩ := he
    exact ⟨r'.1,r'.2,v, ρ',F',k1,rfl,k2 _ _ g2,k3 _ _ _ g3,g4⟩⟩
end Go.Proofs.Ytafemlljemhkhaa.Sx
namespace Go.Proofs.Ytafemlljemhkhaa.Sx
open Go
set_option linter.unusedSectionVars false
set_option linter.unusedVariables false
set_option linter.unusedSimpArgs false
variable [Env]
section
variable {A : Type} [AbsK A]
def execBodyU (P : Program) (c : CallF A) (x : Extra A) (Λ : LoopF A) (n : Nat) (fn : Func) (code : Code) (args : List SV) (prot : Prot) (h : Heap A) (nm : Nat) : Tree (SV × Heap A) :=
  (execC P c x Λ prot (nm * 65536) n code [] ⟨args ++ List.replicate (fn.ntmps - args.length) undefS, h, 0⟩).bind fun r => match r.1 with
    | .exit _ => .fail 171
    | _ => (resS P fn.results r.2.l r.2.h).bind fun s => .leaf (s,gcH (namesH h) s r.2.h)
theorem execBodyU_ok {P : Program} (hm : P.follows .mixedOrders = true) {c : CallF A} {x : Extra A} {Λ : LoopF A} (hc : CallOk P c) (hx : ExtraOk P x) {n g : Nat} {fn : Func} {code : Code} (hf : P.funcs[g]? = some fn) (hb : fn.body = some code) (hΛ : LoopsOk P code Λ)
    {args : List SV} {prot : Prot} {h : Heap A} {nm : Nat} {ρ : Rho} {F : Nat → Nat → Prop} {w : World} {argv : Array Value} {K : SV × Heap A → Prop} (H : HeapOk ρ F h w) (ha : All2 (SV.is ρ) args argv.toList)
    (hK : (execBodyU P c x Λ n fn code args prot h nm).holds K) : CallsTo P prot ρ F w g argv K := by
  unfold execBodyU at hK
  rw [Tree.holds_bind] at hK
  have hlen : args.length = argv.size := by have := ha.length; simpa using this
  refine calls_of_wp hf hb (execC_ok hm hc hx hΛ code [] _ ρ F _ w _ rfl H ?_ (Tree.holds_mono (fun r hr ρ' F' a' w' t H' G => ?_) hK))
  · have hall : All2 (SV.is ρ) (args ++ List.replicate (fn.ntmps - args.length) undefS) (argv ++ Array.replicate (fn.ntmps - argv.size) undef).toList := by
      rw [Array.toList_append,Array.toList_replicate,hlen]
      exact ha.append (All2.replicate _ _ (undefS_is ρ) _)
    refine ⟨by have := hall.length; simpa using this.symm,fun i s _ hs => ?_,rfl⟩
    obtain ⟨v,hv,hsv⟩ := hall.get i s hs
    exact ⟨v,by rw [← Array.getElem?_toList]; exact hv,hsv⟩
  · obtain ⟨e, s'⟩ := r
    have key : (resS P fn.results s'.l s'.h).holds (fun s => K (s, gcH (namesH h) s s'.h)) → a'.defers = [] ∧ ∃ v, (results fn a'.tmps).run P w' = .ok v w' ∧ (∃ s h' v' ρ' F', K (s, h') ∧ Ending.returned v = .returned v' ∧ s.is ρ' v' ∧ HeapOk ρ' F' h' w' ∧ Goes prot.pr ρ F w ρ' F' w') := by
      intro hr
      obtain ⟨s,v,h1,h2,h3⟩ := resS_ok (fn := fn) H' t hr
      obtain ⟨ρ2,g1,g2,g3⟩ := gcH_ok H H' G h2
      exact ⟨t.defers,v,h3,s,_,v, ρ2,F',h1,rfl,g3,g1,g2⟩
    cases e with
    | norm => simp only at hr; rw [Tree.holds_bind] at hr; exact key hr
    | ret => simp only at hr; rw [Tree.holds_bind] at hr; exact key hr
    | exit id => exact hr.elim
def callU (P : Program) (c : CallF A) (x : Extra A) (Λ : Nat → LoopF A) (n : Nat) : CallF A := fun g args prot h nm => match P.funcs[g]? with
  | none => .fail 173
  | some fn => match fn.body with
    | none => .fail 174
    | some code => execBodyU P c x (Λ g) n fn code args prot h nm
theorem callU_ok {P : Program} (hm : P.follows .mixedOrders = true) {c : CallF A} {x : Extra A} {Λ : Nat → LoopF A} {n : Nat} (hc : CallOk P c) (hx : ExtraOk P x) (hn : ∀ (g : Nat) (fn : Func), P.funcs[g]? = some fn → (fn.name == "runtime.NumGoroutine") = false)
    (hΛ : ∀ (g : Nat) (fn : Func) (code : Code),P.funcs[g]? = some fn → fn.body = some code → LoopsOk P code (Λ g)) : CallOk P (callU P c x Λ n) := by
  intro g args prot h nm ρ F w argv K H ha hK
  unfold callU at hK
  split at hK
  · exact hK.elim
  · rename_i fn hf
    split at hK
    · exact hK.elim
    · rename_i code hb
      exact ⟨⟨fn,hf,hn _ _ hf,by rw [hb]; rfl⟩,execBodyU_ok hm hc hx hf hb (hΛ _ _ _ hf hb) H ha hK⟩
end
end Go.Proofs.Ytafemlljemhkhaa.Sx
