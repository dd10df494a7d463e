import Derived.Test.YtafemlljemhkhaaPSxMb
namespace Go.Proofs.Ytafemlljemhkhaa.Sx
open Go
set_option linter.unusedSectionVars false
set_option linter.unusedVariables false
set_option linter.unusedSimpArgs false
variable [Env]
section
variable {A : Type} [AbsK A]
def SB.nms : SB → List Nat
  | .ptr n _ => [n]
  | .sl n _ _ _ => [n]
  | .isl n _ _ => [n]
  | .ref n => [n]
  | .gptr n _ => [n]
  | _ => []
def SB.nmsL : List SB → List Nat
  | [] => []
  | x :: l => x.nms ++ SB.nmsL l
def SC.nms : SC → List Nat
  | .b x => x.nms
  | .fn _ p q => SB.nmsL p ++ SB.nmsL q
def SC.nmsL : List SC → List Nat
  | [] => []
  | x :: l => x.nms ++ SC.nmsL l
def SW.nms : SW → List Nat
  | .one c => c.nms
  | .agg l => SC.nmsL l
def SW.nmsL : List SW → List Nat
  | [] => []
  | x :: l => x.nms ++ SW.nmsL l
def SV.nms : SV → List Nat
  | .unk => []
  | .w x => x.nms
  | .tup l => SW.nmsL l
def SO.nms : SO A → List Nat
  | .cells _ l _ => SC.nmsL l
  | _ => []
def Rho.only (ρ : Rho) (k : Nat → Bool) : Rho := fun n => if k n then ρ n else none
def inAll (k : Nat → Bool) : List Nat → Bool
  | [] => true
  | n :: l => k n && inAll k l
theorem inAll_append {k : Nat → Bool} : ∀ {l m : List Nat}, inAll k (l ++ m) = true → inAll k l = true ∧ inAll k m = true
  | [],m,h => ⟨rfl,h⟩
  | n :: l, m, h => by
    simp only [List.cons_append,inAll,Bool.and_eq_true] at h ⊢
    have := inAll_append h.2
    exact ⟨⟨h.1,this.1⟩,this.2⟩
theorem SB.is_only {ρ : Rho} {k : Nat → Bool} (x : SB) (v : Value) (h : x.is ρ v) (hk : inAll k x.nms = true) : x.is (ρ.only k) v := by
  cases x <;> simp only [SB.is] at h ⊢ <;> first
    | exact h
    | (obtain ⟨b, hb, hv⟩ := h
       simp only [SB.nms,inAll,Bool.and_true] at hk
       exact ⟨b,by simp only [Rho.only,hk,if_true]; exact hb,hv⟩)
    | (obtain ⟨a, c, ha, hv⟩ := h
       simp only [SB.nms,inAll,Bool.and_true] at hk
       exact ⟨a,c,ha,hv.imp id fun ⟨b,hb,e⟩ => ⟨b,by simp only [Rho.only,hk,if_true]; exact hb,e⟩⟩)
    | (obtain ⟨b, o, l, c, hb, hv⟩ := h
       simp only [SB.nms,inAll,Bool.and_true] at hk
       exact ⟨b,o,l,c,by simp only [Rho.only,hk,if_true]; exact hb,hv⟩)
theorem SBs.is_only {ρ : Rho} {k : Nat → Bool} : ∀ {l : List SB} {vs : List Value}, All2 (SB.is ρ) l vs → inAll k (SB.nmsL l) = true → All2 (SB.is (ρ.only k)) l vs
  | [], [],_,_ => trivial
  | x :: l, v :: vs, h, hk => by
    have := inAll_append hk
    exact ⟨SB.is_only x v h.1 this.1,SBs.is_only h.2 this.2⟩
  | [],_ :: _,h,_ => h.elim
  | _ :: _, [],h,_ => h.elim
theorem SC.is_only {ρ : Rho} {k : Nat → Bool} (x : SC) (v : Value) (h : x.is ρ v) (hk : inAll k x.nms = true) : x.is (ρ.only k) v := by
  cases x with
  | b y => exact SB.is_only y v h hk
  | fn f p q =>
    obtain ⟨vs,us,hv,h1,h2⟩ := h
    have := inAll_append hk
    exact ⟨vs,us,hv,SBs.is_only h1 this.1,SBs.is_only h2 this.2⟩
theorem SCs.is_only {ρ : Rho} {k : Nat → Bool} : ∀ {l : List SC} {vs : List Value}, All2 (SC.is ρ) l vs → inAll k (SC.nmsL l) = true → All2 (SC.is (ρ.only k)) l vs
  | [], [],_,_ => trivial
  | x :: l, v :: vs, h, hk => by
    have := inAll_append hk
    exact ⟨SC.is_only x v h.1 this.1,SCs.is_only h.2 this.2⟩
  | [],_ :: _,h,_ => h.elim
  | _ :: _, [],h,_ => h.elim
theorem SW.is_only {ρ : Rho} {k : Nat → Bool} (x : SW) (v : Value) (h : x.is ρ v) (hk : inAll k x.nms = true) : x.is (ρ.only k) v := by
  cases x with
  | one c => exact SC.is_only c v h hk
  | agg l => obtain ⟨vs,hv,h1⟩ := h; exact ⟨vs,hv,SCs.is_only h1 hk⟩
theorem SWs.is_only {ρ : Rho} {k : Nat → Bool} : ∀ {l : List SW} {vs : List Value}, All2 (SW.is ρ) l vs → inAll k (SW.nmsL l) = true → All2 (SW.is (ρ.only k)) l vs
  | [], [],_,_ => trivial
  | x :: l, v :: vs, h, hk => by
    have := inAll_append hk
    exact ⟨SW.is_only x v h.1 this.1,SWs.is_only h.2 this.2⟩
  | [],_ :: _,h,_ => h.elim
  | _ :: _, [],h,_ => h.elim
theorem SV.is_only {ρ : Rho} {k : Nat → Bool} (x : SV) (v : Value) (h : x.is ρ v) (hk : inAll k x.nms = true) : x.is (ρ.only k) v := by
  cases x with
  | unk => trivial
  | w x => exact SW.is_only x v h hk
  | tup l => obtain ⟨vs,hv,h1⟩ := h; exact ⟨vs,hv,SWs.is_only h1 hk⟩
def keepH (k : Nat → Bool) : Heap A → Heap A
  | [] => []
  | (n,o) :: h => if k n then (n,o) :: keepH k h else keepH k h
omit [AbsK A] in
theorem look_keepH {k : Nat → Bool} : ∀ (h : Heap A) (n : Nat), look (keepH k h) n = if k n then look h n else none
  | [],n => by simp [keepH,look]
  | (m, o) :: h, n => by
    simp only [keepH]
    by_cases hm : k m = true
    · rw [if_pos hm]
      simp only [look]
      by_cases e : m = n
      · subst e; simp [hm]
      · have : (m == n) = false := by simpa using e
        simp only [this,cond_false]; exact look_keepH h n
    · rw [if_neg hm, look_keepH h n]
      by_cases e : m = n
      · subst e; rw [if_neg hm,if_neg hm]
      · have : (m == n) = false := by simpa using e
        simp only [look,this,cond_false]
def closedH (k : Nat → Bool) : Heap A → Bool
  | [] => true
  | (n,o) :: h => (!k n || inAll k o.nms) && closedH k h
omit [AbsK A] in
theorem closedH_spec {k : Nat → Bool} : ∀ {h : Heap A}, closedH k h = true → ∀ n o, look h n = some o → k n = true → inAll k o.nms = true
  | [],_,n,o,h,_ => by simp [look] at h
  | (m, p) :: h, hc, n, o, hl, hk => by
    simp only [closedH,Bool.and_eq_true,Bool.or_eq_true,Bool.not_eq_true'] at hc
    simp only [look] at hl
    by_cases e : m = n
    · subst e
      simp at hl; subst hl
      rcases hc.1 with h1 | h1
      · rw [hk] at h1; cases h1
      · exact h1
    · have : (m == n) = false := by simpa using e
      simp only [this,cond_false] at hl
      exact closedH_spec hc.2 n o hl hk
theorem HeapOk.only {ρ : Rho} {F : Nat → Nat → Prop} {h : Heap A} {w : World} (H : HeapOk ρ F h w) {k : Nat → Bool} (hc : closedH k h = true) : HeapOk (ρ.only k) F (keepH k h) w := by
  have hsome : ∀ n, ((ρ.only k) n).isSome → (ρ n).isSome ∧ k n = true := by
    intro n hn
    unfold Rho.only at hn
    split at hn
    · rename_i hk; exact ⟨hn,hk⟩
    · cases hn
  refine ⟨fun n => ?_,fun n o r hn hr => ?_,fun n m x hne hn hm hw => H.disj n m x hne (hsome n hn).1 (hsome m hm).1 hw,fun n o hn hw => H.low n o (by rw [look_keepH] at hn; split at hn; exact hn; cases hn) hw,fun n x hn => H.size n x (hsome n hn).1⟩
  · rw [look_keepH]
    unfold Rho.only
    split
    · exact H.dom n
    · rfl
  · rw [look_keepH] at hn
    unfold Rho.only at hr
    split at hr
    · rename_i hk
      rw [if_pos hk] at hn
      have hok := H.obj n o r hn hr
      have hcl := closedH_spec hc n o hn hk
      cases o with
      | cells e l t =>
        obtain ⟨b,vs,h1,h2,⟨us,rest,h3,h4,h5⟩,h6⟩ := hok
        exact ⟨b,vs,h1,h2,⟨us,rest,h3,h4,SCs.is_only h5 hcl⟩,h6⟩
      | row k e l => exact hok
      | abs a => exact hok
      | tab cols o n id => exact hok
      | mach k l => exact hok
    · cases hr
omit [AbsK A] in
theorem Goes.only {pr : Nat → Nat → Prop} {ρ ρ' : Rho} {F F' : Nat → Nat → Prop} {w w' : World} (G : Goes pr ρ F w ρ' F' w') {k : Nat → Bool} (hk : ∀ n, (ρ n).isSome → k n = true) : Goes pr ρ F w (ρ'.only k) F' w' where
  old := G.old
  ext := fun n r hr => by have := G.ext n r hr; unfold Rho.only; rw [if_pos (hk n (by simp [hr]))]; exact this
  os := G.os
  tape := G.tape
  output := G.output
  size := G.size
  keep := G.keep
  foot := fun n x hn hx => G.foot n x (by unfold Rho.only at hn; split at hn; exact hn; cases hn) hx
  prot := G.prot
def reach (h : Heap A) : Nat → List Nat → List Nat → List Nat
  | 0,_,seen => seen
  | _, [],seen => seen
  | f + 1, x :: todo, seen => if seen.contains x then reach h f todo seen else match look h x with
    | none => reach h f todo seen
    | some o => reach h f (o.nms ++ todo) (x :: seen)
def namesH : Heap A → List Nat
  | [] => []
  | (n,_) :: h => n :: namesH h
omit [AbsK A] in
theorem look_namesH : ∀ {h : Heap A} {n : Nat} {o : SO A}, look h n = some o → n ∈ namesH h
  | [],n,o,h => by simp [look] at h
  | (m, p) :: h, n, o, hl => by
    simp only [look] at hl
    by_cases e : m = n
    · subst e; exact List.mem_cons_self ..
    · have : (m == n) = false := by simpa using e
      simp only [this,cond_false] at hl
      exact List.mem_cons_of_mem _ (look_namesH hl)
def gcH (old : List Nat) (s : SV) (h : Heap A) : Heap A :=
  let seen := reach h 1000 (s.nms ++ old) []
  let k : Nat → Bool := fun n => seen.contains n
  if inAll k old && inAll k s.nms && closedH k h then keepH k h else h
theorem inAll_mem {k : Nat → Bool} : ∀ {l : List Nat}, inAll k l = true → ∀ n ∈ l, k n = true
  | [],_,n,h => by simp at h
  | m :: l, h, n, hn => by
    simp only [inAll,Bool.and_eq_true] at h
    rcases List.mem_cons.1 hn with rfl | hn
    · exact h.1
    · exact inAll_mem h.2 n hn
theorem gcH_ok {pr : Nat → Nat → Prop} {ρ ρ' : Rho} {F F' : Nat → Nat → Prop} {w w' : World} {h h' : Heap A} {s : SV} {v : Value} (H : HeapOk ρ F h w) (H' : HeapOk ρ' F' h' w') (G : Goes pr ρ F w ρ' F' w') (hs : s.is ρ' v) :
    ∃ ρ2,HeapOk ρ2 F' (gcH (namesH h) s h') w' ∧ Goes pr ρ F w ρ2 F' w' ∧ s.is ρ2 v := by
  unfold gcH
  simp only
  split
  · rename_i hc
    simp only [Bool.and_eq_true] at hc
    refine ⟨_,H'.only hc.2,G.only fun n hn => ?_,SV.is_only s v hs hc.1.2⟩
    obtain ⟨r,hr⟩ := Option.isSome_iff_exists.1 hn
    obtain ⟨o,ho⟩ := H.look_some hr
    exact inAll_mem hc.1.1 n (look_namesH ho)
  · exact ⟨ρ',H',G,hs⟩
def mergeIE (b : BE) (x y : IE) : IE := if IE.beq x y = true then x else .ite b.toI x y
theorem mergeIE_val {b : BE} {x y : IE} : (mergeIE b x y).val = (bif b.val then x.val else y.val) ∧ (mergeIE b x y).lst = (bif b.val then x.lst else y.lst) := by
  unfold mergeIE
  split
  · rename_i h; rw [IE.beq_eq h]; cases b.val <;> exact ⟨rfl,rfl⟩
  · simp only [IE.val, IE.lst, BE.toI_val, iteI]
    cases b.val <;> simp [ofB]
def mergeBE (b x y : BE) : BE :=
  if BE.beq x y = true then x else
  match x,y with
  | .lit true, .lit false => b
  | .lit false, .lit true => mkNot b
  | .lit false,y => mkAnd (mkNot b) y
  | x, .lit false => mkAnd b x
  | .lit true,y => mkNot (mkAnd (mkNot b) (mkNot y))
  | x, .lit true => mkNot (mkAnd b (mkNot x))
  | x,y => .cmp .neq (.ite b.toI x.toI y.toI) (.lit 0)
theorem mergeBE_val {b x y : BE} : (mergeBE b x y).val = bif b.val then x.val else y.val := by
  unfold mergeBE
  split
  · rename_i h; rw [BE.beq_eq h]; cases b.val <;> rfl
  · split
    · simp only [BE.val]; cases b.val <;> rfl
    · simp only [BE.val,mkNot_val]; cases b.val <;> rfl
    · simp only [BE.val,mkNot_val,mkAnd_val]; cases b.val <;> simp
    · simp only [BE.val,mkNot_val,mkAnd_val]; cases b.val <;> simp
    · simp only [BE.val,mkNot_val,mkAnd_val]; cases b.val <;> simp
    · simp only [BE.val,mkNot_val,mkAnd_val]; cases b.val <;> simp
    · simp only [BE.val, IE.val, BE.toI_val, cmpVal, iteI]
      have key : ∀ p q r : Bool,((if ofB p = 0 then ofB r else ofB q) != 0) = bif p then q else r := by decide
      exact key _ _ _
abbrev MR (X : Type) := Option X
def mergeSB (b : BE) (x y : SB) : MR SB :=
  match x,y with
  | .bool x, .bool y => some (.bool (mergeBE b x y))
  | .int k x, .int k' y => if k = k' then some (.int k (mergeIE b x y)) else none
  | .nilp, .nilp => some .nilp
  | .nils, .nils => some .nils
  | .nilf, .nilf => some .nilf
  | .ptr n o, .ptr m p => if Nat.beq n m = true then some (.ptr n (mergeIE b o p)) else none
  | .sl n o l c, .sl m o' l' c' => if Nat.beq n m = true then some (.sl n (mergeIE b o o') (mergeIE b l l') (mergeIE b c c')) else none
  | .isl n o l, .isl m o' l' => if Nat.beq n m = true then some (.isl n (mergeIE b o o') (mergeIE b l l')) else none
  | .ref n, .ref m => if Nat.beq n m = true then some (.ref n) else none
  | .unk,_ => some .unk
  | _, .unk => some .unk
  | _,_ => none
theorem mergeSB_ok {b : BE} {x y z : SB} (h : mergeSB b x y = some z) {ρ : Rho} {v : Value} : (b.val = true → x.is ρ v → z.is ρ v) ∧ (b.val = false → y.is ρ v → z.is ρ v) := by
  unfold mergeSB at h
  split at h
  · cases h
    have e := @mergeBE_val
    constructor <;> (intro hb hx; simp only [SB.is] at hx ⊢; rw [e,hb]; exact hx)
  · split at h
    · rename_i hk; subst hk
      cases h
      constructor <;> (intro hb hx; simp only [SB.is] at hx ⊢; rw [mergeIE_val.1,hb]; exact hx)
    · cases h
  · cases h; exact ⟨fun _ h => h,fun _ h => h⟩
  · cases h; exact ⟨fun _ h => h,fun _ h => h⟩
  · cases h; exact ⟨fun _ h => h,fun _ h => h⟩
  · split at h
    · rename_i hk
      obtain rfl := Nat.eq_of_beq_eq_true hk
      cases h
      constructor <;> (intro hb hx; simp only [SB.is] at hx ⊢; rw [mergeIE_val.1,hb]; exact hx)
    · cases h
  · split at h
    · rename_i hk
      obtain rfl := Nat.eq_of_beq_eq_true hk
      cases h
      constructor <;> (intro hb hx; simp only [SB.is] at hx ⊢; rw [mergeIE_val.1,mergeIE_val.1,mergeIE_val.1,hb]; exact hx)
    · cases h
  · split at h
    · rename_i hk
      obtain rfl := Nat.eq_of_beq_eq_true hk
      cases h
      constructor <;> (intro hb hx; simp only [SB.is] at hx ⊢; rw [mergeIE_val.1,mergeIE_val.1,hb]; exact hx)
    · cases h
  · split at h
    · rename_i hk
      obtain rfl := Nat.eq_of_beq_eq_true hk
      cases h; exact ⟨fun _ h => h,fun _ h => h⟩
    · cases h
  · cases h; exact ⟨fun _ h => h,fun _ h => SB.is_one h⟩
  · cases h; exact ⟨fun _ h => SB.is_one h,fun _ h => h⟩
  · cases h
def mergeL {X : Type} (m : X → X → MR X) : List X → List X → MR (List X)
  | [], [] => some []
  | x :: l, y :: k => match m x y, mergeL m l k with
    | some r,some s => some (r :: s)
    | _,_ => none
  | _,_ => none
theorem mergeL_ok {X Y : Type} {b : BE} {m : X → X → MR X} {R : X → Y → Prop} (hm : ∀ (x y z : X), m x y = some z → ∀ (v : Y), (b.val = true → R x v → R z v) ∧ (b.val = false → R y v → R z v)) :
    ∀ {l k z : List X},mergeL m l k = some z → ∀ {vs : List Y},(b.val = true → All2 R l vs → All2 R z vs) ∧ (b.val = false → All2 R k vs → All2 R z vs)
  | [], [],z,h,vs => by cases h; exact ⟨fun _ h => h,fun _ h => h⟩
  | x :: l, y :: k, z, h, vs => by
    simp only [mergeL] at h
    split at h
    · rename_i r s h1 h2
      cases h
      cases vs with
      | nil => exact ⟨fun _ h => h.elim,fun _ h => h.elim⟩
      | cons v vs =>
        obtain ⟨a1,a2⟩ := hm _ _ _ h1 v
        obtain ⟨b1,b2⟩ := mergeL_ok hm (vs := vs) h2
        exact ⟨fun hb h => ⟨a1 hb h.1,b1 hb h.2⟩,fun hb h => ⟨a2 hb h.1,b2 hb h.2⟩⟩
    · cases h
  | [],_ :: _,_,h,_ => by cases h
  | _ :: _, [],_,h,_ => by cases h
def sameFn : Fn → Fn → Bool
  | .func f, .func g => Nat.beq f g
  | _,_ => false
def mergeSC (b : BE) (x y : SC) : MR SC :=
  match x,y with
  | .b x, .b y => (mergeSB b x y).map .b
  | .fn f p q, .fn f' p' q' => match sameFn f f', mergeL (mergeSB b) p p', mergeL (mergeSB b) q q' with
    | true,some r,some s => some (.fn f r s)
    | _,_,_ => none
  | _,_ => none
theorem mergeSC_ok {b : BE} {x y z : SC} (h : mergeSC b x y = some z) {ρ : Rho} {v : Value} : (b.val = true → x.is ρ v → z.is ρ v) ∧ (b.val = false → y.is ρ v → z.is ρ v) := by
  unfold mergeSC at h
  split at h
  · obtain ⟨r, hr, he⟩ := Option.map_eq_some_iff.1 h
    cases he
    exact mergeSB_ok hr
  · rename_i f p q f' p' q'
    split at h
    · rename_i r s hf h1 h2
      cases h
      have hff : f = f' := by
        unfold sameFn at hf
        split at hf
        · rw [Nat.eq_of_beq_eq_true hf]
        · cases hf
      subst hff
      constructor
      · rintro hb ⟨vs, us, rfl, g1, g2⟩
        exact ⟨vs,us,rfl,(mergeL_ok (fun _ _ _ h _ => mergeSB_ok h) h1).1 hb g1,(mergeL_ok (fun _ _ _ h _ => mergeSB_ok h) h2).1 hb g2⟩
      · rintro hb ⟨vs, us, rfl, g1, g2⟩
        exact ⟨vs,us,rfl,(mergeL_ok (fun _ _ _ h _ => mergeSB_ok h) h1).2 hb g1,(mergeL_ok (fun _ _ _ h _ => mergeSB_ok h) h2).2 hb g2⟩
    · cases h
  · cases h
def mergeSW (b : BE) (x y : SW) : MR SW :=
  match x,y with
  | .one x, .one y => (mergeSC b x y).map .one
  | .agg l, .agg k => (mergeL (mergeSC b) l k).map .agg
  | _,_ => none
theorem mergeSW_ok {b : BE} {x y z : SW} (h : mergeSW b x y = some z) {ρ : Rho} {v : Value} : (b.val = true → x.is ρ v → z.is ρ v) ∧ (b.val = false → y.is ρ v → z.is ρ v) := by
  unfold mergeSW at h
  split at h
  · obtain ⟨r, hr, he⟩ := Option.map_eq_some_iff.1 h
    cases he
    exact mergeSC_ok hr
  · obtain ⟨r, hr, he⟩ := Option.map_eq_some_iff.1 h
    cases he
    constructor
    · rintro hb ⟨vs,rfl,g⟩; exact ⟨vs,rfl,(mergeL_ok (fun _ _ _ h _ => mergeSC_ok h) hr).1 hb g⟩
    · rintro hb ⟨vs,rfl,g⟩; exact ⟨vs,rfl,(mergeL_ok (fun _ _ _ h _ => mergeSC_ok h) hr).2 hb g⟩
  · cases h
def mergeSV (b : BE) (x y : SV) : MR SV :=
  match x,y with
  | .unk,_ => some .unk
  | _, .unk => some .unk
  | .w x, .w y => (mergeSW b x y).map .w
  | .tup l, .tup k => (mergeL (mergeSW b) l k).map .tup
  | _,_ => none
theorem mergeSV_ok {b : BE} {x y z : SV} (h : mergeSV b x y = some z) {ρ : Rho} {v : Value} : (b.val = true → x.is ρ v → z.is ρ v) ∧ (b.val = false → y.is ρ v → z.is ρ v) := by
  unfold mergeSV at h
  split at h
  · cases h; exact ⟨fun _ _ => trivial,fun _ _ => trivial⟩
  · cases h; exact ⟨fun _ _ => trivial,fun _ _ => trivial⟩
  · obtain ⟨r, hr, he⟩ := Option.map_eq_some_iff.1 h
    cases he
    exact mergeSW_ok hr
  · obtain ⟨r, hr, he⟩ := Option.map_eq_some_iff.1 h
    cases he
    constructor
    · rintro hb ⟨vs,rfl,g⟩; exact ⟨vs,rfl,(mergeL_ok (fun _ _ _ h _ => mergeSW_ok h) hr).1 hb g⟩
    · rintro hb ⟨vs,rfl,g⟩; exact ⟨vs,rfl,(mergeL_ok (fun _ _ _ h _ => mergeSW_ok h) hr).2 hb g⟩
  · cases h
def sameCols : List Col → List Col → Bool
  | [], [] => true
  | .int k :: l, .int k' :: m => decide (k = k') && sameCols l m
  | .bool :: l, .bool :: m => sameCols l m
  | _,_ => false
theorem sameCols_eq : ∀ {l m : List Col}, sameCols l m = true → l = m
  | [], [],_ => rfl
  | .int k :: l, .int k' :: m, h => by
    simp only [sameCols,Bool.and_eq_true,decide_eq_true_eq] at h
    rw [h.1,sameCols_eq h.2]
  | .bool :: l, .bool :: m,h => by rw [sameCols_eq (l := l) (m := m) h]
  | [],_ :: _,h => by cases h
  | .int _ :: _, [],h => by cases h
  | .bool :: _, [],h => by cases h
  | .int _ :: _, .bool :: _,h => by cases h
  | .bool :: _, .int _ :: _,h => by cases h
def mergeO (b : BE) (x y : SO A) : MR (SO A) :=
  match x,y with
  | .cells e l t, .cells e' l' t' => if (Nat.beq e e' && Nat.beq t t') = true then (mergeL (mergeSC b) l l').map fun r => .cells e r t else none
  | .row k e l, .row k' e' l' => if k = k' then (if Nat.beq e e' = true then some (.row k e (mergeIE b l l')) else none) else none
  | .tab c o n id, .tab c' o' n' id' => if (sameCols c c' && (IE.beq o o' && (IE.beq n n' && Nat.beq id id'))) = true then some (.tab c o n id) else none
  | .mach k l, .mach k' l' => if Nat.beq k k' = true then some (.mach k (mergeIE b l l')) else none
  | _,_ => none
theorem mergeO_ok {b : BE} {x y z : SO A} (h : mergeO b x y = some z) {ρ : Rho} {r : RV} {F : Nat → Prop} {w : World} : (b.val = true → x.ok ρ r F w → z.ok ρ r F w) ∧ (b.val = false → y.ok ρ r F w → z.ok ρ r F w) := by
  unfold mergeO at h
  split at h
  · split at h
    · rename_i hk
      simp only [Bool.and_eq_true] at hk
      obtain rfl := Nat.eq_of_beq_eq_true hk.1
      obtain rfl := Nat.eq_of_beq_eq_true hk.2
      obtain ⟨r',hr,he⟩ := Option.map_eq_some_iff.1 h
      cases he
      constructor
      · rintro hb ⟨bb, vs, h1, h2, ⟨us, rest, h3, h4, h5⟩, h6⟩
        exact ⟨bb,vs,h1,h2,⟨us,rest,h3,h4,(mergeL_ok (fun _ _ _ h _ => mergeSC_ok h) hr).1 hb h5⟩,h6⟩
      · rintro hb ⟨bb, vs, h1, h2, ⟨us, rest, h3, h4, h5⟩, h6⟩
        exact ⟨bb,vs,h1,h2,⟨us,rest,h3,h4,(mergeL_ok (fun _ _ _ h _ => mergeSC_ok h) hr).2 hb h5⟩,h6⟩
    · cases h
  · split at h
    · rename_i hk; subst hk
      split at h
      · rename_i he
        obtain rfl := Nat.eq_of_beq_eq_true he
        cases h
        constructor
        · intro hb h; simp only [SO.ok] at h ⊢; rw [mergeIE_val.2,hb]; exact h
        · intro hb h; simp only [SO.ok] at h ⊢; rw [mergeIE_val.2,hb]; exact h
      · cases h
    · cases h
  · split at h
    · rename_i hk
      simp only [Bool.and_eq_true] at hk
      obtain ⟨h1,h2,h3,h4⟩ := hk
      cases h
      rw [sameCols_eq h1,IE.beq_eq h2,IE.beq_eq h3,Nat.eq_of_beq_eq_true h4]
      exact ⟨fun _ h => h,fun _ h => h⟩
    · cases h
  · split at h
    · rename_i hk
      obtain rfl := Nat.eq_of_beq_eq_true hk
      cases h
      constructor
      · intro hb h; simp only [SO.ok] at h ⊢; rw [mergeIE_val.2,hb]; exact h
      · intro hb h; simp only [SO.ok] at h ⊢; rw [mergeIE_val.2,hb]; exact h
    · cases h
  · cases h
def mergeH (b : BE) : Heap A → Heap A → MR (Heap A)
  | [],_ => some []
  | (n, o1) :: h1, h2 => match look h2 n with
    | none => mergeH b h1 h2
    | some o2 => match mergeO b o1 o2, mergeH b h1 h2 with
      | some r,some s => some ((n,r) :: s)
      | _,_ => none
theorem mergeH_look {b : BE} : ∀ {h1 h2 h' : Heap A}, mergeH b h1 h2 = some h' → ∀ n o, look h' n = some o → ∃ o1 o2, look h1 n = some o1 ∧ look h2 n = some o2 ∧ mergeO b o1 o2 = some o
  | [],h2,h',h,n,o,hl => by cases h; simp [look] at hl
  | (m, p) :: h1, h2, h', h, n, o, hl => by
    simp only [mergeH] at h
    split at h
    · rename_i hn
      obtain ⟨o1,o2,g1,g2,g3⟩ := mergeH_look h n o hl
      have hmn : m ≠ n := fun e => by subst e; rw [hn] at g2; cases g2
      have : (m == n) = false := by simpa using hmn
      exact ⟨o1,o2,by simp only [look,this,cond_false]; exact g1,g2,g3⟩
    · rename_i o2 hn
      split at h
      · rename_i r s h3 h4
        cases h
        by_cases e : m = n
        · subst e
          simp [look] at hl; subst hl
          exact ⟨p,o2,by simp [look],hn,h3⟩
        · have : (m == n) = false := by simpa using e
          simp only [look,this,cond_false] at hl
          obtain ⟨o1,o2,g1,g2,g3⟩ := mergeH_look h4 n o hl
          exact ⟨o1,o2,by simp only [look,this,cond_false]; exact g1,g2,g3⟩
      · cases h
theorem mergeO_wr {b : BE} {x y z : SO A} (h : mergeO b x y = some z) : z.wr = x.wr ∧ z.wr = y.wr := by
  unfold mergeO at h
  split at h
  · split at h
    · obtain ⟨r',hr,he⟩ := Option.map_eq_some_iff.1 h; cases he; exact ⟨rfl,rfl⟩
    · cases h
  · split at h
    · split at h
      · cases h; exact ⟨rfl,rfl⟩
      · cases h
    · cases h
  · split at h
    · cases h; exact ⟨rfl,rfl⟩
    · cases h
  · split at h
    · cases h; exact ⟨rfl,rfl⟩
    · cases h
  · cases h
theorem HeapOk.weaken {ρ : Rho} {F : Nat → Nat → Prop} {h h' : Heap A} {w : World} (H : HeapOk ρ F h w)
    (hl : ∀ n o',look h' n = some o' → ∃ o,look h n = some o ∧ (∀ r,o.ok ρ r (F n) w → o'.ok ρ r (F n) w) ∧ o'.wr = o.wr)
    (hc : closedH (fun n => (look h' n).isSome) h' = true) : HeapOk (ρ.only fun n => (look h' n).isSome) F h' w := by
  have hsome : ∀ n, ((ρ.only fun n => (look h' n).isSome) n).isSome → (ρ n).isSome := by
    intro n hn
    unfold Rho.only at hn
    split at hn
    · exact hn
    · cases hn
  refine ⟨fun n => ?_,fun n o r hn hr => ?_,fun n m x hne hn hm hw => H.disj n m x hne (hsome n hn) (hsome m hm) hw,fun n o hn hw => ?_,fun n x hn => H.size n x (hsome n hn)⟩
  · unfold Rho.only
    cases hn : look h' n with
    | none => simp [hn]
    | some o' =>
      obtain ⟨o,ho,_⟩ := hl n o' hn
      obtain ⟨r,hr⟩ := H.rho_some ho
      simp [hr,hn]
  · unfold Rho.only at hr
    split at hr
    · rename_i hk
      obtain ⟨o1,ho1,hok,_⟩ := hl n o hn
      have hok := hok r (H.obj n o1 r ho1 hr)
      have hcl := closedH_spec hc n o hn hk
      cases o with
      | cells e l t =>
        obtain ⟨b,vs,h1,h2,⟨us,rest,h3,h4,h5⟩,h6⟩ := hok
        exact ⟨b,vs,h1,h2,⟨us,rest,h3,h4,SCs.is_only h5 hcl⟩,h6⟩
      | row k e l => exact hok
      | abs a => exact hok
      | tab cols o n id => exact hok
      | mach k l => exact hok
    · cases hr
  · obtain ⟨o1, ho1, _, hwr⟩ := hl n o hn
    exact H.low n o1 ho1 (by rw [← hwr]; exact hw)
def mergeLeaf (b : BE) (old : List Nat) (x y : SV × Heap A) : MR (SV × Heap A) :=
  match mergeSV b x.1 y.1,mergeH b x.2 y.2 with
  | some r, some s =>
    if (inAll (fun n => (look s n).isSome) old && (inAll (fun n => (look s n).isSome) r.nms && closedH (fun n => (look s n).isSome) s)) = true then some (r,s) else none
  | _,_ => none
def Ends (pr : Nat → Nat → Prop) (ρ0 : Rho) (F0 : Nat → Nat → Prop) (w0 : World) (K : SV × Heap A → Prop) (r : SV × Heap A) : Prop :=
  ∀ ρ F w v,r.1.is ρ v → HeapOk ρ F r.2 w → Goes pr ρ0 F0 w0 ρ F w → ∃ s h' ρ' F',K (s,h') ∧ s.is ρ' v ∧ HeapOk ρ' F' h' w ∧ Goes pr ρ0 F0 w0 ρ' F' w
theorem Ends.of {pr : Nat → Nat → Prop} {ρ0 : Rho} {F0 : Nat → Nat → Prop} {w0 : World} {K : SV × Heap A → Prop} {r : SV × Heap A} (h : K r) : Ends pr ρ0 F0 w0 K r := fun ρ F w v h1 h2 h3 => ⟨r.1,r.2, ρ,F,h,h1,h2,h3⟩
theorem Ends.idem {pr : Nat → Nat → Prop} {ρ0 : Rho} {F0 : Nat → Nat → Prop} {w0 : World} {K : SV × Heap A → Prop} {r : SV × Heap A} (h : Ends pr ρ0 F0 w0 (Ends pr ρ0 F0 w0 K) r) : Ends pr ρ0 F0 w0 K r := by
  intro ρ F w v h1 h2 h3
  obtain ⟨s,h', ρ',F',k,g1,g2,g3⟩ := h ρ F w v h1 h2 h3
  exact k ρ' F' w v g1 g2 g3
section
variable {pr : Nat → Nat → Prop} {ρ0 : Rho} {F0 : Nat → Nat → Prop} {w0 : World} {old : List Nat}
theorem mergeLeaf_ok (hold : ∀ n, (ρ0 n).isSome → n ∈ old) {b : BE} {x y z : SV × Heap A} (h : mergeLeaf b old x y = some z) {K : SV × Heap A → Prop} (hK : K z) :
    (b.val = true → Ends pr ρ0 F0 w0 K x) ∧ (b.val = false → Ends pr ρ0 F0 w0 K y) := by
  unfold mergeLeaf at h
  split at h
  · rename_i r s h1 h2
    split at h
    · rename_i hc
      simp only [Bool.and_eq_true] at hc
      obtain ⟨c1,c2,c3⟩ := hc
      cases h
      constructor
      · intro hb ρ F w v g1 g2 g3
        refine ⟨r,s,_,F,hK,SV.is_only _ v ((mergeSV_ok h1).1 hb g1) c2,g2.weaken (fun n o' ho => ?_) c3,g3.only fun n hn => inAll_mem c1 n (hold n hn)⟩
        obtain ⟨o1,o2,e1,e2,e3⟩ := mergeH_look h2 n o' ho
        exact ⟨o1,e1,fun r => (mergeO_ok e3).1 hb,(mergeO_wr e3).1⟩
      · intro hb ρ F w v g1 g2 g3
        refine ⟨r,s,_,F,hK,SV.is_only _ v ((mergeSV_ok h1).2 hb g1) c2,g2.weaken (fun n o' ho => ?_) c3,g3.only fun n hn => inAll_mem c1 n (hold n hn)⟩
        obtain ⟨o1,o2,e1,e2,e3⟩ := mergeH_look h2 n o' ho
        exact ⟨o2,e2,fun r => (mergeO_ok e3).2 hb,(mergeO_wr e3).2⟩
    · cases h
  · cases h
def impB (b p : BE) : BE := mkNot (mkAnd b (mkNot p))
theorem impB_val {b p : BE} (h : (impB b p).val = true) (hb : b.val = true) : p.val = true := by
  simp only [impB,mkNot_val,mkAnd_val,hb,Bool.true_and,Bool.not_not] at h; exact h
def joinBr0 (old : List Nat) (b : BE) (t f : Tree (SV × Heap A)) : Tree (SV × Heap A) :=
  match t,f with
  | .leaf x, .leaf y => match mergeLeaf b old x y with
    | some r => .leaf r
    | none => .br b t f
  | .fail _, .fail n => .fail n
  | t, .fail _ => .req b t
  | .fail _,f => .req (mkNot b) f
  | t,f => .br b t f
def joinBr2 (old : List Nat) (b : BE) (t : Tree (SV × Heap A)) : Tree (SV × Heap A) → Tree (SV × Heap A)
  | .req p f => .req (impB (mkNot b) p) (joinBr2 old b t f)
  | f => joinBr0 old b t f
def joinBr (old : List Nat) (b : BE) : Tree (SV × Heap A) → Tree (SV × Heap A) → Tree (SV × Heap A)
  | .req p t,f => .req (impB b p) (joinBr old b t f)
  | t,f => joinBr2 old b t f
def hasF (b : BE) : List BE → Bool
  | [] => false
  | c :: l => BE.beq b c || hasF b l
theorem hasF_spec {b : BE} : ∀ {l : List BE}, hasF b l = true → (∀ c ∈ l, c.val = true) → b.val = true
  | c :: l, h, hl => by
    simp only [hasF,Bool.or_eq_true] at h
    rcases h with h | h
    · rw [BE.beq_eq h]; exact hl c (List.mem_cons_self ..)
    · exact hasF_spec h fun c hc => hl c (List.mem_cons_of_mem _ hc)
def mkNat2 : IE → IE
  | .mn a b => if IE.beq (mkNat a) (mkNat b) = true then mkNat a else .nat (.mn a b)
  | a => mkNat a
theorem mkNat2_val (a : IE) : (mkNat2 a).val = (a.val.toNat : Int) := by
  unfold mkNat2
  split
  · rename_i a b
    split
    · rename_i h
      have h1 := congrArg IE.val (IE.beq_eq h)
      rw [mkNat_val,mkNat_val] at h1
      rw [mkNat_val]
      simp only [IE.val,minI]
      split <;> omega
    · simp only [IE.val]
  · exact mkNat_val a
def mkMn2 (a b : IE) : IE := if IE.beq a b = true then a else mkMn a b
theorem mkMn2_val (a b : IE) : (mkMn2 a b).val = minI a.val b.val := by
  unfold mkMn2
  split
  · rename_i h; rw [IE.beq_eq h]; unfold minI; split <;> rfl
  · rw [mkMn_val]; rfl
def mkAt2 (a i : IE) (s o : Nat) : IE := match a with
  | .lit 0 => if s = 1 ∧ o = 0 then mkNat i else if s = 0 then .lit (o : Int) else mkAt (.lit 0) i s o
  | a => mkAt a i s o
theorem mkAt2_val (a i : IE) (s o : Nat) : ((mkAt2 a i s o).val.toNat : Int) = ((a.val.toNat + i.val.toNat * s + o : Nat) : Int) := by
  unfold mkAt2
  split
  · split
    · rename_i h; obtain ⟨rfl,rfl⟩ := h; rw [mkNat_val]; simp [IE.val]
    · split
      · rename_i h; subst h; simp [IE.val]
      · rw [mkAt_val]
  · rw [mkAt_val]
def IE.sim : IE → IE
  | .op o k a b => mkOp o k a.sim b.sim
  | .conv k a => mkConv k a.sim
  | .mn a b => mkMn2 a.sim b.sim
  | .mx a b => mkMx a.sim b.sim
  | .at_ a i s o => mkNat (mkAt2 a.sim i.sim s o)
  | .nat a => mkNat2 a.sim
  | .len l => mkLen l
  | x => x
theorem IE.sim_val : ∀ (x : IE), x.sim.val = x.val
  | .op o k a b => by simp only [IE.sim,mkOp_val,IE.val,IE.sim_val a,IE.sim_val b]
  | .conv k a => by simp only [IE.sim,mkConv_val,IE.val,IE.sim_val a]
  | .mn a b => by simp only [IE.sim,mkMn2_val,IE.val,IE.sim_val a,IE.sim_val b]
  | .mx a b => by simp only [IE.sim,mkMx_val,IE.val,IE.sim_val a,IE.sim_val b,maxI]
  | .at_ a i s o => by simp only [IE.sim,mkNat_val,mkAt2_val,IE.val,IE.sim_val a,IE.sim_val i]
  | .nat a => by simp only [IE.sim,mkNat2_val,IE.val,IE.sim_val a]
  | .len l => by simp only [IE.sim,mkLen_val,IE.val]
  | .lit _ | .atom _ | .dif _ _ | .cmpI _ _ _ | .notI _ | .andI _ _ | .eqI _ _ | .eqL _ _ | .ite _ _ _ | .get _ _ _ | .tab _ _ _ | .fn _ _ | .latom _ | .nilL | .consL _ _ | .rep _ _ | .putL _ _ _ | .subL _ _ _ _ | .ofTab _ _ | .fnL _ _ | .catL _ _ | .tabL _ _ _ => rfl
def canonCmp (o : BinOp) (a b : IE) : BE := match o with
  | .gtr => mkCmp .lss b a
  | .geq => mkCmp .leq b a
  | o => mkCmp o a b
theorem canonCmp_val (o : BinOp) (a b : IE) : (canonCmp o a b).val = cmpVal o a.val b.val := by
  unfold canonCmp; split <;> rw [mkCmp_val] <;> rfl
def notC : BE → BE
  | .cmp .eql a b => .cmp .neq a b
  | .cmp .neq a b => .cmp .eql a b
  | .cmp .lss a b => .cmp .leq b a
  | .cmp .leq a b => .cmp .lss b a
  | b => mkNot b
theorem notC_val (b : BE) : (notC b).val = !b.val := by
  unfold notC
  split
  case h_5 => exact mkNot_val _
  all_goals simp only [BE.val,cmpVal]
  · rfl
  · simp only [bne,Bool.not_not]
  · rw [← decide_not]; exact decide_eq_decide.2 (by omega)
  · rw [← decide_not]; exact decide_eq_decide.2 (by omega)
def BE.sim : BE → BE
  | .cmp o a b => canonCmp o a.sim b.sim
  | .not a => notC a.sim
  | .and a b => mkAnd a.sim b.sim
  | .eq a b => mkEq a.sim b.sim
  | b => b
theorem BE.sim_val : ∀ (b : BE), b.sim.val = b.val
  | .cmp o a b => by simp only [BE.sim,canonCmp_val,BE.val,IE.sim_val]
  | .not a => by simp only [BE.sim,notC_val,BE.val,BE.sim_val a]
  | .and a b => by simp only [BE.sim,mkAnd_val,BE.val,BE.sim_val a,BE.sim_val b]
  | .eq a b => by simp only [BE.sim,mkEq_val,BE.val,BE.sim_val a,BE.sim_val b]
  | .lit _ | .atom _ => rfl
def optMin : Option Int → Option Int → Option Int
  | some a,some b => some (if a ≤ b then a else b)
  | some a,none => some a
  | none,b => b
def optMax : Option Int → Option Int → Option Int
  | some a,some b => some (if a ≤ b then b else a)
  | some a,none => some a
  | none,b => b
def ub1 (x : IE) : BE → Option Int
  | .cmp .leq a (.lit m) => if IE.beq a x = true then some m else none
  | .cmp .lss a (.lit m) => if IE.beq a x = true then some (m - 1) else none
  | .cmp .eql a (.lit m) => if IE.beq a x = true then some m else none
  | _ => none
def lb1 (x : IE) : BE → Option Int
  | .cmp .leq (.lit m) a => if IE.beq a x = true then some m else none
  | .cmp .lss (.lit m) a => if IE.beq a x = true then some (m + 1) else none
  | .cmp .eql a (.lit m) => if IE.beq a x = true then some m else none
  | _ => none
theorem ub1_spec {x : IE} {b : BE} {m : Int} (h : ub1 x b = some m) (hb : b.val = true) : x.val ≤ m := by
  unfold ub1 at h
  split at h
  · split at h
    · rename_i e; cases h; rw [IE.beq_eq e] at hb; exact of_decide_eq_true hb
    · cases h
  · split at h
    · rename_i e; cases h; rw [IE.beq_eq e] at hb
      have := of_decide_eq_true hb
      simp only [IE.val] at this
      omega
    · cases h
  · split at h
    · rename_i e; cases h; rw [IE.beq_eq e] at hb
      have := eq_of_beq hb
      simp only [IE.val] at this
      omega
    · cases h
  · cases h
theorem lb1_spec {x : IE} {b : BE} {m : Int} (h : lb1 x b = some m) (hb : b.val = true) : m ≤ x.val := by
  unfold lb1 at h
  split at h
  · split at h
    · rename_i e; cases h; rw [IE.beq_eq e] at hb; exact of_decide_eq_true hb
    · cases h
  · split at h
    · rename_i e; cases h; rw [IE.beq_eq e] at hb
      have := of_decide_eq_true hb
      simp only [IE.val] at this
      omega
    · cases h
  · split at h
    · rename_i e; cases h; rw [IE.beq_eq e] at hb
      have := eq_of_beq hb
      simp only [IE.val] at this
      omega
    · cases h
  · cases h
def ubL (x : IE) : List BE → Option Int
  | [] => none
  | b :: l => optMin (ub1 x b) (ubL x l)
def lbL (x : IE) : List BE → Option Int
  | [] => none
  | b :: l => optMax (lb1 x b) (lbL x l)
theorem optMin_spec {a b : Option Int} {m x : Int} (h : optMin a b = some m) (ha : ∀ k, a = some k → x ≤ k) (hb : ∀ k, b = some k → x ≤ k) : x ≤ m := by
  unfold optMin at h
  split at h
  · cases h; have := ha _ rfl; have := hb _ rfl; split <;> omega
  · cases h; exact ha _ rfl
  · exact hb _ h
theorem optMax_spec {a b : Option Int} {m x : Int} (h : optMax a b = some m) (ha : ∀ k, a = some k → k ≤ x) (hb : ∀ k, b = some k → k ≤ x) : m ≤ x := by
  unfold optMax at h
  split at h
  · cases h; have := ha _ rfl; have := hb _ rfl; split <;> omega
  · cases h; exact ha _ rfl
  · exact hb _ h
theorem ubL_spec {x : IE} : ∀ {l : List BE} {m : Int}, (∀ c ∈ l, c.val = true) → ubL x l = some m → x.val ≤ m
  | [],m,_,h => by cases h
  | b :: l,m,hl,h => optMin_spec h (fun k hk => ub1_spec hk (hl b (List.mem_cons_self ..))) (fun k hk => ubL_spec (fun c hc => hl c (List.mem_cons_of_mem _ hc)) hk)
theorem lbL_spec {x : IE} : ∀ {l : List BE} {m : Int}, (∀ c ∈ l, c.val = true) → lbL x l = some m → m ≤ x.val
  | [],m,_,h => by cases h
  | b :: l,m,hl,h => optMax_spec h (fun k hk => lb1_spec hk (hl b (List.mem_cons_self ..))) (fun k hk => lbL_spec (fun c hc => hl c (List.mem_cons_of_mem _ hc)) hk)
def wraps : BinOp → Bool
  | .add | .sub | .mul | .quo | .and | .or | .xor | .andNot | .shl => true
  | _ => false
theorem wrap_rng (k : IntKind) (x : Int) : k.min ≤ k.wrap x ∧ k.wrap x ≤ k.max := by
  constructor <;> (cases k <;> simp [IntKind.wrap,IntKind.min,IntKind.max,IntKind.signed,IntKind.bits] <;> (try split) <;> omega)
theorem wraps_rng {o : BinOp} (h : wraps o = true) (k : IntKind) (x y : Int) : k.min ≤ binVal o k x y ∧ binVal o k x y ≤ k.max := by
  cases o <;> simp only [wraps,Bool.false_eq_true] at h <;> exact wrap_rng k _
def ub (fs : List BE) : IE → Option Int
  | .lit n => some n
  | .mn a b => optMin (optMin (ub fs a) (ub fs b)) (ubL (.mn a b) fs)
  | .conv k a => optMin (some k.max) (ubL (.conv k a) fs)
  | .op o k a b => if wraps o = true then optMin (some k.max) (ubL (.op o k a b) fs) else ubL (.op o k a b) fs
  | .cmpI o a b => optMin (some 1) (ubL (.cmpI o a b) fs)
  | x => ubL x fs
def lb (fs : List BE) : IE → Option Int
  | .lit n => some n
  | .nat a => optMax (some 0) (lbL (.nat a) fs)
  | .len a => optMax (some 0) (lbL (.len a) fs)
  | .conv k a => optMax (some k.min) (lbL (.conv k a) fs)
  | .op o k a b => if wraps o = true then optMax (some k.min) (lbL (.op o k a b) fs) else lbL (.op o k a b) fs
  | .cmpI o a b => optMax (some 0) (lbL (.cmpI o a b) fs)
  | x => lbL x fs
theorem ofB_rng (b : Bool) : 0 ≤ ofB b ∧ ofB b ≤ 1 := by cases b <;> decide
theorem ub_spec {fs : List BE} (hf : ∀ c ∈ fs, c.val = true) : ∀ {x : IE} {m : Int}, ub fs x = some m → x.val ≤ m := by
  intro x
  induction x with
  | lit n => intro m h; simp only [ub,Option.some.injEq] at h; subst h; simp only [IE.val]; exact Int.le_refl _
  | mn a b ia ib =>
    intro m h
    simp only [ub] at h
    refine optMin_spec h (fun k hk => optMin_spec hk (fun j hj => ?_) (fun j hj => ?_)) (fun k hk => ubL_spec hf hk)
    · have := ia hj; simp only [IE.val,minI]; split <;> omega
    · have := ib hj; simp only [IE.val,minI]; split <;> omega
  | conv k a =>
    intro m h
    simp only [ub] at h
    exact optMin_spec h (fun j hj => by cases hj; simp only [IE.val]; exact (wrap_rng k _).2) (fun k hk => ubL_spec hf hk)
  | op o k a b =>
    intro m h
    simp only [ub] at h
    split at h
    · rename_i ho
      exact optMin_spec h (fun j hj => by cases hj; simp only [IE.val]; exact (wraps_rng ho k _ _).2) (fun k hk => ubL_spec hf hk)
    · exact ubL_spec hf h
  | cmpI o a b =>
    intro m h
    simp only [ub] at h
    exact optMin_spec h (fun j hj => by cases hj; simp only [IE.val]; exact (ofB_rng _).2) (fun k hk => ubL_spec hf hk)
  | _ => intro m h; exact ubL_spec hf h
theorem lb_spec {fs : List BE} (hf : ∀ c ∈ fs, c.val = true) : ∀ {x : IE} {m : Int}, lb fs x = some m → m ≤ x.val := by
  intro x
  cases x with
  | lit n => intro m h; simp only [lb,Option.some.injEq] at h; subst h; simp only [IE.val]; exact Int.le_refl _
  | nat a =>
    intro m h
    simp only [lb] at h
    exact optMax_spec h (fun k hk => by cases hk; simp only [IE.val]; omega) (fun k hk => lbL_spec hf hk)
  | len a =>
    intro m h
    simp only [lb] at h
    exact optMax_spec h (fun k hk => by cases hk; simp only [IE.val]; omega) (fun k hk => lbL_spec hf hk)
  | conv k a =>
    intro m h
    simp only [lb] at h
    exact optMax_spec h (fun j hj => by cases hj; simp only [IE.val]; exact (wrap_rng k _).1) (fun k hk => lbL_spec hf hk)
  | op o k a b =>
    intro m h
    simp only [lb] at h
    split at h
    · rename_i ho
      exact optMax_spec h (fun j hj => by cases hj; simp only [IE.val]; exact (wraps_rng ho k _ _).1) (fun k hk => lbL_spec hf hk)
    · exact lbL_spec hf h
  | cmpI o a b =>
    intro m h
    simp only [lb] at h
    exact optMax_spec h (fun j hj => by cases hj; simp only [IE.val]; exact (ofB_rng _).1) (fun k hk => lbL_spec hf hk)
  | _ => intro m h; exact lbL_spec hf h
def boundF (fs : List BE) : BE → Bool
  | .lit b => b
  | .cmp .leq a b => match ub fs a, lb fs b with
    | some m,some n => decide (m ≤ n)
    | _,_ => false
  | .cmp .lss a b => match ub fs a, lb fs b with
    | some m,some n => decide (m < n)
    | _,_ => false
  | .cmp .neq a b => (match ub fs a, lb fs b with
    | some m,some n => decide (m < n)
    | _,_ => false) || (match ub fs b,lb fs a with
    | some m,some n => decide (m < n)
    | _,_ => false)
  | _ => false
theorem boundF_spec {fs : List BE} (hf : ∀ c ∈ fs, c.val = true) {b : BE} (h : boundF fs b = true) : b.val = true := by
  unfold boundF at h
  split at h
  · subst h; rfl
  · split at h
    · rename_i m n h1 h2
      have := ub_spec hf h1; have := lb_spec hf h2; have := of_decide_eq_true h
      simp only [BE.val,cmpVal,decide_eq_true_eq]; omega
    · cases h
  · split at h
    · rename_i m n h1 h2
      have := ub_spec hf h1; have := lb_spec hf h2; have := of_decide_eq_true h
      simp only [BE.val,cmpVal,decide_eq_true_eq]; omega
    · cases h
  · rw [Bool.or_eq_true] at h
    rcases h with h | h
    · split at h
      · rename_i m n h1 h2
        have := ub_spec hf h1; have := lb_spec hf h2; have := of_decide_eq_true h
        simp only [BE.val,cmpVal,bne_iff_ne,ne_eq]; omega
      · cases h
    · split at h
      · rename_i m n h1 h2
        have := ub_spec hf h1; have := lb_spec hf h2; have := of_decide_eq_true h
        simp only [BE.val,cmpVal,bne_iff_ne,ne_eq]; omega
      · cases h
  · cases h
def addF : BE → List BE → List BE
  | .and p q,l => addF p (addF q l)
  | .lit _,l => l
  | b,l => b :: l
theorem addF_spec : ∀ {b : BE} {l : List BE}, b.val = true → (∀ c ∈ l, c.val = true) → ∀ c ∈ addF b l, c.val = true
  | .and p q, l, hb, hl => by
    simp only [BE.val,Bool.and_eq_true] at hb
    show ∀ c ∈ addF p (addF q l),c.val = true
    exact addF_spec (b := p) hb.1 (addF_spec (b := q) hb.2 hl)
  | .lit _,l,hb,hl => hl
  | .atom i,l,hb,hl => fun c hc => by rcases List.mem_cons.1 hc with rfl | hc; exact hb; exact hl c hc
  | .cmp o x y,l,hb,hl => fun c hc => by rcases List.mem_cons.1 hc with rfl | hc; exact hb; exact hl c hc
  | .not x,l,hb,hl => fun c hc => by rcases List.mem_cons.1 hc with rfl | hc; exact hb; exact hl c hc
  | .eq x y,l,hb,hl => fun c hc => by rcases List.mem_cons.1 hc with rfl | hc; exact hb; exact hl c hc
def known0 (fs : List BE) (b : BE) : Bool := hasF b fs || boundF fs b
theorem known0_spec {fs : List BE} (hf : ∀ c ∈ fs, c.val = true) {b : BE} (h : known0 fs b = true) : b.val = true :=
  (Bool.or_eq_true_iff.1 h).elim (fun h => hasF_spec h hf) (boundF_spec hf)
def refuteS : List BE → BE → Bool
  | fs, .and p q => refuteS fs p || refuteS (addF p fs) q
  | fs,b => known0 fs (notC b)
theorem refuteS_spec : ∀ {b : BE} {fs : List BE}, (∀ c ∈ fs, c.val = true) → refuteS fs b = true → b.val = false
  | .and p q, fs, hf, h => by
    simp only [refuteS,Bool.or_eq_true] at h
    simp only [BE.val]
    rcases h with h | h
    · rw [refuteS_spec hf h]; rfl
    · cases hp : p.val
      · rfl
      · rw [refuteS_spec (addF_spec hp hf) h]; rfl
  | .lit _, fs, hf, h | .atom _, fs, hf, h | .cmp _ _ _, fs, hf, h | .not _, fs, hf, h | .eq _ _, fs, hf, h => by
    have := known0_spec hf h
    rw [notC_val] at this
    simpa using this
def knownS (fs : List BE) : BE → Bool
  | .and p q => knownS fs p && knownS fs q
  | .not b => known0 fs (.not b) || refuteS fs b
  | b => known0 fs b
theorem knownS_spec {fs : List BE} (hf : ∀ c ∈ fs, c.val = true) : ∀ {b : BE}, knownS fs b = true → b.val = true
  | .and p q, h => by
    simp only [knownS,Bool.and_eq_true] at h
    simp only [BE.val,Bool.and_eq_true]
    exact ⟨knownS_spec hf h.1,knownS_spec hf h.2⟩
  | .not b, h => by
    simp only [knownS,Bool.or_eq_true] at h
    rcases h with h | h
    · exact known0_spec hf h
    · simp only [BE.val,refuteS_spec hf h]; rfl
  | .lit _,h | .atom _,h | .cmp _ _ _,h | .eq _ _,h => known0_spec hf h
def knownF (fs : List BE) (b : BE) : Bool := knownS fs b.sim
theorem knownF_spec {fs : List BE} (hf : ∀ c ∈ fs, c.val = true) {b : BE} (h : knownF fs b = true) : b.val = true := by
  rw [← BE.sim_val]; exact knownS_spec hf h
def joinF (old : List Nat) : List BE → Tree (SV × Heap A) → Tree (SV × Heap A)
  | _, .leaf l => .leaf l
  | _, .fail n => .fail n
  | fs, .req p t => match knownF fs p with
    | true => joinF old fs t
    | false => .req p (joinF old fs t)
  | fs, .br b t f => match knownF fs b, knownF fs (mkNot b) with
    | true,_ => joinF old fs t
    | _,true => joinF old fs f
    | _,_ => joinBr old b (joinF old (addF b.sim fs) t) (joinF old (addF (notC b.sim) fs) f)
def joinT (old : List Nat) (t : Tree (SV × Heap A)) : Tree (SV × Heap A) := joinF old [] t
theorem joinBr0_ok (hold : ∀ n, (ρ0 n).isSome → n ∈ old) {b : BE} {K : SV × Heap A → Prop} {t f : Tree (SV × Heap A)} (h : (joinBr0 old b t f).holds K) :
    (b.val = true → t.holds (Ends pr ρ0 F0 w0 K)) ∧ (b.val = false → f.holds (Ends pr ρ0 F0 w0 K)) := by
  have up : ∀ {t : Tree (SV × Heap A)},t.holds K → t.holds (Ends pr ρ0 F0 w0 K) := fun ht => Tree.holds_mono (fun _ hr => Ends.of hr) ht
  unfold joinBr0 at h
  split at h
  · split at h
    · rename_i x y r hr
      exact mergeLeaf_ok hold hr h
    · exact ⟨fun hb => up (h.1 hb),fun hb => up (h.2 hb)⟩
  · exact h.elim
  · obtain ⟨h1, h2⟩ := h
    exact ⟨fun _ => up h2,fun hb => by rw [h1] at hb; cases hb⟩
  · obtain ⟨h1, h2⟩ := h
    rw [mkNot_val] at h1
    exact ⟨fun hb => (by rw [hb] at h1; cases h1),fun _ => up h2⟩
  · exact ⟨fun hb => up (h.1 hb),fun hb => up (h.2 hb)⟩
theorem joinBr2_ok (hold : ∀ n, (ρ0 n).isSome → n ∈ old) {b : BE} {K : SV × Heap A → Prop} {t : Tree (SV × Heap A)} : ∀ {f : Tree (SV × Heap A)}, (joinBr2 old b t f).holds K →
    (b.val = true → t.holds (Ends pr ρ0 F0 w0 K)) ∧ (b.val = false → f.holds (Ends pr ρ0 F0 w0 K))
  | .req p f, h => by
    obtain ⟨h1,h2⟩ := h
    obtain ⟨g1,g2⟩ := joinBr2_ok hold h2
    exact ⟨g1,fun hb => ⟨impB_val h1 (by rw [mkNot_val,hb]; rfl),g2 hb⟩⟩
  | .leaf _,h => joinBr0_ok hold h
  | .fail _,h => joinBr0_ok hold h
  | .br _ _ _,h => joinBr0_ok hold h
theorem joinBr_ok (hold : ∀ n, (ρ0 n).isSome → n ∈ old) {b : BE} {K : SV × Heap A → Prop} {f : Tree (SV × Heap A)} : ∀ {t : Tree (SV × Heap A)}, (joinBr old b t f).holds K →
    (b.val = true → t.holds (Ends pr ρ0 F0 w0 K)) ∧ (b.val = false → f.holds (Ends pr ρ0 F0 w0 K))
  | .req p t, h => by
    obtain ⟨h1,h2⟩ := h
    obtain ⟨g1,g2⟩ := joinBr_ok hold h2
    exact ⟨fun hb => ⟨impB_val h1 hb,g1 hb⟩,g2⟩
  | .leaf _,h => joinBr2_ok hold h
  | .fail _,h => joinBr2_ok hold h
  | .br _ _ _,h => joinBr2_ok hold h
theorem joinF_ok (hold : ∀ n, (ρ0 n).isSome → n ∈ old) : ∀ {t : Tree (SV × Heap A)} {fs : List BE} {K : SV × Heap A → Prop}, (∀ c ∈ fs, c.val = true) → (joinF old fs t).holds K → t.holds (Ends pr ρ0 F0 w0 K)
  | .leaf l,fs,K,_,h => Ends.of h
  | .fail n,fs,K,_,h => h.elim
  | .req p t, fs, K, hf, h => by
    simp only [joinF] at h
    split at h
    · rename_i hp; exact ⟨knownF_spec hf hp,joinF_ok hold hf h⟩
    · exact ⟨h.1,joinF_ok hold hf h.2⟩
  | .br b t f, fs, K, hf, h => by
    simp only [joinF] at h
    split at h
    · rename_i hp
      have hb := knownF_spec hf hp
      exact ⟨fun _ => joinF_ok hold hf h,fun hb' => by rw [hb] at hb'; cases hb'⟩
    · rename_i hp hn
      have hb := knownF_spec hf hp
      rw [mkNot_val] at hb
      exact ⟨fun hb' => (by rw [hb'] at hb; cases hb),fun _ => joinF_ok hold hf h⟩
    · obtain ⟨h1, h2⟩ := joinBr_ok (pr := pr) (F0 := F0) (w0 := w0) hold h
      exact ⟨fun hb => Tree.holds_mono (fun _ hr => Ends.idem hr) (joinF_ok hold (addF_spec (by rw [BE.sim_val]; exact hb) hf) (h1 hb)),fun hb => Tree.holds_mono (fun _ hr => Ends.idem hr) (joinF_ok hold (addF_spec (by rw [notC_val,BE.sim_val,hb]; rfl) hf) (h2 hb))⟩
theorem joinT_ok (hold : ∀ n, (ρ0 n).isSome → n ∈ old) {K : SV × Heap A → Prop} {t : Tree (SV × Heap A)} {K : SV × Heap A → Prop} (h : (joinT old t).holds K) : t.holds (Ends pr ρ0 F0 w0 K) :=
  joinF_ok hold (fun c hc => by cases hc) h
end
end
end Go.Proofs.Ytafemlljemhkhaa.Sx
