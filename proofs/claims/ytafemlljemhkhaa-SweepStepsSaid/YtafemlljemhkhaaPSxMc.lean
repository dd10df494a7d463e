import Derived.Test.YtafemlljemhkhaaPSxGl
namespace Go.Proofs.Ytafemlljemhkhaa.Sx
open Go
set_option linter.unusedSectionVars false
set_option linter.unusedVariables false
set_option linter.unusedSimpArgs false
variable [Env]
section
variable {A : Type} [AbsK A]
abbrev CallF (A : Type) := Nat → List SV → Prot → Heap A → Nat → Tree (SV × Heap A)
abbrev Extra (A : Type) := Op → List SV → Prot → Heap A → Nat → Option (Tree (SV × Heap A))
def CallsTo (P : Program) (prot : Prot) (ρ : Rho) (F : Nat → Nat → Prop) (w : World) (g : Nat) (argv : Array Value) (K : SV × Heap A → Prop) : Prop :=
  Calls P g argv w fun e w' => ∃ s h' v ρ' F',K (s,h') ∧ e = .returned v ∧ s.is ρ' v ∧ HeapOk ρ' F' h' w' ∧ Goes prot.pr ρ F w ρ' F' w'
def enters (P : Program) (g : Nat) : Prop := ∃ fn, P.funcs[g]? = some fn ∧ (fn.name == "runtime.NumGoroutine") = false ∧ fn.body.isNone = false
def CallOk (P : Program) (c : CallF A) : Prop :=
  ∀ g args prot h nm (ρ : Rho) (F : Nat → Nat → Prop) (w : World) (argv : Array Value) (K : SV × Heap A → Prop), HeapOk ρ F h w → All2 (SV.is ρ) args argv.toList → (c g args prot h nm).holds K →
    enters P g ∧ CallsTo P prot ρ F w g argv K
def ExtraOk (P : Program) (x : Extra A) : Prop :=
  ∀ (o : Oper) l prot h nm t (ρ : Rho) (but : List Nat) (F : Nat → Nat → Prop) (a : Act) (w : World) (K : SV × Heap A → Prop), x o.op l prot h nm = some t → HeapOk ρ F h w → TmpsOk ρ but l a →
    (∀ x ∈ o.op.operands, ∀ t ∈ opnds x,t ∉ but) → t.holds K →
    ∃ s h' v ρ' F' w',K (s,h') ∧ s.is ρ' v ∧ (execOp a.eval o).run P w = .ok (.value v) w' ∧ HeapOk ρ' F' h' w' ∧ Goes prot.pr ρ F w ρ' F' w'
def liftB (x : SB) : SV := .w (.one (.b x))
def effOp (P : Program) (c : CallF A) (x : Extra A) (prot : Prot) (op : Op) (l : List SV) (h : Heap A) (nm : Nat) : Tree (SV × Heap A) :=
  match x op l prot h nm with
  | some t => t
  | none =>
  match op with
  | .load t a => (loadS P t (ev l a) h).bind fun s => .leaf (s,h)
  | .store t a y => (storeS P prot t (ev l a) (ev l y) h).bind fun h' => .leaf (undefS,h')
  | .alloc e => allocS P e h nm
  | .box e y => boxS P e (ev l y) h nm
  | .buildSlice t n parts => buildSliceS P t n (parts.toList.map fun p => (p.1,ev l p.2)) h nm
  | .makeSlice t y z => makeSliceS P t (ev l y) (ev l z) h nm
  | .call { callee := .value f, args, .. } =>
    match ev l f with
    | .w (.one (.fn (.func g) first cap)) => c g (first.map liftB ++ evArgs l args ++ cap.map liftB) prot h nm
    | _ => .fail 120
  | _ => .fail 121
theorem wp_of_value {P : Program} {o : Oper} {a : Act} {w w' : World} {v : Value} {next : Act → World → Prop} {Q : Exit → Act → World → Prop} (h : (execOp a.eval o).run P w = .ok (.value v) w') (hn : next (a.put o.dst v) w') :
    o.wp P a w next Q := by
  unfold Oper.wp; rw [h]; exact hn
theorem effOp_wp {P : Program} {c : CallF A} {x : Extra A} (hc : CallOk P c) (hx : ExtraOk P x) {prot : Prot} {o : Oper} {l : List SV} {h : Heap A} {nm : Nat} {ρ : Rho} {but : List Nat} {F : Nat → Nat → Prop} {a : Act} {w : World}
    (H : HeapOk ρ F h w) (hT : TmpsOk ρ but l a) (hb : ∀ x ∈ o.op.operands, ∀ t ∈ opnds x,t ∉ but) {next : Act → World → Prop} {Q : Exit → Act → World → Prop}
    (hK : (effOp P c x prot o.op l h nm).holds fun r => ∀ v ρ' F' w',r.1.is ρ' v → HeapOk ρ' F' r.2 w' → Goes prot.pr ρ F w ρ' F' w' → next (a.put o.dst v) w') :
    o.wp P a w next Q := by
  unfold effOp at hK
  split at hK
  · rename_i t ht
    obtain ⟨s,h',v, ρ',F',w',k1,k2,k3,k4,k5⟩ := hx o l prot h nm t ρ but F a w _ ht H hT hb hK
    exact wp_of_value k3 (k1 v ρ' F' w' k2 k4 k5)
  · rename_i hnone
    clear hnone
    obtain ⟨dst,op,type,pos,after,guard⟩ := o
    simp only at hK hb
    split at hK
    · rename_i t y
      rw [Tree.holds_bind] at hK
      obtain ⟨s,u,k1,k2,k3,_⟩ := loadS_ok H (ev_is hT y (hb y (by simp [Op.operands]))) hK
      exact wp_of_value (v := u) (w' := w) (by simp [execOp,k3]) (k1 u ρ F w k2 H (Goes.refl _ _ _ _))
    · rename_i t y z
      rw [Tree.holds_bind] at hK
      obtain ⟨h',w',k1,k2,k3,k4⟩ := storeS_ok H (ev_is hT y (hb y (by simp [Op.operands]))) (ev_is hT z (hb z (by simp [Op.operands]))) hK
      unfold Oper.wp
      rw [show (execOp a.eval { dst,op := .store t y z,type,pos,after,guard }).run P w = .ok .skip w' from by simp [execOp,k2]]
      exact k1 undef ρ F w' (undefS_is ρ) k3 k4
    · obtain ⟨s, h', v, ρ', F', w', k1, k2, k3, k4, k5⟩ := allocS_ok (prot := prot) H hK
      exact wp_of_value (v := v) (w' := w') (by simp [execOp,k3]) (k1 v ρ' F' w' k2 k4 k5)
    · rename_i e y
      obtain ⟨s,h',v, ρ',F',w',k1,k2,k3,k4,k5⟩ := boxS_ok (prot := prot) (P := P) H (ev_is hT y (hb y (by simp [Op.operands]))) hK
      exact wp_of_value (v := v) (w' := w') (by simp [execOp,k3]) (k1 v ρ' F' w' k2 k4 k5)
    · rename_i t n parts
      have hp : All2 (fun (p : Nat × SV) (q : Nat × Value) => p.1 = q.1 ∧ p.2.is ρ q.2) (parts.toList.map fun p => (p.1, ev l p.2)) (parts.map fun p => (p.1, a.eval p.2)).toList := by
        rw [Array.toList_map]
        refine All2.map _ _ _ fun p hm => ⟨rfl,ev_is hT p.2 (hb p.2 ?_)⟩
        simp only [Op.operands]
        simp
        exact ⟨p.1,by simpa using hm⟩
      obtain ⟨s,h',v, ρ',F',w',k1,k2,k3,k4,k5⟩ := buildSliceS_ok (prot := prot) H hp hK
      exact wp_of_value (v := v) (w' := w') (by simp only [execOp,Sem.run_bind]; rw [show (parts.map fun x => match x with | (i,x) => (i,a.eval x)) = parts.map fun p => (p.1,a.eval p.2) from rfl,k3]; rfl) (k1 v ρ' F' w' k2 k4 k5)
    · rename_i t y z
      obtain ⟨s,h',v, ρ',F',w',k1,k2,k3,k4,k5⟩ := makeSliceS_ok (prot := prot) H (ev_is hT y (hb y (by simp [Op.operands]))) (ev_is hT z (hb z (by simp [Op.operands]))) hK
      exact wp_of_value (v := v) (w' := w') (by simp [execOp,k3]) (k1 v ρ' F' w' k2 k4 k5)
    · rename_i f args ts
      split at hK
      · rename_i g first cap hf
        have hfv := ev_is hT f (hb f (by simp [Op.operands,Call.operands]))
        rw [hf] at hfv
        obtain ⟨vs,us,hfe,h1,h2⟩ := hfv
        have hargs := evArgs_is hT args fun x hx => hb x (by simp [Op.operands,Call.operands,hx])
        have hall : All2 (SV.is ρ) (first.map liftB ++ evArgs l args ++ cap.map liftB) (vs ++ args.map a.eval ++ us).toList := by
          rw [Array.toList_append,Array.toList_append]
          have lift : ∀ {xs : List SB} {ws : List Value}, All2 (SB.is ρ) xs ws → All2 (SV.is ρ) (xs.map liftB) ws := by
            intro xs
            induction xs with
            | nil => intro ws hw; cases ws with | nil => trivial | cons => exact hw.elim
            | cons x xs ih => intro ws hw; cases ws with | nil => exact hw.elim | cons y ys => exact ⟨hw.1,ih hw.2⟩
          exact ((lift h1).append hargs).append (lift h2)
        obtain ⟨⟨fn,e1,e2,e3⟩,hcalls⟩ := hc g _ prot h nm ρ F w _ _ H hall hK
        unfold Oper.wp
        have hrun : (execOp a.eval { dst, op := .call { callee := .value f, args, argTypes := ts }, type, pos, after, guard }).run P w = .ok (.enter g (vs ++ args.map a.eval ++ us)) w := by
          simp only [execOp,resolve,hfe,Deferred.ofValue,Sem.run_bind,Sem.run_pure,Result.andThen_ok,Go.invoke,callFunc,run_program,e1,e2,Bool.false_eq_true,if_false,e3]
        rw [hrun]
        refine Calls.mono hcalls fun e w' he => ?_
        obtain ⟨s,h',v, ρ',F',k1,rfl,k2,k3,k4⟩ := he
        exact k1 v ρ' F' w' k2 k3 k4
      · exact hK.elim
    · exact hK.elim
def isNilS : SV → Bool
  | .w (.one (.b .nils)) => true
  | _ => false
def nilAsg (op : Op) (l : List SV) : Bool :=
  match op with
  | .assign (.const v) => isNilS (ev l (.const v))
  | .move (.const v) => isNilS (ev l (.const v))
  | _ => false
def doOp (P : Program) (c : CallF A) (x : Extra A) (prot : Prot) (op : Op) (l : List SV) (h : Heap A) (nm : Nat) : Tree (SV × Heap A) :=
  match pureOp P op l,(if nilAsg op l then x op l prot h nm else none) with
  | _,some t => t
  | some t,none => t.bind fun s => .leaf (s,h)
  | none,none => effOp P c x prot op l h nm
theorem doOp_wp {P : Program} {c : CallF A} {x : Extra A} (hc : CallOk P c) (hx : ExtraOk P x) {prot : Prot} {o : Oper} {l : List SV} {h : Heap A} {nm : Nat} {ρ : Rho} {but : List Nat} {F : Nat → Nat → Prop} {a : Act} {w : World}
    (H : HeapOk ρ F h w) (hT : TmpsOk ρ but l a) (hb : ∀ x ∈ o.op.operands, ∀ t ∈ opnds x,t ∉ but) {next : Act → World → Prop} {Q : Exit → Act → World → Prop}
    (hK : (doOp P c x prot o.op l h nm).holds fun r => ∀ v ρ' F' w',r.1.is ρ' v → HeapOk ρ' F' r.2 w' → Goes prot.pr ρ F w ρ' F' w' → next (a.put o.dst v) w') :
    o.wp P a w next Q := by
  unfold doOp at hK
  split at hK
  · rename_i t ht
    split at ht
    · obtain ⟨s, h', v, ρ', F', w', k1, k2, k3, k4, k5⟩ := hx o l prot h nm t ρ but F a w _ ht H hT hb hK
      exact wp_of_value k3 (k1 v ρ' F' w' k2 k4 k5)
    · cases ht
  · rename_i t ht _
    rw [Tree.holds_bind] at hK
    obtain ⟨s,v,k1,k2,k3⟩ := pureOp_gives ht hT hb hK
    exact wp_of_value (k3 w) (k1 v ρ F w k2 H (Goes.refl _ _ _ _))
  · exact effOp_wp hc hx H hT hb hK
def guarded {L : Type} (ops : Array Oper) (o : Oper) (l : List SV) (yes no : List SV → Tree L) : Tree L :=
  match o.guard with
  | none => yes l
  | some (j, want) =>
    match (ops[j]?).bind (·.dst) with
    | none => no l
    | some d =>
      match l.getD d undefS with
      | .w (.one (.b (.bool (.lit b)))) => if b = want then yes l else no l
      | .w (.one (.b (.bool e))) =>
        .br e (if want then yes (l.set d (.w (.one (.b (.bool (.lit true)))))) else no (l.set d (.w (.one (.b (.bool (.lit true)))))))
          (if want then no (l.set d (.w (.one (.b (.bool (.lit false)))))) else yes (l.set d (.w (.one (.b (.bool (.lit false)))))))
      | .tup [] => no l
      | _ => .fail 130
theorem TmpsOk.known {ρ : Rho} {but : List Nat} {l : List SV} {a : Act} (h : TmpsOk ρ but l a) {d : Nat} {e : BE} {b : Bool} (hd : l.getD d undefS = .w (.one (.b (.bool e)))) (hb : d ∉ but) (he : e.val = b) :
    TmpsOk ρ but (l.set d (.w (.one (.b (.bool (.lit b)))))) a := by
  refine ⟨by simp [h.size],fun i s hi hl => ?_,h.defers⟩
  by_cases hid : d = i
  · subst hid
    have hlt : d < l.length := by
      rcases Nat.lt_or_ge d l.length with h1 | h1
      · exact h1
      · rw [List.getElem?_eq_none (by simpa using h1)] at hl; cases hl
    rw [List.getElem?_set_self hlt] at hl
    cases hl
    have h0 : l[d]? = some (.w (.one (.b (.bool e)))) := by
      rw [List.getD_eq_getElem?_getD,List.getElem?_eq_getElem hlt,Option.getD_some] at hd
      rw [List.getElem?_eq_getElem hlt,hd]
    obtain ⟨v,hv,hs⟩ := h.at_ d _ hb h0
    refine ⟨v,hv, ?_⟩
    have hs' : v = .bool e.val := hs
    show v = .bool (BE.lit b).val
    rw [hs',he]; rfl
  · rw [List.getElem?_set_ne hid] at hl
    exact h.at_ i s hi hl
theorem yielded_of {ρ : Rho} {but : List Nat} {ops : Array Oper} {l : List SV} {a : Act} (h : TmpsOk ρ but l a) {j d : Nat} (hj : (ops[j]?).bind (·.dst) = some d) (hd : d ∉ but) :
    (∀ e,l.getD d undefS = .w (.one (.b (.bool e))) → yielded ops a.tmps j = some e.val) ∧ (l.getD d undefS = .tup [] → yielded ops a.tmps j = none) := by
  have key : ∀ s, l.getD d undefS = s → (∃ v, a.tmps[d]? = some v ∧ s.is ρ v) ∨ (a.tmps[d]? = none ∧ s = undefS) := by
    intro s hs
    cases hl : l[d]? with
    | none =>
      right
      have h1 : l.length ≤ d := List.getElem?_eq_none_iff.1 hl
      rw [List.getD_eq_getElem?_getD,hl] at hs
      exact ⟨Array.getElem?_eq_none (by rw [h.size]; exact h1),hs.symm⟩
    | some s' =>
      left
      rw [List.getD_eq_getElem?_getD,hl,Option.getD_some] at hs
      subst hs
      exact h.at_ d _ hd hl
  constructor
  · intro e he
    rcases key _ he with ⟨v,hv,hs⟩ | ⟨_,hs⟩
    · have hs' : v = .bool e.val := hs
      unfold yielded
      rw [hj,Option.bind_some,hv,hs']
    · simp [undefS] at hs
  · intro he
    rcases key _ he with ⟨v,hv,hs⟩ | ⟨hv,_⟩
    · obtain ⟨vs, rfl, _⟩ := hs
      unfold yielded
      rw [hj,Option.bind_some,hv]
    · unfold yielded
      rw [hj,Option.bind_some,hv]
theorem guarded_ok {L : Type} {ops : Array Oper} {o : Oper} {l : List SV} {yes no : List SV → Tree L} {ρ : Rho} {but : List Nat} {a : Act} (hT : TmpsOk ρ but l a) (hb : ∀ t ∈ o.looksAt ops, t ∉ but) {Q : L → Prop} (h : (guarded ops o l yes no).holds Q) :
    ∃ l',TmpsOk ρ but l' a ∧ ((Region.wanted o (yielded ops a.tmps) = true ∧ (yes l').holds Q) ∨ (Region.wanted o (yielded ops a.tmps) = false ∧ (no l').holds Q)) := by
  unfold guarded at h
  split at h
  · rename_i hg
    exact ⟨l,hT, .inl ⟨by simp [Region.wanted,hg],h⟩⟩
  · rename_i j want hg
    split at h
    · rename_i hd
      exact ⟨l,hT, .inr ⟨by simp [Region.wanted,hg,yielded,hd],h⟩⟩
    · rename_i d hd
      have hdb : d ∉ but := hb d (by simp [Oper.looksAt,hg,hd])
      obtain ⟨y1,y2⟩ := yielded_of hT hd hdb
      split at h
      · rename_i b hl
        have hy := y1 _ hl
        split at h
        · rename_i hbw
          exact ⟨l,hT, .inl ⟨by simp [Region.wanted,hg,hy,BE.val,hbw],h⟩⟩
        · rename_i hbw
          exact ⟨l,hT, .inr ⟨by simpa [Region.wanted,hg,hy,BE.val] using hbw,h⟩⟩
      · rename_i e _ hl
        have hy := y1 _ hl
        cases he : e.val with
        | true =>
          have h' := h.1 he
          refine ⟨_,hT.known hl hdb he, ?_⟩
          cases want with
          | true => exact .inl ⟨by simp [Region.wanted,hg,hy,he],h'⟩
          | false => exact .inr ⟨by simp [Region.wanted,hg,hy,he],h'⟩
        | false =>
          have h' := h.2 he
          refine ⟨_,hT.known hl hdb he, ?_⟩
          cases want with
          | true => exact .inr ⟨by simp [Region.wanted,hg,hy,he],h'⟩
          | false => exact .inl ⟨by simp [Region.wanted,hg,hy,he],h'⟩
      · rename_i hl
        exact ⟨l,hT, .inr ⟨by simp [Region.wanted,hg,y2 hl],h⟩⟩
      · exact h.elim
def execOps (P : Program) (c : CallF A) (x : Extra A) (prot : Prot) (ops : Array Oper) (base : Nat) : List Oper → Nat → List SV → Heap A → Tree (List SV × Heap A)
  | [],_,l,h => .leaf (l,h)
  | o :: rest, i, l, h =>
    guarded ops o l (fun l => (doOp P c x prot o.op l h (nmOf base i)).bind fun r => execOps P c x prot ops base rest (i + 1) (setS l o.dst r.1) r.2)
      (fun l => execOps P c x prot ops base rest (i + 1) (setS l o.dst undefS) h)
theorem execOps_ok {P : Program} {c : CallF A} {x : Extra A} (hc : CallOk P c) (hx : ExtraOk P x) {prot : Prot} {ops : Array Oper} {base : Nat} {Q : Exit → Act → World → Prop} :
    ∀ (rest : List Oper) (i : Nat) (l : List SV) (h : Heap A) (ρ : Rho) (F : Nat → Nat → Prop) (a : Act) (w : World), (∀ k o, rest[k]? = some o → ops[i + k]? = some o) → HeapOk ρ F h w → TmpsOk ρ [] l a →
      (execOps P c x prot ops base rest i l h).holds (fun r => ∀ ρ' F' a' w',TmpsOk ρ' [] r.1 a' → HeapOk ρ' F' r.2 w' → Goes prot.pr ρ F w ρ' F' w' → Q .normal a' w') →
      wpOps P ops Q (List.range' i rest.length) a w
  | [],i,l,h, ρ,F,a,w,_,H,hT,hK => hK ρ F a w hT H (Goes.refl _ _ _ _)
  | o :: rest, i, l, h, ρ, F, a, w, ho, H, hT, hK => by
    have h0 : ops[i]? = some o := by have := ho 0 o (by simp); simpa using this
    simp only [execOps] at hK
    obtain ⟨l',hT',hw⟩ := guarded_ok hT (fun t _ => by simp) hK
    simp only [List.length_cons,List.range'_succ,wpOps,h0]
    have hrest : ∀ k o', rest[k]? = some o' → ops[i + 1 + k]? = some o' := fun k o' hk => by
      have := ho (k + 1) o' (by simpa using hk)
      rwa [show i + 1 + k = i + (k + 1) by omega]
    rcases hw with ⟨hw,hy⟩ | ⟨hw,hy⟩
    · rw [if_pos hw]
      rw [Tree.holds_bind] at hy
      refine .inl (doOp_wp hc hx H hT' (fun x _ t _ => by simp) (Tree.holds_mono (fun r hr v ρ' F' w' hs H' G => ?_) hy))
      refine execOps_ok hc hx rest (i + 1) _ _ ρ' F' _ w' hrest H' ((hT'.mono G.ext).put o.dst hs (fun d _ => by simp)) (Tree.holds_mono (fun q hq ρ2 F2 a2 w2 t2 H2 G2 => hq ρ2 F2 a2 w2 t2 H2 (G.trans G2)) hr)
    · rw [if_neg (by simp [hw])]
      exact execOps_ok hc hx rest (i + 1) _ _ ρ F _ w hrest H (hT'.put o.dst (undefS_is ρ) (fun d _ => by simp)) hy
end
end Go.Proofs.Ytafemlljemhkhaa.Sx
namespace Go.Proofs.Ytafemlljemhkhaa.Sx
open Go
set_option linter.unusedSectionVars false
set_option linter.unusedVariables false
set_option linter.unusedSimpArgs false
variable [Env]
section
variable {P : Program} {ops : Array Oper} {Q : Exit → Act → World → Prop} {S : World → Prop} {need : Nat → Bool}
def wpAnyN (P : Program) (ops : Array Oper) (Q : Exit → Act → World → Prop) (need : Nat → Bool) (S : World → Prop) : Nat → Array Bool → Act → World → Prop
  | 0,listed,a,w => Region.ready .any ops listed = [] ∧ Q .normal a w
  | fuel + 1, listed, a, w =>
    (Region.ready .any ops listed = [] → Q .normal a w) ∧
    ∀ i ∈ Region.ready .any ops listed,wpOp P ops Q i (fun a' w' => (need i = true → S w → S w') ∧ wpAnyN P ops Q need S fuel (listed.setIfInBounds i true) a' w') a w
theorem wpAny_of_N : ∀ (fuel : Nat) (listed : Array Bool) (a : Act) (w : World), wpAnyN P ops Q need S fuel listed a w → wpAny P .any ops Q fuel listed a w
  | 0,_,_,_,h => h
  | fuel + 1,_,_,_,h => ⟨h.1,fun i hi => wpOp_mono (fun a' w' h' => wpAny_of_N fuel _ a' w' h'.2) (h.2 i hi)⟩
theorem wpAnyN_first {i : Nat} {oi : Oper} {v : Value} {S' : World → Prop} (hi : ops[i]? = some oi) (hsel : ∀ (j : Nat) (o : Oper) cs b, ops[j]? = some o → o.op ≠ .select cs b)
    (hQ : ∀ c a w,Q (.panic c) (a.put oi.dst v) w → Q (.panic c) a w)
    (hS : ∀ listed j w w',listed.getD i true = false → j ∈ Region.ready .any ops listed → j ≠ i → (need j = true → S w → S w') → S' w → S' w') :
    ∀ (fuel : Nat) (listed : Array Bool) (a : Act) (w : World),
      (∀ j oj,ops[j]? = some oj → j ≠ i → listed.getD j true = false → (∀ e ∈ oj.after,Region.binds .any e = true → e.on ≠ i) → oi.apart ops oj = true) →
      i ∈ Region.ready .any ops listed → YieldsIf P ops S' oi v a → S' w →
      wpAnyN P ops Q need S fuel (listed.setIfInBounds i true) (a.put oi.dst v) w → wpAnyN P ops Q need S (fuel + 1) listed a w := by
  intro fuel
  induction fuel with
  | zero =>
    intro listed a w _ hr hy hw H
    refine ⟨fun h => (by rw [h] at hr; cases hr),fun j hj => ?_⟩
    by_cases hji : j = i
    · subst hji; exact hy.wpOp hi hw ⟨fun _ h => h,H⟩
    · have := ready_mono hj hji
      rw [H.1] at this
      cases this
  | succ fuel ih =>
    intro listed a w hfree hr hy hw H
    refine ⟨fun h => (by rw [h] at hr; cases hr),fun j hj => ?_⟩
    by_cases hji : j = i
    · subst hji; exact hy.wpOp hi hw ⟨fun _ h => h,H⟩
    · have h1 := H.2 j (ready_mono hj hji)
      obtain ⟨hjun,oj,hoj,hall⟩ := mem_ready.1 hj
      have hiun := (mem_ready.1 hr).1
      have hnot : ∀ e ∈ oj.after, Region.binds .any e = true → e.on ≠ i := fun e he hb heq => by
        have h1 := hall e he hb
        rw [heq] at h1
        rcases Nat.lt_or_ge i listed.size with h' | h'
        · simp [h'] at hiun h1; rw [hiun] at h1; cases h1
        · simp [Array.getElem?_eq_none h'] at h1
      have h2 := wpOp_putIf hoj (hfree j oj hoj hji hjun hnot) (fun cs b => hsel i oi cs b hi) (fun cs b => hsel j oj cs b hoj) hQ hy h1
      have hfree' : ∀ k ok, ops[k]? = some ok → k ≠ i → (listed.setIfInBounds j true).getD k true = false →
          (∀ e ∈ ok.after,Region.binds .any e = true → e.on ≠ i) → oi.apart ops ok = true := fun k ok hk hki hun hno => by
        refine hfree k ok hk hki ?_ hno
        by_cases hjk : j = k
        · subst hjk; exact hjun
        · rw [getD_set_ne true hjk] at hun; exact hun
      refine wpOp_mono (fun a' w' h3 => ?_) h2
      refine ⟨h3.2.1,ih (listed.setIfInBounds j true) a' w' hfree' (ready_mono hr (Ne.symm hji)) h3.1 (hS listed j w w' hiun hj hji h3.2.1 hw) ?_⟩
      rw [Array.setIfInBounds_comm _ _ hji]
      exact h3.2.2
def unl (listed : Array Bool) : Nat := listed.toList.count false
theorem count_set : ∀ (l : List Bool) (i : Nat), l[i]? = some false → (l.set i true).count false + 1 = l.count false
  | [],i,h => by simp at h
  | b :: l,0,h => by simp at h; subst h; simp
  | b :: l, i + 1, h => by
    simp at h
    have := count_set l i h
    cases b <;> simp [List.set_cons_succ] <;> omega
theorem unl_set {listed : Array Bool} {i : Nat} (h : listed.getD i true = false) : unl (listed.setIfInBounds i true) + 1 = unl listed := by
  unfold unl
  rw [Array.toList_setIfInBounds]
  refine count_set _ _ ?_
  simp only [Array.getD_eq_getD_getElem?] at h
  cases hl : listed[i]? with
  | none => rw [hl] at h; simp at h
  | some b => rw [hl] at h; simp at h; subst h; simpa using hl
theorem unl_pos {listed : Array Bool} {i : Nat} (h : listed.getD i true = false) : 0 < unl listed := by have := unl_set h; omega
theorem wpAnyN_all {fuel : Nat} {listed : Array Bool} {a : Act} {w : World} (hne : Region.ready .any ops listed ≠ [])
    (h : ∀ i ∈ Region.ready .any ops listed,wpOp P ops Q i (fun a' w' => (need i = true → S w → S w') ∧ wpAnyN P ops Q need S fuel (listed.setIfInBounds i true) a' w') a w) : wpAnyN P ops Q need S (fuel + 1) listed a w :=
  ⟨fun h0 => absurd h0 hne,h⟩
theorem wpAnyN_done {listed : Array Bool} {a : Act} {w : World} (hr : Region.ready .any ops listed = []) (h : Q .normal a w) :
    ∀ fuel,wpAnyN P ops Q need S fuel listed a w
  | 0 => ⟨hr,h⟩
  | _ + 1 => ⟨fun _ => h,by rw [hr]; simp⟩
end
inductive Md where
  | take | eff | alc
  deriving DecidableEq
def isPureK : Op → Bool
  | .move _ | .assign _ | .pick .. | .build .. | .field .. | .extract .. | .nilCheck _ | .binOp .. | .unOp .. | .convert .. | .makeFunc .. | .fieldAddr .. | .indexAddr .. | .index .. => true
  | .slice _ _ _ _ none => true
  | .call { callee := .builtin .len, .. } | .call { callee := .builtin .min, .. } | .call { callee := .builtin .max, .. } => true
  | _ => false
def isLenK : Op → Bool
  | .call { callee := .builtin .len, .. } => true
  | _ => false
def isAlcK (o : Oper) : Bool := match o.op,o.guard with | .alloc _,none => o.dst.isSome | _,_ => false
def tmpsOf (o : Op) : List Tmp := o.operands.toList.filterMap fun | .tmp t => some t | _ => none
def kinds (ops : List Oper) : List Tmp → List Md
  | taint => match ops with
    | [] => []
    | o :: rest =>
      let t := (tmpsOf o.op).any taint.contains
      let put := match o.dst with | some d => d :: taint | none => taint
      if t && isLenK o.op then .eff :: kinds rest put
      else if isPureK o.op then .take :: kinds rest (if t then put else taint)
      else if isAlcK o then .alc :: kinds rest put
      else match o.op with
        | .load _ _ => if t then .eff :: kinds rest put else .take :: kinds rest taint
        | _ => .eff :: kinds rest put
def nextOf (ms : List Md) (rs : List Nat) : Option (Nat × Md) :=
  match rs.find? fun i => ms.getD i .eff == .take with
  | some i => some (i, .take)
  | none => match rs.find? fun i => ms.getD i .eff == .eff with
    | some i => some (i, .eff)
    | none => match rs with
      | i :: _ => some (i, .alc)
      | [] => none
def mkSched (ops : Array Oper) (ms : List Md) : Nat → Array Bool → List (Nat × Md)
  | 0,_ => []
  | n + 1, L => match nextOf ms (Region.ready .any ops L) with
    | some (i,m) => (i,m) :: mkSched ops ms n (L.setIfInBounds i true)
    | none => []
def pendOf : List (Nat × Md) → List Nat
  | [] => []
  | (i, .alc) :: l => i :: pendOf l
  | _ :: l => pendOf l
def loadsOf (ops : Array Oper) : List (Nat × Md) → List Nat
  | [] => []
  | (i, .take) :: l => match ((ops[i]?).map (·.op) : Option Op) with
    | some (.load _ _) => i :: loadsOf ops l
    | _ => loadsOf ops l
  | _ :: l => loadsOf ops l
def needOf (ops : Array Oper) (loads : List Nat) (j : Nat) : Bool :=
  match ops[j]? with
  | some o => !(loads.all fun i => o.after.any fun e => Region.binds .any e && e.on == i)
  | none => true
def setAll (L : Array Bool) (E : List Nat) : Array Bool := E.foldl (fun l i => l.setIfInBounds i true) L
def zeroOk (P : Program) (o : Oper) : Bool := match o.op with | .alloc e => (zeroT P e).isSome | _ => false
def chk (P : Program) (ops : Array Oper) : List (Nat × Md) → Array Bool → Bool
  | [],L => (Region.ready .any ops L).isEmpty
  | (i, m) :: rest, L =>
    match ops[i]? with
    | none => false
    | some oi =>
      let pend := pendOf rest
      (Region.ready .any ops L).contains i && !pend.contains i &&
      (pend.all fun p => match ops[p]? with | some op => oi.apart ops op && isAlcK op && zeroOk P op | none => false) &&
      (match m with
        | .take => Region.free .any ops L i && (isPureK oi.op || (match oi.op with | .load _ _ => true | _ => false))
        | .eff => (Region.ready .any ops (setAll L pend)).all fun k => k == i
        | .alc => isAlcK oi && zeroOk P oi && (Region.ready .any ops (setAll L pend)).all fun k => k == i) &&
      chk P ops rest (L.setIfInBounds i true)
theorem getD_set' (L : Array Bool) (i j : Nat) (d : Bool) : (L.setIfInBounds i true).getD j d = if i = j ∧ j < L.size then true else L.getD j d := by
  simp only [Array.getD_eq_getD_getElem?]
  by_cases h : i = j
  · subst h
    by_cases hs : i < L.size
    · simp [hs]
    · simp [hs,Array.getElem?_eq_none (Nat.le_of_not_lt hs)]
  · rw [Array.getElem?_setIfInBounds_ne h]; simp [h]
theorem setAll_getD : ∀ (E : List Nat) (L : Array Bool) (j : Nat) (d : Bool), (setAll L E).getD j d = if j ∈ E ∧ j < L.size then true else L.getD j d
  | [],L,j,d => by simp [setAll]
  | i :: E, L, j, d => by
    have : setAll L (i :: E) = setAll (L.setIfInBounds i true) E := rfl
    rw [this,setAll_getD E,getD_set']
    simp only [Array.size_setIfInBounds,List.mem_cons]
    by_cases h1 : j ∈ E ∧ j < L.size
    · simp [h1]
    · by_cases h2 : i = j ∧ j < L.size
      · rw [if_neg h1,if_pos h2,if_pos ⟨.inl h2.1.symm,h2.2⟩]
      · rw [if_neg h1, if_neg h2, if_neg]
        rintro ⟨h3 | h3,h4⟩
        · exact h2 ⟨h3.symm,h4⟩
        · exact h1 ⟨h3,h4⟩
end Go.Proofs.Ytafemlljemhkhaa.Sx
namespace Go.Proofs.Ytafemlljemhkhaa.Sx
open Go
set_option linter.unusedSectionVars false
set_option linter.unusedVariables false
set_option linter.unusedSimpArgs false
variable [Env]
section
variable {A : Type} [AbsK A]
def takeOp (P : Program) (R : Prot) (op : Op) (l : List SV) (h0 : Heap A) : Tree SV :=
  match pureOp P op l with
  | some t => t
  | none => match readG P op l h0 with
    | some t => if R.names (growNm op l) then t.bind fun r => .leaf r.1 else .fail 145
    | none => match op with
    | .load t a => if covered P t (ev l a) R && (aggT P t != some false || sizeT P t == some 1) then loadS P t (ev l a) h0 else .fail 140
    | _ => .fail 141
def keptM (h0 h : Heap A) : Prot → Bool
  | [] => true
  | (n, _) :: R => (match look h0 n with
    | some (.mach k L) => (match look h n with
      | some (.mach k' L') => Nat.beq k k' && IE.beq L L'
      | _ => false)
    | _ => true) && keptM h0 h R
theorem keptM_spec {h0 h : Heap A} : ∀ {R : Prot}, keptM h0 h R = true → ∀ n k L, R.names n = true → look h0 n = some (.mach k L) → look h n = some (.mach k L)
  | [],_,n,k,L,hn,_ => by cases hn
  | (m, q) :: R, hk, n, k, L, hn, hl => by
    simp only [keptM,Bool.and_eq_true] at hk
    simp only [Prot.names,List.any_cons,Bool.or_eq_true,beq_iff_eq] at hn
    rcases hn with e | hn
    · have e' : m = n := e
      subst e'
      have h1 := hk.1
      rw [hl] at h1
      simp only at h1
      split at h1
      · rename_i k' L' hl'
        simp only [Bool.and_eq_true] at h1
        rw [hl', ← Nat.eq_of_beq_eq_true h1.1, ← IE.beq_eq h1.2]
      · cases h1
    · exact keptM_spec hk.2 n k L hn hl
def runSched (P : Program) (c : CallF A) (x : Extra A) (prot R : Prot) (ops : Array Oper) (base : Nat) (loads : List Nat) (h0 : Heap A) : List (Nat × Md) → List SV → Heap A → Tree (List SV × Heap A)
  | [],l,h => .leaf (l,h)
  | (i, m) :: rest, l, h =>
    match ops[i]? with
    | none => .fail 142
    | some o =>
      match m with
      | .take => guarded ops o l (fun l => (takeOp P R o.op l h0).bind fun s => runSched P c x prot R ops base loads h0 rest (setS l o.dst s) h)
          (fun l => runSched P c x prot R ops base loads h0 rest (setS l o.dst undefS) h)
      | .eff => guarded ops o l (fun l => (doOp P c x (if needOf ops loads i then R ++ prot else prot) o.op l h (nmOf base i)).bind fun r => if keptM h0 r.2 R = true then runSched P c x prot R ops base loads h0 rest (setS l o.dst r.1) r.2 else .fail 146)
          (fun l => runSched P c x prot R ops base loads h0 rest (setS l o.dst undefS) h)
      | .alc => match o.op with
        | .alloc e => (allocS P e h (nmOf base i)).bind fun r => runSched P c x prot R ops base loads h0 rest (setS l o.dst r.1) r.2
        | _ => .fail 143
theorem HeapOk.adopt {ρ : Rho} {F : Nat → Nat → Prop} {h : Heap A} {w : World} (H : HeapOk ρ F h w) {n b e : Nat} {cs : List SC} {vs : Array Value} (hn : look h n = none) (hni : Hi n) (hb : w.heap[b]? = some (.cells vs e (0, 0)))
    (hc : All2 (SC.is ρ) cs vs.toList) (hF : ∀ m,(ρ m).isSome → ¬ F m b) : HeapOk (upd ρ n (some (.blk b))) (upd F n (fun x => x = b)) ((n, .cells e cs 0) :: h) w := by
  have hρn : ρ n = none := by
    have := H.dom n; rw [hn] at this
    cases hr : ρ n with
    | none => rfl
    | some r => rw [hr] at this; simp at this
  have hext : Rho.Ext ρ (upd ρ n (some (.blk b))) := fun m r hm => by
    rw [upd_ne _ _ _ _ (fun e => by subst e; rw [hρn] at hm; cases hm)]; exact hm
  have hbound : ∀ m,(upd ρ n (some (.blk b)) m).isSome → m ≠ n → (ρ m).isSome := fun m hm e => by rwa [upd_ne _ _ _ _ e] at hm
  refine ⟨?_, ?_, ?_, ?_, ?_⟩
  · intro m
    by_cases e : m = n
    · subst e; rw [upd_same]; simp [look]
    · have : (n == m) = false := by simpa using Ne.symm e
      rw [upd_ne _ _ _ _ e]; simp only [look,this,cond_false]; exact H.dom m
  · intro m o' r hm hr
    by_cases emn : m = n
    · subst emn
      rw [upd_same] at hr ⊢
      obtain rfl := Option.some.inj hr
      have hm' : SO.cells e cs 0 = o' := by simpa [look] using hm
      subst hm'
      exact ⟨b,vs,rfl,hb,⟨vs.toList, [],(List.append_nil _).symm,rfl,hc.mono (SC.is_mono hext)⟩,fun x => Iff.rfl⟩
    · have hne : (n == m) = false := by simpa using Ne.symm emn
      rw [upd_ne _ _ _ _ emn] at hr ⊢
      simp only [look,hne,cond_false] at hm
      exact SO.ok_frame hext (H.obj m o' r hm hr) (Nat.le_refl _) fun x hx => rfl
  · intro m m' x hne hm hm' hwr hx hx'
    by_cases e : m = n
    · subst e
      rw [upd_same] at hx
      rw [upd_ne _ _ _ _ (Ne.symm hne)] at hx'
      subst hx
      exact hF m' (hbound m' hm' (Ne.symm hne)) hx'
    · rw [upd_ne _ _ _ _ e] at hx
      have h1 := hbound m hm e
      by_cases e' : m' = n
      · subst e'
        rw [upd_same] at hx'
        subst hx'
        exact hF m h1 hx
      · rw [upd_ne _ _ _ _ e'] at hx'
        exact H.disj m m' x hne h1 (hbound m' hm' e') hwr hx hx'
  · intro m o' hm hw
    by_cases e : m = n
    · exact e ▸ hni
    · have hne : (n == m) = false := by simpa using Ne.symm e
      simp only [look,hne,cond_false] at hm
      exact H.low m o' hm hw
  · intro m x hm hx
    by_cases e : m = n
    · subst e; rw [upd_same] at hx; subst hx; exact (Array.getElem?_eq_some_iff.1 hb).1
    · rw [upd_ne _ _ _ _ e] at hx
      exact H.size m x (hbound m hm e) hx
omit [AbsK A] in
theorem Goes.adopt {prot : Nat → Nat → Prop} {ρ0 ρ : Rho} {F0 F : Nat → Nat → Prop} {w0 w : World} (G : Goes prot ρ0 F0 w0 ρ F w) {n b : Nat} (hn : ρ n = none) (hni : Hi n) (hb : w0.heap.size ≤ b) :
    Goes prot ρ0 F0 w0 (upd ρ n (some (.blk b))) (upd F n (fun x => x = b)) w where
  ext := fun m r hm => by
    have h1 := G.ext m r hm
    rw [upd_ne _ _ _ _ (fun e => by subst e; rw [hn] at h1; cases h1)]; exact h1
  os := G.os
  tape := G.tape
  output := G.output
  size := G.size
  keep := G.keep
  foot := fun m x hm hx => by
    by_cases e : m = n
    · subst e; rw [upd_same] at hx; subst hx; exact .inl hb
    · rw [upd_ne _ _ _ _ e] at hm hx; exact G.foot m x hm hx
  old := fun m hm hs => by
    have e : m ≠ n := fun e => hm (e ▸ hni)
    rw [upd_ne _ _ _ _ e]; exact G.old m hm hs
  prot := G.prot
theorem HeapOk.pushed {ρ : Rho} {F : Nat → Nat → Prop} {h : Heap A} {w : World} (H : HeapOk ρ F h w) (obj : Obj) : HeapOk ρ F h { w with heap := w.heap.push obj } :=
  ⟨H.dom, fun m o r hm hr => SO.ok_frame (Rho.Ext.refl ρ) (H.obj m o r hm hr) (by simp) fun x hx => by
      show (w.heap.push obj)[x]? = _
      rw [Array.getElem?_push,if_neg]; have := H.size m x (by simp [hr]) hx; omega,
    H.disj,H.low,fun m x hm hx => by have := H.size m x hm hx; show x < (w.heap.push obj).size; rw [Array.size_push]; omega⟩
theorem Goes.pushed {prot : Nat → Nat → Prop} {ρ : Rho} {F : Nat → Nat → Prop} {h : Heap A} {w : World} (H : HeapOk ρ F h w) (obj : Obj) : Goes prot ρ F w ρ F { w with heap := w.heap.push obj } where
  ext := Rho.Ext.refl ρ
  os := rfl
  tape := rfl
  output := rfl
  size := by simp
  keep := fun x hx _ => by show (w.heap.push obj)[x]? = _; rw [Array.getElem?_push,if_neg (by omega)]
  foot := fun n x hn hx => .inr ⟨n,hn,hx,id⟩
  old := fun _ _ _ => rfl
  prot := fun m k _ b hb => cell_congr (by show (w.heap.push obj)[b]? = _; rw [Array.getElem?_push,if_neg]; have := H.size m b (by simp [hb]) (H.self hb); omega) k
structure EarlyAt (P : Program) (ops : Array Oper) (ρ : Rho) (F : Nat → Nat → Prop) (w0 : World) (a : Act) (w : World) (p b : Nat) : Prop where
  op : ∃ o d e zv cs, ops[p]? = some o ∧ o.op = .alloc e ∧ o.dst = some d ∧ zeroT P e = some cs ∧ Gives P (zeroValue e) zv ∧ (∀ ρ, All2 (SC.is ρ) cs zv.cells.toList) ∧
    a.tmps[d]? = some (.pointer (some ⟨b,0,none⟩)) ∧ w.heap[b]? = some (.cells zv.cells e (0,0))
  lo : w0.heap.size ≤ b
  hi : b < w.heap.size
  out : ∀ n,(ρ n).isSome → ¬ F n b
def dstsOf (ops : Array Oper) (E : List Nat) : List Nat := E.filterMap fun p => (ops[p]?).bind (·.dst)
structure Rel (P : Program) (ops : Array Oper) (prot : Prot) (S : World → Prop) (loads : List Nat) (ρ0 : Rho) (F0 : Nat → Nat → Prop) (w0 : World) (L : Array Bool) (E : List Nat) (be : Nat → Nat)
    (ρ : Rho) (F : Nat → Nat → Prop) (l : List SV) (h : Heap A) (a : Act) (w : World) : Prop where
  T : TmpsOk ρ (dstsOf ops E) l a
  H : HeapOk ρ F h w
  G : Goes prot.pr ρ0 F0 w0 ρ F w
  S : (∃ i ∈ loads,L.getD i true = false) → S w
  Ea : ∀ p ∈ E,EarlyAt P ops ρ F w0 a w p (be p)
  inj : ∀ p ∈ E, ∀ q ∈ E,p ≠ q → be p ≠ be q
  dis : ∀ p ∈ E, ∀ q ∈ E,p ≠ q → ∀ op oq,ops[p]? = some op → ops[q]? = some oq → op.dst ≠ oq.dst ∨ op.dst = none
theorem mem_dstsOf {ops : Array Oper} {E : List Nat} {d : Nat} : d ∈ dstsOf ops E ↔ ∃ p ∈ E, ∃ o, ops[p]? = some o ∧ o.dst = some d := by
  unfold dstsOf
  rw [List.mem_filterMap]
  constructor
  · rintro ⟨p, hp, h⟩
    cases ho : ops[p]? with
    | none => rw [ho] at h; simp at h
    | some o => rw [ho] at h; exact ⟨p,hp,o,ho,by simpa using h⟩
  · rintro ⟨p, hp, o, ho, hd⟩
    exact ⟨p,hp,by rw [ho]; simpa using hd⟩
theorem EarlyAt.step {P : Program} {ops : Array Oper} {ρ ρ' : Rho} {F F' : Nat → Nat → Prop} {w0 w w' : World} {a a' : Act} {p b : Nat} {pr : Nat → Nat → Prop} (h : EarlyAt P ops ρ F w0 a w p b) (G : Goes pr ρ F w ρ' F' w')
    (ht : ∀ o d,ops[p]? = some o → o.dst = some d → a'.tmps[d]? = a.tmps[d]?) : EarlyAt P ops ρ' F' w0 a' w' p b := by
  obtain ⟨⟨o,d,e,zv,cs,h1,h2,h3,h4,h5,h6,h7,h8⟩,hlo,hhi,hout⟩ := h
  refine ⟨⟨o,d,e,zv,cs,h1,h2,h3,h4,h5,h6,by rw [ht o d h1 h3]; exact h7,by rw [G.keep b hhi fun n _ => hout n]; exact h8⟩,hlo,Nat.lt_of_lt_of_le hhi G.size,fun n hn hf => ?_⟩
  rcases G.foot n b hn hf with h | ⟨m,hm,hf,_⟩
  · omega
  · exact hout m hm hf
theorem put_other {a : Act} {dst : Option Tmp} {v : Value} {d : Nat} (h : dst ≠ some d) : (a.put dst v).tmps[d]? = a.tmps[d]? := by
  cases dst with
  | none => rfl
  | some e =>
    have hne : e ≠ d := fun he => h (by rw [he])
    simp [Act.put,Array.getElem?_setIfInBounds_ne hne]
theorem isAlcK_spec {o : Oper} (h : isAlcK o = true) : ∃ e d, o.op = .alloc e ∧ o.guard = none ∧ o.dst = some d := by
  unfold isAlcK at h
  split at h
  · rename_i e h1 h2
    obtain ⟨d,hd⟩ := Option.isSome_iff_exists.1 h
    exact ⟨e,d,h1,h2,hd⟩
  · cases h
theorem zeroOk_spec {P : Program} {o : Oper} {e : TypeId} (h : zeroOk P o = true) (he : o.op = .alloc e) : ∃ cs, zeroT P e = some cs := by
  unfold zeroOk at h
  rw [he] at h
  exact Option.isSome_iff_exists.1 h
theorem zero_any {P : Program} {e : TypeId} {cs : List SC} (h : zeroT P e = some cs) : ∃ v, Gives P (zeroValue e) v ∧ ∀ ρ, All2 (SC.is ρ) cs v.cells.toList := by
  unfold zeroT at h
  split at h
  · rename_i i hi
    split at h
    · rename_i v hv
      exact ⟨v,fun w => by simp [zeroValue,typeInfo,hi,hv],fun ρ => litSCs_is h⟩
    · cases h
  · cases h
theorem Rel.early {P : Program} {ops : Array Oper} {prot : Prot} {S : World → Prop} {loads : List Nat} {ρ0 : Rho} {F0 : Nat → Nat → Prop} {w0 : World} {L : Array Bool} {E : List Nat} {be : Nat → Nat}
    {ρ : Rho} {F : Nat → Nat → Prop} {l : List SV} {h : Heap A} {a : Act} {w : World} (r : Rel P ops prot S loads ρ0 F0 w0 L E be ρ F l h a w) (hSp : ∀ w obj,w0.heap.size ≤ w.heap.size → S w → S { w with heap := w.heap.push obj })
    {p : Nat} {o : Oper} (ho : ops[p]? = some o) (hp : p ∉ E) (hk : isAlcK o = true) (hz : zeroOk P o = true) (hds : ∀ q ∈ E, ∀ oq,ops[q]? = some oq → o.dst ≠ oq.dst) (hsz : ∀ d,o.dst = some d → d < l.length)
    {K : Act → World → Prop} {Q : Exit → Act → World → Prop}
    (hK : ∀ a' w',(S w → S w') → Rel P ops prot S loads ρ0 F0 w0 L (p :: E) (upd be p w.heap.size) ρ F l h a' w' → K a' w') : wpOp P ops Q p K a w := by
  obtain ⟨e,d,h1,h2,h3⟩ := isAlcK_spec hk
  obtain ⟨cs,h4⟩ := zeroOk_spec hz h1
  obtain ⟨zv,h5,h6⟩ := zero_any h4
  have hrun : (execOp a.eval o).run P w = .ok (.value (.pointer (some ⟨w.heap.size, 0, none⟩))) { w with heap := w.heap.push (.cells zv.cells e (0, 0)) } := by
    obtain ⟨dst,op,type,pos,after,guard⟩ := o
    simp only at h1 h2 h3
    subst h1
    simp [execOp,Instr.alloc,h5 w,newVar,newRow]
  unfold wpOp
  simp only [ho]
  rw [if_pos (by simp [Region.wanted,h2])]
  refine .inl (wp_of_value hrun (hK _ _ ?_ ?_))
  · exact hSp w _ r.G.size
  · have Gp := Goes.pushed (prot := prot.pr) r.H (.cells zv.cells e (0, 0))
    rw [h3]
    have hd : d < a.tmps.size := by rw [r.T.size]; exact hsz d h3
    refine ⟨?_,r.H.pushed _,r.G.trans Gp, ?_, ?_, ?_, ?_⟩
    · refine ⟨by simp [Act.put, r.T.size], fun i s hi hl => ?_, r.T.defers⟩
      have hi' : i ∉ dstsOf ops E := fun hc => hi (by
        rw [mem_dstsOf] at hc ⊢
        obtain ⟨q,hq,x⟩ := hc
        exact ⟨q,List.mem_cons_of_mem _ hq,x⟩)
      have hne : d ≠ i := fun he => hi (by rw [mem_dstsOf]; exact ⟨p,List.mem_cons_self ..,o,ho,by rw [← he]; exact h3⟩)
      obtain ⟨v,hv,hs⟩ := r.T.at_ i s hi' hl
      exact ⟨v,by rw [put_other (fun he => hne (Option.some.inj he))]; exact hv,hs⟩
    · intro hex
      exact hSp w _ r.G.size (r.S hex)
    · intro q hq
      rcases List.mem_cons.1 hq with rfl | hq
      · rw [upd_same]
        refine ⟨⟨o,d,e,zv,cs,ho,h1,h3,h4,h5,h6, ?_,by simp⟩,r.G.size,by simp,fun n hn hf => ?_⟩
        · simp [Act.put,hd]
        · have := r.H.size n _ hn hf; omega
      · have hqp : q ≠ p := fun e => hp (e ▸ hq)
        rw [upd_ne _ _ _ _ hqp]
        refine (r.Ea q hq).step Gp fun oq dq hoq hdq => put_other ?_
        have := hds q hq oq hoq
        rw [h3,hdq] at this
        exact this
    · intro q hq q' hq' hne
      rcases List.mem_cons.1 hq with rfl | hq1
      · rcases List.mem_cons.1 hq' with rfl | hq1'
        · exact absurd rfl hne
        · have hqp : q' ≠ q := fun e => hne e.symm
          rw [upd_same,upd_ne _ _ _ _ hqp]
          have := (r.Ea q' hq1').hi; omega
      · have hqp : q ≠ p := fun e => hp (e ▸ hq1)
        rcases List.mem_cons.1 hq' with rfl | hq1'
        · rw [upd_same, upd_ne _ _ _ _ hqp]
          have := (r.Ea q hq1).hi; omega
        · have hqp' : q' ≠ p := fun e => hp (e ▸ hq1')
          rw [upd_ne _ _ _ _ hqp,upd_ne _ _ _ _ hqp']
          exact r.inj q hq1 q' hq1' hne
    · intro q hq q' hq' hne oq oq' hoq hoq'
      rcases List.mem_cons.1 hq with rfl | hq1
      · rcases List.mem_cons.1 hq' with rfl | hq1'
        · exact absurd rfl hne
        · rw [ho] at hoq; cases hoq
          exact .inl (hds q' hq1' oq' hoq')
      · rcases List.mem_cons.1 hq' with rfl | hq1'
        · rw [ho] at hoq'; cases hoq'
          exact .inl (fun e => hds q hq1 oq hoq e.symm)
        · exact r.dis q hq1 q' hq1' hne oq oq' hoq hoq'
end
end Go.Proofs.Ytafemlljemhkhaa.Sx
namespace Go.Proofs.Ytafemlljemhkhaa.Sx
open Go
set_option linter.unusedSectionVars false
set_option linter.unusedVariables false
set_option linter.unusedSimpArgs false
variable [Env]
def isLoadOp (o : Option Oper) : Bool := match o with | some o => (match o.op with | .load _ _ => true | _ => false) | none => false
structure Chk (P : Program) (ops : Array Oper) (i : Nat) (m : Md) (rest : List (Nat × Md)) (L : Array Bool) (oi : Oper) : Prop where
  ready : i ∈ Region.ready .any ops L
  pend : i ∉ pendOf rest
  apart : ∀ p ∈ pendOf rest, ∃ op,ops[p]? = some op ∧ oi.apart ops op = true ∧ isAlcK op = true ∧ zeroOk P op = true
  take : m = .take → Region.free .any ops L i = true ∧ (isPureK oi.op = true ∨ isLoadOp (some oi) = true)
  eff : m = .eff → ∀ k ∈ Region.ready .any ops (setAll L (pendOf rest)),k = i
  alc : m = .alc → isAlcK oi = true ∧ zeroOk P oi = true ∧ ∀ k ∈ Region.ready .any ops (setAll L (pendOf rest)),k = i
  rest : chk P ops rest (L.setIfInBounds i true) = true
theorem chk_cons {P : Program} {ops : Array Oper} {i : Nat} {m : Md} {rest : List (Nat × Md)} {L : Array Bool} (h : chk P ops ((i, m) :: rest) L = true) : ∃ oi, ops[i]? = some oi ∧ Chk P ops i m rest L oi := by
  unfold chk at h
  split at h
  · cases h
  · rename_i oi ho
    simp only [Bool.and_eq_true,Bool.not_eq_true'] at h
    obtain ⟨⟨⟨⟨h1,h2⟩,h3⟩,h4⟩,h5⟩ := h
    refine ⟨oi,ho,by simpa using h1,by simpa using h2,fun p hp => ?_,fun hm => ?_,fun hm => ?_,fun hm => ?_,h5⟩
    · have := List.all_eq_true.1 h3 p hp
      split at this
      · rename_i op hop
        simp only [Bool.and_eq_true] at this
        exact ⟨op,hop,this.1.1,this.1.2,this.2⟩
      · cases this
    · subst hm
      simp only [Bool.and_eq_true,Bool.or_eq_true] at h4
      exact h4
    · subst hm
      intro k hk
      have := List.all_eq_true.1 h4 k hk
      simpa using this
    · subst hm
      simp only [Bool.and_eq_true] at h4
      exact ⟨h4.1.1,h4.1.2,fun k hk => by have := List.all_eq_true.1 h4.2 k hk; simpa using this⟩
theorem pend_apart {P : Program} {ops : Array Oper} : ∀ {sch : List (Nat × Md)} {L : Array Bool}, chk P ops sch L = true → ∀ p ∈ pendOf sch, ∀ q ∈ pendOf sch, p ≠ q → ∀ op oq, ops[p]? = some op → ops[q]? = some oq → op.dst ≠ oq.dst
  | [],_,_,p,hp,_,_,_,_,_,_,_ => by simp [pendOf] at hp
  | (i, m) :: rest, L, h, p, hp, q, hq, hne, op, oq, hop, hoq => by
    obtain ⟨oi,ho,C⟩ := chk_cons h
    have ih := pend_apart C.rest
    have hpp : ∀ k, k ∈ pendOf ((i, m) :: rest) → (k = i ∧ m = .alc) ∨ k ∈ pendOf rest := by
      intro k hk
      cases m <;> simp only [pendOf] at hk
      · exact .inr hk
      · exact .inr hk
      · rcases List.mem_cons.1 hk with h | h
        · exact .inl ⟨h,rfl⟩
        · exact .inr h
    have key : ∀ q ∈ pendOf rest, ∀ oq, ops[q]? = some oq → ∀ d, oi.dst = some d → oq.dst ≠ some d := by
      intro q hq oq hoq d hd
      obtain ⟨o',h1,h2,_⟩ := C.apart q hq
      rw [hoq] at h1; cases h1
      exact (Oper.apart_spec h2).2.1 d hd
    rcases hpp p hp with ⟨rfl,hm⟩ | hp'
    · rcases hpp q hq with ⟨rfl, _⟩ | hq'
      · exact absurd rfl hne
      · rw [ho] at hop; cases hop
        obtain ⟨e,d,_,_,hd⟩ := isAlcK_spec (C.alc hm).1
        rw [hd]; exact fun e => key q hq' oq hoq d hd e.symm
    · rcases hpp q hq with ⟨rfl, hm⟩ | hq'
      · rw [ho] at hoq; cases hoq
        obtain ⟨e,d,_,_,hd⟩ := isAlcK_spec (C.alc hm).1
        rw [hd]; exact key p hp' op hop d hd
      · exact ih p hp' q hq' hne op oq hop hoq
theorem ready_listed {ops : Array Oper} {L listed : Array Bool} {E : List Nat} (hl : ∀ j d, listed.getD j d = if j ∈ E ∧ j < L.size then true else L.getD j d) {i : Nat} (h : i ∈ Region.ready .any ops L) (hi : i ∉ E) : i ∈ Region.ready .any ops listed := by
  rw [mem_ready] at h ⊢
  obtain ⟨h1,o,ho,h2⟩ := h
  refine ⟨by rw [hl,if_neg (fun h => hi h.1)]; exact h1,o,ho,fun e he hb => ?_⟩
  rw [hl]
  split
  · rfl
  · exact h2 e he hb
theorem ready_sub {ops : Array Oper} {L listed : Array Bool} {E A : List Nat} (hl : ∀ j d, listed.getD j d = if j ∈ E ∧ j < L.size then true else L.getD j d) (hE : ∀ p ∈ E, p ∈ A) {k : Nat} (h : k ∈ Region.ready .any ops listed) (hk : k ∉ A) :
    k ∈ Region.ready .any ops (setAll L A) := by
  rw [mem_ready] at h ⊢
  obtain ⟨h1,o,ho,h2⟩ := h
  rw [hl] at h1
  refine ⟨?_,o,ho,fun e he hb => ?_⟩
  · rw [setAll_getD, if_neg (fun h => hk h.1)]
    split at h1
    · cases h1
    · exact h1
  · have := h2 e he hb
    rw [hl] at this
    rw [setAll_getD]
    split at this
    · rename_i hx; rw [if_pos ⟨hE _ hx.1,hx.2⟩]
    · split
      · rfl
      · exact this
theorem ready_not {ops : Array Oper} {L listed : Array Bool} {E : List Nat} (hsz : L.size = ops.size) (hl : ∀ j d, listed.getD j d = if j ∈ E ∧ j < L.size then true else L.getD j d) {k : Nat} (h : k ∈ Region.ready .any ops listed) : k ∉ E := by
  intro hk
  rw [mem_ready] at h
  obtain ⟨h1,o,ho,_⟩ := h
  have hlt : k < L.size := by rw [hsz]; exact (Array.getElem?_eq_some_iff.1 ho).1
  rw [hl,if_pos ⟨hk,hlt⟩] at h1
  cases h1
theorem listed_set {L listed : Array Bool} {E : List Nat} (hs : listed.size = L.size) (hl : ∀ j d, listed.getD j d = if j ∈ E ∧ j < L.size then true else L.getD j d) (i : Nat) (hi : i ∉ E) :
    ∀ j d,(listed.setIfInBounds i true).getD j d = if j ∈ E ∧ j < (L.setIfInBounds i true).size then true else (L.setIfInBounds i true).getD j d := by
  intro j d
  rw [getD_set',getD_set',hl,hs,Array.size_setIfInBounds]
  by_cases h1 : i = j ∧ j < L.size
  · rw [if_pos h1,if_neg (fun h => hi (h1.1 ▸ h.1)),if_pos h1]
  · rw [if_neg h1,if_neg h1]
theorem listed_early {L listed : Array Bool} {E : List Nat} (hs : listed.size = L.size) (hl : ∀ j d, listed.getD j d = if j ∈ E ∧ j < L.size then true else L.getD j d) (k : Nat) :
    ∀ j d,(listed.setIfInBounds k true).getD j d = if j ∈ k :: E ∧ j < L.size then true else L.getD j d := by
  intro j d
  rw [getD_set',hl,hs]
  by_cases h1 : k = j ∧ j < L.size
  · rw [if_pos h1,if_pos ⟨by rw [h1.1]; exact List.mem_cons_self ..,h1.2⟩]
  · rw [if_neg h1]
    by_cases h2 : j ∈ E ∧ j < L.size
    · rw [if_pos h2,if_pos ⟨List.mem_cons_of_mem _ h2.1,h2.2⟩]
    · rw [if_neg h2, if_neg]
      rintro ⟨h3,h4⟩
      rcases List.mem_cons.1 h3 with h5 | h5
      · exact h1 ⟨h5.symm,h4⟩
      · exact h2 ⟨h5,h4⟩
theorem unlisted_set {L : Array Bool} {i j : Nat} (h : (L.setIfInBounds i true).getD j true = false) : L.getD j true = false := by
  rw [getD_set'] at h
  split at h
  · cases h
  · exact h
section
variable {A : Type} [AbsK A]
theorem SV.is_under {ρ0 ρ : Rho} (hext : Rho.Ext ρ0 ρ) {F0 : Nat → Nat → Prop} {h0 : Heap A} {w0 : World} (H0 : HeapOk ρ0 F0 h0 w0) {P : Program} {t : TypeId} {x : SV} {v : Value} (hx : x.is ρ v) {K : SV → Prop}
    (hK : (loadS P t x h0).holds K) : x.is ρ0 v := by
  unfold loadS at hK
  split at hK
  · rename_i n off
    obtain ⟨b,hb,hv⟩ := hx
    have key : ∀ o, look h0 n = some o → ρ0 n = some (.blk b) := fun o ho => by
      obtain ⟨r,hr⟩ := H0.rho_some ho
      have := hext n r hr
      rw [hb] at this
      rw [hr,Option.some.inj this]
    split at hK
    · rename_i o h1 _; exact ⟨b,key o h1,hv⟩
    · rename_i o _ h1 _ _; exact ⟨b,key o h1,hv⟩
    · exact hK.elim
  · exact hK.elim
theorem drawn_ok {P : Program} {c : CallF A} {x : Extra A} (hc : CallOk P c) (hx : ExtraOk P x) {prot R : Prot} {ops : Array Oper} {base : Nat} {loads : List Nat} {h0 : Heap A} {ρ0 : Rho} {F0 : Nat → Nat → Prop} {w0 : World}
    (H0 : HeapOk ρ0 F0 h0 w0) (hns : Region.noSelect ops = true) {Q : Exit → Act → World → Prop} (hQp : ∀ ch a w, ¬ Q (.panic ch) a w) {N : Nat} (hN : ∀ (p : Nat) (o : Oper) (d : Nat),ops[p]? = some o → o.dst = some d → d < N)
    {S : World → Prop} (hS : S = fun w => (∀ n k,R.pr n k → ∀ b, ρ0 n = some (.blk b) → w.cell? ⟨b,k,none⟩ = w0.cell? ⟨b,k,none⟩) ∧ GrowsOk (fun n => R.names n = true) ρ0 h0 w) :
    ∀ (sch : List (Nat × Md)) (L : Array Bool) (l : List SV) (h : Heap A), chk P ops sch L = true → L.size = ops.size → l.length = N →
      (∀ i,(i,Md.take) ∈ sch → isLoadOp ops[i]? = true → i ∈ loads) →
      (runSched P c x prot R ops base loads h0 sch l h).holds (fun r => ∀ ρ' F' a' w',TmpsOk ρ' [] r.1 a' → HeapOk ρ' F' r.2 w' → Goes prot.pr ρ0 F0 w0 ρ' F' w' → Q .normal a' w') →
      ∀ (E : List Nat) (be : Nat → Nat) (ρ : Rho) (F : Nat → Nat → Prop) (a : Act) (w : World) (fuel : Nat) (listed : Array Bool), Rel P ops prot S loads ρ0 F0 w0 L E be ρ F l h a w →
        listed.size = L.size → (∀ j d,listed.getD j d = if j ∈ E ∧ j < L.size then true else L.getD j d) → (∀ p ∈ E,p ∈ pendOf sch) → unl listed ≤ fuel → wpAnyN P ops Q (needOf ops loads) S fuel listed a w := by
  have hRb : ∀ n b, ρ0 n = some (.blk b) → b < w0.heap.size := fun n b hb => H0.size n b (by simp [hb]) (H0.self hb)
  have hSp : ∀ w obj, w0.heap.size ≤ w.heap.size → S w → S { w with heap := w.heap.push obj } := by
    subst hS
    intro w obj hsz ⟨h1,h2⟩
    refine ⟨fun n k hn b hb => ?_,fun n k L r hp hl hr => ?_⟩
    · refine Eq.trans (cell_congr ?_ k) (h1 n k hn b hb)
      show (w.heap.push _)[b]? = _
      rw [Array.getElem?_push,if_neg]
      have := hRb n b hb; omega
    · obtain ⟨F, hm⟩ := h2 n k L r hp hl hr
      refine ⟨F,MachOk.frame hm (by show _ ≤ (w.heap.push _).size; rw [Array.size_push]; omega) fun x hx => ?_⟩
      show (w.heap.push _)[x]? = _
      rw [Array.getElem?_push,if_neg]
      have := MachOk.size hm x hx; omega
  have hsel := Region.noSelect_spec hns
  intro sch
  induction sch with
  | nil =>
    intro L l h hchk hsz hl _ hK E be ρ F a w fuel listed r hs hlist hE hfuel
    have hE0 : E = [] := by
      cases E with
      | nil => rfl
      | cons p E => exact absurd (hE p (List.mem_cons_self ..)) (by simp [pendOf])
    subst hE0
    have hrd : Region.ready .any ops listed = [] := by
      have h1 : Region.ready .any ops L = [] := by simpa [chk] using hchk
      refine List.eq_nil_iff_forall_not_mem.2 fun k hk => ?_
      have := ready_sub (A := []) hlist (fun _ h => h) hk (by simp)
      have e : setAll L [] = L := rfl
      rw [e,h1] at this
      cases this
    refine wpAnyN_done hrd (hK ρ F a w ?_ r.H r.G) fuel
    have := r.T
    simpa [dstsOf] using this
  | cons im rest ih =>
    obtain ⟨i,m⟩ := im
    intro L l h hchk hsz hl hld hK
    obtain ⟨oi,hoi,C⟩ := chk_cons hchk
    have hsz' : (L.setIfInBounds i true).size = ops.size := by simp [hsz]
    have hld' : ∀ k,(k,Md.take) ∈ rest → isLoadOp ops[k]? = true → k ∈ loads := fun k hk => hld k (List.mem_cons_of_mem _ hk)
    have hLi := (mem_ready.1 C.ready).1
    simp only [runSched,hoi] at hK
    have apartE : ∀ E : List Nat, (∀ p ∈ E, p ∈ pendOf rest) → (∀ t ∈ oi.looksAt ops, t ∉ dstsOf ops E) ∧ (∀ d, oi.dst = some d → d ∉ dstsOf ops E) ∧ (∀ x ∈ oi.op.operands, ∀ t ∈ opnds x, t ∉ dstsOf ops E) := by
      intro E hE
      have k1 : ∀ t ∈ oi.looksAt ops, t ∉ dstsOf ops E := fun t ht hc => by
        rw [mem_dstsOf] at hc
        obtain ⟨p,hp,o,ho,hd⟩ := hc
        obtain ⟨o',h1,h2,_⟩ := C.apart p (hE p hp)
        rw [ho] at h1; cases h1
        exact (Oper.apart_spec h2).2.2 t hd ht
      refine ⟨k1,fun d hd hc => ?_,fun y hy t ht => k1 t ?_⟩
      · rw [mem_dstsOf] at hc
        obtain ⟨p,hp,o,ho,hd'⟩ := hc
        obtain ⟨o',h1,h2,_⟩ := C.apart p (hE p hp)
        rw [ho] at h1; cases h1
        exact (Oper.apart_spec h2).2.1 d hd hd'
      · unfold opnds at ht
        split at ht
        · rename_i t'
          rw [List.mem_singleton] at ht; subst ht
          exact List.mem_append_left _ (List.mem_filterMap.2 ⟨.tmp t,by simpa using hy,rfl⟩)
        · simp at ht
    have relput : ∀ {E : List Nat} {be : Nat → Nat} {ρ ρ' : Rho} {F F' : Nat → Nat → Prop} {l' : List SV} {h' : Heap A} {a : Act} {w w' : World} {s : SV} {v : Value} {pr : Nat → Nat → Prop}, (∀ p ∈ E, p ∈ pendOf rest) →
        Rel P ops prot S loads ρ0 F0 w0 L E be ρ F l h a w → TmpsOk ρ (dstsOf ops E) l' a → HeapOk ρ' F' h' w' → Goes pr ρ F w ρ' F' w' → (∀ m k,prot.pr m k → pr m k) → s.is ρ' v →
        ((∃ k ∈ loads,L.getD k true = false) → S w → S w') → Rel P ops prot S loads ρ0 F0 w0 (L.setIfInBounds i true) E be ρ' F' (setS l' oi.dst s) h' (a.put oi.dst v) w' := by
      intro E be ρ ρ' F F' l' h' a w w' s v pr hE r hT H' G hpr hs hSS
      obtain ⟨k1,k2,k3⟩ := apartE E hE
      refine ⟨(hT.mono G.ext).put oi.dst hs k2,H',r.G.trans (G.sub hpr),fun hex => ?_,fun p hp => ?_,r.inj,r.dis⟩
      · obtain ⟨k, hk, hku⟩ := hex
        have hex' : ∃ k ∈ loads,L.getD k true = false := ⟨k,hk,unlisted_set hku⟩
        exact hSS hex' (r.S hex')
      · refine (r.Ea p hp).step G fun o d ho hd => put_other fun he => k2 d he ?_
        rw [mem_dstsOf]; exact ⟨p,hp,o,ho,hd⟩
    have lenput : ∀ {E : List Nat} {ρ : Rho} {l' : List SV} {a : Act} {s : SV}, TmpsOk ρ (dstsOf ops E) l a → TmpsOk ρ (dstsOf ops E) l' a → (setS l' oi.dst s).length = N := by
      intro E ρ l' a s t1 t2
      have : l'.length = N := by rw [← t2.size,t1.size,hl]
      unfold setS
      split
      · rw [List.length_set]; exact this
      · exact this
    have pick : ∀ (pend : List Nat), (∀ p ∈ pend, p ∈ pendOf ((i, m) :: rest)) → ∀ {E : List Nat} {be : Nat → Nat} {ρ : Rho} {F : Nat → Nat → Prop} {a : Act} {w : World} {k : Nat} {K : Act → World → Prop}, k ∈ pend → k ∉ E → (∀ p ∈ E, p ∈ pendOf ((i, m) :: rest)) →
        Rel P ops prot S loads ρ0 F0 w0 L E be ρ F l h a w → (∀ a' w',(S w → S w') → Rel P ops prot S loads ρ0 F0 w0 L (k :: E) (upd be k w.heap.size) ρ F l h a' w' → K a' w') → wpOp P ops Q k K a w := by
      intro pend hpend E be ρ F a w k K hk hkE hE r hKK
      have hk' := hpend k hk
      obtain ⟨ok, hok, hak, hzk⟩ : ∃ ok, ops[k]? = some ok ∧ isAlcK ok = true ∧ zeroOk P ok = true := by
        cases m with
        | take => obtain ⟨o,h1,_,h2,h3⟩ := C.apart k hk'; exact ⟨o,h1,h2,h3⟩
        | eff => obtain ⟨o,h1,_,h2,h3⟩ := C.apart k hk'; exact ⟨o,h1,h2,h3⟩
        | alc =>
          rcases List.mem_cons.1 hk' with e | e
          · subst e; exact ⟨oi,hoi,(C.alc rfl).1,(C.alc rfl).2.1⟩
          · obtain ⟨o,h1,_,h2,h3⟩ := C.apart k e; exact ⟨o,h1,h2,h3⟩
      refine r.early hSp hok hkE hak hzk (fun q hq oq hoq => pend_apart hchk k hk' q (hE q hq) (fun e => hkE (e ▸ hq)) ok oq hok hoq) (fun d hd => by rw [hl]; exact hN k ok d hok hd) hKK
    cases m with
    | take =>
      simp only at hK
      intro E be ρ F a w fuel listed r hs hlist hE hfuel
      have hE' : ∀ p ∈ E,p ∈ pendOf rest := hE
      have hiE : i ∉ E := fun hc => C.pend (hE i hc)
      have hir := ready_listed hlist C.ready hiE
      have hiu := (mem_ready.1 hir).1
      have hup := unl_set hiu
      obtain ⟨f,rfl⟩ : ∃ f,fuel = f + 1 := ⟨fuel - 1,by omega⟩
      obtain ⟨k1,k2,k3⟩ := apartE E hE'
      obtain ⟨l',hT',hw⟩ := guarded_ok r.T k1 hK
      have hfree : ∀ j oj, ops[j]? = some oj → j ≠ i → listed.getD j true = false → (∀ e ∈ oj.after, Region.binds .any e = true → e.on ≠ i) → oi.apart ops oj = true := by
        intro j oj hoj hji hun hno
        refine Region.free_spec hoi (C.take rfl).1 j oj hoj hji ?_ hno
        rw [hlist] at hun
        split at hun
        · cases hun
        · exact hun
      have hQ' : ∀ (v : Value) (ch : List PanicEntry) (a : Act) (w : World),Q (.panic ch) (a.put oi.dst v) w → Q (.panic ch) a w := fun v ch a w hq => (hQp _ _ _ hq).elim
      have next : ∀ {s : SV} {v : Value}, s.is ρ v → (runSched P c x prot R ops base loads h0 rest (setS l' oi.dst s) h).holds (fun r => ∀ ρ' F' a' w', TmpsOk ρ' [] r.1 a' → HeapOk ρ' F' r.2 w' → Goes prot.pr ρ0 F0 w0 ρ' F' w' → Q .normal a' w') →
          wpAnyN P ops Q (needOf ops loads) S f (listed.setIfInBounds i true) (a.put oi.dst v) w := by
        intro s v hsv hrun
        exact ih (L.setIfInBounds i true) _ h C.rest hsz' (lenput r.T hT') hld' hrun E be ρ F _ w f _ (relput hE' r hT' r.H (Goes.refl prot.pr ρ F w) (fun _ _ h => h) hsv (fun _ h => h)) (by simp [hs])
          (listed_set hs hlist i hiE) hE' (by omega)
      rcases hw with ⟨hw,hy⟩ | ⟨hw,hy⟩
      · rw [Tree.holds_bind] at hy
        unfold takeOp at hy
        split at hy
        · rename_i t ht
          obtain ⟨s,v,g1,g2,g3⟩ := pureOp_gives ht hT' k3 hy
          refine wpAnyN_first (S' := fun _ => True) hoi hsel (hQ' v) (fun _ _ _ _ _ _ _ _ _ => trivial) f listed a w hfree hir (.inl ⟨hw,fun w _ => g3 w⟩) trivial (next g2 g1)
        · split at hy
          · rename_i t ht
            split at hy
            · rename_i hnm
              rw [Tree.holds_bind] at hy
              have hgr : ∀ w', GrowsOk (fun n => R.names n = true) ρ0 h0 w' → GrowsOk (fun n => R.names n = true) ρ h0 w' := fun w' hw' n k L r' hp hl hr => by
                obtain ⟨r0,hr0⟩ := H0.rho_some hl
                have e := r.G.ext n r0 hr0
                rw [hr] at e
                cases e
                exact hw' n k L _ hp hl hr0
              cases hld2 : isLoadOp ops[i]? with
              | false =>
                have hnl : ∀ t y,oi.op ≠ .load t y := fun t y e => by rw [hoi] at hld2; simp [isLoadOp,e] at hld2
                obtain ⟨s,u,g1,g2,g3⟩ := readG_ok (S := fun _ => True) ht (hgr w0 (H0.grows _)) hnm (fun ⟨t,y,e⟩ => absurd e (hnl t y)) hT' k3 hy
                refine wpAnyN_first (S' := fun _ => True) hoi hsel (hQ' u) (fun _ _ _ _ _ _ _ _ _ => trivial) f listed a w hfree hir (.inl ⟨hw,fun w hw' => g3 w hw'⟩) trivial (next g2 g1)
              | true =>
                have hil : i ∈ loads := hld i (List.mem_cons_self ..) hld2
                have hSw : S w := r.S ⟨i,hil,hLi⟩
                have hS2 : ∀ w',S w' → GrowsOk (fun n => R.names n = true) ρ h0 w' := fun w' hw' => hgr w' (by subst hS; exact hw'.2)
                obtain ⟨s,u,g1,g2,g3⟩ := readG_ok (S := S) ht (hgr w0 (H0.grows _)) hnm (fun _ => hS2) hT' k3 hy
                have hyield : YieldsIf P ops S oi u a := .inl ⟨hw,fun w' hSw' => g3 w' hSw'⟩
                refine wpAnyN_first (S' := S) hoi hsel (hQ' u) ?_ f listed a w hfree hir hyield hSw (next g2 g1)
                intro listed' j w1 w2 hiu' hjr hji hneed hS1
                cases hn : needOf ops loads j with
                | true => exact hneed hn hS1
                | false =>
                  exfalso
                  rw [mem_ready] at hjr
                  obtain ⟨_,oj,hoj,hall⟩ := hjr
                  simp only [needOf,hoj,Bool.not_eq_false'] at hn
                  have := List.all_eq_true.1 hn i hil
                  obtain ⟨e,he,heb⟩ := Array.any_eq_true'.1 this
                  simp only [Bool.and_eq_true,beq_iff_eq] at heb
                  have h1 := hall e he heb.1
                  rw [heb.2] at h1
                  have hlt : i < listed'.size := by
                    rcases Nat.lt_or_ge i listed'.size with h2 | h2
                    · exact h2
                    · simp [Array.getElem?_eq_none h2] at h1
                  simp [hlt] at h1 hiu'
                  rw [h1] at hiu'; cases hiu'
            · exact hy.elim
          · split at hy
            · rename_i t y hop
              split at hy
              · rename_i hcov
                simp only [Bool.and_eq_true,Bool.or_eq_true] at hcov
                have hyv := ev_is hT' y (k3 y (by rw [hop]; simp [Op.operands]))
                have hyv0 := SV.is_under r.G.ext H0 hyv hy
                obtain ⟨s,u,g1,g2,g3,g4⟩ := loadS_ok H0 hyv0 hy
                have hil : i ∈ loads := hld i (List.mem_cons_self ..) (by rw [hoi]; simp [isLoadOp,hop])
                have hSw : S w := r.S ⟨i,hil,hLi⟩
                have hyield : YieldsIf P ops S oi u a := by
                  refine .inl ⟨hw,fun w' hSw' => ?_⟩
                  have := g4 R hcov.1 (fun ha => by rcases hcov.2 with h1 | h1; · simp [ha] at h1
                                                    · simpa using h1) w' (by subst hS; exact hSw'.1)
                  obtain ⟨dst,op,type,pos,after,guard⟩ := oi
                  simp only at hop
                  subst hop
                  simp [execOp,this]
                refine wpAnyN_first (S' := S) hoi hsel (hQ' u) ?_ f listed a w hfree hir hyield hSw (next (SV.is_mono r.G.ext s u g2) g1)
                intro listed' j w1 w2 hiu' hjr hji hneed hS1
                cases hn : needOf ops loads j with
                | true => exact hneed hn hS1
                | false =>
                  exfalso
                  rw [mem_ready] at hjr
                  obtain ⟨_,oj,hoj,hall⟩ := hjr
                  simp only [needOf,hoj,Bool.not_eq_false'] at hn
                  have := List.all_eq_true.1 hn i hil
                  obtain ⟨e,he,heb⟩ := Array.any_eq_true'.1 this
                  simp only [Bool.and_eq_true,beq_iff_eq] at heb
                  have h1 := hall e he heb.1
                  rw [heb.2] at h1
                  have hlt : i < listed'.size := by
                    rcases Nat.lt_or_ge i listed'.size with h2 | h2
                    · exact h2
                    · simp [Array.getElem?_eq_none h2] at h1
                  simp [hlt] at h1 hiu'
                  rw [h1] at hiu'; cases hiu'
              · exact hy.elim
            · exact hy.elim
      · refine wpAnyN_first (S' := fun _ => True) hoi hsel (hQ' undef) (fun _ _ _ _ _ _ _ _ _ => trivial) f listed a w hfree hir (.inr ⟨hw,rfl⟩) trivial (next (undefS_is ρ) hy)
    | eff =>
      simp only at hK
      intro E be ρ F a w fuel
      induction fuel generalizing E be ρ F a w with
      | zero =>
        intro listed r hs hlist hE hfuel
        have hiE : i ∉ E := fun hc => C.pend (hE i hc)
        have := unl_pos (mem_ready.1 (ready_listed hlist C.ready hiE)).1
        omega
      | succ f ihf =>
        intro listed r hs hlist hE hfuel
        have hE' : ∀ p ∈ E,p ∈ pendOf rest := hE
        have hiE : i ∉ E := fun hc => C.pend (hE i hc)
        have hir := ready_listed hlist C.ready hiE
        refine wpAnyN_all (fun h0 => by rw [h0] at hir; cases hir) fun k hk => ?_
        have hku := (mem_ready.1 hk).1
        have hup := unl_set hku
        by_cases hkp : k ∈ pendOf rest
        · have hkE := ready_not hsz hlist hk
          refine pick (pendOf rest) (fun p hp => hp) hkp hkE hE r fun a' w' hSS r' => ⟨fun _ => hSS, ?_⟩
          exact ihf _ _ _ _ _ _ _ r' (by simp [hs]) (listed_early hs hlist k) (fun p hp => by rcases List.mem_cons.1 hp with e | e; · subst e; exact hkp
                                                                                              · exact hE p e) (by omega)
        · have hki : k = i := (C.eff rfl) k (ready_sub hlist hE' hk hkp)
          subst hki
          obtain ⟨k1,k2,k3⟩ := apartE E hE'
          obtain ⟨l',hT',hw⟩ := guarded_ok r.T k1 hK
          unfold wpOp
          simp only [hoi]
          rcases hw with ⟨hw,hy⟩ | ⟨hw,hy⟩
          · rw [if_pos hw]
            rw [Tree.holds_bind] at hy
            refine .inl (doOp_wp hc hx r.H hT' k3 (Tree.holds_mono (fun q hq v ρ' F' w' hsv H' G => ?_) hy))
            have hkm : keptM h0 q.2 R = true := by
              cases hkm : keptM h0 q.2 R with
              | true => rfl
              | false => rw [hkm] at hq; exact hq.elim
            rw [if_pos hkm] at hq
            have hSS : needOf ops loads k = true → S w → S w' := by
              intro hn
              rw [if_pos hn] at G
              subst hS
              intro hSw
              refine ⟨?_,fun n kk L rr hp hl hr => ⟨F' n,H'.obj n _ rr (keptM_spec hkm n kk L hp hl) (G.ext _ _ (r.G.ext _ _ hr))⟩⟩
              intro n j hnj b hb
              have : (R ++ prot).pr n j := by
                have h1 : R.has n j = true := hnj
                show (R ++ prot).has n j = true
                simp only [Prot.has,List.any_append] at h1 ⊢
                rw [h1]; rfl
              rw [G.prot n j this b (r.G.ext _ _ hb)]
              exact hSw.1 n j hnj b hb
            refine ⟨hSS, ?_⟩
            have hpr : ∀ m j, prot.pr m j → (if needOf ops loads k = true then R ++ prot else prot).pr m j := by
              intro m j hm
              split
              · have h1 : prot.has m j = true := hm
                show (R ++ prot).has m j = true
                simp only [Prot.has,List.any_append] at h1 ⊢
                rw [h1]; simp
              · exact hm
            refine ih (L.setIfInBounds k true) _ q.2 C.rest hsz' (lenput r.T hT') hld' hq E be ρ' F' _ w' f _ (relput hE' r hT' H' G hpr hsv ?_) (by simp [hs]) (listed_set hs hlist k hiE) hE' (by omega)
            intro hex hSw
            cases hn : needOf ops loads k with
            | true => exact hSS hn hSw
            | false =>
              exfalso
              obtain ⟨j,hj,hju⟩ := hex
              obtain ⟨_,oj,hoj,hall⟩ := mem_ready.1 C.ready
              simp only [needOf,hoj,Bool.not_eq_false'] at hn
              have := List.all_eq_true.1 hn j hj
              obtain ⟨e,he,heb⟩ := Array.any_eq_true'.1 this
              simp only [Bool.and_eq_true,beq_iff_eq] at heb
              have h1 := hall e he heb.1
              rw [heb.2] at h1
              have hlt : j < L.size := by
                rcases Nat.lt_or_ge j L.size with h2 | h2
                · exact h2
                · simp [Array.getElem?_eq_none h2] at h1
              simp [hlt] at h1 hju
              rw [h1] at hju; cases hju
          · rw [if_neg (by simp [hw])]
            refine ⟨fun _ h => h, ?_⟩
            exact ih (L.setIfInBounds k true) _ h C.rest hsz' (lenput r.T hT') hld' hy E be ρ F _ w f _ (relput hE' r hT' r.H (Goes.refl prot.pr ρ F w) (fun _ _ h => h) (undefS_is ρ) (fun _ h => h)) (by simp [hs])
              (listed_set hs hlist k hiE) hE' (by omega)
    | alc =>
      obtain ⟨hal,hzl,hrd⟩ := C.alc rfl
      obtain ⟨e,d,he,hg,hd⟩ := isAlcK_spec hal
      simp only [he] at hK
      rw [Tree.holds_bind] at hK
      have yes : ∀ (E : List Nat) (be : Nat → Nat) (ρ : Rho) (F : Nat → Nat → Prop) (a : Act) (w : World) (fuel : Nat) (listed : Array Bool), Rel P ops prot S loads ρ0 F0 w0 L E be ρ F l h a w → i ∈ E →
          listed.size = L.size → (∀ j d,listed.getD j d = if j ∈ E ∧ j < L.size then true else L.getD j d) → (∀ p ∈ E,p ∈ i :: pendOf rest) → unl listed ≤ fuel → wpAnyN P ops Q (needOf ops loads) S fuel listed a w := by
        intro E be ρ F a w fuel listed r hiE hs hlist hE hfuel
        obtain ⟨⟨o,d',e',zv,cs,q1,q2,q3,q4,q5,q6,q7,q8⟩,qlo,qhi,qout⟩ := r.Ea i hiE
        rw [hoi] at q1; cases q1
        rw [he] at q2; cases q2
        rw [hd] at q3; cases q3
        unfold allocS at hK
        rw [q4] at hK
        split at hK
        · rename_i cs1 hcs hfn
          obtain ⟨hnone,hni⟩ := freeN_spec hfn
          obtain rfl : cs = cs1 := Option.some.inj hcs
          have hρn : ρ (nmOf base i) = none := by
            have := r.H.dom (nmOf base i); rw [hnone] at this
            cases hr : ρ (nmOf base i) with
            | none => rfl
            | some r0 => rw [hr] at this; simp at this
          have H' := r.H.adopt (cs := cs) hnone hni q8 (q6 ρ) qout
          have G' := r.G.adopt hρn hni qlo
          have hext : Rho.Ext ρ (upd ρ (nmOf base i) (some (.blk (be i)))) := fun m rr hm => by
            rw [upd_ne _ _ _ _ (fun e => by subst e; rw [hρn] at hm; cases hm)]; exact hm
          have hEsub : ∀ p ∈ E.filter (· != i), p ∈ E ∧ p ≠ i := fun p hp => by
            rw [List.mem_filter] at hp; exact ⟨hp.1,by simpa using hp.2⟩
          have hE2 : ∀ p ∈ E.filter (· != i), p ∈ pendOf rest := fun p hp => by
            obtain ⟨h1,h2⟩ := hEsub p hp
            rcases List.mem_cons.1 (hE p h1) with h3 | h3
            · exact absurd h3 h2
            · exact h3
          have hlen : (setS l (some d) (SV.w (.one (.b (.ptr (nmOf base i) (.lit 0)))))).length = N := by simp [setS,hl]
          rw [hd] at hK
          refine ih (L.setIfInBounds i true) _ _ C.rest hsz' hlen hld' hK (E.filter (· != i)) be (upd ρ (nmOf base i) (some (.blk (be i)))) (upd F (nmOf base i) (fun x => x = be i)) a w fuel listed ?_ (by simp [hs]) ?_ hE2 hfuel
          · refine ⟨⟨by rw [hlen, r.T.size, hl], fun j s hj hjs => ?_, r.T.defers⟩, H', G', fun hex => ?_, fun p hp => ?_, fun p hp q hq => r.inj p (hEsub p hp).1 q (hEsub q hq).1, fun p hp q hq => r.dis p (hEsub p hp).1 q (hEsub q hq).1⟩
            · simp only [setS] at hjs
              by_cases hdj : d = j
              · subst hdj
                have hlt : d < l.length := by
                  rcases Nat.lt_or_ge d l.length with h1 | h1
                  · exact h1
                  · rw [List.getElem?_eq_none (by simpa using h1)] at hjs; cases hjs
                rw [List.getElem?_set_self hlt] at hjs
                cases hjs
                exact ⟨_,q7,be i,upd_same _ _ _,by simp [IE.val]⟩
              · rw [List.getElem?_set_ne hdj] at hjs
                have hj' : j ∉ dstsOf ops E := fun hc => by
                  rw [mem_dstsOf] at hc
                  obtain ⟨p,hp,o',ho',hdo⟩ := hc
                  by_cases hpi : p = i
                  · subst hpi; rw [hoi] at ho'; cases ho'; rw [hd] at hdo; exact hdj (Option.some.inj hdo)
                  · refine hj ?_
                    rw [mem_dstsOf]
                    exact ⟨p,List.mem_filter.2 ⟨hp,by simpa using hpi⟩,o',ho',hdo⟩
                obtain ⟨v,hv,hsv⟩ := r.T.at_ j s hj' hjs
                exact ⟨v,hv,SV.is_mono hext s v hsv⟩
            · obtain ⟨k, hk, hku⟩ := hex
              exact r.S ⟨k,hk,unlisted_set hku⟩
            · obtain ⟨h1, h2⟩ := hEsub p hp
              obtain ⟨op,lo,hi,out⟩ := r.Ea p h1
              refine ⟨op,lo,hi,fun n hn hf => ?_⟩
              by_cases hni : n = nmOf base i
              · subst hni; rw [upd_same] at hf; exact r.inj p h1 i hiE h2 hf
              · rw [upd_ne _ _ _ _ hni] at hn hf; exact out n hn hf
          · intro j d
            rw [hlist,getD_set',Array.size_setIfInBounds]
            by_cases hji : i = j
            · subst hji
              by_cases hlt : i < L.size
              · simp [hiE,hlt]
              · rw [if_neg (fun h => hlt h.2),if_neg (fun h => hlt h.2),if_neg (fun h => hlt h.2)]
            · rw [if_neg (c := i = j ∧ j < L.size) (fun h => hji h.1)]
              by_cases hje : j ∈ E ∧ j < L.size
              · rw [if_pos hje,if_pos ⟨List.mem_filter.2 ⟨hje.1,by simpa using Ne.symm hji⟩,hje.2⟩]
              · rw [if_neg hje,if_neg (fun h => hje ⟨(List.mem_filter.1 h.1).1,h.2⟩)]
        · exact hK.elim
      intro E be ρ F a w fuel
      induction fuel generalizing E be ρ F a w with
      | zero =>
        intro listed r hs hlist hE hfuel
        by_cases hiE : i ∈ E
        · exact yes E be ρ F a w 0 listed r hiE hs hlist hE hfuel
        · have := unl_pos (mem_ready.1 (ready_listed hlist C.ready hiE)).1
          omega
      | succ f ihf =>
        intro listed r hs hlist hE hfuel
        by_cases hiE : i ∈ E
        · exact yes E be ρ F a w _ listed r hiE hs hlist hE hfuel
        · have hir := ready_listed hlist C.ready hiE
          refine wpAnyN_all (fun h0 => by rw [h0] at hir; cases hir) fun k hk => ?_
          have hku := (mem_ready.1 hk).1
          have hup := unl_set hku
          have hkp : k ∈ i :: pendOf rest := by
            apply Classical.byContradiction; intro hc
            have hE2 : ∀ p ∈ E, p ∈ pendOf rest := fun p hp => by
              rcases List.mem_cons.1 (hE p hp) with e | e
              · exact absurd (e ▸ hp) hiE
              · exact e
            have := ready_sub (A := pendOf rest) hlist hE2 hk (fun h => hc (List.mem_cons_of_mem _ h))
            exact hc (by rw [hrd k this]; exact List.mem_cons_self ..)
          have hkE := ready_not hsz hlist hk
          refine pick (i :: pendOf rest) (fun p hp => hp) hkp hkE hE r fun a' w' hSS r' => ⟨fun _ => hSS, ?_⟩
          exact ihf _ _ _ _ _ _ _ r' (by simp [hs]) (listed_early hs hlist k) (fun p hp => by rcases List.mem_cons.1 hp with e | e; · subst e; exact hkp
                                                                                              · exact hE p e) (by omega)
end
end Go.Proofs.Ytafemlljemhkhaa.Sx
