/-
  THE SYMBOLIC EXECUTOR, part L: one operation; a region in the text's order.
-/
import Derived.Test.YtafemlljemhkhaaSxK
namespace Go.Proofs.Ytafemlljemhkhaa.Sx
open Go
set_option linter.unusedSectionVars false
set_option linter.unusedVariables false
set_option linter.unusedSimpArgs false
variable [Env]

section
variable {A : Type} [AbsK A]

/-- How calls are run: the function, its arguments, what may not be written, the heap, a name for what is new. -/
abbrev CallF (A : Type) := Nat → List SV → Prot → Heap A → Nat → Tree (SV × Heap A)
/-- Operations beside those below. -/
abbrev Extra (A : Type) := Op → List SV → Prot → Heap A → Nat → Option (Tree (SV × Heap A))

/-- What a call comes to. -/
def CallsTo (P : Program) (prot : Prot) (ρ : Rho) (F : Nat → Nat → Prop) (w : World) (g : Nat) (argv : Array Value) (K : SV × Heap A → Prop) : Prop :=
  Calls P g argv w fun e w' => ∃ s h' v ρ' F', K (s, h') ∧ e = .returned v ∧ s.is ρ' v ∧ HeapOk ρ' F' h' w' ∧ Goes prot.pr ρ F w ρ' F' w'
def enters (P : Program) (g : Nat) : Prop := ∃ fn, P.funcs[g]? = some fn ∧ (fn.name == "runtime.NumGoroutine") = false ∧ fn.body.isNone = false
def CallOk (P : Program) (c : CallF A) : Prop :=
  ∀ g args prot h nm (ρ : Rho) (F : Nat → Nat → Prop) (w : World) (argv : Array Value) (K : SV × Heap A → Prop), HeapOk ρ F h w → All2 (SV.is ρ) args argv.toList → (c g args prot h nm).holds K →
    enters P g ∧ CallsTo P prot ρ F w g argv K
def ExtraOk (P : Program) (x : Extra A) : Prop :=
  ∀ (o : Oper) l prot h nm t (ρ : Rho) (but : List Nat) (F : Nat → Nat → Prop) (a : Act) (w : World) (K : SV × Heap A → Prop), x o.op l prot h nm = some t → HeapOk ρ F h w → TmpsOk ρ but l a →
    (∀ x ∈ o.op.operands, ∀ t ∈ opnds x, t ∉ but) → t.holds K →
    ∃ s h' v ρ' F' w', K (s, h') ∧ s.is ρ' v ∧ (execOp a.eval o).run P w = .ok (.value v) w' ∧ HeapOk ρ' F' h' w' ∧ Goes prot.pr ρ F w ρ' F' w'

def liftB (x : SB) : SV := .w (.one (.b x))
/-- An operation that reads or writes memory, or calls. -/
def effOp (P : Program) (c : CallF A) (x : Extra A) (prot : Prot) (op : Op) (l : List SV) (h : Heap A) (nm : Nat) : Tree (SV × Heap A) :=
  match x op l prot h nm with
  | some t => t
  | none =>
  match op with
  | .load t a => (loadS P t (ev l a) h).bind fun s => .leaf (s, h)
  | .store t a y => (storeS P prot t (ev l a) (ev l y) h).bind fun h' => .leaf (undefS, h')
  | .alloc e => allocS P e h nm
  | .box e y => boxS P e (ev l y) h nm
  | .buildSlice t n parts => buildSliceS P t n (parts.toList.map fun p => (p.1, ev l p.2)) h nm
  | .makeSlice t y z => makeSliceS P t (ev l y) (ev l z) h nm
  | .call { callee := .value f, args, .. } =>
    match ev l f with
    | .w (.one (.fn (.func g) first cap)) => c g (first.map liftB ++ evArgs l args ++ cap.map liftB) prot h nm
    | _ => .fail 120
  | _ => .fail 121

theorem wp_of_value {P : Program} {o : Oper} {a : Act} {w w' : World} {v : Value} {next : Act → World → Prop} {Q : Exit → Act → World → Prop} (h : (execOp a.eval o).run P w = .ok (.value v) w') (hn : next (a.put o.dst v) w') :
    o.wp P a w next Q := by
  unfold Oper.wp; rw [h]; exact hn

theorem effOp_wp {P : Program} {c : CallF A} {x : Extra A} (hc : CallOk P c) (hx : ExtraOk P x) {prot : Prot} {o : Oper} {l : List SV} {h : Heap A} {nm : Nat} {ρ : Rho} {but : List Nat} {F : Nat → Nat → Prop} {a : Act} {w : World}
    (H : HeapOk ρ F h w) (hT : TmpsOk ρ but l a) (hb : ∀ x ∈ o.op.operands, ∀ t ∈ opnds x, t ∉ but) {next : Act → World → Prop} {Q : Exit → Act → World → Prop}
    (hK : (effOp P c x prot o.op l h nm).holds fun r => ∀ v ρ' F' w', r.1.is ρ' v → HeapOk ρ' F' r.2 w' → Goes prot.pr ρ F w ρ' F' w' → next (a.put o.dst v) w') :
    o.wp P a w next Q := by
  unfold effOp at hK
  split at hK
  · rename_i t ht
    obtain ⟨s, h', v, ρ', F', w', k1, k2, k3, k4, k5⟩ := hx o l prot h nm t ρ but F a w _ ht H hT hb hK
    exact wp_of_value k3 (k1 v ρ' F' w' k2 k4 k5)
  · rename_i hnone
    clear hnone
    obtain ⟨dst, op, type, pos, after, guard⟩ := o
    simp only at hK hb
    split at hK
    · rename_i t y
      rw [Tree.holds_bind] at hK
      obtain ⟨s, u, k1, k2, k3, _⟩ := loadS_ok H (ev_is hT y (hb y (by simp [Op.operands]))) hK
      exact wp_of_value (v := u) (w' := w) (by simp [execOp, k3]) (k1 u ρ F w k2 H (Goes.refl _ _ _ _))
    · rename_i t y z
      rw [Tree.holds_bind] at hK
      obtain ⟨h', w', k1, k2, k3, k4⟩ := storeS_ok H (ev_is hT y (hb y (by simp [Op.operands]))) (ev_is hT z (hb z (by simp [Op.operands]))) hK
      unfold Oper.wp
      rw [show (execOp a.eval { dst, op := .store t y z, type, pos, after, guard }).run P w = .ok .skip w' from by simp [execOp, k2]]
      exact k1 undef ρ F w' (undefS_is ρ) k3 k4
    · obtain ⟨s, h', v, ρ', F', w', k1, k2, k3, k4, k5⟩ := allocS_ok (prot := prot) H hK
      exact wp_of_value (v := v) (w' := w') (by simp [execOp, k3]) (k1 v ρ' F' w' k2 k4 k5)
    · rename_i e y
      obtain ⟨s, h', v, ρ', F', w', k1, k2, k3, k4, k5⟩ := boxS_ok (prot := prot) (P := P) H (ev_is hT y (hb y (by simp [Op.operands]))) hK
      exact wp_of_value (v := v) (w' := w') (by simp [execOp, k3]) (k1 v ρ' F' w' k2 k4 k5)
    · rename_i t n parts
      have hp : All2 (fun (p : Nat × SV) (q : Nat × Value) => p.1 = q.1 ∧ p.2.is ρ q.2) (parts.toList.map fun p => (p.1, ev l p.2)) (parts.map fun p => (p.1, a.eval p.2)).toList := by
        rw [Array.toList_map]
        refine All2.map _ _ _ fun p hm => ⟨rfl, ev_is hT p.2 (hb p.2 ?_)⟩
        simp only [Op.operands]
        simp
        exact ⟨p.1, by simpa using hm⟩
      obtain ⟨s, h', v, ρ', F', w', k1, k2, k3, k4, k5⟩ := buildSliceS_ok (prot := prot) H hp hK
      exact wp_of_value (v := v) (w' := w') (by simp only [execOp, Sem.run_bind]; rw [show (parts.map fun x => match x with | (i, x) => (i, a.eval x)) = parts.map fun p => (p.1, a.eval p.2) from rfl, k3]; rfl) (k1 v ρ' F' w' k2 k4 k5)
    · rename_i t y z
      obtain ⟨s, h', v, ρ', F', w', k1, k2, k3, k4, k5⟩ := makeSliceS_ok (prot := prot) H (ev_is hT y (hb y (by simp [Op.operands]))) (ev_is hT z (hb z (by simp [Op.operands]))) hK
      exact wp_of_value (v := v) (w' := w') (by simp [execOp, k3]) (k1 v ρ' F' w' k2 k4 k5)
    · rename_i f args ts
      split at hK
      · rename_i g first cap hf
        have hfv := ev_is hT f (hb f (by simp [Op.operands, Call.operands]))
        rw [hf] at hfv
        obtain ⟨vs, us, hfe, h1, h2⟩ := hfv
        have hargs := evArgs_is hT args fun x hx => hb x (by simp [Op.operands, Call.operands, hx])
        have hall : All2 (SV.is ρ) (first.map liftB ++ evArgs l args ++ cap.map liftB) (vs ++ args.map a.eval ++ us).toList := by
          rw [Array.toList_append, Array.toList_append]
          have lift : ∀ {xs : List SB} {ws : List Value}, All2 (SB.is ρ) xs ws → All2 (SV.is ρ) (xs.map liftB) ws := by
            intro xs
            induction xs with
            | nil => intro ws hw; cases ws with | nil => trivial | cons => exact hw.elim
            | cons x xs ih => intro ws hw; cases ws with | nil => exact hw.elim | cons y ys => exact ⟨hw.1, ih hw.2⟩
          exact ((lift h1).append hargs).append (lift h2)
        obtain ⟨⟨fn, e1, e2, e3⟩, hcalls⟩ := hc g _ prot h nm ρ F w _ _ H hall hK
        unfold Oper.wp
        have hrun : (execOp a.eval { dst, op := .call { callee := .value f, args, argTypes := ts }, type, pos, after, guard }).run P w = .ok (.enter g (vs ++ args.map a.eval ++ us)) w := by
          simp only [execOp, resolve, hfe, Deferred.ofValue, Sem.run_bind, Sem.run_pure, Result.andThen_ok, Go.invoke, callFunc, run_program, e1, e2, Bool.false_eq_true, if_false, e3]
        rw [hrun]
        refine Calls.mono hcalls fun e w' he => ?_
        obtain ⟨s, h', v, ρ', F', k1, rfl, k2, k3, k4⟩ := he
        exact k1 v ρ' F' w' k2 k3 k4
      · exact hK.elim
    · exact hK.elim

/-- One operation, of whatever kind. -/
def doOp (P : Program) (c : CallF A) (x : Extra A) (prot : Prot) (op : Op) (l : List SV) (h : Heap A) (nm : Nat) : Tree (SV × Heap A) :=
  match pureOp P op l with
  | some t => t.bind fun s => .leaf (s, h)
  | none => effOp P c x prot op l h nm
theorem doOp_wp {P : Program} {c : CallF A} {x : Extra A} (hc : CallOk P c) (hx : ExtraOk P x) {prot : Prot} {o : Oper} {l : List SV} {h : Heap A} {nm : Nat} {ρ : Rho} {but : List Nat} {F : Nat → Nat → Prop} {a : Act} {w : World}
    (H : HeapOk ρ F h w) (hT : TmpsOk ρ but l a) (hb : ∀ x ∈ o.op.operands, ∀ t ∈ opnds x, t ∉ but) {next : Act → World → Prop} {Q : Exit → Act → World → Prop}
    (hK : (doOp P c x prot o.op l h nm).holds fun r => ∀ v ρ' F' w', r.1.is ρ' v → HeapOk ρ' F' r.2 w' → Goes prot.pr ρ F w ρ' F' w' → next (a.put o.dst v) w') :
    o.wp P a w next Q := by
  unfold doOp at hK
  split at hK
  · rename_i t ht
    rw [Tree.holds_bind] at hK
    obtain ⟨s, v, k1, k2, k3⟩ := pureOp_gives ht hT hb hK
    exact wp_of_value (k3 w) (k1 v ρ F w k2 H (Goes.refl _ _ _ _))
  · exact effOp_wp hc hx H hT hb hK

/-- Is an operation wanted? Where its guard is not known, the paths part; the guard is known then. -/
def guarded {L : Type} (ops : Array Oper) (o : Oper) (l : List SV) (yes no : List SV → Tree L) : Tree L :=
  match o.guard with
  | none => yes l
  | some (j, want) =>
    match (ops[j]?).bind (·.dst) with
    | none => no l
    | some d =>
      match l.getD d undefS with
      | .w (.one (.b (.bool (.lit b)))) => if b = want then yes l else no l
      | .w (.one (.b (.bool e))) =>
        .br e (if want then yes (l.set d (.w (.one (.b (.bool (.lit true)))))) else no (l.set d (.w (.one (.b (.bool (.lit true)))))))
          (if want then no (l.set d (.w (.one (.b (.bool (.lit false)))))) else yes (l.set d (.w (.one (.b (.bool (.lit false)))))))
      | .tup [] => no l
      | _ => .fail 130
theorem TmpsOk.known {ρ : Rho} {but : List Nat} {l : List SV} {a : Act} (h : TmpsOk ρ but l a) {d : Nat} {e : BE} {b : Bool} (hd : l.getD d undefS = .w (.one (.b (.bool e)))) (hb : d ∉ but) (he : e.val = b) :
    TmpsOk ρ but (l.set d (.w (.one (.b (.bool (.lit b)))))) a := by
  refine ⟨by simp [h.size], fun i s hi hl => ?_, h.defers⟩
  by_cases hid : d = i
  · subst hid
    have hlt : d < l.length := by
      rcases Nat.lt_or_ge d l.length with h1 | h1
      · exact h1
      · rw [List.getElem?_eq_none (by simpa using h1)] at hl; cases hl
    rw [List.getElem?_set_self hlt] at hl
    cases hl
    have h0 : l[d]? = some (.w (.one (.b (.bool e)))) := by
      rw [List.getD_eq_getElem?_getD, List.getElem?_eq_getElem hlt, Option.getD_some] at hd
      rw [List.getElem?_eq_getElem hlt, hd]
    obtain ⟨v, hv, hs⟩ := h.at_ d _ hb h0
    refine ⟨v, hv, ?_⟩
    have hs' : v = .bool e.val := hs
    show v = .bool (BE.lit b).val
    rw [hs', he]; rfl
  · rw [List.getElem?_set_ne hid] at hl
    exact h.at_ i s hi hl
/-- What is known of a guard's slot. -/
theorem yielded_of {ρ : Rho} {but : List Nat} {ops : Array Oper} {l : List SV} {a : Act} (h : TmpsOk ρ but l a) {j d : Nat} (hj : (ops[j]?).bind (·.dst) = some d) (hd : d ∉ but) :
    (∀ e, l.getD d undefS = .w (.one (.b (.bool e))) → yielded ops a.tmps j = some e.val) ∧ (l.getD d undefS = .tup [] → yielded ops a.tmps j = none) := by
  have key : ∀ s, l.getD d undefS = s → (∃ v, a.tmps[d]? = some v ∧ s.is ρ v) ∨ (a.tmps[d]? = none ∧ s = undefS) := by
    intro s hs
    cases hl : l[d]? with
    | none =>
      right
      have h1 : l.length ≤ d := List.getElem?_eq_none_iff.1 hl
      rw [List.getD_eq_getElem?_getD, hl] at hs
      exact ⟨Array.getElem?_eq_none (by rw [h.size]; exact h1), hs.symm⟩
    | some s' =>
      left
      rw [List.getD_eq_getElem?_getD, hl, Option.getD_some] at hs
      subst hs
      exact h.at_ d _ hd hl
  constructor
  · intro e he
    rcases key _ he with ⟨v, hv, hs⟩ | ⟨_, hs⟩
    · have hs' : v = .bool e.val := hs
      unfold yielded
      rw [hj, Option.bind_some, hv, hs']
    · simp [undefS] at hs
  · intro he
    rcases key _ he with ⟨v, hv, hs⟩ | ⟨hv, _⟩
    · obtain ⟨vs, rfl, _⟩ := hs
      unfold yielded
      rw [hj, Option.bind_some, hv]
    · unfold yielded
      rw [hj, Option.bind_some, hv]
theorem guarded_ok {L : Type} {ops : Array Oper} {o : Oper} {l : List SV} {yes no : List SV → Tree L} {ρ : Rho} {but : List Nat} {a : Act} (hT : TmpsOk ρ but l a) (hb : ∀ t ∈ o.looksAt ops, t ∉ but) {Q : L → Prop} (h : (guarded ops o l yes no).holds Q) :
    ∃ l', TmpsOk ρ but l' a ∧ ((Region.wanted o (yielded ops a.tmps) = true ∧ (yes l').holds Q) ∨ (Region.wanted o (yielded ops a.tmps) = false ∧ (no l').holds Q)) := by
  unfold guarded at h
  split at h
  · rename_i hg
    exact ⟨l, hT, .inl ⟨by simp [Region.wanted, hg], h⟩⟩
  · rename_i j want hg
    split at h
    · rename_i hd
      exact ⟨l, hT, .inr ⟨by simp [Region.wanted, hg, yielded, hd], h⟩⟩
    · rename_i d hd
      have hdb : d ∉ but := hb d (by simp [Oper.looksAt, hg, hd])
      obtain ⟨y1, y2⟩ := yielded_of hT hd hdb
      split at h
      · rename_i b hl
        have hy := y1 _ hl
        split at h
        · rename_i hbw
          exact ⟨l, hT, .inl ⟨by simp [Region.wanted, hg, hy, BE.val, hbw], h⟩⟩
        · rename_i hbw
          exact ⟨l, hT, .inr ⟨by simpa [Region.wanted, hg, hy, BE.val] using hbw, h⟩⟩
      · rename_i e _ hl
        have hy := y1 _ hl
        cases he : e.val with
        | true =>
          have h' := h.1 he
          refine ⟨_, hT.known hl hdb he, ?_⟩
          cases want with
          | true => exact .inl ⟨by simp [Region.wanted, hg, hy, he], h'⟩
          | false => exact .inr ⟨by simp [Region.wanted, hg, hy, he], h'⟩
        | false =>
          have h' := h.2 he
          refine ⟨_, hT.known hl hdb he, ?_⟩
          cases want with
          | true => exact .inr ⟨by simp [Region.wanted, hg, hy, he], h'⟩
          | false => exact .inl ⟨by simp [Region.wanted, hg, hy, he], h'⟩
      · rename_i hl
        exact ⟨l, hT, .inr ⟨by simp [Region.wanted, hg, y2 hl], h⟩⟩
      · exact h.elim

/-- A region in the text's order. -/
def execOps (P : Program) (c : CallF A) (x : Extra A) (prot : Prot) (ops : Array Oper) (base : Nat) : List Oper → Nat → List SV → Heap A → Tree (List SV × Heap A)
  | [], _, l, h => .leaf (l, h)
  | o :: rest, i, l, h =>
    guarded ops o l (fun l => (doOp P c x prot o.op l h (nmOf base i)).bind fun r => execOps P c x prot ops base rest (i + 1) (setS l o.dst r.1) r.2)
      (fun l => execOps P c x prot ops base rest (i + 1) (setS l o.dst undefS) h)
theorem execOps_ok {P : Program} {c : CallF A} {x : Extra A} (hc : CallOk P c) (hx : ExtraOk P x) {prot : Prot} {ops : Array Oper} {base : Nat} {Q : Exit → Act → World → Prop} :
    ∀ (rest : List Oper) (i : Nat) (l : List SV) (h : Heap A) (ρ : Rho) (F : Nat → Nat → Prop) (a : Act) (w : World), (∀ k o, rest[k]? = some o → ops[i + k]? = some o) → HeapOk ρ F h w → TmpsOk ρ [] l a →
      (execOps P c x prot ops base rest i l h).holds (fun r => ∀ ρ' F' a' w', TmpsOk ρ' [] r.1 a' → HeapOk ρ' F' r.2 w' → Goes prot.pr ρ F w ρ' F' w' → Q .normal a' w') →
      wpOps P ops Q (List.range' i rest.length) a w
  | [], i, l, h, ρ, F, a, w, _, H, hT, hK => hK ρ F a w hT H (Goes.refl _ _ _ _)
  | o :: rest, i, l, h, ρ, F, a, w, ho, H, hT, hK => by
    have h0 : ops[i]? = some o := by have := ho 0 o (by simp); simpa using this
    simp only [execOps] at hK
    obtain ⟨l', hT', hw⟩ := guarded_ok hT (fun t _ => by simp) hK
    simp only [List.length_cons, List.range'_succ, wpOps, h0]
    have hrest : ∀ k o', rest[k]? = some o' → ops[i + 1 + k]? = some o' := fun k o' hk => by
      have := ho (k + 1) o' (by simpa using hk)
      rwa [show i + 1 + k = i + (k + 1) by omega]
    rcases hw with ⟨hw, hy⟩ | ⟨hw, hy⟩
    · rw [if_pos hw]
      rw [Tree.holds_bind] at hy
      refine .inl (doOp_wp hc hx H hT' (fun x _ t _ => by simp) (Tree.holds_mono (fun r hr v ρ' F' w' hs H' G => ?_) hy))
      refine execOps_ok hc hx rest (i + 1) _ _ ρ' F' _ w' hrest H' ((hT'.mono G.ext).put o.dst hs (fun d _ => by simp)) (Tree.holds_mono (fun q hq ρ2 F2 a2 w2 t2 H2 G2 => hq ρ2 F2 a2 w2 t2 H2 (G.trans G2)) hr)
    · rw [if_neg (by simp [hw])]
      exact execOps_ok hc hx rest (i + 1) _ _ ρ F _ w hrest H (hT'.put o.dst (undefS_is ρ) (fun d _ => by simp)) hy

end
end Go.Proofs.Ytafemlljemhkhaa.Sx
