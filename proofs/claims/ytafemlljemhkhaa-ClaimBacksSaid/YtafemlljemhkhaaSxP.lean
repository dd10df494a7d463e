/-
  THE SYMBOLIC EXECUTOR, part P: regions, code, functions.
-/
import Derived.Test.YtafemlljemhkhaaSxO
import Derived.Test.YtafemlljemhkhaaSxMg
import Derived.LoopN
namespace Go.Proofs.Ytafemlljemhkhaa.Sx
open Go
set_option linter.unusedSectionVars false
set_option linter.unusedVariables false
set_option linter.unusedSimpArgs false
variable [Env]

section
variable {A : Type} [AbsK A]

def Tree.first {L : Type} : Tree L → Option L
  | .leaf l => some l
  | .br _ t f => match t.first with
    | some l => some l
    | none => f.first
  | .req _ t => t.first
  | _ => none
def footS (P : Program) (t : TypeId) (x : SV) : Prot :=
  match x with
  | .w (.one (.b (.ptr n (.lit j)))) => (List.range ((sizeT P t).getD 0)).map fun i => (n, some (j.toNat + i))
  | .w (.one (.b (.ptr n _))) => [(n, none)]
  | _ => []
/-- What a region loads ahead of its calls: a guess, held against the run. -/
def prepass (P : Program) (ops : Array Oper) (h0 : Heap A) : List (Nat × Md) → List SV → Prot → Prot
  | [], _, R => R
  | (i, m) :: rest, l, R =>
    match ops[i]? with
    | none => R
    | some o =>
      match m with
      | .take =>
        match pureOp P o.op l with
        | some t => prepass P ops h0 rest (setS l o.dst (t.first.getD .unk)) R
        | none =>
          match o.op with
          | .load t a => prepass P ops h0 rest (setS l o.dst ((loadS P t (ev l a) h0).first.getD .unk)) (footS P t (ev l a) ++ R)
          | _ => prepass P ops h0 rest (setS l o.dst .unk) R
      | _ => prepass P ops h0 rest (setS l o.dst .unk) R
def dstsLt (n : Nat) : List Oper → Bool
  | [] => true
  | o :: l => (match o.dst with | some d => decide (d < n) | none => true) && dstsLt n l
theorem dstsLt_spec {n : Nat} : ∀ {l : List Oper}, dstsLt n l = true → ∀ (p : Nat) (o : Oper) (d : Nat), l[p]? = some o → o.dst = some d → d < n
  | [], _, p, o, d, h, _ => by simp at h
  | o' :: l, hd, p, o, d, h, ho => by
    simp only [dstsLt, Bool.and_eq_true] at hd
    cases p with
    | zero => simp at h; subst h; have := hd.1; rw [ho] at this; simpa using this
    | succ p => simp at h; exact dstsLt_spec hd.2 p o d h ho
def takesIn (ops : Array Oper) (loads : List Nat) : List (Nat × Md) → Bool
  | [] => true
  | (i, .take) :: l => (!isLoadOp ops[i]? || loads.contains i) && takesIn ops loads l
  | _ :: l => takesIn ops loads l
theorem takesIn_spec {ops : Array Oper} {loads : List Nat} : ∀ {l : List (Nat × Md)}, takesIn ops loads l = true → ∀ i, (i, Md.take) ∈ l → isLoadOp ops[i]? = true → i ∈ loads
  | [], _, i, h, _ => by simp at h
  | (k, m) :: l, ht, i, h, hi => by
    have hrest : takesIn ops loads l = true := by cases m <;> simp only [takesIn, Bool.and_eq_true] at ht <;> first | exact ht | exact ht.2
    rcases List.mem_cons.1 h with e | e
    · cases e
      simp only [takesIn, Bool.and_eq_true, Bool.or_eq_true, Bool.not_eq_true'] at ht
      rcases ht.1 with h1 | h1
      · rw [hi] at h1; cases h1
      · simpa using h1
    · exact takesIn_spec hrest i e hi

def execRegion (P : Program) (c : CallF A) (x : Extra A) (prot : Prot) (ops : Array Oper) (draw : Bool) (base : Nat) (l : List SV) (h : Heap A) : Tree (List SV × Heap A) :=
  match draw with
  | false => execOps P c x prot ops base ops.toList 0 l h
  | true =>
    let init := Array.replicate ops.size false
    let sch := mkSched ops (kinds ops.toList []) ops.size init
    let loads := loadsOf ops sch
    if chk P ops sch init && Region.noSelect ops && dstsLt l.length ops.toList && takesIn ops loads sch then
      runSched P c x prot (prepass P ops h sch l []) ops base loads h sch l h
    else .fail 150
theorem execRegion_ok {P : Program} (hm : P.follows .mixedOrders = true) {c : CallF A} {x : Extra A} (hc : CallOk P c) (hx : ExtraOk P x) {prot : Prot} {id : Nat} {ops : Array Oper} {draw : Bool} {base : Nat} {l : List SV} {h : Heap A}
    {ρ : Rho} {F : Nat → Nat → Prop} {a : Act} {w : World} (H : HeapOk ρ F h w) (hT : TmpsOk ρ [] l a) {Q : Exit → Act → World → Prop}
    (hK : (execRegion P c x prot ops draw base l h).holds fun r => ∀ ρ' F' a' w', TmpsOk ρ' [] r.1 a' → HeapOk ρ' F' r.2 w' → Goes prot.pr ρ F w ρ' F' w' → Q .normal a' w') :
    (Code.region id ops draw).wp P Q a w := by
  unfold execRegion at hK
  split at hK
  · refine wp_region ?_
    have := execOps_ok (ops := ops) hc hx ops.toList 0 l h ρ F a w (fun k o hk => by simpa using hk) H hT hK
    rwa [List.range_eq_range', show ops.size = ops.toList.length by simp]
  · simp only at hK
    split at hK
    · rename_i hchk
      simp only [Bool.and_eq_true] at hchk
      obtain ⟨⟨⟨h1, h2⟩, h3⟩, h4⟩ := hchk
      generalize hR : prepass P ops h (mkSched ops (kinds ops.toList []) ops.size (Array.replicate ops.size false)) l [] = R at hK
      refine wp_mono (Q := fun e a w => e = .normal ∧ Q .normal a w) (wp_region_any hm (wpAny_of_N (need := needOf ops (loadsOf ops (mkSched ops (kinds ops.toList []) ops.size (Array.replicate ops.size false)))) (S := fun w' => ∀ n k, R.pr n k → ∀ b, ρ n = some (.blk b) → w'.cell? ⟨b, k, none⟩ = ({ w with drawn := w.drawn + 1 } : World).cell? ⟨b, k, none⟩) _ _ _ _ ?_)) (fun e a w he => he.1 ▸ he.2)
      have H' := H.drawn (w.drawn + 1)
      refine drawn_ok hc hx (F0 := F) (w0 := { w with drawn := w.drawn + 1 }) H' h2 (fun ch a w hq => by cases hq.1) (N := l.length) (fun p o d ho hd => dstsLt_spec h3 p o d (by simpa using ho) hd) (S := fun w' => ∀ n k, R.pr n k → ∀ b, ρ n = some (.blk b) → w'.cell? ⟨b, k, none⟩ = ({ w with drawn := w.drawn + 1 } : World).cell? ⟨b, k, none⟩) rfl
        _ (Array.replicate ops.size false) l h h1 (by simp) rfl (takesIn_spec h4)
        (Tree.holds_mono (fun r hr ρ' F' a' w' t H2 G => ⟨rfl, hr ρ' F' a' w' t H2 ((Goes.drawn prot.pr ρ F w (w.drawn + 1)).trans G)⟩) hK)
        [] (fun _ => 0) ρ F a _ ops.size (Array.replicate ops.size false) ?_ rfl (fun j d => by simp) (fun p hp => by simp at hp) (by simp [unl])
      exact ⟨by simpa [dstsOf] using hT, H', Goes.refl _ _ _ _, fun _ _ _ _ _ _ => rfl, fun p hp => by simp at hp, fun p hp => by simp at hp, fun p hp => by simp at hp⟩
    · exact hK.elim

/-! ### code -/
inductive Ex where
  | norm | exit (id : Nat) | ret
def Ex.to : Ex → Exit
  | .norm => .normal
  | .exit id => .exit id
  | .ret => .ret
structure SS (A : Type) where
  l : List SV
  h : Heap A
  ctr : Nat
/-- A part of a function's code, by its way from behind. -/
def subAt (c : Code) : List Nat → Option Code
  | [] => some c
  | k :: p => match subAt c p with
    | some (.seq a b) => if k = 0 then some a else some b
    | some (.cond _ a b) => if k = 0 then some a else some b
    | some (.block _ b) => some b
    | some (.loop b) => some b
    | _ => none
abbrev LoopF (A : Type) := Prot → List Nat → Nat → SS A → Option (Tree (Ex × SS A))
/-- What a part of code comes to. -/
def After (prot : Prot) (ρ : Rho) (F : Nat → Nat → Prop) (w : World) (Q : Exit → Act → World → Prop) (r : Ex × SS A) : Prop :=
  ∀ ρ' F' a' w', TmpsOk ρ' [] r.2.l a' → HeapOk ρ' F' r.2.h w' → Goes prot.pr ρ F w ρ' F' w' → Q r.1.to a' w'
def LoopsOk (P : Program) (root : Code) (Λ : LoopF A) : Prop :=
  ∀ prot path B s t body (ρ : Rho) (F : Nat → Nat → Prop) (a : Act) (w : World) (Q : Exit → Act → World → Prop), Λ prot path B s = some t → subAt root path = some (.loop body) → HeapOk ρ F s.h w → TmpsOk ρ [] s.l a →
    t.holds (After prot ρ F w Q) → (Code.loop body).wp P Q a w

def loopN (f : SS A → Tree (Ex × SS A)) : Nat → SS A → Tree (Ex × SS A)
  | 0, _ => .fail 160
  | n + 1, s => (f s).bind fun r => match r.1 with
    | .norm => loopN f n r.2
    | e => .leaf (e, r.2)
def execC (P : Program) (c : CallF A) (x : Extra A) (Λ : LoopF A) (prot : Prot) (B n : Nat) : Code → List Nat → SS A → Tree (Ex × SS A)
  | .skip, _, s => .leaf (.norm, s)
  | .label _, _, s => .leaf (.norm, s)
  | .region _ ops draw, _, s => (execRegion P c x prot ops draw (B + s.ctr) s.l s.h).bind fun r => .leaf (.norm, ⟨r.1, r.2, s.ctr + ops.size⟩)
  | .seq a b, p, s => (execC P c x Λ prot B n a (0 :: p) s).bind fun r => match r.1 with
    | .norm => execC P c x Λ prot B n b (1 :: p) r.2
    | e => .leaf (e, r.2)
  | .cond o a b, p, s =>
    match o, ev s.l o with
    | _, .w (.one (.b (.bool (.lit true)))) => execC P c x Λ prot B n a (0 :: p) s
    | _, .w (.one (.b (.bool (.lit false)))) => execC P c x Λ prot B n b (1 :: p) s
    | .tmp d, .w (.one (.b (.bool e))) => .br e (execC P c x Λ prot B n a (0 :: p) { s with l := s.l.set d (.w (.one (.b (.bool (.lit true))))) }) (execC P c x Λ prot B n b (1 :: p) { s with l := s.l.set d (.w (.one (.b (.bool (.lit false))))) })
    | _, _ => .fail 161
  | .block id b, p, s => (execC P c x Λ prot B n b (0 :: p) s).bind fun r => match r.1 with
    | .exit id' => if id' = id then .leaf (.norm, r.2) else .leaf (.exit id', r.2)
    | e => .leaf (e, r.2)
  | .loop b, p, s => match Λ prot p B s with
    | some t => t
    | none => loopN (execC P c x Λ prot B n b (0 :: p)) n s
  | .exit id, _, s => .leaf (.exit id, s)
  | .ret, _, s => .leaf (.ret, s)
  | _, _, _ => .fail 162

theorem loopN_ok {P : Program} {body : Code} {f : SS A → Tree (Ex × SS A)} {prot : Prot}
    (hf : ∀ (s : SS A) (ρ : Rho) (F : Nat → Nat → Prop) (a : Act) (w : World) (Q : Exit → Act → World → Prop), HeapOk ρ F s.h w → TmpsOk ρ [] s.l a → (f s).holds (After prot ρ F w Q) → body.wp P Q a w) :
    ∀ (n : Nat) (s : SS A) (ρ : Rho) (F : Nat → Nat → Prop) (a : Act) (w : World) (Q : Exit → Act → World → Prop), HeapOk ρ F s.h w → TmpsOk ρ [] s.l a → (loopN f n s).holds (After prot ρ F w Q) → Code.rounds P body Q n a w
  | 0, s, ρ, F, a, w, Q, H, hT, hK => hK.elim
  | n + 1, s, ρ, F, a, w, Q, H, hT, hK => by
    rw [rounds_succ]
    simp only [loopN] at hK
    rw [Tree.holds_bind] at hK
    refine hf s ρ F a w _ H hT (Tree.holds_mono (fun r hr ρ' F' a' w' t H' G => ?_) hK)
    obtain ⟨e, s'⟩ := r
    cases e with
    | norm =>
      exact loopN_ok hf n s' ρ' F' a' w' Q H' t (Tree.holds_mono (fun q hq ρ2 F2 a2 w2 t2 H2 G2 => hq ρ2 F2 a2 w2 t2 H2 (G.trans G2)) hr)
    | exit id => exact hr ρ' F' a' w' t H' G
    | ret => exact hr ρ' F' a' w' t H' G

theorem execC_ok {P : Program} (hm : P.follows .mixedOrders = true) {c : CallF A} {x : Extra A} {Λ : LoopF A} (hc : CallOk P c) (hx : ExtraOk P x) {root : Code} (hΛ : LoopsOk P root Λ) {prot : Prot} {B n : Nat} :
    ∀ (code : Code) (p : List Nat) (s : SS A) (ρ : Rho) (F : Nat → Nat → Prop) (a : Act) (w : World) (Q : Exit → Act → World → Prop), subAt root p = some code → HeapOk ρ F s.h w → TmpsOk ρ [] s.l a →
      (execC P c x Λ prot B n code p s).holds (After prot ρ F w Q) → code.wp P Q a w := by
  intro code
  induction code with
  | skip => intro p s ρ F a w Q _ H hT hK; exact wp_skip (hK ρ F a w hT H (Goes.refl _ _ _ _))
  | label l => intro p s ρ F a w Q _ H hT hK; exact wp_label (hK ρ F a w hT H (Goes.refl _ _ _ _))
  | region id ops draw =>
    intro p s ρ F a w Q _ H hT hK
    simp only [execC] at hK
    rw [Tree.holds_bind] at hK
    exact execRegion_ok hm hc hx H hT hK
  | seq y z ihy ihz =>
    intro p s ρ F a w Q hp H hT hK
    simp only [execC] at hK
    rw [Tree.holds_bind] at hK
    refine wp_seq (ihy (0 :: p) s ρ F a w _ (by simp [subAt, hp]) H hT (Tree.holds_mono (fun r hr ρ' F' a' w' t H' G => ?_) hK))
    obtain ⟨e, s'⟩ := r
    cases e with
    | norm => exact ihz (1 :: p) s' ρ' F' a' w' Q (by simp [subAt, hp]) H' t (Tree.holds_mono (fun q hq ρ2 F2 a2 w2 t2 H2 G2 => hq ρ2 F2 a2 w2 t2 H2 (G.trans G2)) hr)
    | exit id => exact hr ρ' F' a' w' t H' G
    | ret => exact hr ρ' F' a' w' t H' G
  | cond o y z ihy ihz =>
    intro p s ρ F a w Q hp H hT hK
    simp only [execC] at hK
    have hev := ev_is hT o (fun t _ => by simp)
    split at hK
    · rename_i heq
      rw [heq] at hev
      exact wp_cond_true hev (ihy (0 :: p) s ρ F a w Q (by simp [subAt, hp]) H hT hK)
    · rename_i heq
      rw [heq] at hev
      exact wp_cond_false hev (ihz (1 :: p) s ρ F a w Q (by simp [subAt, hp]) H hT hK)
    · rename_i d e _ _ heq
      rw [heq] at hev
      refine wp_cond_split (t := e.val) hev (fun ht => ?_) (fun hf => ?_)
      · exact ihy (0 :: p) { s with l := s.l.set d (.w (.one (.b (.bool (.lit true))))) } ρ F a w Q (by simp [subAt, hp]) H (hT.known heq (by simp) ht) (hK.1 ht)
      · exact ihz (1 :: p) { s with l := s.l.set d (.w (.one (.b (.bool (.lit false))))) } ρ F a w Q (by simp [subAt, hp]) H (hT.known heq (by simp) hf) (hK.2 hf)
    · exact hK.elim
  | block id y ihy =>
    intro p s ρ F a w Q hp H hT hK
    simp only [execC] at hK
    rw [Tree.holds_bind] at hK
    refine wp_block (ihy (0 :: p) s ρ F a w _ (by simp [subAt, hp]) H hT (Tree.holds_mono (fun r hr ρ' F' a' w' t H' G => ?_) hK))
    obtain ⟨e, s'⟩ := r
    cases e with
    | norm => exact hr ρ' F' a' w' t H' G
    | ret => exact hr ρ' F' a' w' t H' G
    | exit id' =>
      simp only at hr
      show Exit.inBlock id Q (.exit id') a' w'
      simp only [Exit.inBlock]
      split
      · rename_i hid; rw [if_pos hid] at hr; exact hr ρ' F' a' w' t H' G
      · rename_i hid; rw [if_neg hid] at hr; exact hr ρ' F' a' w' t H' G
  | loop y ihy =>
    intro p s ρ F a w Q hp H hT hK
    simp only [execC] at hK
    split at hK
    · rename_i t ht
      exact hΛ prot p B s t y ρ F a w Q ht hp H hT hK
    · exact wp_loop_rounds n (loopN_ok (fun s' ρ' F' a' w' Q' H' t' hK' => ihy (0 :: p) s' ρ' F' a' w' Q' (by simp [subAt, hp]) H' t' hK') n s ρ F a w Q H hT hK)
  | exit id => intro p s ρ F a w Q _ H hT hK; exact wp_exit (hK ρ F a w hT H (Goes.refl _ _ _ _))
  | ret => intro p s ρ F a w Q _ H hT hK; exact wp_ret (hK ρ F a w hT H (Goes.refl _ _ _ _))
  | goto l => intro p s ρ F a w Q _ H hT hK; exact hK.elim
  | scope b _ => intro p s ρ F a w Q _ H hT hK; exact hK.elim
  | rangeFunc f ps as b _ _ => intro p s ρ F a w Q _ H hT hK; exact hK.elim
  | refuse why => intro p s ρ F a w Q _ H hT hK; exact hK.elim

/-! ### functions -/
def resOne (P : Program) (l : List SV) (h : Heap A) : ResultVar → Tree SV
  | .tmp t => .leaf (l.getD t undefS)
  | .cell a t => loadS P t (l.getD a undefS) h
def resList (P : Program) (l : List SV) (h : Heap A) : List ResultVar → Tree (List SV)
  | [] => .leaf []
  | r :: rs => (resOne P l h r).bind fun s => (resList P l h rs).bind fun ss => .leaf (s :: ss)
def asSWs : List SV → Option (List SW)
  | [] => some []
  | .w x :: l => match asSWs l with
    | some xs => some (x :: xs)
    | none => none
  | _ => none
theorem asSWs_is {ρ : Rho} : ∀ {l : List SV} {vs : List Value} {xs : List SW}, asSWs l = some xs → All2 (SV.is ρ) l vs → All2 (SW.is ρ) xs vs
  | [], [], xs, h, _ => by cases h; trivial
  | s :: l, v :: vs, xs, h, hl => by
    unfold asSWs at h
    split at h
    · rename_i heq; cases heq
    · rename_i x l' heq
      cases heq
      split at h
      · rename_i xs' h1
        cases h
        exact ⟨hl.1, asSWs_is h1 hl.2⟩
      · cases h
    · cases h
  | [], _ :: _, _, _, h => h.elim
  | _ :: _, [], _, _, h => h.elim
def resS (P : Program) (rs : Array ResultVar) (l : List SV) (h : Heap A) : Tree SV :=
  (resList P l h rs.toList).bind fun ss => match ss with
    | [s] => .leaf s
    | ss => match asSWs ss with
      | some xs => .leaf (.tup xs)
      | none => .fail 170
theorem getD_is {ρ : Rho} {l : List SV} {a : Act} (hT : TmpsOk ρ [] l a) (t : Nat) : (l.getD t undefS).is ρ (a.tmps.getD t undef) := ev_is hT (.tmp t) (fun t _ => by simp)
def resVal (tmps : Array Value) : ResultVar → Sem Value
  | .tmp t => pure (tmps.getD t undef)
  | .cell a t => do loadVar t (← asAddr (tmps.getD a undef))
theorem resOne_ok {P : Program} {l : List SV} {h : Heap A} {ρ : Rho} {F : Nat → Nat → Prop} {a : Act} {w : World} (H : HeapOk ρ F h w) (hT : TmpsOk ρ [] l a) {K : SV → Prop} :
    ∀ (r : ResultVar), (resOne P l h r).holds K → ∃ s v, K s ∧ s.is ρ v ∧ (resVal a.tmps r).run P w = .ok v w
  | .tmp t, hK => ⟨_, _, hK, getD_is hT t, rfl⟩
  | .cell b t, hK0 => by
    have hK : (loadS P t (l.getD b undefS) h).holds K := hK0
    obtain ⟨s, v, h1, h2, h3, _⟩ := loadS_ok H (getD_is hT b) hK
    refine ⟨s, v, h1, h2, ?_⟩
    have hx := getD_is hT b
    unfold loadS at hK
    split at hK
    · rename_i n off heq
      rw [heq] at hx
      obtain ⟨bb, _, hv⟩ := hx
      simp only [resVal, Sem.run_bind, hv, asAddr, Sem.run_pure, Result.andThen_ok]
      rw [hv] at h3
      simpa [Instr.loadAt, Instr.sureAddr] using h3
    · exact hK.elim
theorem resList_ok {P : Program} {l : List SV} {h : Heap A} {ρ : Rho} {F : Nat → Nat → Prop} {a : Act} {w : World} (H : HeapOk ρ F h w) (hT : TmpsOk ρ [] l a) :
    ∀ (rs : List ResultVar) {K : List SV → Prop}, (resList P l h rs).holds K → ∃ ss vs, K ss ∧ All2 (SV.is ρ) ss vs ∧ (rs.mapM (resVal a.tmps)).run P w = .ok vs w
  | [], K, hK => ⟨[], [], hK, trivial, by simp⟩
  | r :: rs, K, hK => by
    simp only [resList] at hK
    rw [Tree.holds_bind] at hK
    obtain ⟨s, v, h1, h2, h3⟩ := resOne_ok H hT r hK
    rw [Tree.holds_bind] at h1
    obtain ⟨ss, vs, g1, g2, g3⟩ := resList_ok H hT rs h1
    exact ⟨s :: ss, v :: vs, g1, ⟨h2, g2⟩, by simp [List.mapM_cons, h3, g3]⟩
theorem resS_ok {P : Program} {fn : Func} {l : List SV} {h : Heap A} {ρ : Rho} {F : Nat → Nat → Prop} {a : Act} {w : World} (H : HeapOk ρ F h w) (hT : TmpsOk ρ [] l a) {K : SV → Prop}
    (hK : (resS P fn.results l h).holds K) : ∃ s v, K s ∧ s.is ρ v ∧ (results fn a.tmps).run P w = .ok v w := by
  unfold resS at hK
  rw [Tree.holds_bind] at hK
  obtain ⟨ss, vs, h1, h2, h3⟩ := resList_ok H hT _ hK
  have hrun : (results fn a.tmps).run P w = .ok (if h : vs.toArray.size = 1 then vs.toArray[0] else .tuple vs.toArray) w := by
    show (do let vs ← fn.results.mapM (resVal a.tmps); pure (if h : vs.size = 1 then vs[0] else .tuple vs) : Sem Value).run P w = _
    rw [Array.mapM_eq_mapM_toList]
    simp [h3]
  split at h1
  · rename_i s
    cases vs with
    | nil => exact h2.elim
    | cons v vs => cases vs with
      | nil => exact ⟨_, v, h1, h2.1, by rw [hrun]; simp⟩
      | cons u us => exact h2.2.elim
  · rename_i hne
    split at h1
    · rename_i xs hxs
      have hlen := h2.length
      have hn1 : ¬ vs.toArray.size = 1 := by
        intro e
        have : ss.length = 1 := by simpa [hlen] using e
        obtain ⟨s, rfl⟩ := List.length_eq_one_iff.1 this
        exact hne s rfl
      exact ⟨_, .tuple vs.toArray, h1, ⟨vs.toArray, rfl, by simpa using asSWs_is hxs h2⟩, by rw [hrun, dif_neg hn1]⟩
    · exact h1.elim

/-- Summaries of functions. -/
abbrev SumF (A : Type) := Nat → List SV → Prot → Heap A → Nat → Option (Tree (SV × Heap A))
def SumOk (P : Program) (Γ : SumF A) : Prop :=
  ∀ g args prot h nm t (ρ : Rho) (F : Nat → Nat → Prop) (w : World) (argv : Array Value) (K : SV × Heap A → Prop), Γ g args prot h nm = some t → HeapOk ρ F h w → All2 (SV.is ρ) args argv.toList → t.holds K →
    CallsTo P prot ρ F w g argv K
/-- A function's body is run. -/
def execBody (P : Program) (c : CallF A) (x : Extra A) (Λ : LoopF A) (n : Nat) (fn : Func) (code : Code) (args : List SV) (prot : Prot) (h : Heap A) (nm : Nat) : Tree (SV × Heap A) :=
  joinT (namesH h) ((execC P c x Λ prot (nm * 65536) n code [] ⟨args ++ List.replicate (fn.ntmps - args.length) undefS, h, 0⟩).bind fun r => match r.1 with
    | .exit _ => .fail 171
    | _ => (resS P fn.results r.2.l r.2.h).bind fun s => .leaf (s, gcH (namesH h) s r.2.h))
theorem execBody_ok {P : Program} (hm : P.follows .mixedOrders = true) {c : CallF A} {x : Extra A} {Λ : LoopF A} (hc : CallOk P c) (hx : ExtraOk P x) {n g : Nat} {fn : Func} {code : Code} (hf : P.funcs[g]? = some fn) (hb : fn.body = some code) (hΛ : LoopsOk P code Λ)
    {args : List SV} {prot : Prot} {h : Heap A} {nm : Nat} {ρ : Rho} {F : Nat → Nat → Prop} {w : World} {argv : Array Value} {K : SV × Heap A → Prop} (H : HeapOk ρ F h w) (ha : All2 (SV.is ρ) args argv.toList)
    (hK : (execBody P c x Λ n fn code args prot h nm).holds K) : CallsTo P prot ρ F w g argv K := by
  unfold execBody at hK
  have hK := joinT_ok (K := K) (pr := prot.pr) (ρ0 := ρ) (F0 := F) (w0 := w) (fun n hn => by
    obtain ⟨r, hr⟩ := Option.isSome_iff_exists.1 hn
    obtain ⟨o, ho⟩ := H.look_some hr
    exact look_namesH ho) hK
  rw [Tree.holds_bind] at hK
  have hlen : args.length = argv.size := by have := ha.length; simpa using this
  refine calls_of_wp hf hb (execC_ok hm hc hx hΛ code [] _ ρ F _ w _ rfl H ?_ (Tree.holds_mono (fun r hr ρ' F' a' w' t H' G => ?_) hK))
  · have hall : All2 (SV.is ρ) (args ++ List.replicate (fn.ntmps - args.length) undefS) (argv ++ Array.replicate (fn.ntmps - argv.size) undef).toList := by
      rw [Array.toList_append, Array.toList_replicate, hlen]
      exact ha.append (All2.replicate _ _ (undefS_is ρ) _)
    refine ⟨by have := hall.length; simpa using this.symm, fun i s _ hs => ?_, rfl⟩
    obtain ⟨v, hv, hsv⟩ := hall.get i s hs
    exact ⟨v, by rw [← Array.getElem?_toList]; exact hv, hsv⟩
  · obtain ⟨e, s'⟩ := r
    have key : (resS P fn.results s'.l s'.h).holds (fun s => Ends prot.pr ρ F w K (s, gcH (namesH h) s s'.h)) → a'.defers = [] ∧ ∃ v, (results fn a'.tmps).run P w' = .ok v w' ∧ (∃ s h' v' ρ' F', K (s, h') ∧ Ending.returned v = .returned v' ∧ s.is ρ' v' ∧ HeapOk ρ' F' h' w' ∧ Goes prot.pr ρ F w ρ' F' w') := by
      intro hr
      obtain ⟨s, v, h1, h2, h3⟩ := resS_ok (fn := fn) H' t hr
      obtain ⟨ρ2, g1, g2, g3⟩ := gcH_ok H H' G h2
      obtain ⟨s2, h2', ρ3, F3, e1, e2, e3, e4⟩ := h1 ρ2 F' w' v g3 g1 g2
      exact ⟨t.defers, v, h3, s2, h2', v, ρ3, F3, e1, rfl, e2, e3, e4⟩
    cases e with
    | norm => simp only at hr; rw [Tree.holds_bind] at hr; exact key hr
    | ret => simp only at hr; rw [Tree.holds_bind] at hr; exact key hr
    | exit id => exact hr.elim

/-- Calls: by a summary, or by running the body. -/
def callF (P : Program) (Γ : SumF A) (x : Extra A) (Λ : Nat → LoopF A) (n : Nat) : Nat → CallF A
  | fuel, g, args, prot, h, nm =>
    match Γ g args prot h nm with
    | some t => t
    | none => match fuel with
      | 0 => .fail 172
      | fuel + 1 => match P.funcs[g]? with
        | none => .fail 173
        | some fn => match fn.body with
          | none => .fail 174
          | some code => execBody P (callF P Γ x Λ n fuel) x (Λ g) n fn code args prot h nm
/-- What is asked of a program, its summaries and its loops. -/
structure Ok (P : Program) (Γ : SumF A) (x : Extra A) (Λ : Nat → LoopF A) : Prop where
  mixed : P.follows .mixedOrders = true
  enter : ∀ g args prot h nm t, Γ g args prot h nm = some t → enters P g
  names : ∀ (g : Nat) (fn : Func), P.funcs[g]? = some fn → (fn.name == "runtime.NumGoroutine") = false
  sum : SumOk P Γ
  extra : ExtraOk P x
  loops : ∀ (g : Nat) (fn : Func) (code : Code), P.funcs[g]? = some fn → fn.body = some code → LoopsOk P code (Λ g)
theorem callF_ok {P : Program} {Γ : SumF A} {x : Extra A} {Λ : Nat → LoopF A} (ok : Ok P Γ x Λ) (n : Nat) : ∀ fuel, CallOk P (callF P Γ x Λ n fuel) := by
  intro fuel
  induction fuel with
  | zero =>
    intro g args prot h nm ρ F w argv K H ha hK
    unfold callF at hK
    split at hK
    · rename_i t ht; exact ⟨ok.enter _ _ _ _ _ _ ht, ok.sum _ _ _ _ _ _ _ _ _ _ _ ht H ha hK⟩
    · exact hK.elim
  | succ fuel ih =>
    intro g args prot h nm ρ F w argv K H ha hK
    unfold callF at hK
    split at hK
    · rename_i t ht; exact ⟨ok.enter _ _ _ _ _ _ ht, ok.sum _ _ _ _ _ _ _ _ _ _ _ ht H ha hK⟩
    · simp only at hK
      split at hK
      · exact hK.elim
      · rename_i fn hf
        split at hK
        · exact hK.elim
        · rename_i code hb
          exact ⟨⟨fn, hf, ok.names _ _ hf, by rw [hb]; rfl⟩, execBody_ok ok.mixed ih ok.extra hf hb (ok.loops _ _ _ hf hb) H ha hK⟩

end
end Go.Proofs.Ytafemlljemhkhaa.Sx
