import Derived.Test.YtafemlljemhkhaaPSxMc
import Derived.Test.YtafemlljemhkhaaPSxMg
import Derived.LoopN
namespace Go.Proofs.Ytafemlljemhkhaa.Sx
open Go
set_option linter.unusedSectionVars false
set_option linter.unusedVariables false
set_option linter.unusedSimpArgs false
variable [Env]
section
variable {A : Type} [AbsK A]
def Tree.first {L : Type} : Tree L → Option L
  | .leaf l => some l
  | .br _ t f => match t.first with
    | some l => some l
    | none => f.first
  | .req _ t => t.first
  | _ => none
def footS (P : Program) (t : TypeId) (x : SV) : Prot :=
  match x with
  | .w (.one (.b (.ptr n (.lit j)))) => (List.range ((sizeT P t).getD 0)).map fun i => (n,some (j.toNat + i))
  | .w (.one (.b (.ptr n _))) => [(n,none)]
  | _ => []
def prepass (P : Program) (ops : Array Oper) (h0 : Heap A) : List (Nat × Md) → List SV → Prot → Prot
  | [],_,R => R
  | (i, m) :: rest, l, R =>
    match ops[i]? with
    | none => R
    | some o =>
      match m with
      | .take =>
        match pureOp P o.op l with
        | some t => prepass P ops h0 rest (setS l o.dst (t.first.getD .unk)) R
        | none =>
          match readG P o.op l h0 with
          | some t => prepass P ops h0 rest (setS l o.dst ((t.first.map (·.1)).getD .unk)) ((growNm o.op l,none) :: R)
          | none =>
          match o.op with
          | .load t a => prepass P ops h0 rest (setS l o.dst ((loadS P t (ev l a) h0).first.getD .unk)) (footS P t (ev l a) ++ R)
          | _ => prepass P ops h0 rest (setS l o.dst .unk) R
      | _ => prepass P ops h0 rest (setS l o.dst .unk) R
def dstsLt (n : Nat) : List Oper → Bool
  | [] => true
  | o :: l => (match o.dst with | some d => decide (d < n) | none => true) && dstsLt n l
theorem dstsLt_spec {n : Nat} : ∀ {l : List Oper}, dstsLt n l = true → ∀ (p : Nat) (o : Oper) (d : Nat), l[p]? = some o → o.dst = some d → d < n
  | [],_,p,o,d,h,_ => by simp at h
  | o' :: l, hd, p, o, d, h, ho => by
    simp only [dstsLt,Bool.and_eq_true] at hd
    cases p with
    | zero => simp at h; subst h; have := hd.1; rw [ho] at this; simpa using this
    | succ p => simp at h; exact dstsLt_spec hd.2 p o d h ho
def takesIn (ops : Array Oper) (loads : List Nat) : List (Nat × Md) → Bool
  | [] => true
  | (i, .take) :: l => (!isLoadOp ops[i]? || loads.contains i) && takesIn ops loads l
  | _ :: l => takesIn ops loads l
theorem takesIn_spec {ops : Array Oper} {loads : List Nat} : ∀ {l : List (Nat × Md)}, takesIn ops loads l = true → ∀ i, (i, Md.take) ∈ l → isLoadOp ops[i]? = true → i ∈ loads
  | [],_,i,h,_ => by simp at h
  | (k, m) :: l, ht, i, h, hi => by
    have hrest : takesIn ops loads l = true := by cases m <;> simp only [takesIn,Bool.and_eq_true] at ht <;> first | exact ht | exact ht.2
    rcases List.mem_cons.1 h with e | e
    · cases e
      simp only [takesIn,Bool.and_eq_true,Bool.or_eq_true,Bool.not_eq_true'] at ht
      rcases ht.1 with h1 | h1
      · rw [hi] at h1; cases h1
      · simpa using h1
    · exact takesIn_spec hrest i e hi
def allTake : List (Nat × Md) → Bool
  | [] => true
  | (_, .take) :: l => allTake l
  | _ :: _ => false
def runPure (P : Program) (ops : Array Oper) (h : Heap A) : List (Nat × Md) → List SV → Tree (List SV × Heap A)
  | [],l => .leaf (l,h)
  | (i, _) :: rest, l =>
    match ops[i]? with
    | none => .fail 142
    | some o => guarded ops o l (fun l => (takeG P o.op l h).bind fun s => runPure P ops h rest (setS l o.dst s)) (fun l => runPure P ops h rest (setS l o.dst undefS))
theorem pure_ok {P : Program} {ops : Array Oper} {h : Heap A} {ρ : Rho} {F : Nat → Nat → Prop} {w : World} (H : HeapOk ρ F h w) (hns : Region.noSelect ops = true) {Q : Exit → Act → World → Prop} (hQp : ∀ ch a w, ¬ Q (.panic ch) a w) :
    ∀ (sch : List (Nat × Md)) (L : Array Bool) (l : List SV), allTake sch = true → chk P ops sch L = true → (runPure P ops h sch l).holds (fun r => ∀ a', TmpsOk ρ [] r.1 a' → HeapOk ρ F r.2 w → Q .normal a' w) →
      ∀ (a : Act) (fuel : Nat),TmpsOk ρ [] l a → unl L ≤ fuel → wpAnyN P ops Q (fun _ => true) (fun w' => w' = w) fuel L a w := by
  have hsel := Region.noSelect_spec hns
  intro sch
  induction sch with
  | nil =>
    intro L l _ hchk hK a fuel hT hfuel
    have hrd : Region.ready .any ops L = [] := by simpa [chk] using hchk
    exact wpAnyN_done hrd (hK a hT H) fuel
  | cons im rest ih =>
    obtain ⟨i,m⟩ := im
    intro L l hall hchk hK a fuel hT hfuel
    obtain ⟨oi,hoi,C⟩ := chk_cons hchk
    cases m with
    | eff => cases hall
    | alc => cases hall
    | take =>
      simp only [allTake] at hall
      simp only [runPure,hoi] at hK
      have hiu := (mem_ready.1 C.ready).1
      have hup := unl_set hiu
      obtain ⟨f,rfl⟩ : ∃ f,fuel = f + 1 := ⟨fuel - 1,by omega⟩
      obtain ⟨l',hT',hw⟩ := guarded_ok hT (fun t _ => by simp) hK
      have hfree : ∀ j oj, ops[j]? = some oj → j ≠ i → L.getD j true = false → (∀ e ∈ oj.after, Region.binds .any e = true → e.on ≠ i) → oi.apart ops oj = true := by
        intro j oj hoj hji hun hno
        exact Region.free_spec hoi (C.take rfl).1 j oj hoj hji hun hno
      have hQ' : ∀ (v : Value) (ch : List PanicEntry) (a : Act) (w : World),Q (.panic ch) (a.put oi.dst v) w → Q (.panic ch) a w := fun v ch a w hq => (hQp _ _ _ hq).elim
      have hS : ∀ (listed : Array Bool) (j : Nat) (w1 w2 : World),listed.getD i true = false → j ∈ Region.ready .any ops listed → j ≠ i → (true = true → w1 = w → w2 = w) → w1 = w → w2 = w := fun _ _ _ _ _ _ _ h1 h2 => h1 rfl h2
      rcases hw with ⟨hw,hy⟩ | ⟨hw,hy⟩
      · rw [Tree.holds_bind] at hy
        obtain ⟨s,v,g1,g2,g3⟩ := takeG_ok H hT' (fun x _ t _ => by simp) hy
        refine wpAnyN_first (S' := fun w' => w' = w) hoi hsel (hQ' v) hS f L a w hfree C.ready (.inl ⟨hw,fun w' hw' => by subst hw'; exact g3⟩) rfl ?_
        exact ih (L.setIfInBounds i true) _ hall C.rest g1 _ f (hT'.put oi.dst g2 (fun d _ => by simp)) (by omega)
      · refine wpAnyN_first (S' := fun w' => w' = w) hoi hsel (hQ' undef) hS f L a w hfree C.ready (.inr ⟨hw, rfl⟩) rfl ?_
        exact ih (L.setIfInBounds i true) _ hall C.rest hy _ f (hT'.put oi.dst (undefS_is ρ) (fun d _ => by simp)) (by omega)
def execRegion (P : Program) (c : CallF A) (x : Extra A) (prot : Prot) (ops : Array Oper) (draw : Bool) (base : Nat) (l : List SV) (h : Heap A) : Tree (List SV × Heap A) :=
  match draw with
  | false => execOps P c x prot ops base ops.toList 0 l h
  | true =>
    let init := Array.replicate ops.size false
    let sch := mkSched ops (kinds ops.toList []) ops.size init
    let loads := loadsOf ops sch
    if allTake sch then (if chk P ops sch init && Region.noSelect ops then runPure P ops h sch l else .fail 151)
    else if chk P ops sch init && Region.noSelect ops && dstsLt l.length ops.toList && takesIn ops loads sch then
      runSched P c x prot (prepass P ops h sch l []) ops base loads h sch l h
    else .fail 150
theorem execRegion_ok {P : Program} (hm : P.follows .mixedOrders = true) {c : CallF A} {x : Extra A} (hc : CallOk P c) (hx : ExtraOk P x) {prot : Prot} {id : Nat} {ops : Array Oper} {draw : Bool} {base : Nat} {l : List SV} {h : Heap A}
    {ρ : Rho} {F : Nat → Nat → Prop} {a : Act} {w : World} (H : HeapOk ρ F h w) (hT : TmpsOk ρ [] l a) {Q : Exit → Act → World → Prop}
    (hK : (execRegion P c x prot ops draw base l h).holds fun r => ∀ ρ' F' a' w',TmpsOk ρ' [] r.1 a' → HeapOk ρ' F' r.2 w' → Goes prot.pr ρ F w ρ' F' w' → Q .normal a' w') :
    (Code.region id ops draw).wp P Q a w := by
  unfold execRegion at hK
  split at hK
  · refine wp_region ?_
    have := execOps_ok (ops := ops) hc hx ops.toList 0 l h ρ F a w (fun k o hk => by simpa using hk) H hT hK
    rwa [List.range_eq_range',show ops.size = ops.toList.length by simp]
  · simp only at hK
    split at hK
    · rename_i hall
      split at hK
      · rename_i hchk
        simp only [Bool.and_eq_true] at hchk
        refine wp_mono (Q := fun e a w => e = .normal ∧ Q .normal a w) (wp_region_any hm (wpAny_of_N (need := fun _ => true) (S := fun w' => w' = { w with drawn := w.drawn + 1 }) _ _ _ _ ?_)) (fun e a w h => h.1 ▸ h.2)
        have H' := H.drawn (w.drawn + 1)
        exact pure_ok H' hchk.2 (fun ch a w hq => by cases hq.1) _ _ l hall hchk.1 (Tree.holds_mono (fun r hr a' t H2 => ⟨rfl,hr ρ F a' _ t H2 (Goes.drawn prot.pr ρ F w (w.drawn + 1))⟩) hK) a ops.size hT (by simp [unl])
      · exact hK.elim
    split at hK
    · rename_i hchk
      simp only [Bool.and_eq_true] at hchk
      obtain ⟨⟨⟨h1,h2⟩,h3⟩,h4⟩ := hchk
      generalize hR : prepass P ops h (mkSched ops (kinds ops.toList []) ops.size (Array.replicate ops.size false)) l [] = R at hK
      refine wp_mono (Q := fun e a w => e = .normal ∧ Q .normal a w) (wp_region_any hm (wpAny_of_N (need := needOf ops (loadsOf ops (mkSched ops (kinds ops.toList []) ops.size (Array.replicate ops.size false)))) (S := fun w' => (∀ n k,R.pr n k → ∀ b, ρ n = some (.blk b) → w'.cell? ⟨b,k,none⟩ = ({ w with drawn := w.drawn + 1 } : World).cell? ⟨b,k,none⟩) ∧ GrowsOk (fun n => R.names n = true) ρ h w') _ _ _ _ ?_)) (fun e a w he => he.1 ▸ he.2)
      have H' := H.drawn (w.drawn + 1)
      refine drawn_ok hc hx (F0 := F) (w0 := { w with drawn := w.drawn + 1 }) H' h2 (fun ch a w hq => by cases hq.1) (N := l.length) (fun p o d ho hd => dstsLt_spec h3 p o d (by simpa using ho) hd) (S := fun w' => (∀ n k, R.pr n k → ∀ b, ρ n = some (.blk b) → w'.cell? ⟨b, k, none⟩ = ({ w with drawn := w.drawn + 1 } : World).cell? ⟨b, k, none⟩) ∧ GrowsOk (fun n => R.names n = true) ρ h w') rfl
        _ (Array.replicate ops.size false) l h h1 (by simp) rfl (takesIn_spec h4)
        (Tree.holds_mono (fun r hr ρ' F' a' w' t H2 G => ⟨rfl,hr ρ' F' a' w' t H2 ((Goes.drawn prot.pr ρ F w (w.drawn + 1)).trans G)⟩) hK)
        [] (fun _ => 0) ρ F a _ ops.size (Array.replicate ops.size false) ?_ rfl (fun j d => by simp) (fun p hp => by simp at hp) (by simp [unl])
      exact ⟨by simpa [dstsOf] using hT,H',Goes.refl _ _ _ _,fun _ => ⟨fun _ _ _ _ _ => rfl,H'.grows _⟩,fun p hp => by simp at hp,fun p hp => by simp at hp,fun p hp => by simp at hp⟩
    · exact hK.elim
inductive Ex where
  | norm | exit (id : Nat) | ret
def Ex.to : Ex → Exit
  | .norm => .normal
  | .exit id => .exit id
  | .ret => .ret
structure SS (A : Type) where
  l : List SV
  h : Heap A
  ctr : Nat
def subAt (c : Code) : List Nat → Option Code
  | [] => some c
  | k :: p => match subAt c p with
    | some (.seq a b) => if k = 0 then some a else some b
    | some (.cond _ a b) => if k = 0 then some a else some b
    | some (.block _ b) => some b
    | some (.loop b) => some b
    | _ => none
abbrev LoopF (A : Type) := Prot → List Nat → Nat → SS A → Option (Tree (Ex × SS A))
def After (prot : Prot) (ρ : Rho) (F : Nat → Nat → Prop) (w : World) (Q : Exit → Act → World → Prop) (r : Ex × SS A) : Prop :=
  ∀ ρ' F' a' w',TmpsOk ρ' [] r.2.l a' → HeapOk ρ' F' r.2.h w' → Goes prot.pr ρ F w ρ' F' w' → Q r.1.to a' w'
def LoopsOk (P : Program) (root : Code) (Λ : LoopF A) : Prop :=
  ∀ prot path B s t body (ρ : Rho) (F : Nat → Nat → Prop) (a : Act) (w : World) (Q : Exit → Act → World → Prop), Λ prot path B s = some t → subAt root path = some (.loop body) → HeapOk ρ F s.h w → TmpsOk ρ [] s.l a →
    t.holds (After prot ρ F w Q) → (Code.loop body).wp P Q a w
def loopN (f : SS A → Tree (Ex × SS A)) : Nat → SS A → Tree (Ex × SS A)
  | 0,_ => .fail 160
  | n + 1, s => (f s).bind fun r => match r.1 with
    | .norm => loopN f n r.2
    | e => .leaf (e,r.2)
def execC (P : Program) (c : CallF A) (x : Extra A) (Λ : LoopF A) (prot : Prot) (B n : Nat) : Code → List Nat → SS A → Tree (Ex × SS A)
  | .skip,_,s => .leaf (.norm,s)
  | .label _,_,s => .leaf (.norm,s)
  | .region _ ops draw,_,s => (execRegion P c x prot ops draw (B + s.ctr) s.l s.h).bind fun r => .leaf (.norm,⟨r.1,r.2,s.ctr + ops.size⟩)
  | .seq a b, p, s => (execC P c x Λ prot B n a (0 :: p) s).bind fun r => match r.1 with
    | .norm => execC P c x Λ prot B n b (1 :: p) r.2
    | e => .leaf (e,r.2)
  | .cond o a b, p, s =>
    match o,ev s.l o with
    | _, .w (.one (.b (.bool (.lit true)))) => execC P c x Λ prot B n a (0 :: p) s
    | _, .w (.one (.b (.bool (.lit false)))) => execC P c x Λ prot B n b (1 :: p) s
    | .tmp d, .w (.one (.b (.bool e))) => .br e (execC P c x Λ prot B n a (0 :: p) { s with l := s.l.set d (.w (.one (.b (.bool (.lit true))))) }) (execC P c x Λ prot B n b (1 :: p) { s with l := s.l.set d (.w (.one (.b (.bool (.lit false))))) })
    | _,_ => .fail 161
  | .block id b, p, s => (execC P c x Λ prot B n b (0 :: p) s).bind fun r => match r.1 with
    | .exit id' => if id' = id then .leaf (.norm,r.2) else .leaf (.exit id',r.2)
    | e => .leaf (e,r.2)
  | .loop b, p, s => match Λ prot p B s with
    | some t => t
    | none => loopN (execC P c x Λ prot B n b (0 :: p)) n s
  | .exit id,_,s => .leaf (.exit id,s)
  | .ret,_,s => .leaf (.ret,s)
  | _,_,_ => .fail 162
theorem loopN_ok {P : Program} {body : Code} {f : SS A → Tree (Ex × SS A)} {prot : Prot}
    (hf : ∀ (s : SS A) (ρ : Rho) (F : Nat → Nat → Prop) (a : Act) (w : World) (Q : Exit → Act → World → Prop),HeapOk ρ F s.h w → TmpsOk ρ [] s.l a → (f s).holds (After prot ρ F w Q) → body.wp P Q a w) :
    ∀ (n : Nat) (s : SS A) (ρ : Rho) (F : Nat → Nat → Prop) (a : Act) (w : World) (Q : Exit → Act → World → Prop),HeapOk ρ F s.h w → TmpsOk ρ [] s.l a → (loopN f n s).holds (After prot ρ F w Q) → Code.rounds P body Q n a w
  | 0,s, ρ,F,a,w,Q,H,hT,hK => hK.elim
  | n + 1, s, ρ, F, a, w, Q, H, hT, hK => by
    rw [rounds_succ]
    simp only [loopN] at hK
    rw [Tree.holds_bind] at hK
    refine hf s ρ F a w _ H hT (Tree.holds_mono (fun r hr ρ' F' a' w' t H' G => ?_) hK)
    obtain ⟨e,s'⟩ := r
    cases e with
    | norm =>
      exact loopN_ok hf n s' ρ' F' a' w' Q H' t (Tree.holds_mono (fun q hq ρ2 F2 a2 w2 t2 H2 G2 => hq ρ2 F2 a2 w2 t2 H2 (G.trans G2)) hr)
    | exit id => exact hr ρ' F' a' w' t H' G
    | ret => exact hr ρ' F' a' w' t H' G
theorem execC_ok {P : Program} (hm : P.follows .mixedOrders = true) {c : CallF A} {x : Extra A} {Λ : LoopF A} (hc : CallOk P c) (hx : ExtraOk P x) {root : Code} (hΛ : LoopsOk P root Λ) {prot : Prot} {B n : Nat} :
    ∀ (code : Code) (p : List Nat) (s : SS A) (ρ : Rho) (F : Nat → Nat → Prop) (a : Act) (w : World) (Q : Exit → Act → World → Prop), subAt root p = some code → HeapOk ρ F s.h w → TmpsOk ρ [] s.l a →
      (execC P c x Λ prot B n code p s).holds (After prot ρ F w Q) → code.wp P Q a w := by
  intro code
  induction code with
  | skip => intro p s ρ F a w Q _ H hT hK; exact wp_skip (hK ρ F a w hT H (Goes.refl _ _ _ _))
  | label l => intro p s ρ F a w Q _ H hT hK; exact wp_label (hK ρ F a w hT H (Goes.refl _ _ _ _))
  | region id ops draw =>
    intro p s ρ F a w Q _ H hT hK
    simp only [execC] at hK
    rw [Tree.holds_bind] at hK
    exact execRegion_ok hm hc hx H hT hK
  | seq y z ihy ihz =>
    intro p s ρ F a w Q hp H hT hK
    simp only [execC] at hK
    rw [Tree.holds_bind] at hK
    refine wp_seq (ihy (0 :: p) s ρ F a w _ (by simp [subAt,hp]) H hT (Tree.holds_mono (fun r hr ρ' F' a' w' t H' G => ?_) hK))
    obtain ⟨e,s'⟩ := r
    cases e with
    | norm => exact ihz (1 :: p) s' ρ' F' a' w' Q (by simp [subAt,hp]) H' t (Tree.holds_mono (fun q hq ρ2 F2 a2 w2 t2 H2 G2 => hq ρ2 F2 a2 w2 t2 H2 (G.trans G2)) hr)
    | exit id => exact hr ρ' F' a' w' t H' G
    | ret => exact hr ρ' F' a' w' t H' G
  | cond o y z ihy ihz =>
    intro p s ρ F a w Q hp H hT hK
    simp only [execC] at hK
    have hev := ev_is hT o (fun t _ => by simp)
    split at hK
    · rename_i heq
      rw [heq] at hev
      exact wp_cond_true hev (ihy (0 :: p) s ρ F a w Q (by simp [subAt,hp]) H hT hK)
    · rename_i heq
      rw [heq] at hev
      exact wp_cond_false hev (ihz (1 :: p) s ρ F a w Q (by simp [subAt,hp]) H hT hK)
    · rename_i d e _ _ heq
      rw [heq] at hev
      refine wp_cond_split (t := e.val) hev (fun ht => ?_) (fun hf => ?_)
      · exact ihy (0 :: p) { s with l := s.l.set d (.w (.one (.b (.bool (.lit true))))) } ρ F a w Q (by simp [subAt,hp]) H (hT.known heq (by simp) ht) (hK.1 ht)
      · exact ihz (1 :: p) { s with l := s.l.set d (.w (.one (.b (.bool (.lit false))))) } ρ F a w Q (by simp [subAt,hp]) H (hT.known heq (by simp) hf) (hK.2 hf)
    · exact hK.elim
  | block id y ihy =>
    intro p s ρ F a w Q hp H hT hK
    simp only [execC] at hK
    rw [Tree.holds_bind] at hK
    refine wp_block (ihy (0 :: p) s ρ F a w _ (by simp [subAt,hp]) H hT (Tree.holds_mono (fun r hr ρ' F' a' w' t H' G => ?_) hK))
    obtain ⟨e,s'⟩ := r
    cases e with
    | norm => exact hr ρ' F' a' w' t H' G
    | ret => exact hr ρ' F' a' w' t H' G
    | exit id' =>
      simp only at hr
      show Exit.inBlock id Q (.exit id') a' w'
      simp only [Exit.inBlock]
      split
      · rename_i hid; rw [if_pos hid] at hr; exact hr ρ' F' a' w' t H' G
      · rename_i hid; rw [if_neg hid] at hr; exact hr ρ' F' a' w' t H' G
  | loop y ihy =>
    intro p s ρ F a w Q hp H hT hK
    simp only [execC] at hK
    split at hK
    · rename_i t ht
      exact hΛ prot p B s t y ρ F a w Q ht hp H hT hK
    · exact wp_loop_rounds n (loopN_ok (fun s' ρ' F' a' w' Q' H' t' hK' => ihy (0 :: p) s' ρ' F' a' w' Q' (by simp [subAt,hp]) H' t' hK') n s ρ F a w Q H hT hK)
  | exit id => intro p s ρ F a w Q _ H hT hK; exact wp_exit (hK ρ F a w hT H (Goes.refl _ _ _ _))
  | ret => intro p s ρ F a w Q _ H hT hK; exact wp_ret (hK ρ F a w hT H (Goes.refl _ _ _ _))
  | goto l => intro p s ρ F a w Q _ H hT hK; exact hK.elim
  | scope b _ => intro p s ρ F a w Q _ H hT hK; exact hK.elim
  | rangeFunc f ps as b _ _ => intro p s ρ F a w Q _ H hT hK; exact hK.elim
  | refuse why => intro p s ρ F a w Q _ H hT hK; exact hK.elim
def resOne (P : Program) (l : List SV) (h : Heap A) : ResultVar → Tree SV
  | .tmp t => .leaf (l.getD t undefS)
  | .cell a t => loadS P t (l.getD a undefS) h
def resList (P : Program) (l : List SV) (h : Heap A) : List ResultVar → Tree (List SV)
  | [] => .leaf []
  | r :: rs => (resOne P l h r).bind fun s => (resList P l h rs).bind fun ss => .leaf (s :: ss)
def asSWs : List SV → Option (List SW)
  | [] => some []
  | .w x :: l => match asSWs l with
    | some xs => some (x :: xs)
    | none => none
  | _ => none
theorem asSWs_is {ρ : Rho} : ∀ {l : List SV} {vs : List Value} {xs : List SW}, asSWs l = some xs → All2 (SV.is ρ) l vs → All2 (SW.is ρ) xs vs
  | [], [],xs,h,_ => by cases h; trivial
  | s :: l, v :: vs, xs, h, hl => by
    unfold asSWs at h
    split at h
    · rename_i heq; cases heq
    · rename_i x l' heq
      cases heq
      split at h
      · rename_i xs' h1
        cases h
        exact ⟨hl.1,asSWs_is h1 hl.2⟩
      · cases h
    · cases h
  | [],_ :: _,_,_,h => h.elim
  | _ :: _, [],_,_,h => h.elim
def resS (P : Program) (rs : Array ResultVar) (l : List SV) (h : Heap A) : Tree SV :=
  (resList P l h rs.toList).bind fun ss => match ss with
    | [s] => .leaf s
    | ss => match asSWs ss with
      | some xs => .leaf (.tup xs)
      | none => .fail 170
theorem getD_is {ρ : Rho} {l : List SV} {a : Act} (hT : TmpsOk ρ [] l a) (t : Nat) : (l.getD t undefS).is ρ (a.tmps.getD t undef) := ev_is hT (.tmp t) (fun t _ => by simp)
def resVal (tmps : Array Value) : ResultVar → Sem Value
  | .tmp t => pure (tmps.getD t undef)
  | .cell a t => do loadVar t (← asAddr (tmps.getD a undef))
theorem resOne_ok {P : Program} {l : List SV} {h : Heap A} {ρ : Rho} {F : Nat → Nat → Prop} {a : Act} {w : World} (H : HeapOk ρ F h w) (hT : TmpsOk ρ [] l a) {K : SV → Prop} :
    ∀ (r : ResultVar),(resOne P l h r).holds K → ∃ s v,K s ∧ s.is ρ v ∧ (resVal a.tmps r).run P w = .ok v w
  | .tmp t,hK => ⟨_,_,hK,getD_is hT t,rfl⟩
  | .cell b t, hK0 => by
    have hK : (loadS P t (l.getD b undefS) h).holds K := hK0
    obtain ⟨s,v,h1,h2,h3,_⟩ := loadS_ok H (getD_is hT b) hK
    refine ⟨s,v,h1,h2, ?_⟩
    have hx := getD_is hT b
    unfold loadS at hK
    split at hK
    · rename_i n off heq
      rw [heq] at hx
      obtain ⟨bb,_,hv⟩ := hx
      simp only [resVal,Sem.run_bind,hv,asAddr,Sem.run_pure,Result.andThen_ok]
      rw [hv] at h3
      simpa [Instr.loadAt,Instr.sureAddr] using h3
    · exact hK.elim
theorem resList_ok {P : Program} {l : List SV} {h : Heap A} {ρ : Rho} {F : Nat → Nat → Prop} {a : Act} {w : World} (H : HeapOk ρ F h w) (hT : TmpsOk ρ [] l a) :
    ∀ (rs : List ResultVar) {K : List SV → Prop},(resList P l h rs).holds K → ∃ ss vs,K ss ∧ All2 (SV.is ρ) ss vs ∧ (rs.mapM (resVal a.tmps)).run P w = .ok vs w
  | [],K,hK => ⟨[], [],hK,trivial,by simp⟩
  | r :: rs, K, hK => by
    simp only [resList] at hK
    rw [Tree.holds_bind] at hK
    obtain ⟨s,v,h1,h2,h3⟩ := resOne_ok H hT r hK
    rw [Tree.holds_bind] at h1
    obtain ⟨ss,vs,g1,g2,g3⟩ := resList_ok H hT rs h1
    exact ⟨s :: ss,v :: vs,g1,⟨h2,g2⟩,by simp [List.mapM_cons,h3,g3]⟩
theorem resS_ok {P : Program} {fn : Func} {l : List SV} {h : Heap A} {ρ : Rho} {F : Nat → Nat → Prop} {a : Act} {w : World} (H : HeapOk ρ F h w) (hT : TmpsOk ρ [] l a) {K : SV → Prop}
    (hK : (resS P fn.results l h).holds K) : ∃ s v,K s ∧ s.is ρ v ∧ (results fn a.tmps).run P w = .ok v w := by
  unfold resS at hK
  rw [Tree.holds_bind] at hK
  obtain ⟨ss,vs,h1,h2,h3⟩ := resList_ok H hT _ hK
  have hrun : (results fn a.tmps).run P w = .ok (if h : vs.toArray.size = 1 then vs.toArray[0] else .tuple vs.toArray) w := by
    show (do let vs ← fn.results.mapM (resVal a.tmps); pure (if h : vs.size = 1 then vs[0] else .tuple vs) : Sem Value).run P w = _
    rw [Array.mapM_eq_mapM_toList]
    simp [h3]
  split at h1
  · rename_i s
    cases vs with
    | nil => exact h2.elim
    | cons v vs => cases vs with
      | nil => exact ⟨_,v,h1,h2.1,by rw [hrun]; simp⟩
      | cons u us => exact h2.2.elim
  · rename_i hne
    split at h1
    · rename_i xs hxs
      have hlen := h2.length
      have hn1 : ¬ vs.toArray.size = 1 := by
        intro e
        have : ss.length = 1 := by simpa [hlen] using e
        obtain ⟨s,rfl⟩ := List.length_eq_one_iff.1 this
        exact hne s rfl
      exact ⟨_, .tuple vs.toArray,h1,⟨vs.toArray,rfl,by simpa using asSWs_is hxs h2⟩,by rw [hrun,dif_neg hn1]⟩
    · exact h1.elim
abbrev SumF (A : Type) := Nat → List SV → Prot → Heap A → Nat → Option (Tree (SV × Heap A))
def SumOk (P : Program) (Γ : SumF A) : Prop :=
  ∀ g args prot h nm t (ρ : Rho) (F : Nat → Nat → Prop) (w : World) (argv : Array Value) (K : SV × Heap A → Prop), Γ g args prot h nm = some t → HeapOk ρ F h w → All2 (SV.is ρ) args argv.toList → t.holds K →
    CallsTo P prot ρ F w g argv K
def execBody (P : Program) (c : CallF A) (x : Extra A) (Λ : LoopF A) (n : Nat) (fn : Func) (code : Code) (args : List SV) (prot : Prot) (h : Heap A) (nm : Nat) : Tree (SV × Heap A) :=
  joinT (namesH h) ((execC P c x Λ prot (nm * 65536) n code [] ⟨args ++ List.replicate (fn.ntmps - args.length) undefS, h, 0⟩).bind fun r => match r.1 with
    | .exit _ => .fail 171
    | _ => (resS P fn.results r.2.l r.2.h).bind fun s => .leaf (s,gcH (namesH h) s r.2.h))
theorem execBody_ok {P : Program} (hm : P.follows .mixedOrders = true) {c : CallF A} {x : Extra A} {Λ : LoopF A} (hc : CallOk P c) (hx : ExtraOk P x) {n g : Nat} {fn : Func} {code : Code} (hf : P.funcs[g]? = some fn) (hb : fn.body = some code) (hΛ : LoopsOk P code Λ)
    {args : List SV} {prot : Prot} {h : Heap A} {nm : Nat} {ρ : Rho} {F : Nat → Nat → Prop} {w : World} {argv : Array Value} {K : SV × Heap A → Prop} (H : HeapOk ρ F h w) (ha : All2 (SV.is ρ) args argv.toList)
    (hK : (execBody P c x Λ n fn code args prot h nm).holds K) : CallsTo P prot ρ F w g argv K := by
  unfold execBody at hK
  have hK := joinT_ok (K := K) (pr := prot.pr) (ρ0 := ρ) (F0 := F) (w0 := w) (fun n hn => by
    obtain ⟨r,hr⟩ := Option.isSome_iff_exists.1 hn
    obtain ⟨o,ho⟩ := H.look_some hr
    exact look_namesH ho) hK
  rw [Tree.holds_bind] at hK
  have hlen : args.length = argv.size := by have := ha.length; simpa using this
  refine calls_of_wp hf hb (execC_ok hm hc hx hΛ code [] _ ρ F _ w _ rfl H ?_ (Tree.holds_mono (fun r hr ρ' F' a' w' t H' G => ?_) hK))
  · have hall : All2 (SV.is ρ) (args ++ List.replicate (fn.ntmps - args.length) undefS) (argv ++ Array.replicate (fn.ntmps - argv.size) undef).toList := by
      rw [Array.toList_append,Array.toList_replicate,hlen]
      exact ha.append (All2.replicate _ _ (undefS_is ρ) _)
    refine ⟨by have := hall.length; simpa using this.symm,fun i s _ hs => ?_,rfl⟩
    obtain ⟨v,hv,hsv⟩ := hall.get i s hs
    exact ⟨v,by rw [← Array.getElem?_toList]; exact hv,hsv⟩
  · obtain ⟨e, s'⟩ := r
    have key : (resS P fn.results s'.l s'.h).holds (fun s => Ends prot.pr ρ F w K (s, gcH (namesH h) s s'.h)) → a'.defers = [] ∧ ∃ v, (results fn a'.tmps).run P w' = .ok v w' ∧ (∃ s h' v' ρ' F', K (s, h') ∧ Ending.returned v = .returned v' ∧ s.is ρ' v' ∧ HeapOk ρ' F' h' w' ∧ Goes prot.pr ρ F w ρ' F' w') := by
      intro hr
      obtain ⟨s,v,h1,h2,h3⟩ := resS_ok (fn := fn) H' t hr
      obtain ⟨ρ2,g1,g2,g3⟩ := gcH_ok H H' G h2
      obtain ⟨s2,h2', ρ3,F3,e1,e2,e3,e4⟩ := h1 ρ2 F' w' v g3 g1 g2
      exact ⟨t.defers,v,h3,s2,h2',v, ρ3,F3,e1,rfl,e2,e3,e4⟩
    cases e with
    | norm => simp only at hr; rw [Tree.holds_bind] at hr; exact key hr
    | ret => simp only at hr; rw [Tree.holds_bind] at hr; exact key hr
    | exit id => exact hr.elim
def callF (P : Program) (Γ : SumF A) (x : Extra A) (Λ : Nat → LoopF A) (n : Nat) : Nat → CallF A
  | fuel, g, args, prot, h, nm =>
    match Γ g args prot h nm with
    | some t => t
    | none => match fuel with
      | 0 => .fail 172
      | fuel + 1 => match P.funcs[g]? with
        | none => .fail 173
        | some fn => match fn.body with
          | none => .fail 174
          | some code => execBody P (callF P Γ x Λ n fuel) x (Λ g) n fn code args prot h nm
structure Ok (P : Program) (Γ : SumF A) (x : Extra A) (Λ : Nat → LoopF A) : Prop where
  mixed : P.follows .mixedOrders = true
  enter : ∀ g args prot h nm t, Γ g args prot h nm = some t → enters P g
  names : ∀ (g : Nat) (fn : Func), P.funcs[g]? = some fn → (fn.name == "runtime.NumGoroutine") = false
  sum : SumOk P Γ
  extra : ExtraOk P x
  loops : ∀ (g : Nat) (fn : Func) (code : Code),P.funcs[g]? = some fn → fn.body = some code → LoopsOk P code (Λ g)
theorem callF_ok {P : Program} {Γ : SumF A} {x : Extra A} {Λ : Nat → LoopF A} (ok : Ok P Γ x Λ) (n : Nat) : ∀ fuel, CallOk P (callF P Γ x Λ n fuel) := by
  intro fuel
  induction fuel with
  | zero =>
    intro g args prot h nm ρ F w argv K H ha hK
    unfold callF at hK
    split at hK
    · rename_i t ht; exact ⟨ok.enter _ _ _ _ _ _ ht,ok.sum _ _ _ _ _ _ _ _ _ _ _ ht H ha hK⟩
    · exact hK.elim
  | succ fuel ih =>
    intro g args prot h nm ρ F w argv K H ha hK
    unfold callF at hK
    split at hK
    · rename_i t ht; exact ⟨ok.enter _ _ _ _ _ _ ht,ok.sum _ _ _ _ _ _ _ _ _ _ _ ht H ha hK⟩
    · simp only at hK
      split at hK
      · exact hK.elim
      · rename_i fn hf
        split at hK
        · exact hK.elim
        · rename_i code hb
          exact ⟨⟨fn,hf,ok.names _ _ hf,by rw [hb]; rfl⟩,execBody_ok ok.mixed ih ok.extra hf hb (ok.loops _ _ _ hf hb) H ha hK⟩
end
end Go.Proofs.Ytafemlljemhkhaa.Sx
namespace Go.Proofs.Ytafemlljemhkhaa.Sx
open Go
set_option linter.unusedSectionVars false
set_option linter.unusedVariables false
set_option linter.unusedSimpArgs false
variable [Env]
section
variable {A : Type} [AbsK A]
theorem run_copy {P : Program} {ts : Array TypeId} {ty t0 e : TypeId} {sz : Nat} (h0 : ts[0]? = some t0) (hu : P.underlying t0 = some (.slice e)) (hsz : sizeT P e = some sz) {bd od dl dc sl sc : Nat} {a : Option Addr} {vs : List Value} {w w' : World}
    (hl : (Builtin.firstCells sz (min sl dl) (.slice a sl sc)).run P w = .ok vs.toArray w) (hst : (storeCells ⟨bd,od,none⟩ vs 0).run P w = .ok () w') :
    (Builtin.copy_ ts ty #[.slice (some ⟨bd,od,none⟩) dl dc, .slice a sl sc]).run P w = .ok (.int .i64 ((min sl dl : Nat) : Int)) w' := by
  have hmin : Nat.min sl dl = min sl dl := rfl
  simp only [Builtin.copy_,h0,List.getElem?_toArray,List.getElem?_cons_zero,List.getElem?_cons_succ,Sem.run_bind,gives_underlying hu w,Result.andThen_ok,Builtin.lenOf,Sem.run_pure,hmin,gives_sizeOf hsz w,hl,hst]
  rfl
theorem loadCells_list {P : Program} {w : World} {b o : Nat} {vs : List Value} (h : ∀ j u, vs[j]? = some u → w.cell? ⟨b, o + j, none⟩ = some u) : (loadCells ⟨b, o, none⟩ vs.length).run P w = .ok vs.toArray w := by
  have := run_loadCellsFrom (P := P) (w := w) (b := b) (o := o) vs 0 #[] (fun j u hu => by rw [Nat.zero_add]; exact h j u hu)
  simpa [loadCells] using this
def srcI (o : SO A) (off n : IE) (sz : Nat) : Option (IntKind × BE × IE) :=
  match o with
  | .row k _ l => some (k, .cmp .leq (.at_ off n sz 0) (.len l),mkSubL l off n sz)
  | .tab [.int k] o N id => if sz = 1 then some (k, .and (.cmp .eql (.nat off) (.nat o)) (.cmp .leq (.nat n) (.nat N)), .ofTab id n) else none
  | _ => none
def sliceOf : SV → Option (Nat × IE × IE)
  | .w (.one (.b (.sl n o l _))) => some (n,o,l)
  | .w (.one (.b (.isl n o l))) => some (n,o,l)
  | _ => none
theorem sliceOf_is {x : SV} {n : Nat} {o l : IE} (h : sliceOf x = some (n, o, l)) {ρ : Rho} {v : Value} (hx : x.is ρ v) :
    ∃ a c,v = .slice a l.val.toNat c ∧ (l.val.toNat = 0 ∨ ∃ b, ρ n = some (.blk b) ∧ a = some ⟨b,o.val.toNat,none⟩) := by
  unfold sliceOf at h
  split at h
  · cases h
    obtain ⟨b,hb,rfl⟩ := hx
    exact ⟨_,_,rfl, .inr ⟨b,hb,rfl⟩⟩
  · cases h
    exact hx
  · cases h
theorem row_at {ρ : Rho} {b : Nat} {F : Nat → Prop} {w : World} {e : Nat} {k : IntKind} {L : IE} (h : (SO.row (A := A) k e L).ok ρ (.blk b) F w) {o n : Nat} (hn : o + n ≤ L.lst.length) :
    ∀ j u,(((L.lst.drop o).take n).map (Value.int k))[j]? = some u → w.cell? ⟨b,o + j,none⟩ = some u := by
  rcases h with ⟨_,h,_⟩ | ⟨b',rest,hb,hblk,_⟩
  · cases h
  cases hb
  intro j u hu
  rw [List.getElem?_map,List.getElem?_take] at hu
  split at hu
  · rename_i hj
    rw [List.getElem?_drop] at hu
    rw [cell_of_block hblk,List.getElem?_toArray,List.getElem?_append_left (by simp; omega)]
    simpa using hu
  · simp at hu
theorem srcI_ok {o : SO A} {off n : IE} {sz : Nat} {k : IntKind} {c : BE} {L : IE} (h : srcI o off n sz = some (k, c, L)) (hc : c.val = true) {ρ : Rho} {r : RV} {F : Nat → Prop} {w : World} (ho : o.ok ρ r F w) :
    L.lst.length = n.val.toNat * sz ∧ ∀ b,r = .blk b → ∀ j u,(L.lst.map (Value.int k))[j]? = some u → w.cell? ⟨b,off.val.toNat + j,none⟩ = some u := by
  unfold srcI at h
  split at h
  · rename_i k' e l
    cases h
    have hc' : off.val.toNat + n.val.toNat * sz ≤ l.lst.length := by
      have := of_decide_eq_true hc
      simp only [IE.val] at this
      omega
    rw [mkSubL_lst]
    refine ⟨by rw [List.length_take,List.length_drop]; omega,fun b hb j u hu => ?_⟩
    subst hb
    exact row_at ho hc' j u hu
  · rename_i k' o' N id
    split at h
    · rename_i hsz
      cases h
      have hc2 := of_decide_eq_true (Bool.and_eq_true_iff.1 hc).2
      have hc1 := eq_of_beq (Bool.and_eq_true_iff.1 hc).1
      simp only [IE.val] at hc1 hc2
      have e1 : off.val.toNat = o'.val.toNat := by omega
      have e2 : n.val.toNat ≤ N.val.toNat := by omega
      simp only [IE.lst]
      refine ⟨by simp [hsz],fun b hb j u hu => ?_⟩
      subst hb
      rcases ho with ⟨_,ho,_⟩ | ⟨b',hb,_,_,hcell⟩
      · cases ho
      cases hb
      rw [List.map_map,List.getElem?_map] at hu
      obtain ⟨i,hi,rfl⟩ := Option.map_eq_some_iff.1 hu
      obtain ⟨hlt,rfl⟩ := List.getElem?_eq_some_iff.1 hi
      simp only [List.length_range] at hlt
      have := hcell j (by omega) 0 (.int k) rfl
      rw [show off.val.toNat + j = o'.val.toNat + j * [Col.int k].length + 0 by simp; omega]
      simpa [Col.value] using this
    · cases h
  · cases h
theorem firstCells_I {P : Program} {h : Heap A} {ρ : Rho} {F : Nat → Nat → Prop} {w : World} (H : HeapOk ρ F h w) {x : SV} {nn : Nat} {off ln n : IE} (hx : sliceOf x = some (nn, off, ln)) {v : Value} (hv : x.is ρ v) {o : SO A} (hl : look h nn = some o)
    {sz : Nat} {k : IntKind} {c : BE} {L : IE} (hs : srcI o off n sz = some (k,c,L)) (hc : c.val = true) (hn : n.val.toNat ≤ ln.val.toNat) :
    L.lst.length = n.val.toNat * sz ∧ ∃ a cp,v = .slice a ln.val.toNat cp ∧ (Builtin.firstCells sz n.val.toNat (.slice a ln.val.toNat cp)).run P w = .ok (L.lst.map (Value.int k)).toArray w := by
  obtain ⟨a,cp,rfl,ha⟩ := sliceOf_is hx hv
  obtain ⟨r,hr⟩ := H.rho_some hl
  obtain ⟨h1,h2⟩ := srcI_ok hs hc (H.obj nn o r hl hr)
  refine ⟨h1,a,cp,rfl, ?_⟩
  rcases ha with h0 | ⟨b,hb,rfl⟩
  · have hn0 : n.val.toNat = 0 := by omega
    have hL : L.lst = [] := List.length_eq_zero_iff.1 (by rw [h1,hn0,Nat.zero_mul])
    rw [hL]
    cases a with
    | none => simp [Builtin.firstCells]
    | some a => simp [Builtin.firstCells,hn0,loadCells,loadCellsFrom]
  · rw [hb] at hr; cases hr
    have := loadCells_list (P := P) (h2 b rfl)
    rw [List.length_map,h1] at this
    simpa [Builtin.firstCells] using this
def copyS (P : Program) (prot : Prot) (ts : Array TypeId) (x y : SV) (h : Heap A) : Tree (SV × Heap A) :=
  match ts[0]? with
  | none => .fail 207
  | some t0 =>
  match P.underlying t0,x,y with
  | some (.slice e), .w (.one (.b (.sl nd od ld _))), .w (.one (.b (.sl ns os ls _))) =>
    match sizeT P e,look h nd,look h ns with
    | some sz, some (.cells ed Ld td), some (.cells es Ls tl) =>
      match od,ld,os,ls with
      | .lit od, .lit ld, .lit os, .lit ls =>
        let n := min ls.toNat ld.toNat
        if od.toNat + n * sz ≤ Ld.length ∧ os.toNat + n * sz ≤ Ls.length then
          if noProt prot nd od.toNat (n * sz) then
            .leaf (.w (.one (.b (.int .i64 (.lit n)))),put h nd (.cells ed (writeL Ld od.toNat ((Ls.drop os.toNat).take (n * sz))) td))
          else .fail 200
        else .fail 201
      | _,_,_,_ => .fail 202
    | some sz, some (.row kd ed Ld), some so =>
      match srcI so os (mkMn (mkNat ls) (mkNat ld)) sz with
      | some (ks, c, L) =>
        if kd = ks ∧ prot.names nd = false then
          mkBr (.cmp .leq (.at_ od (mkMn (mkNat ls) (mkNat ld)) sz 0) (.len Ld)) (mkBr c
            (.leaf (.w (.one (.b (.int .i64 (mkMn (mkNat ls) (mkNat ld))))),put h nd (.row kd ed (mkPutL Ld od L))))
            (.fail 203)) (.fail 203)
        else .fail 204
      | none => .fail 205
    | _,_,_ => .fail 205
  | some (.slice e), .w (.one (.b (.sl nd od ld _))), .w (.one (.b (.isl ns os ls))) =>
    match sizeT P e,look h nd,look h ns with
    | some sz, some (.row kd ed Ld), some so =>
      match srcI so os (mkMn (mkNat ls) (mkNat ld)) sz with
      | some (ks, c, L) =>
        if kd = ks ∧ prot.names nd = false then
          mkBr (.cmp .leq (.at_ od (mkMn (mkNat ls) (mkNat ld)) sz 0) (.len Ld)) (mkBr c
            (.leaf (.w (.one (.b (.int .i64 (mkMn (mkNat ls) (mkNat ld))))),put h nd (.row kd ed (mkPutL Ld od L))))
            (.fail 203)) (.fail 203)
        else .fail 204
      | none => .fail 205
    | _,_,_ => .fail 205
  | _,_,_ => .fail 206
theorem cells_at {ρ : Rho} {b : Nat} {F : Nat → Prop} {w : World} {e t : Nat} {L : List SC} (h : (SO.cells (A := A) e L t).ok ρ (.blk b) F w) {o n : Nat} (hn : o + n ≤ L.length) :
    ∃ vs : List Value,vs.length = n ∧ All2 (SC.is ρ) ((L.drop o).take n) vs ∧ ∀ j u,vs[j]? = some u → w.cell? ⟨b,o + j,none⟩ = some u := by
  obtain ⟨b',vs,hb,hblk,⟨us,rest,h1,h2,h3⟩,_⟩ := h
  cases hb
  have hlen := h3.length
  refine ⟨(us.drop o).take n, ?_,(h3.drop o).take n,fun j u hu => ?_⟩
  · rw [List.length_take,List.length_drop, ← hlen]; omega
  · rw [List.getElem?_take] at hu
    split at hu
    · rename_i hj
      rw [List.getElem?_drop] at hu
      rw [cell_of_block hblk, ← Array.getElem?_toList,h1,List.getElem?_append_left (by omega)]
      exact hu
    · cases hu
theorem copy_row {P : Program} {prot : Prot} {ts : Array TypeId} {ty t0 e : TypeId} {x : SV} {h : Heap A} {ρ : Rho} {F : Nat → Nat → Prop} {w : World} (H : HeapOk ρ F h w) (ht0 : ts[0]? = some t0) (hu : P.underlying t0 = some (.slice e))
    {bd nd : Nat} {od ld cd : IE} (hbd : ρ nd = some (.blk bd)) {ns : Nat} {os ls : IE} (hsl : sliceOf x = some (ns,os,ls)) {v : Value} (hx : x.is ρ v) {sz : Nat} (hsz : sizeT P e = some sz) {kd : IntKind} {ed : Nat} {Ld : IE} (hd : look h nd = some (.row kd ed Ld))
    {so : SO A} (hs : look h ns = some so) {c : BE} {L : IE} (hsrc : srcI so os (mkMn (mkNat ls) (mkNat ld)) sz = some (kd,c,L)) (hp : prot.names nd = false) {K : SV × Heap A → Prop}
    (hK : (mkBr (.cmp .leq (.at_ od (mkMn (mkNat ls) (mkNat ld)) sz 0) (.len Ld)) (mkBr c
            (.leaf (.w (.one (.b (.int .i64 (mkMn (mkNat ls) (mkNat ld))))),put h nd (.row kd ed (mkPutL Ld od L))))
            (.fail 203)) (.fail 203)).holds K) : Ran P prot ρ F w (Builtin.copy_ ts ty #[.slice (some ⟨bd,od.val.toNat,none⟩) ld.val.toNat cd.val.toNat,v]) K := by
  have hnv : (mkMn (mkNat ls) (mkNat ld)).val = ((min ls.val.toNat ld.val.toNat : Nat) : Int) := by
    rw [mkMn_val,mkNat_val,mkNat_val]; split <;> omega
  have hnt : (mkMn (mkNat ls) (mkNat ld)).val.toNat = min ls.val.toNat ld.val.toNat := by rw [hnv]; simp
  obtain ⟨h1,h2⟩ := mkBr_holds hK
  simp only [BE.val,cmpVal,IE.val] at h1 h2
  by_cases c1 : od.val.toNat + min ls.val.toNat ld.val.toNat * sz ≤ Ld.lst.length
  · obtain ⟨h3, h4⟩ := mkBr_holds (h1 (decide_eq_true (by rw [hnt]; omega)))
    cases hc : c.val with
    | false => exact (h4 hc).elim
    | true =>
      obtain ⟨g1,a,cp,rfl,g2⟩ := firstCells_I (P := P) H hsl hx hs hsrc hc (by rw [hnt]; omega)
      rw [hnt] at g1 g2
      obtain ⟨w',r1,r2,r3⟩ := store_row (P := P) (prot := prot) hbd od.val.toNat hp L.lst _ 0 h w Ld H hd rfl (by rw [g1]; exact c1) (mkPutL Ld od L) (by rw [mkPutL_lst,Nat.add_zero])
      exact ⟨_,_, .int .i64 ((min ls.val.toNat ld.val.toNat : Nat) : Int), ρ,F,w',h3 hc,(by show _ = _; rw [hnv]),run_copy ht0 hu hsz g2 r1,r2,r3⟩
  · exact (h2 (decide_eq_false (by rw [hnt]; omega))).elim
theorem copyS_ok {P : Program} {prot : Prot} {ts : Array TypeId} {ty : TypeId} {x y : SV} {h : Heap A} {ρ : Rho} {F : Nat → Nat → Prop} {w : World} (H : HeapOk ρ F h w) {u v : Value} (hx : x.is ρ u) (hy : y.is ρ v) {K : SV × Heap A → Prop}
    (hK : (copyS P prot ts x y h).holds K) : Ran P prot ρ F w (Builtin.copy_ ts ty #[u,v]) K := by
  unfold copyS at hK
  split at hK
  · exact hK.elim
  · rename_i t0 ht0
    split at hK
    · rename_i e nd od ld cd ns os ls cs hu
      obtain ⟨bd,hbd,rfl⟩ := hx
      obtain ⟨bs,hbs,rfl⟩ := hy
      split at hK
      · rename_i sz ed Ld td es Ls tl hsz hd hs
        split at hK
        · rename_i od ld os ls
          simp only at hK
          split at hK
          · rename_i hbound
            split at hK
            · rename_i hp
              obtain ⟨vs,v1,v2,v3⟩ := cells_at (H.obj ns _ _ hs hbs) hbound.2
              have hlen : ((Ls.drop os.toNat).take (min ls.toNat ld.toNat * sz)).length = min ls.toNat ld.toNat * sz := by rw [v2.length,v1]
              obtain ⟨w',r1,r2,r3⟩ := store_cells (P := P) (prot := prot) hbd od.toNat _ vs 0 h w Ld H hd v2 (by rw [hlen]; exact hbound.1) (by rw [hlen]; exact hp)
              have hl := loadCells_list (P := P) v3
              rw [v1] at hl
              exact ⟨_,_, .int .i64 ((min ls.toNat ld.toNat : Nat) : Int), ρ,F,w',hK,rfl,run_copy (sl := ls.toNat) (dl := ld.toNat) (od := od.toNat) ht0 hu hsz (by simp only [Builtin.firstCells]; exact hl) r1,r2,r3⟩
            · exact hK.elim
          · exact hK.elim
        · exact hK.elim
      · rename_i sz kd ed Ld so hns hsz hd hs
        split at hK
        · rename_i ks c L hsrc
          split at hK
          · rename_i hkp
            obtain ⟨hk,hp⟩ := hkp
            subst hk
            exact copy_row H ht0 hu hbd rfl (show SV.is ρ (.w (.one (.b (.sl ns os ls cs)))) _ from ⟨bs,hbs,rfl⟩) hsz hd hs hsrc hp hK
          · exact hK.elim
        · exact hK.elim
      · exact hK.elim
    · rename_i e nd od ld cd ns os ls hu
      obtain ⟨bd,hbd,rfl⟩ := hx
      split at hK
      · rename_i sz kd ed Ld so hsz hd hs
        split at hK
        · rename_i ks c L hsrc
          split at hK
          · rename_i hkp
            obtain ⟨hk,hp⟩ := hkp
            subst hk
            exact copy_row H ht0 hu hbd rfl hy hsz hd hs hsrc hp hK
          · exact hK.elim
        · exact hK.elim
      · exact hK.elim
    · exact hK.elim
end
end Go.Proofs.Ytafemlljemhkhaa.Sx
namespace Go.Proofs.Ytafemlljemhkhaa.Sx
open Go
set_option linter.unusedSectionVars false
set_option linter.unusedVariables false
set_option linter.unusedSimpArgs false
variable [Env]
section
variable {A : Type} [AbsK A]
def appendS (P : Program) (ts : Array TypeId) (x y : SV) (h : Heap A) (nm : Nat) : Tree (SV × Heap A) :=
  let empty := match x with
    | .w (.one (.b .nils)) => true
    | .w (.one (.b (.sl _ _ (.lit l) (.lit c)))) => Nat.beq l.toNat 0 && Nat.beq c.toNat 0
    | _ => false
  match ts.toList,sliceOf y with
  | [t0, t1], some (ns, os, ls) =>
    match P.underlying t0,P.underlying t1,look h ns with
    | some (.slice e), some (.slice _), some so =>
      match sizeT P e,zeroT P e,bytesT P e,srcI so os ls 1 with
      | some 1, some z, some by_, some (k, c, L) =>
        if empty && freeN h nm then
          mkBr c (mkBr (.cmp .leq (.nat ls) (.lit (281474976710656 / (by_ + 1) : Nat)))
            (.leaf (.w (.one (.b (.isl nm (.lit 0) ls))),(nm, .row k e L) :: h)) (.fail 220)) (.fail 220)
        else .fail 221
      | _,_,_,_ => .fail 222
    | _,_,_ => .fail 223
  | _,_ => .fail 224
theorem run_append {P : Program} {t0 t1 ty e e' : TypeId} {sz : Nat} {i : TypeInfo} {z : Value} (ht : P.underlying t0 = some (.slice e)) (ht1 : P.underlying t1 = some (.slice e')) (hi : P.info? e = some i) (hz : i.zero = some z) (hs : i.size = sz)
    {base a : Option Addr} {sLen sCap n c : Nat} {olds news : List Value} {w : World} (hlo : (Builtin.firstCells sz sLen (.slice base sLen sCap)).run P w.drew = .ok olds.toArray w.drew)
    (hln : (Builtin.firstCells sz n (.slice a n c)).run P w.drew = .ok news.toArray w.drew) (hg : sCap < sLen + n) (h63 : ((sLen + n : Nat) : Int) ≤ 9223372036854775807) (hfit : Builtin.nextslicecap (sLen + n) sCap * i.bytes ≤ 281474976710656) :
    (Builtin.append_ #[t0, t1] ty #[.slice base sLen sCap, .slice a n c]).run P w =
      .ok (.slice (some ⟨w.heap.size, 0, none⟩) (sLen + n) (grownCap w (sLen + n) sCap e))
        (w.drew.alloc (.cells (olds.toArray ++ news.toArray ++ Builtin.zeroCells z.cells (grownCap w (sLen + n) sCap e - (sLen + n))) e)) := by
  subst hs
  have hn : ¬ (sLen + n ≤ sCap) := by omega
  have h63' : ¬ (9223372036854775807 < ((sLen : Int) + (n : Int))) := by omega
  have h48' : ¬ (281474976710656 < Builtin.nextslicecap (sLen + n) sCap * i.bytes) := by omega
  simp [Builtin.append_,run_underlying ht,run_underlying ht1,sizeOf,typeInfo,zeroValue,hi,hz,Builtin.lenOf,hn,h63',h48',Question.forced,hlo,hln,newRow,grownCap]
  congr 2
  apply Array.ext'
  simp [List.append_assoc]
theorem run_append0 {P : Program} {t0 t1 ty e e' : TypeId} (ht : P.underlying t0 = some (.slice e)) (ht1 : P.underlying t1 = some (.slice e')) {sz : Nat} (hsz : sizeT P e = some sz) {base a : Option Addr} {c : Nat} {w : World} :
    (Builtin.append_ #[t0,t1] ty #[.slice base 0 0, .slice a 0 c]).run P w = .ok (.slice base 0 0) w := by
  have hf : ∀ w : World, (Builtin.firstCells sz 0 (.slice a 0 c)).run P w = .ok #[] w := fun w => by
    cases a with
    | none => simp [Builtin.firstCells]
    | some a => simp [Builtin.firstCells,loadCells,loadCellsFrom]
  cases base with
  | none => simp [Builtin.append_,run_underlying ht,run_underlying ht1,gives_sizeOf hsz w,Builtin.lenOf,hf]
  | some b => simp [Builtin.append_,run_underlying ht,run_underlying ht1,gives_sizeOf hsz w,Builtin.lenOf,hf,storeCells]
theorem HeapOk.ghost {prot : Nat → Nat → Prop} {ρ : Rho} {F : Nat → Nat → Prop} {h : Heap A} {w : World} (H : HeapOk ρ F h w) {n : Nat} (hn : look h n = none) (hni : Hi n) (k : IntKind) (e : Nat) {l : IE} (hl0 : l.lst = []) :
    HeapOk (upd ρ n (some (.val .nilFunc))) (upd F n (fun _ => False)) ((n, .row k e l) :: h) w ∧ Goes prot ρ F w (upd ρ n (some (.val .nilFunc))) (upd F n (fun _ => False)) w := by
  have hρn : ρ n = none := by
    have := H.dom n; rw [hn] at this
    cases hr : ρ n with
    | none => rfl
    | some r => rw [hr] at this; simp at this
  have hext : Rho.Ext ρ (upd ρ n (some (.val .nilFunc))) := fun m r hm => by
    rw [upd_ne _ _ _ _ (fun e => by subst e; rw [hρn] at hm; cases hm)]; exact hm
  have hbound : ∀ m,(upd ρ n (some (.val .nilFunc)) m).isSome → m ≠ n → (ρ m).isSome := fun m hm e => by rwa [upd_ne _ _ _ _ e] at hm
  refine ⟨⟨fun m => ?_,fun m o r hm hr => ?_,fun m m' x hne hm hm' hh hx hx' => ?_,fun m o hm hw => ?_,fun m x hm hx => ?_⟩,⟨hext,rfl,rfl,rfl,Nat.le_refl _,fun _ _ _ => rfl,fun m x hm hx => ?_,fun m hm _ => ?_,fun _ _ _ _ _ => rfl⟩⟩
  · by_cases em : m = n
    · subst em; rw [upd_same]; simp [look]
    · have : (n == m) = false := by simpa using Ne.symm em
      rw [upd_ne _ _ _ _ em]; simp only [look,this,cond_false]; exact H.dom m
  · by_cases em : m = n
    · subst em
      rw [upd_same] at hr ⊢
      simp [look] at hm; subst hm; cases hr
      exact .inl ⟨hl0,rfl,fun x h => h⟩
    · have hne : (n == m) = false := by simpa using Ne.symm em
      rw [upd_ne _ _ _ _ em] at hr ⊢
      simp only [look,hne,cond_false] at hm
      exact SO.ok_frame hext (H.obj m o r hm hr) (Nat.le_refl _) fun _ _ => rfl
  · by_cases em : m = n
    · subst em; rw [upd_same] at hx; exact hx
    · by_cases em' : m' = n
      · subst em'; rw [upd_same] at hx'; exact hx'
      · rw [upd_ne _ _ _ _ em] at hx; rw [upd_ne _ _ _ _ em'] at hx'
        exact H.disj m m' x hne (hbound m hm em) (hbound m' hm' em') hh hx hx'
  · by_cases em : m = n
    · exact em ▸ hni
    · have hne : (n == m) = false := by simpa using Ne.symm em
      simp only [look,hne,cond_false] at hm
      exact H.low m o hm hw
  · by_cases em : m = n
    · subst em; rw [upd_same] at hx; exact hx.elim
    · rw [upd_ne _ _ _ _ em] at hx; exact H.size m x (hbound m hm em) hx
  · by_cases em : m = n
    · subst em; rw [upd_same] at hx; exact hx.elim
    · rw [upd_ne _ _ _ _ em] at hx; exact .inr ⟨m,hbound m hm em,hx,id⟩
  · exact upd_ne _ _ _ _ (fun em => hm (em ▸ hni))
theorem appendS_ok {P : Program} {prot : Prot} {ts : Array TypeId} {ty : TypeId} {x y : SV} {h : Heap A} {nm : Nat} {ρ : Rho} {F : Nat → Nat → Prop} {w : World} (H : HeapOk ρ F h w) {u v : Value} (hx : x.is ρ u) (hy : y.is ρ v) {K : SV × Heap A → Prop}
    (hK : (appendS P ts x y h nm).holds K) : Ran P prot ρ F w (Builtin.append_ ts ty #[u,v]) K := by
  unfold appendS at hK
  simp only at hK
  generalize hE : (match x with
    | .w (.one (.b .nils)) => true
    | .w (.one (.b (.sl _ _ (.lit l) (.lit c)))) => Nat.beq l.toNat 0 && Nat.beq c.toNat 0
    | _ => false) = empty at hK
  split at hK
  · rename_i t0 t1 ns os ls hts hsl
    obtain rfl : ts = #[t0,t1] := by cases ts; simp at hts; subst hts; rfl
    split at hK
    · rename_i e e' so hu hu1 hlook
      split at hK
      · rename_i z by_ k c L hsz hz hby hsrc
        split at hK
        · rename_i hef
          simp only [Bool.and_eq_true] at hef
          obtain ⟨hem,hfn⟩ := hef
          obtain ⟨hnone,hni⟩ := freeN_spec hfn
          have hu0 : ∃ base, u = .slice base 0 0 := by
            rw [← hE] at hem
            split at hem
            · cases hx; exact ⟨none,rfl⟩
            · rename_i n o l cp
              obtain ⟨b,_,rfl⟩ := hx
              simp only [Bool.and_eq_true,Nat.beq_eq] at hem
              refine ⟨some ⟨b,o.val.toNat,none⟩, ?_⟩
              show Value.slice _ l.toNat cp.toNat = _
              rw [hem.1,hem.2]
            · cases hem
          obtain ⟨base,rfl⟩ := hu0
          obtain ⟨h1,h2⟩ := mkBr_holds hK
          cases hc : c.val with
          | false => exact (h2 hc).elim
          | true =>
            obtain ⟨h3,h4⟩ := mkBr_holds (h1 hc)
            by_cases hlim : ls.val.toNat ≤ 281474976710656 / (by_ + 1)
            · have hK' := h3 (decide_eq_true (Int.ofNat_le.2 hlim))
              obtain ⟨g1,a,cp,rfl,g2⟩ := firstCells_I (P := P) H hsl hy hlook hsrc hc (Nat.le_refl _)
              obtain ⟨_,a',cp',hsame,g3⟩ := firstCells_I (P := P) (H.drawn (w.drawn + 1)) hsl hy hlook hsrc hc (Nat.le_refl _)
              cases hsame
              rw [Nat.mul_one] at g1
              by_cases hz0 : ls.val.toNat = 0
              · have hL : L.lst = [] := List.length_eq_zero_iff.1 (by rw [g1, hz0])
                obtain ⟨H',G⟩ := H.ghost (prot := prot.pr) hnone hni k e hL
                refine ⟨_,_, .slice base 0 0,_,_,w,hK',⟨base,0, ?_, .inl hz0⟩, ?_,H',G⟩
                · rw [hz0]
                · rw [hz0]; exact run_append0 hu hu1 hsz
              · have hb0 : (by_ + 1) * (281474976710656 / (by_ + 1)) ≤ 281474976710656 := Nat.mul_div_le _ _
                have hb1 : ls.val.toNat * by_ ≤ 281474976710656 := by
                  have e2 : ls.val.toNat * by_ ≤ (281474976710656 / (by_ + 1)) * by_ := Nat.mul_le_mul_right _ hlim
                  have e3 : (281474976710656 / (by_ + 1)) * by_ ≤ (281474976710656 / (by_ + 1)) * (by_ + 1) := Nat.mul_le_mul_left _ (Nat.le_succ _)
                  rw [Nat.mul_comm _ (by_ + 1)] at e3
                  omega
                have hb2 : ls.val.toNat ≤ 281474976710656 := Nat.le_trans hlim (Nat.div_le_self _ _)
                unfold bytesT at hby
                obtain ⟨i,hi,rfl⟩ := Option.map_eq_some_iff.1 hby
                unfold zeroT at hz
                rw [hi] at hz
                simp only at hz
                split at hz
                · rename_i zv hzv
                  have hsi : i.size = 1 := by unfold sizeT at hsz; rw [hi] at hsz; simpa using hsz
                  have hlo : (Builtin.firstCells 1 0 (.slice base 0 0)).run P w.drew = .ok ([] : List Value).toArray w.drew := by
                    cases base with
                    | none => simp [Builtin.firstCells]
                    | some b => simp [Builtin.firstCells,loadCells,loadCellsFrom]
                  have hrun := run_append (ty := ty) hu hu1 hi hzv hsi (olds := []) (news := L.lst.map (Value.int k)) (sLen := 0) (sCap := 0) (n := ls.val.toNat) hlo g3 (by omega) (by omega) (by rw [Nat.zero_add,nextslicecap_zero (by omega)]; exact hb1)
                  obtain ⟨H',G⟩ := (H.drawn (w.drawn + 1)).alloc (prot := prot.pr) hnone hni (o := .row k e L) (obj := .cells (L.lst.map (Value.int k) ++ (Builtin.zeroCells zv.cells (grownCap w (0 + ls.val.toNat) 0 e - (0 + ls.val.toNat))).toList).toArray e (0,0)) (.inr ⟨k,e,_,_,rfl,rfl⟩)
                  have hob : (([] : List Value).toArray ++ (L.lst.map (Value.int k)).toArray ++ Builtin.zeroCells zv.cells (grownCap w (0 + ls.val.toNat) 0 e - (0 + ls.val.toNat))) = (L.lst.map (Value.int k) ++ (Builtin.zeroCells zv.cells (grownCap w (0 + ls.val.toNat) 0 e - (0 + ls.val.toNat))).toList).toArray := by
                    apply Array.ext'; simp
                  rw [hob] at hrun
                  exact ⟨_,_,_,_,_,_,hK',⟨some ⟨w.heap.size,0,none⟩,grownCap w (0 + ls.val.toNat) 0 e,by rw [Nat.zero_add], .inr ⟨w.heap.size,upd_same _ _ _,rfl⟩⟩,hrun,H',(Goes.drawn prot.pr ρ F w (w.drawn + 1)).trans G⟩
                · cases hz
            · exact (h4 (decide_eq_false (fun hh => hlim (Int.ofNat_le.1 hh)))).elim
        · exact hK.elim
      · exact hK.elim
    · exact hK.elim
  · exact hK.elim
def extraS (P : Program) : Extra A := fun op l prot h nm =>
  match op with
  | .call { callee := .builtin .copy, args, argTypes } =>
    match evArgs l args with
    | [x,y] => some (copyS P prot argTypes x y h)
    | _ => none
  | .call { callee := .builtin .append, args, argTypes } =>
    match evArgs l args with
    | [x,y] => some (appendS P argTypes x y h nm)
    | _ => none
  | _ => none
theorem two_of {ρ : Rho} {x y : SV} {vs : Array Value} (h : All2 (SV.is ρ) [x, y] vs.toList) : ∃ u v, vs = #[u, v] ∧ x.is ρ u ∧ y.is ρ v := by
  obtain ⟨l⟩ := vs
  simp only at h
  match l,h with
  | [u,v],h => exact ⟨u,v,rfl,h.1,h.2.1⟩
  | [],h => exact h.elim
  | [_],h => exact h.2.elim
  | _ :: _ :: _ :: _,h => exact h.2.2.elim
theorem extraS_ok (P : Program) : ExtraOk P (extraS (A := A) P) := by
  intro o l prot h nm t ρ but F a w K ht H hT hb hK
  obtain ⟨dst,op,type,pos,after,guard⟩ := o
  simp only at ht hb
  unfold extraS at ht
  split at ht
  · rename_i args ts
    split at ht
    · rename_i x y hxy
      cases ht
      have hargs := evArgs_is hT args fun x hx => hb x (by simp [Op.operands,Call.operands,hx])
      rw [hxy] at hargs
      obtain ⟨u,v,huv,hx,hy⟩ := two_of hargs
      obtain ⟨s,h',v', ρ',F',w',k1,k2,k3,k4,k5⟩ := copyS_ok (ty := type) H hx hy hK
      refine ⟨s,h',v', ρ',F',w',k1,k2, ?_,k4,k5⟩
      simp only [execOp,resolve,Sem.run_bind,Sem.run_pure,Result.andThen_ok,Go.invoke,Go.builtin,huv,k3]
    · cases ht
  · rename_i args ts
    split at ht
    · rename_i x y hxy
      cases ht
      have hargs := evArgs_is hT args fun x hx => hb x (by simp [Op.operands,Call.operands,hx])
      rw [hxy] at hargs
      obtain ⟨u,v,huv,hx,hy⟩ := two_of hargs
      obtain ⟨s,h',v', ρ',F',w',k1,k2,k3,k4,k5⟩ := appendS_ok (ty := type) (prot := prot) H hx hy hK
      refine ⟨s,h',v', ρ',F',w',k1,k2, ?_,k4,k5⟩
      simp only [execOp,resolve,Sem.run_bind,Sem.run_pure,Result.andThen_ok,Go.invoke,Go.builtin,huv,k3]
    · cases ht
  · cases ht
end
end Go.Proofs.Ytafemlljemhkhaa.Sx
namespace Go.Proofs.Ytafemlljemhkhaa.Sx
open Go
set_option linter.unusedSectionVars false
set_option linter.unusedVariables false
set_option linter.unusedSimpArgs false
variable [Env]
def SB.ren (φ : Nat → Nat) : SB → SB
  | .ptr n o => .ptr (φ n) o
  | .sl n o l c => .sl (φ n) o l c
  | .isl n o l => .isl (φ n) o l
  | .ref n => .ref (φ n)
  | .gptr n e => .gptr (φ n) e
  | .unk => .unk
  | .bool b => .bool b
  | .int k e => .int k e
  | .nilp => .nilp
  | .nils => .nils
  | .nilf => .nilf
def SC.ren (φ : Nat → Nat) : SC → SC
  | .b x => .b (x.ren φ)
  | .fn f p q => .fn f (p.map (SB.ren φ)) (q.map (SB.ren φ))
def SW.ren (φ : Nat → Nat) : SW → SW
  | .one c => .one (c.ren φ)
  | .agg l => .agg (l.map (SC.ren φ))
def SV.ren (φ : Nat → Nat) : SV → SV
  | .unk => .unk
  | .w x => .w (x.ren φ)
  | .tup l => .tup (l.map (SW.ren φ))
def SO.ren {A : Type} (φ : Nat → Nat) : SO A → SO A
  | .cells e l t => .cells e (l.map (SC.ren φ)) t
  | .row k e l => .row k e l
  | .abs a => .abs a
  | .tab c o n id => .tab c o n id
  | .mach k l => .mach k l
section
variable {ρ σ : Rho} {φ : Nat → Nat}
theorem SB.ren_is {x : SB} (h : ∀ n ∈ x.nms, ρ n = σ (φ n)) (v : Value) : x.is ρ v ↔ (x.ren φ).is σ v := by
  cases x <;> simp only [SB.ren,SB.is,SB.nms,List.mem_singleton,forall_eq] at h ⊢ <;> rw [h]
theorem SBs.ren_is : ∀ {l : List SB} (h : ∀ n ∈ SB.nmsL l, ρ n = σ (φ n)) (vs : List Value), All2 (SB.is ρ) l vs ↔ All2 (SB.is σ) (l.map (SB.ren φ)) vs
  | [],_, [] => Iff.rfl
  | x :: l, h, v :: vs => by
    simp only [SB.nmsL,List.mem_append] at h
    simp only [List.map_cons,All2]
    rw [SB.ren_is (fun n hn => h n (.inl hn)) v,SBs.ren_is (fun n hn => h n (.inr hn)) vs]
  | [],_,_ :: _ => Iff.rfl
  | _ :: _,_, [] => Iff.rfl
theorem SC.ren_is {x : SC} (h : ∀ n ∈ x.nms, ρ n = σ (φ n)) (v : Value) : x.is ρ v ↔ (x.ren φ).is σ v := by
  cases x with
  | b y => exact SB.ren_is h v
  | fn f p q =>
    simp only [SC.nms,List.mem_append] at h
    simp only [SC.ren,SC.is]
    constructor
    · rintro ⟨vs, us, hv, h1, h2⟩
      exact ⟨vs,us,hv,(SBs.ren_is (fun n hn => h n (.inl hn)) _).1 h1,(SBs.ren_is (fun n hn => h n (.inr hn)) _).1 h2⟩
    · rintro ⟨vs, us, hv, h1, h2⟩
      exact ⟨vs,us,hv,(SBs.ren_is (fun n hn => h n (.inl hn)) _).2 h1,(SBs.ren_is (fun n hn => h n (.inr hn)) _).2 h2⟩
theorem SCs.ren_is : ∀ {l : List SC} (h : ∀ n ∈ SC.nmsL l, ρ n = σ (φ n)) (vs : List Value), All2 (SC.is ρ) l vs ↔ All2 (SC.is σ) (l.map (SC.ren φ)) vs
  | [],_, [] => Iff.rfl
  | x :: l, h, v :: vs => by
    simp only [SC.nmsL,List.mem_append] at h
    simp only [List.map_cons,All2]
    rw [SC.ren_is (fun n hn => h n (.inl hn)) v,SCs.ren_is (fun n hn => h n (.inr hn)) vs]
  | [],_,_ :: _ => Iff.rfl
  | _ :: _,_, [] => Iff.rfl
theorem SW.ren_is {x : SW} (h : ∀ n ∈ x.nms, ρ n = σ (φ n)) (v : Value) : x.is ρ v ↔ (x.ren φ).is σ v := by
  cases x with
  | one c => exact SC.ren_is h v
  | agg l =>
    simp only [SW.ren,SW.is]
    constructor
    · rintro ⟨vs,hv,h1⟩; exact ⟨vs,hv,(SCs.ren_is h _).1 h1⟩
    · rintro ⟨vs,hv,h1⟩; exact ⟨vs,hv,(SCs.ren_is h _).2 h1⟩
theorem SWs.ren_is : ∀ {l : List SW} (h : ∀ n ∈ SW.nmsL l, ρ n = σ (φ n)) (vs : List Value), All2 (SW.is ρ) l vs ↔ All2 (SW.is σ) (l.map (SW.ren φ)) vs
  | [],_, [] => Iff.rfl
  | x :: l, h, v :: vs => by
    simp only [SW.nmsL,List.mem_append] at h
    simp only [List.map_cons,All2]
    rw [SW.ren_is (fun n hn => h n (.inl hn)) v,SWs.ren_is (fun n hn => h n (.inr hn)) vs]
  | [],_,_ :: _ => Iff.rfl
  | _ :: _,_, [] => Iff.rfl
theorem SV.ren_is {x : SV} (h : ∀ n ∈ x.nms, ρ n = σ (φ n)) (v : Value) : x.is ρ v ↔ (x.ren φ).is σ v := by
  cases x with
  | unk => exact Iff.rfl
  | w x => exact SW.ren_is h v
  | tup l =>
    simp only [SV.ren,SV.is]
    constructor
    · rintro ⟨vs,hv,h1⟩; exact ⟨vs,hv,(SWs.ren_is h _).1 h1⟩
    · rintro ⟨vs,hv,h1⟩; exact ⟨vs,hv,(SWs.ren_is h _).2 h1⟩
end
def SV.nmsL : List SV → List Nat
  | [] => []
  | x :: l => x.nms ++ SV.nmsL l
theorem SVs.ren_is {ρ σ : Rho} {φ : Nat → Nat} : ∀ {l : List SV} (h : ∀ n ∈ SV.nmsL l, ρ n = σ (φ n)) (vs : List Value), All2 (SV.is ρ) l vs ↔ All2 (SV.is σ) (l.map (SV.ren φ)) vs
  | [],_, [] => Iff.rfl
  | x :: l, h, v :: vs => by
    simp only [SV.nmsL,List.mem_append] at h
    simp only [List.map_cons,All2]
    rw [SV.ren_is (fun n hn => h n (.inl hn)) v,SVs.ren_is (fun n hn => h n (.inr hn)) vs]
  | [],_,_ :: _ => Iff.rfl
  | _ :: _,_, [] => Iff.rfl
def SB.det : SB → Bool
  | .unk => false
  | .isl _ _ _ => false
  | _ => true
theorem SB.det_eq {ρ : Rho} {x : SB} (h : x.det = true) {u v : Value} (hu : x.is ρ u) (hv : x.is ρ v) : u = v := by
  cases x <;> simp only [SB.is,SB.det,Bool.false_eq_true] at h hu hv
  case ptr => obtain ⟨b,h1,rfl⟩ := hu; obtain ⟨c,h2,rfl⟩ := hv; rw [h1] at h2; cases h2; rfl
  case sl => obtain ⟨b,h1,rfl⟩ := hu; obtain ⟨c,h2,rfl⟩ := hv; rw [h1] at h2; cases h2; rfl
  case ref => obtain ⟨b,h1,rfl,_⟩ := hu; obtain ⟨c,h2,rfl,_⟩ := hv; rw [h1] at h2; cases h2; rfl
  case gptr => obtain ⟨b,o,_,_,h1,rfl⟩ := hu; obtain ⟨c,o',_,_,h2,rfl⟩ := hv; rw [h1] at h2; cases h2; rfl
  all_goals (rw [hu,hv])
def SC.det : SC → Bool
  | .b x => x.det
  | .fn _ p q => p.all SB.det && q.all SB.det
theorem SBs.det_eq {ρ : Rho} : ∀ {l : List SB} (h : l.all SB.det = true) {us vs : List Value}, All2 (SB.is ρ) l us → All2 (SB.is ρ) l vs → us = vs
  | [],_, [], [],_,_ => rfl
  | x :: l, h, u :: us, v :: vs, hu, hv => by
    simp only [List.all_cons,Bool.and_eq_true] at h
    rw [SB.det_eq h.1 hu.1 hv.1,SBs.det_eq h.2 hu.2 hv.2]
  | [],_,_ :: _,_,h,_ => h.elim
  | [],_, [],_ :: _,_,h => h.elim
  | _ :: _,_, [],_,h,_ => h.elim
  | _ :: _,_,_ :: _, [],_,h => h.elim
theorem SC.det_eq {ρ : Rho} {x : SC} (h : x.det = true) {u v : Value} (hu : x.is ρ u) (hv : x.is ρ v) : u = v := by
  cases x with
  | b y => exact SB.det_eq h hu hv
  | fn f p q =>
    simp only [SC.det,Bool.and_eq_true] at h
    obtain ⟨a,b,rfl,h1,h2⟩ := hu
    obtain ⟨c,d,rfl,h3,h4⟩ := hv
    have e1 : a = c := Array.toList_inj.1 (SBs.det_eq h.1 h1 h3)
    have e2 : b = d := Array.toList_inj.1 (SBs.det_eq h.2 h2 h4)
    rw [e1,e2]
section
variable {A : Type} [AbsK A]
def invN (ψ : Nat → Nat) (l : List Nat) (n : Nat) : Option Nat := l.find? fun k => ψ k == n
theorem invN_some {ψ : Nat → Nat} {l : List Nat} {n k : Nat} (h : invN ψ l n = some k) : k ∈ l ∧ ψ k = n :=
  ⟨List.mem_of_find?_eq_some h,by have := List.find?_some h; simpa using this⟩
theorem invN_of {ψ : Nat → Nat} {l : List Nat} (hinj : ∀ a ∈ l, ∀ b ∈ l, ψ a = ψ b → a = b) {k : Nat} (hk : k ∈ l) : invN ψ l (ψ k) = some k := by
  cases h : invN ψ l (ψ k) with
  | none => exact absurd (List.find?_eq_none.1 h k hk) (by simp)
  | some j => obtain ⟨h1,h2⟩ := invN_some h; rw [hinj j h1 k hk h2]
theorem invN_none {ψ : Nat → Nat} {l : List Nat} {n : Nat} (h : invN ψ l n = none) : ∀ k ∈ l, ψ k ≠ n := fun k hk e => by
  have := List.find?_eq_none.1 h k hk
  simp [e] at this
def merge (h : Heap A) (ψ : Nat → Nat) : Heap A → Heap A
  | [] => h
  | (k,o) :: h0 => put (merge h ψ h0) (ψ k) (o.ren ψ)
omit [AbsK A] in
theorem look_merge (h : Heap A) (ψ : Nat → Nat) : ∀ (h0 : Heap A), (∀ a ∈ namesH h0, ∀ b ∈ namesH h0, ψ a = ψ b → a = b) → ∀ n,
    look (merge h ψ h0) n = match invN ψ (namesH h0) n with | some k => (look h0 k).map (SO.ren ψ) | none => look h n
  | [],_,n => rfl
  | (k, o) :: h0, hinj, n => by
    have hinj' : ∀ a ∈ namesH h0, ∀ b ∈ namesH h0, ψ a = ψ b → a = b := fun a ha b hb => hinj a (List.mem_cons_of_mem _ ha) b (List.mem_cons_of_mem _ hb)
    simp only [merge,namesH]
    by_cases e : n = ψ k
    · subst e
      have hi : invN ψ (k :: namesH h0) (ψ k) = some k := invN_of hinj (List.mem_cons_self ..)
      rw [look_put_same,hi]
      simp [look]
    · rw [look_put_ne _ _ _ _ e, look_merge h ψ h0 hinj']
      have hne : (ψ k == n) = false := by simpa using Ne.symm e
      have : invN ψ (k :: namesH h0) n = invN ψ (namesH h0) n := by simp [invN,List.find?_cons,hne]
      rw [this]
      cases hi : invN ψ (namesH h0) n with
      | none => rfl
      | some j =>
        obtain ⟨h1,h2⟩ := invN_some hi
        have hkj : k ≠ j := fun e' => e (by rw [e',h2])
        have : (k == j) = false := by simpa using hkj
        simp only [look,this,cond_false]
omit [AbsK A] in
theorem namesH_look : ∀ {h : Heap A} {n : Nat}, n ∈ namesH h → ∃ o, look h n = some o
  | [],n,hn => by simp [namesH] at hn
  | (m, p) :: h, n, hn => by
    by_cases e : m = n
    · exact ⟨p,by simp [look,e]⟩
    · have : (m == n) = false := by simpa using e
      simp only [namesH] at hn
      rcases List.mem_cons.1 hn with h1 | h1
      · exact absurd h1.symm e
      · obtain ⟨o, ho⟩ := namesH_look h1
        exact ⟨o,by simp only [look,this,cond_false]; exact ho⟩
def closedIn (h : Heap A) (l : List Nat) : Prop := ∀ n ∈ l,n ∈ namesH h
theorem SO.ren_ok {ρ σ : Rho} {φ : Nat → Nat} {o : SO A} (h : ∀ n ∈ o.nms, ρ n = σ (φ n)) (r : RV) (F : Nat → Prop) (w : World) : o.ok ρ r F w ↔ (o.ren φ).ok σ r F w := by
  cases o with
  | cells e l t =>
    simp only [SO.ren,SO.ok]
    constructor
    · rintro ⟨b, vs, h1, h2, ⟨us, rest, h3, h4, h5⟩, h6⟩
      exact ⟨b,vs,h1,h2,⟨us,rest,h3,h4,(SCs.ren_is h _).1 h5⟩,h6⟩
    · rintro ⟨b, vs, h1, h2, ⟨us, rest, h3, h4, h5⟩, h6⟩
      exact ⟨b,vs,h1,h2,⟨us,rest,h3,h4,(SCs.ren_is h _).2 h5⟩,h6⟩
  | row k e l => exact Iff.rfl
  | abs a => exact Iff.rfl
  | tab c o n id => exact Iff.rfl
  | mach k l => exact Iff.rfl
structure LiftEnd (prot : Prot) (h h0 : Heap A) (φ : Nat → Nat) (s0 : SV) (h1 : Heap A) (ψ : Nat → Nat) : Prop where
  same : ∀ k ∈ namesH h0, ψ k = φ k
  fresh : ∀ k ∈ namesH h1,k ∉ namesH h0 → look h (ψ k) = none ∧ (Hi (ψ k) ↔ Hi k)
  inj : ∀ a ∈ namesH h1, ∀ b ∈ namesH h1, ψ a = ψ b → a = b
  closed : ∀ k o,look h1 k = some o → closedIn h1 o.nms
  closedV : closedIn h1 s0.nms
  prot : ∀ k ∈ namesH h0, ∀ j,prot.pr (φ k) j → ∃ e l t e' l' t' c,look h0 k = some (.cells e l t) ∧ look h1 k = some (.cells e' l' t') ∧ l[j]? = some c ∧ l'[j]? = some c ∧ c.det = true
theorem lift {P : Program} {prot : Prot} {g : Nat} {argv : Array Value} {h h0 : Heap A} {ρ : Rho} {F : Nat → Nat → Prop} {w : World} (H : HeapOk ρ F h w) {φ : Nat → Nat}
    (hinj : ∀ a ∈ namesH h0, ∀ b ∈ namesH h0, φ a = φ b → a = b) (hhi : ∀ k ∈ namesH h0,Hi (φ k) ↔ Hi k)
    (fit : ∀ k o,look h0 k = some o → look h (φ k) = some (o.ren φ)) (closed0 : ∀ k o,look h0 k = some o → closedIn h0 o.nms)
    {args0 : List SV} (hargs : All2 (SV.is ρ) (args0.map (SV.ren φ)) argv.toList) (hargsn : closedIn h0 (SV.nmsL args0)) {T0 : Tree (SV × Heap A)} {K : SV × Heap A → Prop}
    (run : ∀ (ρ0 : Rho) (F0 : Nat → Nat → Prop) (K0 : SV × Heap A → Prop),HeapOk ρ0 F0 h0 w → All2 (SV.is ρ0) args0 argv.toList → T0.holds K0 → CallsTo P [] ρ0 F0 w g argv K0)
    (hK : T0.holds fun r => ∃ ψ,LiftEnd prot h h0 φ r.1 r.2 ψ ∧ K (r.1.ren ψ,merge h ψ r.2)) : CallsTo P prot ρ F w g argv K := by
  let ρ0 : Rho := fun n => if n ∈ namesH h0 then ρ (φ n) else none
  let F0 : Nat → Nat → Prop := fun n => F (φ n)
  have hρ0 : ∀ n ∈ namesH h0, ρ0 n = ρ (φ n) := fun n hn => if_pos hn
  have hρ0' : ∀ n, (ρ0 n).isSome → n ∈ namesH h0 := fun n hn => by
    simp only [ρ0] at hn
    split at hn
    · assumption
    · cases hn
  have H0 : HeapOk ρ0 F0 h0 w := by
    refine ⟨fun n => ?_,fun n o r hn hr => ?_,fun n m x hne hn hm hh hx hx' => ?_,fun n o hn hw => (hhi n (look_namesH hn)).1 (H.low (φ n) _ (fit n o hn) (by cases o <;> first | rfl | cases hw)),fun n x hn hx => ?_⟩
    · by_cases hn : n ∈ namesH h0
      · rw [hρ0 n hn]
        obtain ⟨o,ho⟩ := namesH_look hn
        rw [ho, ← H.dom (φ n),fit n o ho]; rfl
      · have h1 : look h0 n = none := by
          cases hl : look h0 n with
          | none => rfl
          | some o => exact absurd (look_namesH hl) hn
        have h2 : ρ0 n = none := if_neg hn
        rw [h1,h2]; rfl
    · have hm := look_namesH hn
      rw [hρ0 n hm] at hr
      have := H.obj (φ n) _ r (fit n o hn) hr
      exact (SO.ren_ok (fun k hk => hρ0 k (closed0 n o hn k hk)) r (F (φ n)) w).2 this
    · have h1 := hρ0' n hn
      have h2 := hρ0' m hm
      rw [hρ0 n h1] at hn
      rw [hρ0 m h2] at hm
      exact H.disj (φ n) (φ m) x (fun e => hne (hinj n h1 m h2 e)) hn hm (hh.imp (hhi n h1).2 (hhi m h2).2) hx hx'
    · have h1 := hρ0' n hn
      rw [hρ0 n h1] at hn
      exact H.size (φ n) x hn hx
  have ha0 : All2 (SV.is ρ0) args0 argv.toList := (SVs.ren_is (fun n hn => hρ0 n (hargsn n hn)) _).2 hargs
  refine Calls.mono (run ρ0 F0 _ H0 ha0 hK) fun e w' he => ?_
  obtain ⟨s0,h1,v, ρ1,F1,⟨ψ,L,hKK⟩,rfl,hs,H1,G1⟩ := he
  have hdom1 : ∀ n, (ρ1 n).isSome ↔ n ∈ namesH h1 := fun n => by
    rw [← H1.dom n]
    constructor
    · intro hn; obtain ⟨o,ho⟩ := Option.isSome_iff_exists.1 hn; exact look_namesH ho
    · intro hn; obtain ⟨o,ho⟩ := namesH_look hn; rw [ho]; rfl
  have hsub : ∀ k ∈ namesH h0, k ∈ namesH h1 := fun k hk => by
    obtain ⟨o,ho⟩ := namesH_look hk
    obtain ⟨r,hr⟩ := H0.rho_some ho
    exact (hdom1 k).1 (by rw [G1.ext _ _ hr]; rfl)
  let ρ' : Rho := fun n => match invN ψ (namesH h1) n with | some k => ρ1 k | none => ρ n
  let F' : Nat → Nat → Prop := fun n => match invN ψ (namesH h1) n with | some k => F1 k | none => F n
  have hρψ : ∀ k ∈ namesH h1, ρ' (ψ k) = ρ1 k := fun k hk => by simp only [ρ',invN_of L.inj hk]
  have hFψ : ∀ k ∈ namesH h1,F' (ψ k) = F1 k := fun k hk => by simp only [F',invN_of L.inj hk]
  have hHiψ : ∀ k ∈ namesH h1, (Hi (ψ k) ↔ Hi k) := fun k hk => by
    by_cases hk0 : k ∈ namesH h0
    · rw [L.same k hk0]; exact hhi k hk0
    · exact (L.fresh k hk hk0).2
  have hcase : ∀ n, (∃ k ∈ namesH h1, n = ψ k ∧ ρ' n = ρ1 k ∧ F' n = F1 k) ∨ ((∀ k ∈ namesH h1, ψ k ≠ n) ∧ ρ' n = ρ n ∧ F' n = F n) := by
    intro n
    cases hi : invN ψ (namesH h1) n with
    | none => exact .inr ⟨invN_none hi,by simp only [ρ',hi],by simp only [F',hi]⟩
    | some k =>
      obtain ⟨hk,rfl⟩ := invN_some hi
      exact .inl ⟨k,hk,rfl,hρψ k hk,hFψ k hk⟩
  have hF1 : ∀ k ∈ namesH h1, ∀ x, F1 k x → w.heap.size ≤ x ∨ ∃ m ∈ namesH h0, F (φ m) x ∧ (Hi k → Hi m) := fun k hk x hx => by
    rcases G1.foot k x ((hdom1 k).2 hk) hx with h2 | ⟨m,hm,hmx,hmh⟩
    · exact .inl h2
    · exact .inr ⟨m,hρ0' m hm,hmx,hmh⟩
  have hout : ∀ n, (∀ k ∈ namesH h1, ψ k ≠ n) → (ρ n).isSome → ∀ x, F n x → (∀ m ∈ namesH h0, Hi m ∨ Hi n → ¬ F (φ m) x) := fun n hn hnr x hx m hm hh hmx => by
    have hne : φ m ≠ n := by rw [← L.same m hm]; exact hn m (hsub m hm)
    obtain ⟨o,ho⟩ := namesH_look hm
    obtain ⟨r,hr⟩ := H.rho_some (fit m o ho)
    exact H.disj (φ m) n x hne (by rw [hr]; rfl) hnr (hh.imp (hhi m hm).2 id) hmx hx
  have hkeep : ∀ x, x < w.heap.size → (∀ m ∈ namesH h0, Hi m → ¬ F (φ m) x) → w'.heap[x]? = w.heap[x]? := fun x hx hm =>
    G1.keep x hx fun m hh hmr => hm m (hρ0' m hmr) hh
  have hext : Rho.Ext ρ ρ' := fun n r hr => by
    rcases hcase n with ⟨k,hk,rfl,h2,_⟩ | ⟨_,h2,_⟩
    · rw [h2]
      by_cases hk0 : k ∈ namesH h0
      · refine G1.ext _ _ ?_
        rw [hρ0 k hk0, ← L.same k hk0]; exact hr
      · have := H.dom (ψ k)
        rw [(L.fresh k hk hk0).1,hr] at this
        cases this
    · rw [h2]; exact hr
  have H' : HeapOk ρ' F' (merge h ψ h1) w' := by
    refine ⟨fun n => ?_,fun n o r hn hr => ?_,fun n m x hne hn hm hh hx hx' => ?_,fun n o hn hw => ?_,fun n x hn hx => ?_⟩
    · rw [look_merge h ψ h1 L.inj]
      rcases hcase n with ⟨k,hk,rfl,h2,_⟩ | ⟨h3,h2,_⟩
      · rw [invN_of L.inj hk,h2, ← H1.dom k]; simp
      · have : invN ψ (namesH h1) n = none := by
          cases hi : invN ψ (namesH h1) n with
          | none => rfl
          | some k => exact absurd (invN_some hi).2 (h3 k (invN_some hi).1)
        rw [this,h2]; exact H.dom n
    · rw [look_merge h ψ h1 L.inj] at hn
      rcases hcase n with ⟨k,hk,rfl,h2,h3⟩ | ⟨h4,h2,h3⟩
      · rw [invN_of L.inj hk] at hn
        obtain ⟨o1,ho1,rfl⟩ := Option.map_eq_some_iff.1 hn
        rw [h2] at hr
        rw [h3]
        exact (SO.ren_ok (fun j hj => (hρψ j (L.closed k o1 ho1 j hj)).symm) r (F1 k) w').1 (H1.obj k o1 r ho1 hr)
      · have : invN ψ (namesH h1) n = none := by
          cases hi : invN ψ (namesH h1) n with
          | none => rfl
          | some k => exact absurd (invN_some hi).2 (h4 k (invN_some hi).1)
        rw [this] at hn
        rw [h2] at hr
        rw [h3]
        refine SO.ok_frame hext (H.obj n o r hn hr) G1.size fun x hx => ?_
        exact hkeep x (H.size n x (by rw [hr]; rfl) hx) (fun m hm hh => hout n h4 (by rw [hr]; rfl) x hx m hm (.inl hh))
    · rcases hcase n with ⟨k, hk, rfl, h2, h3⟩ | ⟨h4, h2, h3⟩
      · rw [h2] at hn; rw [h3] at hx
        rcases hcase m with ⟨k',hk',rfl,h2',h3'⟩ | ⟨h4',h2',h3'⟩
        · rw [h2'] at hm; rw [h3'] at hx'
          exact H1.disj k k' x (fun e => hne (by rw [e])) hn hm (hh.imp (hHiψ k hk).1 (hHiψ k' hk').1) hx hx'
        · rw [h2'] at hm; rw [h3'] at hx'
          rcases hF1 k hk x hx with h5 | ⟨q,hq,hqx,hqh⟩
          · have := H.size m x hm hx'; omega
          · exact hout m h4' hm x hx' q hq (hh.imp (fun e => hqh ((hHiψ k hk).1 e)) id) hqx
      · rw [h2] at hn; rw [h3] at hx
        rcases hcase m with ⟨k',hk',rfl,h2',h3'⟩ | ⟨h4',h2',h3'⟩
        · rw [h3'] at hx'
          rcases hF1 k' hk' x hx' with h5 | ⟨q,hq,hqx,hqh⟩
          · have := H.size n x hn hx; omega
          · exact hout n h4 hn x hx q hq (hh.symm.imp (fun e => hqh ((hHiψ k' hk').1 e)) id) hqx
        · rw [h2'] at hm; rw [h3'] at hx'
          exact H.disj n m x hne hn hm hh hx hx'
    · rw [look_merge h ψ h1 L.inj] at hn
      rcases hcase n with ⟨k,hk,rfl,_,_⟩ | ⟨h4,_,_⟩
      · rw [invN_of L.inj hk] at hn
        obtain ⟨o1,ho1,rfl⟩ := Option.map_eq_some_iff.1 hn
        exact (hHiψ k hk).2 (H1.low k o1 ho1 (by cases o1 <;> first | rfl | cases hw))
      · have : invN ψ (namesH h1) n = none := by
          cases hi : invN ψ (namesH h1) n with
          | none => rfl
          | some k => exact absurd (invN_some hi).2 (h4 k (invN_some hi).1)
        rw [this] at hn
        exact H.low n o hn hw
    · rcases hcase n with ⟨k, hk, rfl, h2, h3⟩ | ⟨h4, h2, h3⟩
      · rw [h2] at hn; rw [h3] at hx; exact H1.size k x hn hx
      · rw [h2] at hn; rw [h3] at hx; exact Nat.lt_of_lt_of_le (H.size n x hn hx) G1.size
  refine ⟨s0.ren ψ,merge h ψ h1,v, ρ',F',hKK,rfl,(SV.ren_is (fun n hn => (hρψ n (L.closedV n hn)).symm) v).1 hs,H',⟨hext,G1.os,G1.tape,G1.output,G1.size,fun x hx hn => ?_,fun n x hn hx => ?_,fun n hn hs => ?_,fun n j hp b hb => ?_⟩⟩
  · refine hkeep x hx fun m hm hh => ?_
    obtain ⟨o,ho⟩ := namesH_look hm
    obtain ⟨r,hr⟩ := H.rho_some (fit m o ho)
    exact hn (φ m) ((hhi m hm).2 hh) (by rw [hr]; rfl)
  · rcases hcase n with ⟨k, hk, rfl, h2, h3⟩ | ⟨h4, h2, h3⟩
    · rw [h3] at hx
      rcases hF1 k hk x hx with h5 | ⟨q,hq,hqx,hqh⟩
      · exact .inl h5
      · obtain ⟨o, ho⟩ := namesH_look hq
        obtain ⟨r,hr⟩ := H.rho_some (fit q o ho)
        exact .inr ⟨φ q,by rw [hr]; rfl,hqx,fun e => (hhi q hq).2 (hqh ((hHiψ k hk).1 e))⟩
    · rw [h2] at hn; rw [h3] at hx; exact .inr ⟨n,hn,hx,id⟩
  · rcases hcase n with ⟨k, hk, rfl, _, h3⟩ | ⟨_, _, h3⟩
    · by_cases hk0 : k ∈ namesH h0
      · rw [h3,G1.old k (fun e => hn ((hHiψ k hk).2 e)) (by rw [hρ0 k hk0, ← L.same k hk0]; exact hs),L.same k hk0]
      · have := H.dom (ψ k)
        rw [(L.fresh k hk hk0).1] at this
        rw [← this] at hs; cases hs
    · exact h3
  · rcases hcase n with ⟨k, hk, rfl, h2, h3⟩ | ⟨h4, h2, h3⟩
    · by_cases hk0 : k ∈ namesH h0
      · rw [L.same k hk0] at hp hb
        obtain ⟨e,l,t,e',l',t',c,g1,g2,g3,g4,g5⟩ := L.prot k hk0 j hp
        have hb0 : ρ0 k = some (.blk b) := by rw [hρ0 k hk0]; exact hb
        obtain ⟨b1,vs,q1,q2,⟨us,rest,q3,q4,q5⟩,_⟩ := H0.obj k _ _ g1 hb0
        cases q1
        obtain ⟨b2,vs',p1,p2,⟨us',rest',p3,p4,p5⟩,_⟩ := H1.obj k _ _ g2 (G1.ext _ _ hb0)
        cases p1
        obtain ⟨u,hu,hcu⟩ := q5.get j c g3
        obtain ⟨u',hu',hcu'⟩ := p5.get j c g4
        rw [cell_of_block q2, cell_of_block p2, ← Array.getElem?_toList, ← Array.getElem?_toList, q3, p3,
          List.getElem?_append_left (List.getElem?_eq_some_iff.1 hu).1,List.getElem?_append_left (List.getElem?_eq_some_iff.1 hu').1,hu,hu',SC.det_eq g5 hcu' (SC.is_mono G1.ext c u hcu)]
      · have := H.dom (ψ k)
        rw [(L.fresh k hk hk0).1,hb] at this
        cases this
    · refine cell_congr (hkeep b (H.size n b (by rw [hb]; rfl) (H.self hb)) (fun m hm hh => hout n h4 (by rw [hb]; rfl) b (H.self hb) m hm (.inl hh))) j
end
end Go.Proofs.Ytafemlljemhkhaa.Sx
