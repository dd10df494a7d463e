import Derived.Test.YtafemlljemhkhaaPSxFa
namespace Go.Proofs.Ytafemlljemhkhaa.Sx
open Go
set_option linter.unusedSectionVars false
set_option linter.unusedVariables false
set_option linter.unusedSimpArgs false
def loopR (P : Program) (c : Code) (Q : Exit → Act → World → Prop) (a : Act) (w : World) : Prop :=
  ∀ (b : Frame) (k : List Item) (cs : List Frame), ∃ e a' w',Q e a' w' ∧ Arrives P (lone (b.at a (.code c :: .inLoop c :: k)) cs w) b k cs e a' w'
theorem loopR_step {P : Program} {c : Code} {Q : Exit → Act → World → Prop} {a : Act} {w : World} (h : c.wp P (Exit.then (loopR P c Q) Q) a w) : loopR P c Q a w := by
  intro b k cs
  obtain ⟨e,a₁,w₁,hq,harr⟩ := h b (.inLoop c :: k) cs
  cases e with
  | normal =>
    obtain ⟨e₂,a₂,w₂,hq₂,harr₂⟩ := hq b k cs
    exact ⟨e₂,a₂,w₂,hq₂, .of_steps (Steps.trans harr (.one step_inLoop)) harr₂⟩
  | exit id => exact ⟨_,a₁,w₁,hq, .pass (x := .inLoop c) rfl (fun _ _ => .inl (by simp)) harr⟩
  | goto l => exact ⟨_,a₁,w₁,hq, .pass (x := .inLoop c) rfl (fun _ _ => .inl (by simp)) harr⟩
  | ret => exact ⟨_,a₁,w₁,hq, .pass (x := .inLoop c) rfl (fun _ _ => .inl (by simp)) harr⟩
  | panic ch => exact ⟨_,a₁,w₁,hq, .pass (x := .inLoop c) rfl (fun _ _ => .inl (by simp)) harr⟩
  | outgrown => exact ⟨_,a₁,w₁,hq, .pass (x := .inLoop c) rfl (fun _ _ => .inl (by simp)) harr⟩
theorem loopR_wp {P : Program} {c : Code} {Q : Exit → Act → World → Prop} {a : Act} {w : World} (h : loopR P c Q a w) : (Code.loop c).wp P Q a w := by
  intro b k cs
  obtain ⟨e,a',w',hq,harr⟩ := h b k cs
  exact ⟨e,a',w',hq, .of_steps (.one step_loop) harr⟩
def contW (P : Program) (root : Code) (Q : Exit → Act → World → Prop) : List Nat → Exit → Act → World → Prop
  | [] => Q
  | k :: p => match subAt root p with
    | some (.seq _ b) => if k = 0 then Exit.then (b.wp P (contW P root Q p)) (contW P root Q p) else contW P root Q p
    | some (.cond _ _ _) => contW P root Q p
    | some (.block id _) => Exit.inBlock id (contW P root Q p)
    | some (.loop b) => Exit.then (loopR P b (contW P root Q p)) (contW P root Q p)
    | _ => fun _ _ _ => False
structure Reach (ρ0 : Rho) (F0 : Nat → Nat → Prop) (w0 : World) (ρ : Rho) (F : Nat → Nat → Prop) (w : World) : Prop where
  os : w.os = w0.os
  tape : w.tape = w0.tape
  output : w.output = w0.output
  size : w0.heap.size ≤ w.heap.size
  keep : ∀ x,x < w0.heap.size → (∀ n,Hi n → (ρ0 n).isSome → ¬ F0 n x) → w.heap[x]? = w0.heap[x]?
  foot : ∀ n x,(ρ n).isSome → F n x → w0.heap.size ≤ x ∨ ∃ m,(ρ0 m).isSome ∧ F0 m x ∧ (Hi n → Hi m)
theorem Reach.refl (ρ : Rho) (F : Nat → Nat → Prop) (w : World) : Reach ρ F w ρ F w := ⟨rfl,rfl,rfl,Nat.le_refl _,fun _ _ _ => rfl,fun n _ h hf => .inr ⟨n,h,hf,id⟩⟩
theorem Reach.goes {ρ0 ρ ρ' : Rho} {F0 F F' : Nat → Nat → Prop} {w0 w w' : World} {pr : Nat → Nat → Prop} (h : Reach ρ0 F0 w0 ρ F w) (k : Goes pr ρ F w ρ' F' w') : Reach ρ0 F0 w0 ρ' F' w' where
  os := k.os.trans h.os
  tape := k.tape.trans h.tape
  output := k.output.trans h.output
  size := Nat.le_trans h.size k.size
  keep := fun x hx hn => (k.keep x (Nat.lt_of_lt_of_le hx h.size) fun n hh hs hf => by
      rcases h.foot n x hs hf with h1 | ⟨m,hm,hf,hmh⟩
      · omega
      · exact hn m (hmh hh) hm hf).trans (h.keep x hx hn)
  foot := fun n x hs hf => by
    rcases k.foot n x hs hf with h1 | ⟨m,hm,hf,hmh⟩
    · exact .inl (Nat.le_trans h.size h1)
    · rcases h.foot m x hm hf with h1 | ⟨q, hq, hf, hqh⟩
      · exact .inl h1
      · exact .inr ⟨q,hq,hf,fun hh => hqh (hmh hh)⟩
theorem Reach.ren {ρ0 ρ ρ' : Rho} {F0 F F' : Nat → Nat → Prop} {w0 w : World} (h : Reach ρ0 F0 w0 ρ F w) (k : ∀ n x, (ρ' n).isSome → F' n x → ∃ m, (ρ m).isSome ∧ F m x ∧ (Hi n ↔ Hi m)) : Reach ρ0 F0 w0 ρ' F' w :=
  ⟨h.os, h.tape, h.output, h.size, h.keep, fun n x hs hf => by
    obtain ⟨m,hm,hfm,hh⟩ := k n x hs hf
    exact (h.foot m x hm hfm).imp id fun ⟨q,a,b,c⟩ => ⟨q,a,b,fun h => c (hh.1 h)⟩⟩
inductive RR where
  | at_ (p : List Nat) (s : SS Empty)
  | fin (s : SS Empty)
noncomputable def segC [Env] (P : Program) (c : CallF Empty) (x : Extra Empty) (B : Nat) (cut : List Nat → Bool) : Code → List Nat → SS Empty → (Ex × SS Empty → Tree RR) → Tree RR
  | .seq a b, p, s, k => segC P c x B cut a (0 :: p) s fun r => match r.1 with
    | .norm => if cut (1 :: p) = true then .leaf (.at_ (1 :: p) r.2) else segC P c x B cut b (1 :: p) r.2 k
    | e => k (e,r.2)
  | .cond o a b, p, s, k =>
    match o,ev s.l o with
    | _, .w (.one (.b (.bool (.lit true)))) => segC P c x B cut a (0 :: p) s k
    | _, .w (.one (.b (.bool (.lit false)))) => segC P c x B cut b (1 :: p) s k
    | .tmp d, .w (.one (.b (.bool e))) => .br e (segC P c x B cut a (0 :: p) { s with l := s.l.set d (.w (.one (.b (.bool (.lit true))))) } k) (segC P c x B cut b (1 :: p) { s with l := s.l.set d (.w (.one (.b (.bool (.lit false))))) } k)
    | _,_ => .fail 161
  | .block id b, p, s, k => segC P c x B cut b (0 :: p) s fun r => match r.1 with
    | .exit id' => if id' = id then k (.norm,r.2) else k (.exit id',r.2)
    | e => k (e,r.2)
  | .loop _,p,s,_ => if cut p = true then .leaf (.at_ p s) else .fail 180
  | cd,p,s,k => (execC P c x (fun _ _ _ _ => none) [] B 0 cd p s).bind k
noncomputable def contT [Env] (P : Program) (c : CallF Empty) (x : Extra Empty) (B : Nat) (cut : List Nat → Bool) (root : Code) : List Nat → Ex × SS Empty → Tree RR
  | [], r => match r.1 with
    | .exit _ => .fail 181
    | _ => .leaf (.fin r.2)
  | k :: p, r => match subAt root p with
    | some (.seq _ b) => if k = 0 then (match r.1 with
      | .norm => if cut (1 :: p) = true then .leaf (.at_ (1 :: p) r.2) else segC P c x B cut b (1 :: p) r.2 (contT P c x B cut root p)
      | e => contT P c x B cut root p (e,r.2)) else contT P c x B cut root p r
    | some (.cond _ _ _) => contT P c x B cut root p r
    | some (.block id _) => (match r.1 with
      | .exit id' => if id' = id then contT P c x B cut root p (.norm,r.2) else contT P c x B cut root p (.exit id',r.2)
      | e => contT P c x B cut root p (e,r.2))
    | some (.loop _) => (match r.1 with
      | .norm => .leaf (.at_ p r.2)
      | e => contT P c x B cut root p (e,r.2))
    | _ => .fail 182
section
variable [Env]
def RlOk (Rl : Rho → (Nat → Nat → Prop) → World → Prop) : Prop := ∀ {ρ F w ρ' F' w'} {pr : Nat → Nat → Prop},Goes pr ρ F w ρ' F' w' → Rl ρ F w → Rl ρ' F' w'
theorem Reach.rl (ρ : Rho) (F : Nat → Nat → Prop) (w : World) : RlOk (Reach ρ F w) := fun G R => R.goes G
def AtR (P : Program) (root : Code) (Q : Exit → Act → World → Prop) (p : List Nat) (a : Act) (w : World) : Prop := match subAt root p with
  | some (.loop body) => loopR P body (contW P root Q p) a w
  | some c => c.wp P (contW P root Q p) a w
  | none => False
theorem AtR_wp {P : Program} {root : Code} {Q : Exit → Act → World → Prop} {p : List Nat} {a : Act} {w : World} {c : Code} (hp : subAt root p = some c) (h : AtR P root Q p a w) : c.wp P (contW P root Q p) a w := by
  unfold AtR at h
  rw [hp] at h
  cases c
  case loop body => exact loopR_wp h
  all_goals exact h
theorem AtR_loop {P : Program} {root : Code} {Q : Exit → Act → World → Prop} {p : List Nat} {a : Act} {w : World} {body : Code} (hp : subAt root p = some (.loop body)) (h : AtR P root Q p a w) : loopR P body (contW P root Q p) a w := by
  unfold AtR at h
  rw [hp] at h
  exact h
def XR (P : Program) (root : Code) (Q : Exit → Act → World → Prop) (Rl : Rho → (Nat → Nat → Prop) → World → Prop) : RR → Prop
  | .at_ p s => ∀ ρ F a w,TmpsOk ρ [] s.l a → HeapOk ρ F s.h w → Rl ρ F w → AtR P root Q p a w
  | .fin s => ∀ ρ F a w,TmpsOk ρ [] s.l a → HeapOk ρ F s.h w → Rl ρ F w → Q .normal a w ∧ Q .ret a w
variable {P : Program} {c : CallF Empty} {x : Extra Empty} {B : Nat} {cut : List Nat → Bool} {root : Code} {Q : Exit → Act → World → Prop} {Rl : Rho → (Nat → Nat → Prop) → World → Prop}
def KOk (P : Program) (root : Code) (Q : Exit → Act → World → Prop) (Rl : Rho → (Nat → Nat → Prop) → World → Prop) (p : List Nat) (k : Ex × SS Empty → Tree RR) : Prop :=
  ∀ e s ρ F a w,(k (e,s)).holds (XR P root Q Rl) → TmpsOk ρ [] s.l a → HeapOk ρ F s.h w → Rl ρ F w → contW P root Q p e.to a w
theorem segC_ok (hR : RlOk Rl) (hm : P.follows .mixedOrders = true) (hc : CallOk P c) (hx : ExtraOk P x) :
    ∀ (code : Code) (p : List Nat) (s : SS Empty) (ρ : Rho) (F : Nat → Nat → Prop) (a : Act) (w : World) (k : Ex × SS Empty → Tree RR), subAt root p = some code → HeapOk ρ F s.h w → TmpsOk ρ [] s.l a → Rl ρ F w →
      KOk P root Q Rl p k → (segC P c x B cut code p s k).holds (XR P root Q Rl) → code.wp P (contW P root Q p) a w := by
  have base : ∀ (code : Code) (p : List Nat) (s : SS Empty) (ρ : Rho) (F : Nat → Nat → Prop) (a : Act) (w : World) (k : Ex × SS Empty → Tree RR), subAt root p = some code → HeapOk ρ F s.h w → TmpsOk ρ [] s.l a → Rl ρ F w →
      KOk P root Q Rl p k → ((execC P c x (fun _ _ _ _ => none) [] B 0 code p s).bind k).holds (XR P root Q Rl) → code.wp P (contW P root Q p) a w := by
    intro code p s ρ F a w k hp H hT R hk hK
    rw [Tree.holds_bind] at hK
    exact execC_ok hm hc hx (root := root) (Λ := fun _ _ _ _ => none) (fun _ _ _ _ _ _ _ _ _ _ _ h => by cases h) code p s ρ F a w _ hp H hT
      (Tree.holds_mono (fun r hr ρ' F' a' w' t H' G => hk r.1 r.2 ρ' F' a' w' hr t H' (hR G R)) hK)
  intro code
  induction code with
  | seq y z ihy ihz =>
    intro p s ρ F a w k hp H hT R hk hK
    simp only [segC] at hK
    have hc0 : contW P root Q (0 :: p) = Exit.then (z.wp P (contW P root Q p)) (contW P root Q p) := by simp only [contW,hp]; rfl
    have hc1 : contW P root Q (1 :: p) = contW P root Q p := by simp only [contW,hp]; rfl
    refine wp_seq ?_
    rw [← hc0]
    refine ihy (0 :: p) s ρ F a w _ (by simp [subAt,hp]) H hT R (fun e s' ρ' F' a' w' hh t H' R' => ?_) hK
    rw [hc0]
    cases e with
    | norm =>
      show z.wp P (contW P root Q p) a' w'
      rw [← hc1]
      have hp1 : subAt root (1 :: p) = some z := by simp [subAt,hp]
      simp only at hh
      split at hh
      · exact AtR_wp hp1 (hh ρ' F' a' w' t H' R')
      refine ihz (1 :: p) s' ρ' F' a' w' k hp1 H' t R' ?_ hh
      intro e2 s2 ρ2 F2 a2 w2 h2 t2 H2 R2
      rw [hc1]
      exact hk e2 s2 ρ2 F2 a2 w2 h2 t2 H2 R2
    | exit id => exact hk _ _ ρ' F' a' w' hh t H' R'
    | ret => exact hk _ _ ρ' F' a' w' hh t H' R'
  | cond o y z ihy ihz =>
    intro p s ρ F a w k hp H hT R hk hK
    have hc0 : contW P root Q (0 :: p) = contW P root Q p := by simp only [contW,hp]
    have hc1 : contW P root Q (1 :: p) = contW P root Q p := by simp only [contW,hp]
    have hk0 : KOk P root Q Rl (0 :: p) k := fun e s ρ F a w h t H R => by rw [hc0]; exact hk e s ρ F a w h t H R
    have hk1 : KOk P root Q Rl (1 :: p) k := fun e s ρ F a w h t H R => by rw [hc1]; exact hk e s ρ F a w h t H R
    simp only [segC] at hK
    have hev := ev_is hT o (fun t _ => by simp)
    split at hK
    · rename_i heq
      rw [heq] at hev
      refine wp_cond_true hev ?_
      rw [← hc0]
      exact ihy (0 :: p) s ρ F a w k (by simp [subAt,hp]) H hT R hk0 hK
    · rename_i heq
      rw [heq] at hev
      refine wp_cond_false hev ?_
      rw [← hc1]
      exact ihz (1 :: p) s ρ F a w k (by simp [subAt,hp]) H hT R hk1 hK
    · rename_i d e _ _ heq
      rw [heq] at hev
      refine wp_cond_split (t := e.val) hev (fun ht => ?_) (fun hf => ?_)
      · rw [← hc0]
        exact ihy (0 :: p) { s with l := s.l.set d (.w (.one (.b (.bool (.lit true))))) } ρ F a w k (by simp [subAt,hp]) H (hT.known heq (by simp) ht) R hk0 (hK.1 ht)
      · rw [← hc1]
        exact ihz (1 :: p) { s with l := s.l.set d (.w (.one (.b (.bool (.lit false))))) } ρ F a w k (by simp [subAt,hp]) H (hT.known heq (by simp) hf) R hk1 (hK.2 hf)
    · exact hK.elim
  | block id y ihy =>
    intro p s ρ F a w k hp H hT R hk hK
    simp only [segC] at hK
    have hc0 : contW P root Q (0 :: p) = Exit.inBlock id (contW P root Q p) := by simp only [contW,hp]
    refine wp_block ?_
    rw [← hc0]
    refine ihy (0 :: p) s ρ F a w _ (by simp [subAt,hp]) H hT R (fun e s' ρ' F' a' w' hh t H' R' => ?_) hK
    rw [hc0]
    cases e with
    | norm => exact hk _ _ ρ' F' a' w' hh t H' R'
    | ret => exact hk _ _ ρ' F' a' w' hh t H' R'
    | exit id' =>
      simp only at hh
      show Exit.inBlock id (contW P root Q p) (.exit id') a' w'
      simp only [Exit.inBlock]
      split
      · rename_i hid; rw [if_pos hid] at hh; exact hk _ _ ρ' F' a' w' hh t H' R'
      · rename_i hid; rw [if_neg hid] at hh; exact hk _ _ ρ' F' a' w' hh t H' R'
  | loop y ihy =>
    intro p s ρ F a w k hp H hT R hk hK
    simp only [segC] at hK
    split at hK
    · exact AtR_wp hp (hK ρ F a w hT H R)
    · exact hK.elim
  | skip => exact base _
  | label l => exact base _
  | region id ops draw => exact base _
  | exit id => exact base _
  | ret => exact base _
  | goto l => exact base _
  | scope b _ => exact base _
  | rangeFunc f ps as b _ _ => exact base _
  | refuse why => exact base _
theorem contT_ok (hR : RlOk Rl) (hm : P.follows .mixedOrders = true) (hc : CallOk P c) (hx : ExtraOk P x) : ∀ (p : List Nat), KOk P root Q Rl p (contT P c x B cut root p)
  | [], e, s, ρ, F, a, w, hK, hT, H, R => by
    cases e with
    | norm => exact (hK ρ F a w hT H R).1
    | ret => exact (hK ρ F a w hT H R).2
    | exit id => exact hK.elim
  | k :: p, e, s, ρ, F, a, w, hK, hT, H, R => by
    have ih := contT_ok hR hm hc hx p
    simp only [contT] at hK
    simp only [contW]
    split at hK
    · rename_i y z hp
      simp only [hp]
      by_cases h0 : k = 0
      · rw [if_pos h0] at hK ⊢
        cases e with
        | norm =>
          have hc1 : contW P root Q (1 :: p) = contW P root Q p := by simp only [contW,hp]; rfl
          show z.wp P (contW P root Q p) a w
          rw [← hc1]
          simp only at hK
          split at hK
          · exact AtR_wp (by simp [subAt,hp]) (hK ρ F a w hT H R)
          refine segC_ok hR hm hc hx z (1 :: p) s ρ F a w _ (by simp [subAt,hp]) H hT R ?_ hK
          intro e2 s2 ρ2 F2 a2 w2 h2 t2 H2 R2
          rw [hc1]
          exact ih e2 s2 ρ2 F2 a2 w2 h2 t2 H2 R2
        | exit id => exact ih _ _ ρ F a w hK hT H R
        | ret => exact ih _ _ ρ F a w hK hT H R
      · rw [if_neg h0] at hK ⊢
        exact ih _ _ ρ F a w hK hT H R
    · rename_i hp
      simp only [hp]
      exact ih _ _ ρ F a w hK hT H R
    · rename_i id y hp
      simp only [hp]
      cases e with
      | norm => exact ih _ _ ρ F a w hK hT H R
      | ret => exact ih _ _ ρ F a w hK hT H R
      | exit id' =>
        simp only at hK
        show Exit.inBlock id (contW P root Q p) (.exit id') a w
        simp only [Exit.inBlock]
        split
        · rename_i hid; rw [if_pos hid] at hK; exact ih _ _ ρ F a w hK hT H R
        · rename_i hid; rw [if_neg hid] at hK; exact ih _ _ ρ F a w hK hT H R
    · rename_i y hp
      simp only [hp]
      cases e with
      | norm =>
        exact AtR_loop hp (hK ρ F a w hT H R)
      | exit id => exact ih _ _ ρ F a w hK hT H R
      | ret => exact ih _ _ ρ F a w hK hT H R
    · exact hK.elim
end
end Go.Proofs.Ytafemlljemhkhaa.Sx
namespace Go.Proofs.Ytafemlljemhkhaa.Sx
open Go
set_option linter.unusedSectionVars false
set_option linter.unusedVariables false
set_option linter.unusedSimpArgs false
def bindA (i : Nat) (e : IE) (S : Sub) : Sub := match lkE S.a i with
  | some _ => S
  | none => ⟨(i,e) :: S.a,S.l,S.n⟩
def bindL (i : Nat) (e : IE) (S : Sub) : Sub := match lkE S.l i with
  | some _ => S
  | none => ⟨S.a,(i,e) :: S.l,S.n⟩
def bindN (n m : Nat) (S : Sub) : Sub := match lkN S.n n with
  | some _ => S
  | none => ⟨S.a,S.l,(n,m) :: S.n⟩
def mIE : IE → IE → Sub → Sub
  | .atom i,x,S => bif Nat.ble 1000 i then bindA i x S else S
  | .latom i,x,S => bif Nat.ble 1000 i then bindL i x S else S
  | .op _ _ a b, .op _ _ a' b',S => mIE b b' (mIE a a' S)
  | .conv _ a, .conv _ a',S => mIE a a' S
  | .mn a b, .mn a' b',S => mIE b b' (mIE a a' S)
  | .mx a b, .mx a' b',S => mIE b b' (mIE a a' S)
  | .at_ a b _ _, .at_ a' b' _ _,S => mIE b b' (mIE a a' S)
  | .dif a b, .dif a' b',S => mIE b b' (mIE a a' S)
  | .nat a, .nat a',S => mIE a a' S
  | .cmpI _ a b, .cmpI _ a' b',S => mIE b b' (mIE a a' S)
  | .notI a, .notI a',S => mIE a a' S
  | .andI a b, .andI a' b',S => mIE b b' (mIE a a' S)
  | .eqI a b, .eqI a' b',S => mIE b b' (mIE a a' S)
  | .eqL a b, .eqL a' b',S => mIE b b' (mIE a a' S)
  | .ite a b c, .ite a' b' c',S => mIE c c' (mIE b b' (mIE a a' S))
  | .get a b _, .get a' b' _,S => mIE b b' (mIE a a' S)
  | .len _, .len _,S => S
  | .tab _ a _, .tab _ a' _,S => mIE a a' S
  | .fn _ a, .fn _ a',S => mIE a a' S
  | .consL a b, .consL a' b',S => mIE b b' (mIE a a' S)
  | .rep a _, .rep a' _,S => mIE a a' S
  | .putL a b c, .putL a' b' c',S => mIE c c' (mIE b b' (mIE a a' S))
  | .putL a b (.consL (.atom i) .nilL),x,S => mIE a x (bif Nat.ble 1000 i then bindA i (.get x b 0) S else S)
  | .subL a b c _, .subL a' b' c' _,S => mIE c c' (mIE b b' (mIE a a' S))
  | .ofTab _ a, .ofTab _ a',S => mIE a a' S
  | .fnL _ a, .fnL _ a',S => mIE a a' S
  | .catL a b, .catL a' b',S => mIE b b' (mIE a a' S)
  | .tabL _ a _, .tabL _ a' _,S => mIE a a' S
  | _,_,S => S
def mBE : BE → BE → Sub → Sub
  | .atom i,x,S => bif Nat.ble 1000 i then bindA i x.toI S else S
  | .cmp _ a b, .cmp _ a' b',S => mIE b b' (mIE a a' S)
  | .not a, .not a',S => mBE a a' S
  | .eq a b, .eq a' b',S => mBE b b' (mBE a a' S)
  | .and a b, .and a' b',S => mBE b b' (mBE a a' S)
  | _,_,S => S
def mSB : SB → SB → Sub → Sub
  | .bool a, .bool b,S => mBE a b S
  | .int _ a, .int _ b,S => mIE a b S
  | .ptr n a, .ptr m b,S => mIE a b (bindN n m S)
  | .sl n a b c, .sl m a' b' c',S => mIE c c' (mIE b b' (mIE a a' (bindN n m S)))
  | .isl n a b, .isl m a' b',S => mIE b b' (mIE a a' (bindN n m S))
  | .isl n a b, .sl m a' b' _,S => mIE b b' (mIE a a' (bindN n m S))
  | .isl _ _ b, .nils,S => mIE b (.lit 0) S
  | .ref n, .ref m,S => bindN n m S
  | _,_,S => S
def mSBs : List SB → List SB → Sub → Sub
  | p :: ps,x :: xs,S => mSBs ps xs (mSB p x S)
  | _,_,S => S
def mSC : SC → SC → Sub → Sub
  | .b p, .b x,S => mSB p x S
  | .fn _ p q, .fn _ p' q',S => mSBs q q' (mSBs p p' S)
  | _,_,S => S
def mSCs : List SC → List SC → Sub → Sub
  | p :: ps,x :: xs,S => mSCs ps xs (mSC p x S)
  | _,_,S => S
def mSW : SW → SW → Sub → Sub
  | .one p, .one x,S => mSC p x S
  | .agg p, .agg x,S => mSCs p x S
  | _,_,S => S
def mSWs : List SW → List SW → Sub → Sub
  | p :: ps,x :: xs,S => mSWs ps xs (mSW p x S)
  | _,_,S => S
def mSVs : List SV → List SV → Sub → Sub
  | .w p :: ps, .w x :: xs,S => mSVs ps xs (mSW p x S)
  | .tup p :: ps, .tup x :: xs,S => mSVs ps xs (mSWs p x S)
  | _ :: ps,_ :: xs,S => mSVs ps xs S
  | _,_,S => S
def mSO : SO Empty → SO Empty → Sub → Sub
  | .cells _ l _, .cells _ l' _,S => mSCs l l' S
  | .row _ _ l, .row _ _ l',S => mIE l l' S
  | .tab _ o n _, .tab _ o' n' _,S => mIE n n' (mIE o o' S)
  | .mach _ l, .mach _ l',S => mIE l l' S
  | _,_,S => S
def mObjs (g h : Heap Empty) : Nat → List Nat → Sub → Sub
  | 0,_,S => S
  | n + 1, done, S =>
    match (S.n.reverse.filter fun p => !done.contains p.1) with
    | [] => S
    | (k, m) :: _ => mObjs g h n (k :: done) (match look g k, look h m with
      | some o,some x => mSO o x S
      | _,_ => S)
def matchSS (I s : SS Empty) : Sub := mObjs I.h s.h 60 [] (mSVs I.l s.l ⟨[], [], []⟩)
def valsM [Env] : List (IE × IE) → List Nat
  | [] => []
  | (b,c) :: l => (b.val - c.val).toNat :: valsM l
def Lx : List Nat → List Nat → Prop
  | _ :: _, [] => True
  | x :: n,y :: o => x < y ∨ (x = y ∧ Lx n o)
  | [],_ => False
theorem Lx_acc : ∀ (D : Nat) (l : List Nat), l.length ≤ D → Acc (fun n o => n.length ≤ D ∧ Lx n o) l
  | 0, [], _ => ⟨_, fun n hn => by cases n with
    | nil => exact hn.2.elim
    | cons x n => have := hn.1; simp at this⟩
  | 0,_ :: _,h => by simp at h
  | D + 1, l, h => by
    have key : ∀ (x : Nat) (o : List Nat), o.length ≤ D → Acc (fun n o => n.length ≤ D + 1 ∧ Lx n o) (x :: o) := by
      intro x
      induction x using Nat.strongRecOn with
      | _ x ihx =>
        intro o ho
        induction Lx_acc D o ho with
        | intro o _ iho =>
          refine ⟨_,fun n hn => ?_⟩
          cases n with
          | nil => exact hn.2.elim
          | cons y n =>
            have hlen : n.length ≤ D := by have := hn.1; simpa using this
            rcases hn.2 with h1 | ⟨h1,h2⟩
            · exact ihx y h1 n hlen
            · subst h1; exact iho n ⟨hlen,h2⟩ hlen
    cases l with
    | cons x o => exact key x o (by simpa using h)
    | nil =>
      refine ⟨_,fun n hn => ?_⟩
      cases n with
      | nil => exact hn.2.elim
      | cons y n => exact key y n (by have := hn.1; simpa using this)
def decrB (fs : List BE) : List (IE × IE) → List (IE × IE) → Bool
  | [],_ :: _ => true
  | (b,c) :: o,(b',c') :: n => IE.beq b b' && ((IE.beq c c' && decrB fs o n) || (IE.beq c' (.op .add .i64 c (.lit 1)) && (knownF fs (.cmp .lss c b) && (knownF fs (.cmp .leq (.lit (-9223372036854775808)) c) && knownF fs (.cmp .leq b (.lit 9223372036854775807))))))
  | _,_ => false
theorem wrap64_small {x : Int} (h0 : -9223372036854775808 ≤ x) (h1 : x ≤ 9223372036854775807) : IntKind.i64.wrap x = x := by
  unfold IntKind.wrap
  simp only [IntKind.bits,IntKind.signed]
  by_cases h : 0 ≤ x
  · have h2 : x % (2 ^ 64 : Int) = x := Int.emod_eq_of_lt h (by omega)
    simp only [h2]
    rw [if_neg]
    simp
    omega
  · have h2 : x % (2 ^ 64 : Int) = x + 2 ^ 64 := by omega
    simp only [h2]
    rw [if_pos]
    · omega
    · simp; omega
theorem decrB_spec [Env] {fs : List BE} (hf : ∀ c ∈ fs, c.val = true) : ∀ {o n : List (IE × IE)}, decrB fs o n = true → Lx (valsM n) (valsM o)
  | [],_ :: _,_ => trivial
  | (b, c) :: o, (b', c') :: n, h => by
    simp only [decrB,Bool.and_eq_true,Bool.or_eq_true] at h
    obtain ⟨h1,h2⟩ := h
    have e1 := IE.beq_eq h1
    subst e1
    rcases h2 with ⟨h2,h3⟩ | ⟨h2,h3,h4,h5⟩
    · have e2 := IE.beq_eq h2
      subst e2
      exact .inr ⟨rfl,decrB_spec hf h3⟩
    · have e2 := IE.beq_eq h2
      subst e2
      have k1 := of_decide_eq_true (knownF_spec hf h3)
      have k2 := of_decide_eq_true (knownF_spec hf h4)
      have k3 := of_decide_eq_true (knownF_spec hf h5)
      simp only [IE.val] at k2 k3
      refine .inl ?_
      simp only [IE.val,binVal]
      rw [wrap64_small (by omega) (by omega)]
      omega
  | [], [],h => by simp only [decrB,Bool.false_eq_true] at h
  | _ :: _, [],h => by simp only [decrB,Bool.false_eq_true] at h
def subM (S : Sub) : List (IE × IE) → List (IE × IE)
  | [] => []
  | (b,c) :: l => (b.sub S,c.sub S) :: subM S l
theorem valsM_sub (E : Env) {S : Sub} (hS : S.okB = true) : ∀ (l : List (IE × IE)), @valsM E (subM S l) = @valsM (E.by S) l
  | [] => rfl
  | (b,c) :: l => by simp only [subM,valsM,(IE.sub_spec E hS b).1,(IE.sub_spec E hS c).1,valsM_sub E hS l]
theorem valsM_len [Env] : ∀ (l : List (IE × IE)), (valsM l).length = l.length
  | [] => rfl
  | _ :: l => by simp only [valsM,List.length_cons,valsM_len l]
structure Cut where
  p : List Nat
  I : SS Empty
  fs : List BE
  ms : List (IE × IE)
def eqP : List Nat → List Nat → Bool
  | [], [] => true
  | a :: l,b :: m => Nat.beq a b && eqP l m
  | _,_ => false
theorem eqP_eq : ∀ {l m : List Nat}, eqP l m = true → l = m
  | [], [],_ => rfl
  | a :: l, b :: m, h => by
    simp only [eqP,Bool.and_eq_true] at h
    rw [Nat.eq_of_beq_eq_true h.1,eqP_eq h.2]
  | [],_ :: _,h => by simp only [eqP,Bool.false_eq_true] at h
  | _ :: _, [],h => by simp only [eqP,Bool.false_eq_true] at h
def findC (p : List Nat) : List Cut → Option Cut
  | [] => none
  | c :: l => if eqP c.p p = true then some c else findC p l
abbrev Ths := List (List BE × BE)
def ThsOk (ths : Ths) : Prop := ∀ (E : Env) (t : List BE × BE),t ∈ ths → (∀ b ∈ t.1, @BE.val E b = true) → @BE.val E t.2 = true
def isLoop : Option Code → Bool
  | some _ => true
  | none => false
def cutsP (cuts : List Cut) (p : List Nat) : Bool := match findC p cuts with
  | some _ => true
  | none => false
noncomputable def segAt [Env] (P : Program) (c : CallF Empty) (x : Extra Empty) (B : Nat) (root : Code) (cuts : List Cut) (k : Cut) : Tree RR := match subAt root k.p with
  | some (.loop body) => segC P c x B (cutsP cuts) body (0 :: k.p) k.I (contT P c x B (cutsP cuts) root (0 :: k.p))
  | some b => segC P c x B (cutsP cuts) b k.p k.I (contT P c x B (cutsP cuts) root k.p)
  | none => .fail 183
theorem segAt_ok [Env] {P : Program} {c : CallF Empty} {x : Extra Empty} {B : Nat} {root : Code} {cuts : List Cut} {k : Cut} {Q : Exit → Act → World → Prop} {Rl : Rho → (Nat → Nat → Prop) → World → Prop} (hR : RlOk Rl) (hm : P.follows .mixedOrders = true) (hc : CallOk P c) (hx : ExtraOk P x)
    {ρ : Rho} {F : Nat → Nat → Prop} {a : Act} {w : World} (H : HeapOk ρ F k.I.h w) (hT : TmpsOk ρ [] k.I.l a) (R : Rl ρ F w) (h : (segAt P c x B root cuts k).holds (XR P root Q Rl)) : AtR P root Q k.p a w := by
  unfold segAt at h
  unfold AtR
  cases hs : subAt root k.p with
  | none => rw [hs] at h; exact h.elim
  | some b =>
    rw [hs] at h
    cases b
    case loop body =>
      refine loopR_step ?_
      have hW : contW P root Q (0 :: k.p) = Exit.then (loopR P body (contW P root Q k.p)) (contW P root Q k.p) := by simp only [contW,hs]
      rw [← hW]
      exact segC_ok hR hm hc hx body (0 :: k.p) k.I ρ F a w _ (by simp [subAt,hs]) H hT R (contT_ok hR hm hc hx (0 :: k.p)) h
    all_goals exact segC_ok hR hm hc hx _ k.p k.I ρ F a w _ hs H hT R (contT_ok hR hm hc hx k.p) h
noncomputable def segStart [Env] (P : Program) (c : CallF Empty) (x : Extra Empty) (B : Nat) (root : Code) (cuts : List Cut) (ntmps : Nat) (args : List SV) (h : Heap Empty) : Tree RR :=
  segC P c x B (cutsP cuts) root [] ⟨args ++ List.replicate (ntmps - args.length) undefS,h,0⟩ (contT P c x B (cutsP cuts) root [])
end Go.Proofs.Ytafemlljemhkhaa.Sx
