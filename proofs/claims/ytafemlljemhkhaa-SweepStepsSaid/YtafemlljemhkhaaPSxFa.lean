import Derived.Test.YtafemlljemhkhaaPSxZ
import Derived.Test.YtafemlljemhkhaaPSxT
namespace Go.Proofs.Ytafemlljemhkhaa.Sx
open Go
set_option linter.unusedSectionVars false
set_option linter.unusedVariables false
set_option linter.unusedSimpArgs false
structure Sub where
  a : List (Nat × IE)
  l : List (Nat × IE)
  n : List (Nat × Nat)
def lkE : List (Nat × IE) → Nat → Option IE
  | [],_ => none
  | (k,e) :: l,i => bif Nat.beq k i then some e else lkE l i
def lkN : List (Nat × Nat) → Nat → Option Nat
  | [],_ => none
  | (k,e) :: l,i => bif Nat.beq k i then some e else lkN l i
def IE.sub (S : Sub) : IE → IE
  | .lit n => .lit n
  | .atom i => match lkE S.a i with
    | some e => e
    | none => .atom i
  | .op o k a b => .op o k (a.sub S) (b.sub S)
  | .conv k a => .conv k (a.sub S)
  | .mn a b => .mn (a.sub S) (b.sub S)
  | .mx a b => .mx (a.sub S) (b.sub S)
  | .at_ a i s o => .at_ (a.sub S) (i.sub S) s o
  | .dif a b => .dif (a.sub S) (b.sub S)
  | .nat a => .nat (a.sub S)
  | .cmpI o a b => .cmpI o (a.sub S) (b.sub S)
  | .notI a => .notI (a.sub S)
  | .andI a b => .andI (a.sub S) (b.sub S)
  | .eqI a b => .eqI (a.sub S) (b.sub S)
  | .eqL a b => .eqL (a.sub S) (b.sub S)
  | .ite c x y => .ite (c.sub S) (x.sub S) (y.sub S)
  | .get l i o => .get (l.sub S) (i.sub S) o
  | .len l => .len (l.sub S)
  | .tab d i c => .tab d (i.sub S) c
  | .fn d a => .fn d (a.sub S)
  | .latom i => match lkE S.l i with
    | some e => e
    | none => .latom i
  | .nilL => .nilL
  | .consL x l => .consL (x.sub S) (l.sub S)
  | .rep n s => .rep (n.sub S) s
  | .putL l o s => .putL (l.sub S) (o.sub S) (s.sub S)
  | .subL l o n s => .subL (l.sub S) (o.sub S) (n.sub S) s
  | .ofTab d n => .ofTab d (n.sub S)
  | .fnL d a => .fnL d (a.sub S)
  | .catL a b => .catL (a.sub S) (b.sub S)
  | .tabL d n c => .tabL d (n.sub S) c
abbrev Env.by (E : Env) (S : Sub) : Env :=
  ⟨fun i => match lkE S.a i with
    | some e => @IE.val E e
    | none => E.i i,fun i => match lkE S.l i with
    | some e => @IE.lst E e
    | none => E.l i,E.t⟩
def numK : IE → Bool
  | .latom _ | .nilL | .consL _ _ | .rep _ _ | .putL _ _ _ | .subL _ _ _ _ | .ofTab _ _ | .fnL _ _ | .catL _ _ | .tabL _ _ _ => false
  | .ite _ x y => numK x && numK y
  | _ => true
def rowK : IE → Bool
  | .latom _ | .nilL | .consL _ _ | .rep _ _ | .putL _ _ _ | .subL _ _ _ _ | .ofTab _ _ | .fnL _ _ | .catL _ _ | .tabL _ _ _ => true
  | .ite _ x y => rowK x && rowK y
  | _ => false
theorem numK_lst (E : Env) : ∀ {x : IE}, numK x = true → @IE.lst E x = []
  | .ite c x y, h => by
    simp only [numK,Bool.and_eq_true] at h
    simp only [IE.lst,numK_lst E h.1,numK_lst E h.2,iteI]
    split <;> rfl
  | .lit _,_ | .atom _,_ | .op _ _ _ _,_ | .conv _ _,_ | .mn _ _,_ | .mx _ _,_ | .at_ _ _ _ _,_ | .dif _ _,_ | .nat _,_ | .cmpI _ _ _,_ | .notI _,_ | .andI _ _,_ | .eqI _ _,_ | .eqL _ _,_ | .get _ _ _,_ | .len _,_ | .tab _ _ _,_ | .fn _ _,_ => by simp only [IE.lst]
  | .latom _,h | .nilL,h | .consL _ _,h | .rep _ _,h | .putL _ _ _,h | .subL _ _ _ _,h | .ofTab _ _,h | .fnL _ _,h | .catL _ _,h | .tabL _ _ _,h => by simp only [numK,Bool.false_eq_true] at h
theorem rowK_val (E : Env) : ∀ {x : IE}, rowK x = true → @IE.val E x = 0
  | .ite c x y, h => by
    simp only [rowK,Bool.and_eq_true] at h
    simp only [IE.val,rowK_val E h.1,rowK_val E h.2,iteI]
    split <;> rfl
  | .latom _,_ | .nilL,_ | .consL _ _,_ | .rep _ _,_ | .putL _ _ _,_ | .subL _ _ _ _,_ | .ofTab _ _,_ | .fnL _ _,_ | .catL _ _,_ | .tabL _ _ _,_ => by simp only [IE.val]
  | .lit _,h | .atom _,h | .op _ _ _ _,h | .conv _ _,h | .mn _ _,h | .mx _ _,h | .at_ _ _ _ _,h | .dif _ _,h | .nat _,h | .cmpI _ _ _,h | .notI _,h | .andI _ _,h | .eqI _ _,h | .eqL _ _,h | .get _ _ _,h | .len _,h | .tab _ _ _,h | .fn _ _,h => by simp only [rowK,Bool.false_eq_true] at h
def allE (f : IE → Bool) : List (Nat × IE) → Bool
  | [] => true
  | (_,e) :: l => f e && allE f l
theorem allE_spec {f : IE → Bool} : ∀ {l : List (Nat × IE)} {i : Nat} {e : IE}, allE f l = true → lkE l i = some e → f e = true
  | [],i,e,_,h => by cases h
  | (k, x) :: l, i, e, ha, h => by
    simp only [allE,Bool.and_eq_true] at ha
    simp only [lkE] at h
    cases hb : Nat.beq k i with
    | true => rw [hb] at h; cases h; exact ha.1
    | false => rw [hb] at h; exact allE_spec ha.2 h
def Sub.okB (S : Sub) : Bool := allE numK S.a && allE rowK S.l
theorem by_i_some {E : Env} {S : Sub} {i : Nat} {e : IE} (h : lkE S.a i = some e) : @Env.i (E.by S) i = @IE.val E e := by
  show (match lkE S.a i with | some e => @IE.val E e | none => E.i i) = _
  rw [h]
theorem by_i_none {E : Env} {S : Sub} {i : Nat} (h : lkE S.a i = none) : @Env.i (E.by S) i = E.i i := by
  show (match lkE S.a i with | some e => @IE.val E e | none => E.i i) = _
  rw [h]
theorem by_l_some {E : Env} {S : Sub} {i : Nat} {e : IE} (h : lkE S.l i = some e) : @Env.l (E.by S) i = @IE.lst E e := by
  show (match lkE S.l i with | some e => @IE.lst E e | none => E.l i) = _
  rw [h]
theorem by_l_none {E : Env} {S : Sub} {i : Nat} (h : lkE S.l i = none) : @Env.l (E.by S) i = E.l i := by
  show (match lkE S.l i with | some e => @IE.lst E e | none => E.l i) = _
  rw [h]
theorem IE.sub_spec (E : Env) {S : Sub} (hS : S.okB = true) : ∀ (x : IE), @IE.val E (x.sub S) = @IE.val (E.by S) x ∧ @IE.lst E (x.sub S) = @IE.lst (E.by S) x := by
  simp only [Sub.okB,Bool.and_eq_true] at hS
  intro x
  induction x with
  | lit n => exact ⟨rfl,rfl⟩
  | nilL => exact ⟨rfl,rfl⟩
  | atom i =>
    simp only [IE.sub]
    cases h : lkE S.a i with
    | none => simp only [IE.val,IE.lst]; exact ⟨(by_i_none h).symm,trivial⟩
    | some e => simp only [IE.val,IE.lst]; exact ⟨(by_i_some h).symm,numK_lst E (allE_spec hS.1 h)⟩
  | latom i =>
    simp only [IE.sub]
    cases h : lkE S.l i with
    | none => simp only [IE.val,IE.lst]; exact ⟨trivial,(by_l_none h).symm⟩
    | some e => simp only [IE.val,IE.lst]; exact ⟨rowK_val E (allE_spec hS.2 h),(by_l_some h).symm⟩
  | op o k a b ia ib => simp only [IE.sub,IE.val,IE.lst,ia.1,ib.1]; exact ⟨by trivial,by trivial⟩
  | conv k a ia => simp only [IE.sub,IE.val,IE.lst,ia.1]; exact ⟨by trivial,by trivial⟩
  | mn a b ia ib => simp only [IE.sub,IE.val,IE.lst,ia.1,ib.1]; exact ⟨by trivial,by trivial⟩
  | mx a b ia ib => simp only [IE.sub,IE.val,IE.lst,ia.1,ib.1]; exact ⟨by trivial,by trivial⟩
  | at_ a b s o ia ib => simp only [IE.sub,IE.val,IE.lst,ia.1,ib.1]; exact ⟨by trivial,by trivial⟩
  | dif a b ia ib => simp only [IE.sub,IE.val,IE.lst,ia.1,ib.1]; exact ⟨by trivial,by trivial⟩
  | nat a ia => simp only [IE.sub,IE.val,IE.lst,ia.1]; exact ⟨by trivial,by trivial⟩
  | cmpI o a b ia ib => simp only [IE.sub,IE.val,IE.lst,ia.1,ib.1]; exact ⟨by trivial,by trivial⟩
  | notI a ia => simp only [IE.sub,IE.val,IE.lst,ia.1]; exact ⟨by trivial,by trivial⟩
  | andI a b ia ib => simp only [IE.sub,IE.val,IE.lst,ia.1,ib.1]; exact ⟨by trivial,by trivial⟩
  | eqI a b ia ib => simp only [IE.sub,IE.val,IE.lst,ia.1,ib.1]; exact ⟨by trivial,by trivial⟩
  | eqL a b ia ib => simp only [IE.sub,IE.val,IE.lst,ia.2,ib.2]; exact ⟨by trivial,by trivial⟩
  | ite c x y ic ix iy => simp only [IE.sub,IE.val,IE.lst,ic.1,ix.1,iy.1,ix.2,iy.2]; exact ⟨by trivial,by trivial⟩
  | get l b o il ib => simp only [IE.sub,IE.val,IE.lst,il.2,ib.1]; exact ⟨by trivial,by trivial⟩
  | len l il => simp only [IE.sub,IE.val,IE.lst,il.2]; exact ⟨by trivial,by trivial⟩
  | tab d b c ib => simp only [IE.sub,IE.val,IE.lst,ib.1]; exact ⟨by trivial,by trivial⟩
  | fn d a ia => simp only [IE.sub,IE.val,IE.lst,ia.2]; exact ⟨by trivial,by trivial⟩
  | consL x l ix il => simp only [IE.sub,IE.val,IE.lst,ix.1,il.2]; exact ⟨by trivial,by trivial⟩
  | rep n s ii => simp only [IE.sub,IE.val,IE.lst,ii.1]; exact ⟨by trivial,by trivial⟩
  | putL l o s il io is => simp only [IE.sub,IE.val,IE.lst,il.2,io.1,is.2]; exact ⟨by trivial,by trivial⟩
  | subL l o n s il io ii => simp only [IE.sub,IE.val,IE.lst,il.2,io.1,ii.1]; exact ⟨by trivial,by trivial⟩
  | ofTab d n ii => simp only [IE.sub,IE.val,IE.lst,ii.1]; exact ⟨by trivial,by trivial⟩
  | fnL d a ia => simp only [IE.sub,IE.val,IE.lst,ia.2]; exact ⟨by trivial,by trivial⟩
  | catL a b ia ib => simp only [IE.sub,IE.val,IE.lst,ia.2,ib.2]; exact ⟨by trivial,by trivial⟩
  | tabL d n c ii => simp only [IE.sub,IE.val,IE.lst,ii.1]; exact ⟨by trivial,by trivial⟩
def BE.sub (S : Sub) : BE → BE
  | .lit b => .lit b
  | .atom i => match lkE S.a i with
    | some e => .cmp .neq e (.lit 0)
    | none => .atom i
  | .cmp o a b => .cmp o (a.sub S) (b.sub S)
  | .not a => .not (a.sub S)
  | .eq a b => .eq (a.sub S) (b.sub S)
  | .and a b => .and (a.sub S) (b.sub S)
theorem BE.sub_val (E : Env) {S : Sub} (hS : S.okB = true) : ∀ (b : BE), @BE.val E (b.sub S) = @BE.val (E.by S) b
  | .lit _ => rfl
  | .atom i => by
    simp only [BE.sub]
    cases h : lkE S.a i with
    | none => simp only [BE.val]; rw [by_i_none h]
    | some e => simp only [BE.val,IE.val,cmpVal]; rw [by_i_some h]
  | .cmp o a b => by simp only [BE.sub,BE.val,(IE.sub_spec E hS a).1,(IE.sub_spec E hS b).1]
  | .not a => by simp only [BE.sub,BE.val,BE.sub_val E hS a]
  | .eq a b => by simp only [BE.sub,BE.val,BE.sub_val E hS a,BE.sub_val E hS b]
  | .and a b => by simp only [BE.sub,BE.val,BE.sub_val E hS a,BE.sub_val E hS b]
def nrmN (x : IE) : IE := (x.repl []).sim
theorem nrmN_val [Env] (x : IE) : (nrmN x).val = x.val := by unfold nrmN; rw [IE.sim_val,(IE.repl_spec (rs := []) (fun p hp => by cases hp) x).1]
def nrmL : IE → IE
  | .putL l o s => mkPutL (nrmL l) (nrmN o) (s.repl [])
  | .ofTab d n => .ofTab d (mkNat (n.repl []))
  | x => x.repl []
theorem nrmL_lst [Env] : ∀ (x : IE), (nrmL x).lst = x.lst := by
  have key : ∀ x : IE,(x.repl []).lst = x.lst := fun x => (IE.repl_spec (rs := []) (fun p hp => by cases hp) x).2
  intro x
  induction x with
  | putL l o s il _ _ => simp only [nrmL,mkPutL_lst,il,nrmN_val,key,IE.lst]
  | ofTab d n _ => simp only [nrmL,IE.lst,mkNat_val,(IE.repl_spec (rs := []) (fun p hp => by cases hp) n).1,Int.toNat_natCast]
  | _ => exact key _
def fitN (S : Sub) (p x : IE) : Bool := IE.beq (p.sub S) x || IE.beq (nrmN (p.sub S)) (nrmN x)
theorem fitN_val (E : Env) {S : Sub} (hS : S.okB = true) {p x : IE} (h : fitN S p x = true) : @IE.val (E.by S) p = @IE.val E x := by
  rw [← (IE.sub_spec E hS p).1]
  simp only [fitN,Bool.or_eq_true] at h
  rcases h with h | h
  · rw [IE.beq_eq h]
  · have := congrArg (@IE.val E) (IE.beq_eq h)
    rwa [@nrmN_val E, @nrmN_val E] at this
def fitT (S : Sub) (p x : IE) : Bool := fitN S p x || IE.beq (nrmN (.nat (p.sub S))) (nrmN (.nat x))
theorem fitT_val (E : Env) {S : Sub} (hS : S.okB = true) {p x : IE} (h : fitT S p x = true) : (@IE.val (E.by S) p).toNat = (@IE.val E x).toNat := by
  simp only [fitT,Bool.or_eq_true] at h
  rcases h with h | h
  · rw [fitN_val E hS h]
  · have := congrArg (@IE.val E) (IE.beq_eq h)
    rw [@nrmN_val E, @nrmN_val E] at this
    simp only [IE.val,(IE.sub_spec E hS p).1] at this
    omega
def fitL (S : Sub) (p x : IE) : Bool := IE.beq (p.sub S) x || IE.beq (nrmL (p.sub S)) (nrmL x)
theorem fitL_lst (E : Env) {S : Sub} (hS : S.okB = true) {p x : IE} (h : fitL S p x = true) : @IE.lst (E.by S) p = @IE.lst E x := by
  rw [← (IE.sub_spec E hS p).2]
  simp only [fitL,Bool.or_eq_true] at h
  rcases h with h | h
  · rw [IE.beq_eq h]
  · have := congrArg (@IE.lst E) (IE.beq_eq h)
    rwa [@nrmL_lst E, @nrmL_lst E] at this
def fitB (S : Sub) (p x : BE) : Bool :=
  BE.beq (p.sub S) x || (BE.beq (p.sub S).sim x.sim || (match p with
    | .atom i => (match lkE S.a i with
      | some e => IE.beq e x.toI
      | none => false)
    | _ => false))
theorem fitB_val (E : Env) {S : Sub} (hS : S.okB = true) {p x : BE} (h : fitB S p x = true) : @BE.val (E.by S) p = @BE.val E x := by
  simp only [fitB,Bool.or_eq_true] at h
  rcases h with h | h | h
  · rw [← BE.sub_val E hS p,BE.beq_eq h]
  · have := congrArg (@BE.val E) (BE.beq_eq h)
    rwa [@BE.sim_val E, @BE.sim_val E,BE.sub_val E hS p] at this
  · split at h
    · rename_i i
      split at h
      · rename_i e he
        have := congrArg (@IE.val E) (IE.beq_eq h)
        rw [@BE.toI_val E] at this
        simp only [BE.val]
        rw [by_i_some he,this]
        cases @BE.val E x <;> rfl
      · cases h
    · cases h
def fitNm (S : Sub) (n m : Nat) : Bool := match lkN S.n n with
  | some k => Nat.beq k m
  | none => false
def Sub.rho (S : Sub) (hs : List Nat) (ρ : Rho) : Rho := fun n => if hs.contains n = true then (match lkN S.n n with
  | some m => ρ m
  | none => none) else none
def fitSB (S : Sub) (hs : List Nat) : SB → SB → Bool
  | .unk,x => true
  | .bool b, .bool c => fitB S b c
  | .int k e, .int k' f => decide (k = k') && fitN S e f
  | .nilp, .nilp => true
  | .ptr n o, .ptr m q => hs.contains n && (fitNm S n m && fitT S o q)
  | .sl n o l c, .sl m q l' c' => hs.contains n && (fitNm S n m && (fitT S o q && (fitT S l l' && fitT S c c')))
  | .isl n o l, .isl m q l' => hs.contains n && (fitNm S n m && (fitT S o q && fitT S l l'))
  | .isl n o l, .sl m q l' _ => hs.contains n && (fitNm S n m && (fitT S o q && fitT S l l'))
  | .isl _ _ l, .nils => fitN S l (.lit 0)
  | .nils, .nils => true
  | .nilf, .nilf => true
  | .ref n, .ref m => hs.contains n && fitNm S n m
  | _,_ => false
theorem fitNm_rho {S : Sub} {hs : List Nat} {ρ : Rho} {n m : Nat} (h1 : hs.contains n = true) (h : fitNm S n m = true) : S.rho hs ρ n = ρ m := by
  unfold fitNm at h
  unfold Sub.rho
  rw [if_pos h1]
  split at h
  · rename_i k hk; rw [Nat.eq_of_beq_eq_true h]
  · cases h
theorem fitSB_is (E : Env) {S : Sub} (hS : S.okB = true) {hs : List Nat} {ρ : Rho} {p x : SB} {v : Value} (h : fitSB S hs p x = true) (hx : @SB.is E ρ x v) : @SB.is (E.by S) (S.rho hs ρ) p v := by
  unfold fitSB at h
  split at h
  · exact @SB.is_one E _ _ _ hx
  · have : v = .bool _ := hx
    show v = .bool _
    rw [this,fitB_val E hS h]
  · simp only [Bool.and_eq_true, decide_eq_true_eq] at h
    have : v = .int _ _ := hx
    show v = .int _ _
    rw [this,fitN_val E hS h.2,h.1]
  · exact hx
  · simp only [Bool.and_eq_true] at h
    obtain ⟨h1,h2,h3⟩ := h
    obtain ⟨b,hb,rfl⟩ := hx
    exact ⟨b,by rw [fitNm_rho h1 h2]; exact hb,by rw [fitT_val E hS h3]⟩
  · simp only [Bool.and_eq_true] at h
    obtain ⟨h1,h2,h3,h4,h5⟩ := h
    obtain ⟨b,hb,rfl⟩ := hx
    exact ⟨b,by rw [fitNm_rho h1 h2]; exact hb,by rw [fitT_val E hS h3,fitT_val E hS h4,fitT_val E hS h5]⟩
  · simp only [Bool.and_eq_true] at h
    obtain ⟨h1,h2,h3,h4⟩ := h
    obtain ⟨a,c,rfl,hr⟩ := hx
    refine ⟨a,c,by rw [fitT_val E hS h4], ?_⟩
    rw [fitT_val E hS h4,fitT_val E hS h3,fitNm_rho h1 h2]
    exact hr
  · simp only [Bool.and_eq_true] at h
    obtain ⟨h1,h2,h3,h4⟩ := h
    obtain ⟨b,hb,rfl⟩ := hx
    refine ⟨_,_,by rw [fitT_val E hS h4], .inr ⟨b, ?_, ?_⟩⟩
    · rw [fitNm_rho h1 h2]; exact hb
    · rw [fitT_val E hS h3]
  · have : v = .slice none 0 0 := hx
    have e := fitN_val E hS h
    have e2 : @IE.val E (.lit 0) = 0 := rfl
    rw [e2] at e
    refine ⟨none,0, ?_, .inl ?_⟩
    · rw [this,e]; rfl
    · rw [e]; rfl
  · exact hx
  · exact hx
  · simp only [Bool.and_eq_true] at h
    obtain ⟨r,hr,h3⟩ := hx
    exact ⟨r,by rw [fitNm_rho h.1 h.2]; exact hr,h3⟩
  · cases h
def fitSBs (S : Sub) (hs : List Nat) : List SB → List SB → Bool
  | [], [] => true
  | p :: ps,x :: xs => fitSB S hs p x && fitSBs S hs ps xs
  | _,_ => false
theorem fitSBs_is (E : Env) {S : Sub} (hS : S.okB = true) {hs : List Nat} {ρ : Rho} : ∀ {ps xs : List SB} {vs : List Value}, fitSBs S hs ps xs = true → All2 (@SB.is E ρ) xs vs → All2 (@SB.is (E.by S) (S.rho hs ρ)) ps vs
  | [], [], vs, _, h => by cases vs with
    | nil => trivial
    | cons _ _ => exact h.elim
  | p :: ps, x :: xs, vs, hf, h => by
    cases vs with
    | nil => exact h.elim
    | cons v vs =>
      simp only [fitSBs,Bool.and_eq_true] at hf
      exact ⟨fitSB_is E hS hf.1 h.1,fitSBs_is E hS hf.2 h.2⟩
  | [],_ :: _,_,hf,_ => by simp only [fitSBs,Bool.false_eq_true] at hf
  | _ :: _, [],_,hf,_ => by simp only [fitSBs,Bool.false_eq_true] at hf
theorem sameFn_eq {f g : Fn} (h : sameFn f g = true) : f = g := by
  unfold sameFn at h
  split at h
  · rw [Nat.eq_of_beq_eq_true h]
  · cases h
def fitSC (S : Sub) (hs : List Nat) : SC → SC → Bool
  | .b p, .b x => fitSB S hs p x
  | .b .unk, .fn _ _ _ => true
  | .fn f p q, .fn f' p' q' => sameFn f f' && (fitSBs S hs p p' && fitSBs S hs q q')
  | _,_ => false
theorem fitSC_is (E : Env) {S : Sub} (hS : S.okB = true) {hs : List Nat} {ρ : Rho} {p x : SC} {v : Value} (h : fitSC S hs p x = true) (hx : @SC.is E ρ x v) : @SC.is (E.by S) (S.rho hs ρ) p v := by
  unfold fitSC at h
  split at h
  · exact fitSB_is E hS h hx
  · exact @SC.is_one E _ _ _ hx
  · simp only [Bool.and_eq_true] at h
    obtain ⟨vs,us,rfl,g1,g2⟩ := hx
    rename_i f p q f' p' q'
    refine ⟨vs,us, ?_,fitSBs_is E hS h.2.1 g1,fitSBs_is E hS h.2.2 g2⟩
    rw [show f = f' from sameFn_eq h.1]
  · cases h
def fitSCs (S : Sub) (hs : List Nat) : List SC → List SC → Bool
  | [], [] => true
  | p :: ps,x :: xs => fitSC S hs p x && fitSCs S hs ps xs
  | _,_ => false
theorem fitSCs_is (E : Env) {S : Sub} (hS : S.okB = true) {hs : List Nat} {ρ : Rho} : ∀ {ps xs : List SC} {vs : List Value}, fitSCs S hs ps xs = true → All2 (@SC.is E ρ) xs vs → All2 (@SC.is (E.by S) (S.rho hs ρ)) ps vs
  | [], [], vs, _, h => by cases vs with
    | nil => trivial
    | cons _ _ => exact h.elim
  | p :: ps, x :: xs, vs, hf, h => by
    cases vs with
    | nil => exact h.elim
    | cons v vs =>
      simp only [fitSCs,Bool.and_eq_true] at hf
      exact ⟨fitSC_is E hS hf.1 h.1,fitSCs_is E hS hf.2 h.2⟩
  | [],_ :: _,_,hf,_ => by simp only [fitSCs,Bool.false_eq_true] at hf
  | _ :: _, [],_,hf,_ => by simp only [fitSCs,Bool.false_eq_true] at hf
def fitSW (S : Sub) (hs : List Nat) : SW → SW → Bool
  | .one p, .one x => fitSC S hs p x
  | .agg p, .agg x => fitSCs S hs p x
  | _,_ => false
theorem fitSW_is (E : Env) {S : Sub} (hS : S.okB = true) {hs : List Nat} {ρ : Rho} {p x : SW} {v : Value} (h : fitSW S hs p x = true) (hx : @SW.is E ρ x v) : @SW.is (E.by S) (S.rho hs ρ) p v := by
  unfold fitSW at h
  split at h
  · exact fitSC_is E hS h hx
  · obtain ⟨vs, rfl, g⟩ := hx
    exact ⟨vs,rfl,fitSCs_is E hS h g⟩
  · cases h
def fitSWs (S : Sub) (hs : List Nat) : List SW → List SW → Bool
  | [], [] => true
  | p :: ps,x :: xs => fitSW S hs p x && fitSWs S hs ps xs
  | _,_ => false
theorem fitSWs_is (E : Env) {S : Sub} (hS : S.okB = true) {hs : List Nat} {ρ : Rho} : ∀ {ps xs : List SW} {vs : List Value}, fitSWs S hs ps xs = true → All2 (@SW.is E ρ) xs vs → All2 (@SW.is (E.by S) (S.rho hs ρ)) ps vs
  | [], [], vs, _, h => by cases vs with
    | nil => trivial
    | cons _ _ => exact h.elim
  | p :: ps, x :: xs, vs, hf, h => by
    cases vs with
    | nil => exact h.elim
    | cons v vs =>
      simp only [fitSWs,Bool.and_eq_true] at hf
      exact ⟨fitSW_is E hS hf.1 h.1,fitSWs_is E hS hf.2 h.2⟩
  | [],_ :: _,_,hf,_ => by simp only [fitSWs,Bool.false_eq_true] at hf
  | _ :: _, [],_,hf,_ => by simp only [fitSWs,Bool.false_eq_true] at hf
def fitSV (S : Sub) (hs : List Nat) : SV → SV → Bool
  | .unk,_ => true
  | .w p, .w x => fitSW S hs p x
  | .tup p, .tup x => fitSWs S hs p x
  | _,_ => false
theorem fitSV_is (E : Env) {S : Sub} (hS : S.okB = true) {hs : List Nat} {ρ : Rho} {p x : SV} {v : Value} (h : fitSV S hs p x = true) (hx : @SV.is E ρ x v) : @SV.is (E.by S) (S.rho hs ρ) p v := by
  unfold fitSV at h
  split at h
  · trivial
  · exact fitSW_is E hS h hx
  · obtain ⟨vs, rfl, g⟩ := hx
    exact ⟨vs,rfl,fitSWs_is E hS h g⟩
  · cases h
def fitSVs (S : Sub) (hs : List Nat) : List SV → List SV → Bool
  | [], [] => true
  | p :: ps,x :: xs => fitSV S hs p x && fitSVs S hs ps xs
  | _,_ => false
theorem fitSVs_get {S : Sub} {hs : List Nat} : ∀ {ps xs : List SV}, fitSVs S hs ps xs = true → ps.length = xs.length ∧ ∀ (i : Nat) (p : SV), ps[i]? = some p → ∃ x, xs[i]? = some x ∧ fitSV S hs p x = true
  | [], [],_ => ⟨rfl,fun i p h => by simp at h⟩
  | p :: ps, x :: xs, h => by
    simp only [fitSVs,Bool.and_eq_true] at h
    obtain ⟨g1,g2⟩ := fitSVs_get h.2
    refine ⟨by simp [g1],fun i q hq => ?_⟩
    cases i with
    | zero => simp at hq; subst hq; exact ⟨x,rfl,h.1⟩
    | succ i => simp at hq; simpa using g2 i q hq
  | [],_ :: _,hf => by simp only [fitSVs,Bool.false_eq_true] at hf
  | _ :: _, [],hf => by simp only [fitSVs,Bool.false_eq_true] at hf
theorem fitNmps (E : Env) {S : Sub} (hS : S.okB = true) {hs : List Nat} {ρ : Rho} {ps xs : List SV} {a : Act} (h : fitSVs S hs ps xs = true) (hT : @TmpsOk E ρ [] xs a) : @TmpsOk (E.by S) (S.rho hs ρ) [] ps a := by
  obtain ⟨h1,h2⟩ := fitSVs_get h
  refine @TmpsOk.mk (E.by S) (S.rho hs ρ) [] ps a (by rw [h1]; exact hT.size) (fun i p hi hp => ?_) hT.defers
  obtain ⟨x,hx,hf⟩ := h2 i p hp
  obtain ⟨v,hv,his⟩ := hT.at_ i x hi hx
  exact ⟨v,hv,fitSV_is E hS hf his⟩
section
def fitSO (S : Sub) (hs : List Nat) : SO Empty → SO Empty → Bool
  | .cells e l t, .cells e' l' t' => Nat.beq e e' && (Nat.beq t t' && fitSCs S hs l l')
  | .row k e l, .row k' e' l' => decide (k = k') && (Nat.beq e e' && fitL S l l')
  | .tab c o n i, .tab c' o' n' i' => sameCols c c' && (fitN S o o' && (fitN S n n' && Nat.beq i i'))
  | .mach k l, .mach k' l' => (Nat.beq k k' || (Nat.beq k' 1 && Nat.ble 2 k)) && fitL S l l'
  | _,_ => false
theorem fitSO_ok (E : Env) {S : Sub} (hS : S.okB = true) {hs : List Nat} {ρ : Rho} {p x : SO Empty} {r : RV} {F : Nat → Prop} {w : World} (h : fitSO S hs p x = true) (hx : @SO.ok E Empty _ ρ r F w x) : @SO.ok (E.by S) Empty _ (S.rho hs ρ) r F w p ∧ p.wr = x.wr := by
  unfold fitSO at h
  split at h
  · simp only [Bool.and_eq_true] at h
    obtain ⟨h1,h2,h3⟩ := h
    obtain ⟨b,vs,hr,hb,⟨us,rest,g1,g2,g3⟩,hF⟩ := hx
    rw [← Nat.eq_of_beq_eq_true h1] at hb
    rw [← Nat.eq_of_beq_eq_true h2] at g2
    exact ⟨⟨b,vs,hr,hb,⟨us,rest,g1,g2,fitSCs_is E hS h3 g3⟩,hF⟩,rfl⟩
  · simp only [Bool.and_eq_true, decide_eq_true_eq] at h
    obtain ⟨h1,h2,h3⟩ := h
    have hl := fitL_lst E hS h3
    refine ⟨?_,rfl⟩
    rcases hx with hx | ⟨b,rest,hr,hb,hF⟩
    · exact .inl ⟨by rw [hl]; exact hx.1,hx.2⟩
    · refine .inr ⟨b, rest, hr, ?_, hF⟩
      rw [hl,h1,Nat.eq_of_beq_eq_true h2]
      exact hb
  · simp only [Bool.and_eq_true] at h
    obtain ⟨h1,h2,h3,h4⟩ := h
    have e1 := sameCols_eq h1
    have e4 := Nat.eq_of_beq_eq_true h4
    subst e1
    subst e4
    refine ⟨?_,rfl⟩
    rcases hx with hx | ⟨b,hr,hb,hF,hc⟩
    · exact .inl ⟨by rw [fitN_val E hS h3]; exact hx.1,hx.2⟩
    · refine .inr ⟨b, hr, hb, hF, ?_⟩
      rw [fitN_val E hS h3,fitN_val E hS h2]
      exact hc
  · simp only [Bool.and_eq_true, Bool.or_eq_true] at h
    obtain ⟨h1,h2⟩ := h
    refine ⟨?_,rfl⟩
    show MachOk _ _ _ _ _
    rw [fitL_lst E hS h2]
    exact MachOk.conv h1 hx
  · cases h
def hiB (n : Nat) : Bool := Nat.ble 100 n && Nat.beq (n % 2) 0
theorem hiB_iff (n : Nat) : hiB n = true ↔ Hi n := by
  unfold hiB Hi
  simp only [Bool.and_eq_true,Nat.ble_eq,Nat.beq_eq]
def fitH (S : Sub) (hs : List Nat) (h : Heap Empty) : Heap Empty → Bool
  | [] => true
  | (n, o) :: l => (match lkN S.n n with
    | some m => (match look h m with
      | some x => fitSO S hs o x && (hiB n == hiB m)
      | none => false)
    | none => false) && fitH S hs h l
def ownNm (S : Sub) (n m : Nat) : List Nat → Bool
  | [] => true
  | k :: l => (Nat.beq k n || (match lkN S.n k with
    | some j => !Nat.beq j m
    | none => false)) && ownNm S n m l
def injS (S : Sub) (hs : List Nat) : List Nat → Bool
  | [] => true
  | n :: l => (match lkN S.n n with
    | some m => ownNm S n m hs
    | none => false) && injS S hs l
theorem fitH_spec {S : Sub} {hs : List Nat} {h : Heap Empty} : ∀ {g : Heap Empty}, fitH S hs h g = true → ∀ n o, look g n = some o → ∃ m x, lkN S.n n = some m ∧ look h m = some x ∧ fitSO S hs o x = true ∧ (Hi n ↔ Hi m)
  | [],_,n,o,hl => by simp [look] at hl
  | (k, p) :: g, hf, n, o, hl => by
    simp only [fitH,Bool.and_eq_true] at hf
    simp only [look] at hl
    by_cases e : k = n
    · subst e
      simp at hl
      subst hl
      have h1 := hf.1
      split at h1
      · rename_i m hm
        split at h1
        · rename_i x hx
          simp only [Bool.and_eq_true,beq_iff_eq] at h1
          refine ⟨m,x,hm,hx,h1.1, ?_⟩
          rw [← hiB_iff, ← hiB_iff,h1.2]
        · cases h1
      · cases h1
    · have e' : (k == n) = false := by simpa using e
      rw [e',cond_false] at hl
      exact fitH_spec hf.2 n o hl
theorem injS_spec {S : Sub} {hs : List Nat} : ∀ {l : List Nat}, injS S hs l = true → ∀ n ∈ l, ∀ k ∈ hs, k ≠ n → ∀ m j, lkN S.n n = some m → lkN S.n k = some j → j ≠ m := by
  have own : ∀ (n m : Nat) (l : List Nat), ownNm S n m l = true → ∀ k ∈ l, k ≠ n → ∀ j, lkN S.n k = some j → j ≠ m := by
    intro n m l
    induction l with
    | nil => intro _ k hk; cases hk
    | cons q l ih =>
      intro h k hk hne j hj
      simp only [ownNm,Bool.and_eq_true,Bool.or_eq_true] at h
      rcases List.mem_cons.1 hk with rfl | hk
      · rcases h.1 with h1 | h1
        · exact absurd (Nat.eq_of_beq_eq_true h1) hne
        · rw [hj] at h1
          simp only [Bool.not_eq_true'] at h1
          intro e
          subst e
          rw [Nat.beq_refl] at h1
          cases h1
      · exact ih h.2 k hk hne j hj
  intro l
  induction l with
  | nil => intro _ n hn; cases hn
  | cons q l ih =>
    intro h n hn k hk hne m j hm hj
    simp only [injS,Bool.and_eq_true] at h
    rcases List.mem_cons.1 hn with rfl | hn
    · have h1 := h.1
      rw [hm] at h1
      exact own n m hs h1 k hk hne j hj
    · exact ih h.2 n hn k hk hne m j hm hj
def fitSS (S : Sub) (I s : SS Empty) : Bool := S.okB && (fitSVs S (namesH I.h) I.l s.l && (fitH S (namesH I.h) s.h I.h && injS S (namesH I.h) (namesH I.h)))
theorem mem_namesH {h : Heap Empty} : ∀ {n : Nat}, n ∈ namesH h → ∃ o, look h n = some o := by
  induction h with
  | nil => intro n hn; cases hn
  | cons x h ih =>
    obtain ⟨m,o⟩ := x
    intro n hn
    by_cases e : m = n
    · subst e; exact ⟨o,by simp [look]⟩
    · have e' : (m == n) = false := by simpa using e
      simp only [namesH,List.mem_cons] at hn
      rcases hn with rfl | hn
      · exact absurd rfl e
      · obtain ⟨o', ho'⟩ := ih hn
        exact ⟨o',by simp only [look,e',cond_false]; exact ho'⟩
theorem fitSS_ok (E : Env) {S : Sub} {I s : SS Empty} (h : fitSS S I s = true) {ρ : Rho} {F : Nat → Nat → Prop} {a : Act} {w : World} (H : @HeapOk E Empty _ ρ F s.h w) (hT : @TmpsOk E ρ [] s.l a) :
    ∃ ρ' F', @HeapOk (E.by S) Empty _ ρ' F' I.h w ∧ @TmpsOk (E.by S) ρ' [] I.l a ∧ ∀ n x,(ρ' n).isSome → F' n x → ∃ m,(ρ m).isSome ∧ F m x ∧ (Hi n ↔ Hi m) := by
  simp only [fitSS,Bool.and_eq_true] at h
  obtain ⟨hS,hl,hh,hi⟩ := h
  have hc : ∀ n,(namesH I.h).contains n = true ↔ n ∈ namesH I.h := fun n => by simp
  have hdom : ∀ n, n ∈ namesH I.h → ∃ o m x r, look I.h n = some o ∧ lkN S.n n = some m ∧ look s.h m = some x ∧ ρ m = some r ∧ fitSO S (namesH I.h) o x = true ∧ (Hi n ↔ Hi m) := fun n hn => by
    obtain ⟨o,ho⟩ := mem_namesH hn
    obtain ⟨m,x,h1,h2,h3,h4⟩ := fitH_spec hh n o ho
    obtain ⟨r,hr⟩ := @HeapOk.rho_some E Empty _ _ _ _ _ H _ _ h2
    exact ⟨o,m,x,r,ho,h1,h2,hr,h3,h4⟩
  have hsome : ∀ n, ((S.rho (namesH I.h) ρ) n).isSome → n ∈ namesH I.h := fun n hn => by
    unfold Sub.rho at hn
    split at hn
    · rename_i h1; exact (hc n).1 h1
    · cases hn
  have heq : ∀ n m, n ∈ namesH I.h → lkN S.n n = some m → (S.rho (namesH I.h) ρ) n = ρ m := fun n m hn hm => by
    unfold Sub.rho
    rw [if_pos ((hc n).2 hn),hm]
  let F' : Nat → Nat → Prop := fun n x => ∃ m,lkN S.n n = some m ∧ F m x
  have hF : ∀ n m, lkN S.n n = some m → F' n = F m := fun n m hm => by
    funext x
    apply propext
    constructor
    · rintro ⟨k,hk,hx⟩; rw [hm] at hk; cases hk; exact hx
    · intro hx; exact ⟨m,hm,hx⟩
  refine ⟨S.rho (namesH I.h) ρ,F', @HeapOk.mk (E.by S) Empty _ (S.rho (namesH I.h) ρ) F' I.h w (fun n => ?_) (fun n o r hn hr => ?_) (fun n m x hne hn hm hh' hx hx' => ?_) (fun n o hn hw => ?_) (fun n x hn hx => ?_),fitNmps E hS hl hT,fun n x hn hx => ?_⟩
  · cases hb : ((S.rho (namesH I.h) ρ) n).isSome with
    | true =>
      obtain ⟨o,_,_,_,ho,_⟩ := hdom n (hsome n hb)
      rw [ho]; rfl
    | false =>
      cases hk : look I.h n with
      | none => rfl
      | some o =>
        have hn := look_namesH hk
        obtain ⟨o',m,x,r,_,h1,_,h2,_⟩ := hdom n hn
        rw [heq n m hn h1,h2] at hb
        cases hb
  · have hn' := look_namesH hn
    obtain ⟨o',m,x,r',h0,h1,h2,h3,h4,h5⟩ := hdom n hn'
    rw [hn] at h0
    cases h0
    rw [heq n m hn' h1] at hr
    rw [hF n m h1]
    exact (fitSO_ok E hS h4 (H.obj m x r h2 hr)).1
  · have n1 := hsome n hn
    have m1 := hsome m hm
    obtain ⟨_,k,_,r,_,a1,_,a2,_,a3⟩ := hdom n n1
    obtain ⟨_,j,_,r',_,b1,_,b2,_,b3⟩ := hdom m m1
    rw [hF n k a1] at hx
    rw [hF m j b1] at hx'
    have hkj : k ≠ j := Ne.symm (injS_spec hi n n1 m m1 (Ne.symm hne) k j a1 b1)
    exact H.disj k j x hkj (by simp [a2]) (by simp [b2]) (hh'.imp a3.1 b3.1) hx hx'
  · have hn' := look_namesH hn
    obtain ⟨o',m,x,r',h0,h1,h2,h3,h4,h5⟩ := hdom n hn'
    rw [hn] at h0
    cases h0
    have e := (fitSO_ok E hS h4 (H.obj m x r' h2 h3)).2
    rw [e] at hw
    exact h5.2 (H.low m x h2 hw)
  · obtain ⟨_, k, _, r, _, a1, _, a2, _⟩ := hdom n (hsome n hn)
    rw [hF n k a1] at hx
    exact H.size k x (by simp [a2]) hx
  · obtain ⟨_, k, _, r, _, a1, _, a2, _, a3⟩ := hdom n (hsome n hn)
    rw [hF n k a1] at hx
    exact ⟨k,by simp [a2],hx,a3⟩
end
end Go.Proofs.Ytafemlljemhkhaa.Sx
