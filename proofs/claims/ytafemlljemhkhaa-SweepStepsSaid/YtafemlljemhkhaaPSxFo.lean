import Derived.Test.YtafemlljemhkhaaPSxEqq
import Derived.Test.YtafemlljemhkhaaPSxGr
namespace Go.Proofs.Ytafemlljemhkhaa.Sx
open Go
set_option linter.unusedSectionVars false
set_option linter.unusedVariables false
set_option linter.unusedSimpArgs false
def IE.all (p : Nat → Bool) : IE → Bool
  | .lit _ => true
  | .atom i => p i
  | .op _ _ a b => a.all p && b.all p
  | .conv _ a => a.all p
  | .mn a b => a.all p && b.all p
  | .mx a b => a.all p && b.all p
  | .at_ a i _ _ => a.all p && i.all p
  | .dif a b => a.all p && b.all p
  | .nat a => a.all p
  | .cmpI _ a b => a.all p && b.all p
  | .notI a => a.all p
  | .andI a b => a.all p && b.all p
  | .eqI a b => a.all p && b.all p
  | .eqL a b => a.all p && b.all p
  | .ite c x y => c.all p && (x.all p && y.all p)
  | .get l i _ => l.all p && i.all p
  | .len l => l.all p
  | .tab d i _ => p d && i.all p
  | .fn _ a => a.all p
  | .latom i => p i
  | .nilL => true
  | .consL x l => x.all p && l.all p
  | .rep n _ => n.all p
  | .putL l o s => l.all p && (o.all p && s.all p)
  | .subL l o n _ => l.all p && (o.all p && n.all p)
  | .ofTab d n => p d && n.all p
  | .fnL _ a => a.all p
  | .catL a b => a.all p && b.all p
  | .tabL d n _ => p d && n.all p
structure Ag (p : Nat → Bool) (E E' : Env) : Prop where
  i : ∀ n,p n = true → E.i n = E'.i n
  l : ∀ n,p n = true → E.l n = E'.l n
  t : ∀ n,p n = true → E.t n = E'.t n
theorem Ag.symm {p : Nat → Bool} {E E' : Env} (A : Ag p E E') : Ag p E' E := ⟨fun n h => (A.i n h).symm,fun n h => (A.l n h).symm,fun n h => (A.t n h).symm⟩
theorem IE.ag {p : Nat → Bool} {E E' : Env} (A : Ag p E E') : ∀ (x : IE), x.all p = true → @IE.val E x = @IE.val E' x ∧ @IE.lst E x = @IE.lst E' x := by
  intro x
  induction x with
  | lit n => intro _; exact ⟨rfl,rfl⟩
  | nilL => intro _; exact ⟨rfl,rfl⟩
  | atom i => intro h; exact ⟨A.i i h,rfl⟩
  | latom i => intro h; exact ⟨rfl,A.l i h⟩
  | conv k a ia => intro h; simp only [IE.val,IE.lst,(ia h).1]; exact ⟨by trivial,by trivial⟩
  | nat a ia => intro h; simp only [IE.val,IE.lst,(ia h).1]; exact ⟨by trivial,by trivial⟩
  | notI a ia => intro h; simp only [IE.val,IE.lst,(ia h).1]; exact ⟨by trivial,by trivial⟩
  | len l il => intro h; simp only [IE.val,IE.lst,(il h).2]; exact ⟨by trivial,by trivial⟩
  | fn d a ia => intro h; simp only [IE.val,IE.lst,(ia h).2]; exact ⟨by trivial,by trivial⟩
  | fnL d a ia => intro h; simp only [IE.val,IE.lst,(ia h).2]; exact ⟨by trivial,by trivial⟩
  | rep n s ii => intro h; simp only [IE.val,IE.lst,(ii h).1]; exact ⟨by trivial,by trivial⟩
  | op o k a b ia ib => intro h; simp only [IE.all,Bool.and_eq_true] at h; simp only [IE.val,IE.lst,(ia h.1).1,(ib h.2).1]; exact ⟨by trivial,by trivial⟩
  | mn a b ia ib => intro h; simp only [IE.all,Bool.and_eq_true] at h; simp only [IE.val,IE.lst,(ia h.1).1,(ib h.2).1]; exact ⟨by trivial,by trivial⟩
  | mx a b ia ib => intro h; simp only [IE.all,Bool.and_eq_true] at h; simp only [IE.val,IE.lst,(ia h.1).1,(ib h.2).1]; exact ⟨by trivial,by trivial⟩
  | at_ a b s o ia ib => intro h; simp only [IE.all,Bool.and_eq_true] at h; simp only [IE.val,IE.lst,(ia h.1).1,(ib h.2).1]; exact ⟨by trivial,by trivial⟩
  | dif a b ia ib => intro h; simp only [IE.all,Bool.and_eq_true] at h; simp only [IE.val,IE.lst,(ia h.1).1,(ib h.2).1]; exact ⟨by trivial,by trivial⟩
  | cmpI o a b ia ib => intro h; simp only [IE.all,Bool.and_eq_true] at h; simp only [IE.val,IE.lst,(ia h.1).1,(ib h.2).1]; exact ⟨by trivial,by trivial⟩
  | andI a b ia ib => intro h; simp only [IE.all,Bool.and_eq_true] at h; simp only [IE.val,IE.lst,(ia h.1).1,(ib h.2).1]; exact ⟨by trivial,by trivial⟩
  | eqI a b ia ib => intro h; simp only [IE.all,Bool.and_eq_true] at h; simp only [IE.val,IE.lst,(ia h.1).1,(ib h.2).1]; exact ⟨by trivial,by trivial⟩
  | eqL a b ia ib => intro h; simp only [IE.all,Bool.and_eq_true] at h; simp only [IE.val,IE.lst,(ia h.1).2,(ib h.2).2]; exact ⟨by trivial,by trivial⟩
  | ite c x y ic ix iy => intro h; simp only [IE.all,Bool.and_eq_true] at h; simp only [IE.val,IE.lst,(ic h.1).1,(ix h.2.1).1,(iy h.2.2).1,(ix h.2.1).2,(iy h.2.2).2]; exact ⟨by trivial,by trivial⟩
  | get l b o il ib => intro h; simp only [IE.all,Bool.and_eq_true] at h; simp only [IE.val,IE.lst,(il h.1).2,(ib h.2).1]; exact ⟨by trivial,by trivial⟩
  | tab d b c ib => intro h; simp only [IE.all,Bool.and_eq_true] at h; simp only [IE.val,IE.lst,(ib h.2).1,A.t d h.1]; exact ⟨by trivial,by trivial⟩
  | consL x l ix il => intro h; simp only [IE.all,Bool.and_eq_true] at h; simp only [IE.val,IE.lst,(ix h.1).1,(il h.2).2]; exact ⟨by trivial,by trivial⟩
  | putL l o s il io is => intro h; simp only [IE.all,Bool.and_eq_true] at h; simp only [IE.val,IE.lst,(il h.1).2,(io h.2.1).1,(is h.2.2).2]; exact ⟨by trivial,by trivial⟩
  | subL l o n s il io ii => intro h; simp only [IE.all,Bool.and_eq_true] at h; simp only [IE.val,IE.lst,(il h.1).2,(io h.2.1).1,(ii h.2.2).1]; exact ⟨by trivial,by trivial⟩
  | ofTab d n ii => intro h; simp only [IE.all,Bool.and_eq_true] at h; simp only [IE.val,IE.lst,(ii h.2).1,A.t d h.1]; exact ⟨by trivial,by trivial⟩
  | tabL d n c ii => intro h; simp only [IE.all,Bool.and_eq_true] at h; simp only [IE.val,IE.lst,(ii h.2).1,A.t d h.1]; exact ⟨by trivial,by trivial⟩
  | catL a b ia ib => intro h; simp only [IE.all,Bool.and_eq_true] at h; simp only [IE.val,IE.lst,(ia h.1).2,(ib h.2).2]; exact ⟨by trivial,by trivial⟩
def BE.all (p : Nat → Bool) : BE → Bool
  | .lit _ => true
  | .atom i => p i
  | .cmp _ a b => a.all p && b.all p
  | .not a => a.all p
  | .eq a b => a.all p && b.all p
  | .and a b => a.all p && b.all p
theorem BE.ag {p : Nat → Bool} {E E' : Env} (A : Ag p E E') : ∀ (x : BE), x.all p = true → @BE.val E x = @BE.val E' x
  | .lit _,_ => rfl
  | .atom i,h => by simp only [BE.val]; rw [A.i i h]
  | .cmp o a b,h => by simp only [BE.all,Bool.and_eq_true] at h; simp only [BE.val,(IE.ag A a h.1).1,(IE.ag A b h.2).1]
  | .not a,h => by simp only [BE.val,BE.ag A a h]
  | .eq a b,h => by simp only [BE.all,Bool.and_eq_true] at h; simp only [BE.val,BE.ag A a h.1,BE.ag A b h.2]
  | .and a b,h => by simp only [BE.all,Bool.and_eq_true] at h; simp only [BE.val,BE.ag A a h.1,BE.ag A b h.2]
def SB.all (p : Nat → Bool) : SB → Bool
  | .bool b => b.all p
  | .int _ e => e.all p
  | .ptr _ o => o.all p
  | .sl _ o l c => o.all p && (l.all p && c.all p)
  | .isl _ o l => o.all p && l.all p
  | .gptr _ e => e.all p
  | _ => true
theorem SB.ag {p : Nat → Bool} {E E' : Env} (A : Ag p E E') {ρ : Rho} (x : SB) (v : Value) (h : x.all p = true) (hx : @SB.is E ρ x v) : @SB.is E' ρ x v := by
  cases x with
  | unk => exact hx
  | nilp => exact hx
  | nils => exact hx
  | nilf => exact hx
  | ref n => exact hx
  | bool b => show v = _; rw [← BE.ag A b h]; exact hx
  | int k e => show v = _; rw [← (IE.ag A e h).1]; exact hx
  | ptr n o => obtain ⟨b,h1,h2⟩ := hx; exact ⟨b,h1,by rw [← (IE.ag A o h).1]; exact h2⟩
  | gptr n e => obtain ⟨b,o,len,cap,h1,h2⟩ := hx; exact ⟨b,o,len,cap,h1,by rw [← (IE.ag A e h).1]; exact h2⟩
  | sl n o l c =>
    simp only [SB.all,Bool.and_eq_true] at h
    obtain ⟨b,h1,h2⟩ := hx
    exact ⟨b,h1,by rw [← (IE.ag A o h.1).1, ← (IE.ag A l h.2.1).1, ← (IE.ag A c h.2.2).1]; exact h2⟩
  | isl n o l =>
    simp only [SB.all,Bool.and_eq_true] at h
    obtain ⟨a,c,h1,h2⟩ := hx
    refine ⟨a,c,by rw [← (IE.ag A l h.2).1]; exact h1, ?_⟩
    rw [← (IE.ag A l h.2).1, ← (IE.ag A o h.1).1]; exact h2
def SBs.all (p : Nat → Bool) : List SB → Bool
  | [] => true
  | x :: l => x.all p && SBs.all p l
theorem SBs.ag {p : Nat → Bool} {E E' : Env} (A : Ag p E E') {ρ : Rho} : ∀ (l : List SB) (vs : List Value), SBs.all p l = true → All2 (@SB.is E ρ) l vs → All2 (@SB.is E' ρ) l vs
  | [], [],_,_ => trivial
  | x :: l,v :: vs,h,hx => by simp only [SBs.all,Bool.and_eq_true] at h; exact ⟨SB.ag A x v h.1 hx.1,SBs.ag A l vs h.2 hx.2⟩
  | [],_ :: _,_,hx => hx.elim
  | _ :: _, [],_,hx => hx.elim
def SC.all (p : Nat → Bool) : SC → Bool
  | .b x => x.all p
  | .fn _ p1 p2 => SBs.all p p1 && SBs.all p p2
theorem SC.ag {p : Nat → Bool} {E E' : Env} (A : Ag p E E') {ρ : Rho} (x : SC) (v : Value) (h : x.all p = true) (hx : @SC.is E ρ x v) : @SC.is E' ρ x v := by
  cases x with
  | b y => exact SB.ag A y v h hx
  | fn f p1 p2 =>
    simp only [SC.all,Bool.and_eq_true] at h
    obtain ⟨vs,us,hv,h1,h2⟩ := hx
    exact ⟨vs,us,hv,SBs.ag A _ _ h.1 h1,SBs.ag A _ _ h.2 h2⟩
def SCs.all (p : Nat → Bool) : List SC → Bool
  | [] => true
  | x :: l => x.all p && SCs.all p l
theorem SCs.ag {p : Nat → Bool} {E E' : Env} (A : Ag p E E') {ρ : Rho} : ∀ (l : List SC) (vs : List Value), SCs.all p l = true → All2 (@SC.is E ρ) l vs → All2 (@SC.is E' ρ) l vs
  | [], [],_,_ => trivial
  | x :: l,v :: vs,h,hx => by simp only [SCs.all,Bool.and_eq_true] at h; exact ⟨SC.ag A x v h.1 hx.1,SCs.ag A l vs h.2 hx.2⟩
  | [],_ :: _,_,hx => hx.elim
  | _ :: _, [],_,hx => hx.elim
def SW.all (p : Nat → Bool) : SW → Bool
  | .one c => c.all p
  | .agg l => SCs.all p l
theorem SW.ag {p : Nat → Bool} {E E' : Env} (A : Ag p E E') {ρ : Rho} (x : SW) (v : Value) (h : x.all p = true) (hx : @SW.is E ρ x v) : @SW.is E' ρ x v := by
  cases x with
  | one c => exact SC.ag A c v h hx
  | agg l => obtain ⟨vs,hv,h1⟩ := hx; exact ⟨vs,hv,SCs.ag A _ _ h h1⟩
def SWs.all (p : Nat → Bool) : List SW → Bool
  | [] => true
  | x :: l => x.all p && SWs.all p l
theorem SWs.ag {p : Nat → Bool} {E E' : Env} (A : Ag p E E') {ρ : Rho} : ∀ (l : List SW) (vs : List Value), SWs.all p l = true → All2 (@SW.is E ρ) l vs → All2 (@SW.is E' ρ) l vs
  | [], [],_,_ => trivial
  | x :: l,v :: vs,h,hx => by simp only [SWs.all,Bool.and_eq_true] at h; exact ⟨SW.ag A x v h.1 hx.1,SWs.ag A l vs h.2 hx.2⟩
  | [],_ :: _,_,hx => hx.elim
  | _ :: _, [],_,hx => hx.elim
def SV.all (p : Nat → Bool) : SV → Bool
  | .unk => true
  | .w x => x.all p
  | .tup l => SWs.all p l
theorem SV.ag {p : Nat → Bool} {E E' : Env} (A : Ag p E E') {ρ : Rho} (x : SV) (v : Value) (h : x.all p = true) (hx : @SV.is E ρ x v) : @SV.is E' ρ x v := by
  cases x with
  | unk => trivial
  | w x => exact SW.ag A x v h hx
  | tup l => obtain ⟨vs,hv,h1⟩ := hx; exact ⟨vs,hv,SWs.ag A _ _ h h1⟩
def SVs.all (p : Nat → Bool) : List SV → Bool
  | [] => true
  | x :: l => x.all p && SVs.all p l
theorem SVs.ag {p : Nat → Bool} {E E' : Env} (A : Ag p E E') {ρ : Rho} : ∀ (l : List SV) (vs : List Value), SVs.all p l = true → All2 (@SV.is E ρ) l vs → All2 (@SV.is E' ρ) l vs
  | [], [],_,_ => trivial
  | x :: l,v :: vs,h,hx => by simp only [SVs.all,Bool.and_eq_true] at h; exact ⟨SV.ag A x v h.1 hx.1,SVs.ag A l vs h.2 hx.2⟩
  | [],_ :: _,_,hx => hx.elim
  | _ :: _, [],_,hx => hx.elim
def SO.all (p : Nat → Bool) : SO Empty → Bool
  | .cells _ l _ => SCs.all p l
  | .row _ _ l => l.all p
  | .abs a => a.elim
  | .tab _ o n i => p i && (o.all p && n.all p)
  | .mach _ l => l.all p
theorem SO.ag {p : Nat → Bool} {E E' : Env} (A : Ag p E E') {ρ : Rho} {r : RV} {F : Nat → Prop} {w : World} (o : SO Empty) (h : o.all p = true) (hx : @SO.ok E Empty _ ρ r F w o) : @SO.ok E' Empty _ ρ r F w o := by
  cases o with
  | cells e l t =>
    obtain ⟨b,vs,h1,h2,⟨us,rest,h3,h4,h5⟩,h6⟩ := hx
    exact ⟨b,vs,h1,h2,⟨us,rest,h3,h4,SCs.ag A _ _ h h5⟩,h6⟩
  | row k e l =>
    show (@IE.lst E' l = [] ∧ _) ∨ _
    rw [← (IE.ag A l h).2]; exact hx
  | abs a => exact a.elim
  | tab c o n i =>
    simp only [SO.all,Bool.and_eq_true] at h
    show ((@IE.val E' n).toNat = 0 ∧ _) ∨ _
    rw [← (IE.ag A n h.2.2).1, ← (IE.ag A o h.2.1).1, ← A.t i h.1]; exact hx
  | mach k l => show MachOk k (@IE.lst E' l) r F w; rw [← (IE.ag A l h).2]; exact hx
def allH (p : Nat → Bool) : Heap Empty → Bool
  | [] => true
  | (_,o) :: h => o.all p && allH p h
theorem allH_look {p : Nat → Bool} : ∀ {h : Heap Empty} {n : Nat} {o : SO Empty}, allH p h = true → look h n = some o → o.all p = true
  | [],n,o,_,hl => by simp [look] at hl
  | (m, q) :: h, n, o, ha, hl => by
    simp only [allH,Bool.and_eq_true] at ha
    simp only [look] at hl
    cases e : (m == n) with
    | true => rw [e,cond_true] at hl; cases hl; exact ha.1
    | false => rw [e,cond_false] at hl; exact allH_look ha.2 hl
theorem HeapOk.ag {p : Nat → Bool} {E E' : Env} (A : Ag p E E') {ρ : Rho} {F : Nat → Nat → Prop} {h : Heap Empty} {w : World} (ha : allH p h = true) (H : @HeapOk E Empty _ ρ F h w) : @HeapOk E' Empty _ ρ F h w :=
  @HeapOk.mk E' Empty _ ρ F h w (@HeapOk.dom E Empty _ ρ F h w H) (fun n o r hn hr => SO.ag A o (allH_look ha hn) (@HeapOk.obj E Empty _ ρ F h w H n o r hn hr)) (@HeapOk.disj E Empty _ ρ F h w H) (@HeapOk.low E Empty _ ρ F h w H) (@HeapOk.size E Empty _ ρ F h w H)
def allT (p : Nat → Bool) : Tree (SV × Heap Empty) → Bool
  | .leaf l => l.1.all p && allH p l.2
  | .fail _ => true
  | .br b t f => b.all p && (allT p t && allT p f)
  | .req b t => b.all p && allT p t
theorem Tree.ag {p : Nat → Bool} {E E' : Env} (A : Ag p E E') {K : SV × Heap Empty → Prop} : ∀ {t : Tree (SV × Heap Empty)}, allT p t = true → @Tree.holds E _ K t → @Tree.holds E' _ (fun r => K r ∧ (r.1.all p && allH p r.2) = true) t
  | .leaf l,h,hx => ⟨hx,h⟩
  | .fail _,_,hx => hx
  | .br b t f, h, hx => by
    simp only [allT,Bool.and_eq_true] at h
    exact ⟨fun e => Tree.ag A h.2.1 (hx.1 (by rw [BE.ag A b h.1]; exact e)),fun e => Tree.ag A h.2.2 (hx.2 (by rw [BE.ag A b h.1]; exact e))⟩
  | .req b t, h, hx => by
    simp only [allT,Bool.and_eq_true] at h
    exact ⟨by rw [← BE.ag A b h.1]; exact hx.1,Tree.ag A h.2 hx.2⟩
theorem look0_look : ∀ (h : Heap Empty) (n : Nat), look0 h n = look h n
  | [],_ => rfl
  | (m,o) :: h,n => by simp only [look0,look]; rw [look0_look h n]
theorem SO.okM_of {E : Env} {n : Nat} {ρ : Rho} {r : RV} {F : Nat → Prop} {w : World} {o : SO Empty} (hl : lowO (1000 * (n + 1)) o = true) (h : @SO.ok E Empty _ ρ r F w o) : o.okM E (MachB (Comp n)) ρ r F w := by
  cases o with
  | cells e l t => exact h
  | row k e l => exact h
  | abs a => exact a.elim
  | tab _ _ _ _ => simp only [lowO,Bool.false_eq_true] at hl
  | mach k l =>
    have h' : MachOk k (@IE.lst E l) r F w := h
    show MachB (Comp n) k (@IE.lst E l) r F w
    match k,hl with
    | 0, hl =>
      simp only [lowO] at hl
      split at hl
      · rename_i m hm
        unfold headK at hm
        split at hm
        · rename_i q l'
          obtain rfl : q = m := by simpa using hm
          have hq : q.toNat < 1000 * (n + 1) := Nat.blt_eq.mp hl
          show Comp n q.toNat _ _ _ _
          rw [Comp.eq hq]; exact h'
        · exact h'
        · cases hm
      · cases hl
    | 1,_ => exact h'
    | k + 2,_ => exact h'
theorem SO.ok_ofM {E : Env} {n : Nat} {ρ : Rho} {r : RV} {F : Nat → Prop} {w : World} {o : SO Empty} (h : o.okM E (MachB (Comp n)) ρ r F w) : @SO.ok E Empty _ ρ r F w o := by
  cases o with
  | cells e l t => exact h
  | row k e l => exact h
  | abs a => exact a.elim
  | tab _ _ _ _ => exact h.elim
  | mach k l => exact MachB.mono h
def reqAll : List BE → Tree (SV × Heap Empty) → Tree (SV × Heap Empty)
  | [],t => t
  | .lit true :: l,t => reqAll l t
  | b :: l,t => .req b (reqAll l t)
theorem reqAll_holds [Env] {K : SV × Heap Empty → Prop} : ∀ {l : List BE} {t : Tree (SV × Heap Empty)}, (reqAll l t).holds K → (∀ b ∈ l, b.val = true) ∧ t.holds K
  | [],t,h => ⟨fun b hb => (by cases hb),h⟩
  | b :: l, t, h => by
    unfold reqAll at h
    split at h
    · rename_i heq; cases heq
    · rename_i heq
      cases heq
      obtain ⟨h1,h2⟩ := reqAll_holds h
      exact ⟨fun c hc => (List.mem_cons.1 hc).elim (fun e => by rw [e]; rfl) (h1 c),h2⟩
    · rename_i heq
      cases heq
      obtain ⟨h1,h2⟩ := reqAll_holds h.2
      exact ⟨fun c hc => (List.mem_cons.1 hc).elim (fun e => by rw [e]; exact h.1) (h1 c),h2⟩
def lowH (m : Nat) : Heap Empty → Bool
  | [] => true
  | (_,o) :: h => lowO m o && lowH m h
theorem lowH_look {m : Nat} : ∀ {h : Heap Empty} {n : Nat} {o : SO Empty}, lowH m h = true → look h n = some o → lowO m o = true
  | [],n,o,_,hl => by simp [look] at hl
  | (k, q) :: h, n, o, ha, hl => by
    simp only [lowH,Bool.and_eq_true] at ha
    simp only [look] at hl
    cases e : (k == n) with
    | true => rw [e,cond_true] at hl; cases hl; exact ha.1
    | false => rw [e,cond_false] at hl; exact lowH_look ha.2 hl
def foldSh (K x : Nat) (old : List Nat) (r : SV × Heap Empty) (sh : MShape) : Option (Tree (SV × Heap Empty)) :=
  let S := mObjs sh.hp r.2 60 [] ⟨[], [], [(sh.main,x)]⟩
  let hs := namesH sh.hp
  let I := hs.map (nmD S.n)
  let k : Nat → Bool := fun n => !(I.contains n) || Nat.beq n x
  let h1 := put r.2 x (.mach 0 (.consL (.lit K) (nrmL (sh.row.sub S))))
  if S.okB && (fitH S hs r.2 sh.hp && (injS S hs hs && (lowH (1000 * (K / 1000)) sh.hp && (inAll k old && (inAll k r.1.nms && (closedH k h1 && (memB sh.hp sh.main && fitNm S sh.main x))))))) then
    some (reqAll (sh.inv.map fun b => nrmB (b.sub S)) (.leaf (r.1,keepH k h1)))
  else none
theorem lkN_mem_names {l : List (Nat × Nat)} {n m : Nat} (h : lkN l n = some m) : nmD l n = m := by unfold nmD; rw [h]
theorem foldSh_ok {E : Env} {pr : Nat → Nat → Prop} {ρ0 ρ : Rho} {F0 F : Nat → Nat → Prop} {w0 w : World} {K x : Nat} {old : List Nat} {s : SV} {h : Heap Empty} {sh : MShape} {t : Tree (SV × Heap Empty)} {v : Value} {Q : SV × Heap Empty → Prop}
    (hK : 1000 ≤ K) (hsh : sh ∈ shapes K) (hold : ∀ n,(ρ0 n).isSome → n ∈ old) (hf : foldSh K x old (s,h) sh = some t) (H : @HeapOk E Empty _ ρ F h w) (hs : @SV.is E ρ s v) (G : Goes pr ρ0 F0 w0 ρ F w) (hQ : @Tree.holds E _ Q t) :
    ∃ s2 h2 ρ2 F2,Q (s2,h2) ∧ @SV.is E ρ2 s2 v ∧ @HeapOk E Empty _ ρ2 F2 h2 w ∧ Goes pr ρ0 F0 w0 ρ2 F2 w := by
  unfold foldSh at hf
  simp only at hf
  generalize hSS : mObjs sh.hp h 60 [] ⟨[], [], [(sh.main,x)]⟩ = S at hf
  split at hf
  case isFalse => cases hf
  rename_i hc
  cases hf
  simp only [Bool.and_eq_true] at hc
  obtain ⟨hS,hfit,hinj,hlow,hko,hks,hcl,hmm,hmx⟩ := hc
  generalize hkk : (fun n => !(((namesH sh.hp).map (nmD S.n)).contains n) || Nat.beq n x) = k at hko hks hcl hQ
  obtain ⟨hinv,hQ⟩ := @reqAll_holds E _ _ _ hQ
  have hmain : lkN S.n sh.main = some x := by
    unfold fitNm at hmx
    split at hmx
    · rename_i m hm; rw [hm,Nat.eq_of_beq_eq_true hmx]
    · cases hmx
  obtain ⟨mo,hmo⟩ := Option.isSome_iff_exists.1 hmm
  have hsp := fun n o => @fitH_spec S (namesH sh.hp) h sh.hp hfit n o
  have hHi : ∀ n m o, look sh.hp n = some o → lkN S.n n = some m → Hi m := fun n m o ho hm => by
    obtain ⟨m',y,a1,a2,a3,a4⟩ := hsp n o ho
    rw [hm] at a1; cases a1
    obtain ⟨r,hr⟩ := @HeapOk.rho_some E Empty _ _ _ _ _ H _ _ a2
    refine H.low m y a2 ?_
    rw [← (fitSO_ok E hS a3 (H.obj m y r a2 hr)).2]
    have := lowH_look hlow ho
    cases o with
    | tab _ _ _ _ => simp only [lowO,Bool.false_eq_true] at this
    | _ => rfl
  have hcon : ∀ n, (namesH sh.hp).contains n = true ↔ ∃ o, look sh.hp n = some o := fun n => by
    constructor
    · intro hn; exact mem_namesH (by simpa using hn)
    · rintro ⟨o,ho⟩; simpa using look_namesH (A := Empty) ho
  have hrho : ∀ n m o, look sh.hp n = some o → lkN S.n n = some m → S.rho (namesH sh.hp) ρ n = ρ m := fun n m o ho hm => by
    unfold Sub.rho
    rw [if_pos ((hcon n).2 ⟨o,ho⟩),hm]
  have hxk : k x = true := by rw [← hkk]; simp
  have hnk : ∀ n, k n = true → n ≠ x → ∀ j o, look sh.hp j = some o → lkN S.n j ≠ some n := fun n hn hne j o ho hj => by
    rw [← hkk] at hn
    simp only [Bool.or_eq_true,Bool.not_eq_true'] at hn
    rcases hn with hn | hn
    · have : ((namesH sh.hp).map (nmD S.n)).contains n = true := by
        simp only [List.contains_eq_mem,decide_eq_true_eq,List.mem_map]
        exact ⟨j,look_namesH (A := Empty) ho,lkN_mem_names hj⟩
      rw [this] at hn; cases hn
    · exact hne (Nat.eq_of_beq_eq_true hn)
  obtain ⟨xo, hxo⟩ : ∃ xo, look h x = some xo := by
    obtain ⟨m',y,a1,a2,_⟩ := hsp _ _ hmo
    rw [hmain] at a1; cases a1; exact ⟨y,a2⟩
  obtain ⟨rx,hrx⟩ := @HeapOk.rho_some E Empty _ _ _ _ _ H _ _ hxo
  have hHx : Hi x := hHi _ _ _ hmo hmain
  let Fx : Nat → Prop := fun b => ∃ n m,(∃ o,look sh.hp n = some o) ∧ lkN S.n n = some m ∧ F m b
  have hcomp : MachOk 0 (@IE.lst E (.consL (.lit K) (nrmL (sh.row.sub S)))) rx Fx w := by
    show CompOk ((K : Int)).toNat (@IE.lst E (nrmL (sh.row.sub S))) rx Fx w
    rw [Int.toNat_natCast,CompOk.iff hK,nlst hS E]
    refine ⟨sh,hsh,E.by S,S.rho (namesH sh.hp) ρ,fun n b => ∃ m,lkN S.n n = some m ∧ F m b,rfl,fun b hb => ?_, ?_,⟨fun n => ?_,fun n o r hn hr => ?_,fun n m b hne hn hm => ?_⟩,fun b => ?_⟩
    · rw [← bval hS E b]
      exact hinv _ (List.mem_map.2 ⟨b,hb,rfl⟩)
    · rw [hrho _ _ _ hmo hmain,hrx]
    · rw [look0_look]
      cases ho : look sh.hp n with
      | none =>
        have : ¬ (namesH sh.hp).contains n = true := fun e => by obtain ⟨o,h1⟩ := (hcon n).1 e; rw [ho] at h1; cases h1
        unfold Sub.rho
        rw [if_neg this]; rfl
      | some o =>
        obtain ⟨m,y,a1,a2,_⟩ := hsp n o ho
        obtain ⟨r,hr⟩ := @HeapOk.rho_some E Empty _ _ _ _ _ H _ _ a2
        rw [hrho n m o ho a1,hr]; rfl
    · rw [look0_look] at hn
      obtain ⟨m,y,a1,a2,a3,_⟩ := hsp n o hn
      rw [hrho n m o hn a1] at hr
      have g := (fitSO_ok E hS a3 (H.obj m y r a2 hr)).1
      have hn1 : K / 1000 - 1 + 1 = K / 1000 := by omega
      have hF : (fun b => ∃ m', lkN S.n n = some m' ∧ F m' b) = F m := by
        funext b
        apply propext
        exact ⟨fun ⟨m',h1,h2⟩ => by rw [a1] at h1; cases h1; exact h2,fun hb => ⟨m,a1,hb⟩⟩
      rw [hF]
      exact SO.okM_of (by rw [hn1]; exact lowH_look hlow hn) g
    · rintro ⟨a, ha, hFa⟩ ⟨c, hc, hFc⟩
      have ex : ∀ j, (S.rho (namesH sh.hp) ρ j).isSome = true → ∃ o, look sh.hp j = some o := fun j hj => by
        unfold Sub.rho at hj
        split at hj
        · rename_i e; exact (hcon j).1 e
        · cases hj
      obtain ⟨o1,ho1⟩ := ex n hn
      obtain ⟨o2,ho2⟩ := ex m hm
      have hac : c ≠ a := injS_spec hinj n (look_namesH (A := Empty) ho1) m (look_namesH (A := Empty) ho2) (fun e => hne e.symm) a c ha hc
      rw [hrho n a o1 ho1 ha] at hn
      rw [hrho m c o2 ho2 hc] at hm
      exact H.disj a c b (fun e => hac e.symm) hn hm (.inl (hHi _ _ _ ho1 ha)) hFa hFc
    · constructor
      · rintro ⟨n, m, ⟨o, ho⟩, hm, hb⟩
        refine ⟨n, ?_,m,hm,hb⟩
        obtain ⟨m',y,a1,a2,_⟩ := hsp n o ho
        rw [hm] at a1; cases a1
        obtain ⟨r,hr⟩ := @HeapOk.rho_some E Empty _ _ _ _ _ H _ _ a2
        rw [hrho n m o ho hm,hr]; rfl
      · rintro ⟨n, hn, m, hm, hb⟩
        unfold Sub.rho at hn
        split at hn
        · rename_i e; exact ⟨n,m,(hcon n).1 e,hm,hb⟩
        · cases hn
  have hFx : ∀ b, Fx b → ∃ m, (ρ m).isSome = true ∧ Hi m ∧ F m b ∧ (k m = true → m = x) := by
    rintro b ⟨n,m,⟨o,ho⟩,hm,hb⟩
    obtain ⟨m',y,a1,a2,_⟩ := hsp n o ho
    rw [hm] at a1; cases a1
    obtain ⟨r,hr⟩ := @HeapOk.rho_some E Empty _ _ _ _ _ H _ _ a2
    refine ⟨m,by rw [hr]; rfl,hHi _ _ _ ho hm,hb,fun hk => ?_⟩
    apply Classical.byContradiction
    intro hne
    exact hnk m hk hne n o ho hm
  have honly : ∀ n, ((ρ.only k) n).isSome = true → (ρ n).isSome = true ∧ k n = true := fun n hn => by
    unfold Rho.only at hn
    split at hn
    · rename_i e; exact ⟨hn,e⟩
    · cases hn
  refine ⟨s,_, ρ.only k,upd F x Fx,hQ, @SV.is_only E ρ k s v hs hks, @HeapOk.mk E Empty _ _ _ _ _ (fun n => ?_) (fun n o r hn hr => ?_) (fun n m b hne hn hm hh hb hb2 => ?_) (fun n o hn hw => ?_) (fun n b hn hb => ?_), ?_⟩
  · rw [look_keepH]
    unfold Rho.only
    split
    · by_cases e : n = x
      · subst e; rw [look_put_same,hrx]; rfl
      · rw [look_put_ne _ _ _ _ e]; exact H.dom n
    · rfl
  · rw [look_keepH] at hn
    unfold Rho.only at hr
    split at hr
    · rename_i hk
      rw [if_pos hk] at hn
      by_cases e : n = x
      · subst e
        rw [look_put_same] at hn
        rw [hrx] at hr
        cases hn; cases hr
        rw [upd_same]
        exact hcomp
      · have hcl2 := closedH_spec hcl n o hn hk
        rw [look_put_ne _ _ _ _ e] at hn
        rw [upd_ne _ _ _ _ e]
        have hok := H.obj n o r hn hr
        cases o with
        | cells e l t =>
          obtain ⟨b,vs,h1,h2,⟨us,rest,h3,h4,h5⟩,h6⟩ := hok
          exact ⟨b,vs,h1,h2,⟨us,rest,h3,h4, @SCs.is_only E ρ k l us h5 hcl2⟩,h6⟩
        | row k e l => exact hok
        | abs a => exact a.elim
        | tab cols o n id => exact hok
        | mach k l => exact hok
    · cases hr
  · obtain ⟨n1, n2⟩ := honly n hn
    obtain ⟨m1,m2⟩ := honly m hm
    by_cases e : n = x
    · subst e
      rw [upd_same] at hb
      obtain ⟨j,j1,j2,j3,j4⟩ := hFx b hb
      rw [upd_ne _ _ _ _ (fun e => hne e.symm)] at hb2
      refine H.disj j m b (fun e => ?_) j1 m1 (.inl j2) j3 hb2
      subst e
      exact hne (j4 m2).symm
    · rw [upd_ne _ _ _ _ e] at hb
      by_cases e2 : m = x
      · subst e2
        rw [upd_same] at hb2
        obtain ⟨j,j1,j2,j3,j4⟩ := hFx b hb2
        refine H.disj n j b (fun e => ?_) n1 j1 (.inr j2) hb j3
        subst e
        exact hne (j4 n2)
      · rw [upd_ne _ _ _ _ e2] at hb2
        exact H.disj n m b hne n1 m1 hh hb hb2
  · rw [look_keepH] at hn
    split at hn
    · by_cases e : n = x
      · subst e; exact hHx
      · rw [look_put_ne _ _ _ _ e] at hn; exact H.low n o hn hw
    · cases hn
  · obtain ⟨n1, n2⟩ := honly n hn
    by_cases e : n = x
    · subst e
      rw [upd_same] at hb
      obtain ⟨j,j1,j2,j3,j4⟩ := hFx b hb
      exact H.size j b j1 j3
    · rw [upd_ne _ _ _ _ e] at hb; exact H.size n b n1 hb
  · have hkold : ∀ n, (ρ0 n).isSome = true → k n = true := fun n hn => inAll_mem hko n (hold n hn)
    exact {
      ext := fun n r hr => by
        have := G.ext n r hr
        unfold Rho.only
        rw [if_pos (hkold n (by rw [hr]; rfl))]; exact this
      os := G.os
      tape := G.tape
      output := G.output
      size := G.size
      keep := G.keep
      foot := fun n b hn hb => by
        obtain ⟨n1,n2⟩ := honly n hn
        by_cases e : n = x
        · subst e
          rw [upd_same] at hb
          obtain ⟨j,j1,j2,j3,j4⟩ := hFx b hb
          rcases G.foot j b j1 j3 with g | ⟨m,g1,g2,g3⟩
          · exact .inl g
          · exact .inr ⟨m,g1,g2,fun _ => g3 j2⟩
        · rw [upd_ne _ _ _ _ e] at hb; exact G.foot n b n1 hb
      old := fun n hn hr => by
        have : n ≠ x := fun e => hn (e ▸ hHx)
        rw [upd_ne _ _ _ _ this]; exact G.old n hn hr
      prot := G.prot }
def foldShs (K x : Nat) (old : List Nat) (r : SV × Heap Empty) : List MShape → Tree (SV × Heap Empty)
  | [] => .fail 400
  | sh :: l => match foldSh K x old r sh with
    | some t => t
    | none => foldShs K x old r l
theorem foldShs_ok {E : Env} {pr : Nat → Nat → Prop} {ρ0 ρ : Rho} {F0 F : Nat → Nat → Prop} {w0 w : World} {K x : Nat} {old : List Nat} {s : SV} {h : Heap Empty} {v : Value} {Q : SV × Heap Empty → Prop}
    (hK : 1000 ≤ K) (hold : ∀ n,(ρ0 n).isSome → n ∈ old) (H : @HeapOk E Empty _ ρ F h w) (hs : @SV.is E ρ s v) (G : Goes pr ρ0 F0 w0 ρ F w) : ∀ {shs : List MShape},(∀ sh ∈ shs,sh ∈ shapes K) → @Tree.holds E _ Q (foldShs K x old (s,h) shs) →
    ∃ s2 h2 ρ2 F2,Q (s2,h2) ∧ @SV.is E ρ2 s2 v ∧ @HeapOk E Empty _ ρ2 F2 h2 w ∧ Goes pr ρ0 F0 w0 ρ2 F2 w
  | [],_,hQ => hQ.elim
  | sh :: l, hm, hQ => by
    unfold foldShs at hQ
    split at hQ
    · rename_i t ht
      exact foldSh_ok hK (hm sh (List.mem_cons_self ..)) hold ht H hs G hQ
    · exact foldShs_ok hK hold H hs G (fun q hq => hm q (List.mem_cons_of_mem _ hq)) hQ
inductive FoldAt where
  | nm (x : Nat)
  | ret
def FoldAt.name (s : SV) : FoldAt → Nat
  | .nm x => x
  | .ret => match s with
    | .w (.one (.b (.ptr n _))) => n
    | _ => 0
def swN (m n k : Nat) : Nat := if k = m then n else if k = n then m else k
theorem swN_swN (m n k : Nat) : swN m n (swN m n k) = k := by
  unfold swN
  by_cases h1 : k = m
  · subst h1; by_cases h2 : n = k <;> simp [h2]
  · by_cases h2 : k = n
    · subst h2; simp [h1]
    · simp [h1,h2]
def renH (φ : Nat → Nat) : Heap Empty → Heap Empty
  | [] => []
  | (n,o) :: h => (φ n,o.ren φ) :: renH φ h
theorem look_renH {φ : Nat → Nat} (hφ : ∀ k, φ (φ k) = k) : ∀ (h : Heap Empty) (k : Nat), look (renH φ h) k = (look h (φ k)).map (SO.ren φ)
  | [],k => rfl
  | (n, o) :: h, k => by
    simp only [renH,look]
    by_cases e : n = φ k
    · subst e; simp [hφ]
    · have e1 : (n == φ k) = false := by simpa using e
      have e2 : (φ n == k) = false := by
        have : φ n ≠ k := fun h => e (by rw [← h,hφ])
        simpa using this
      rw [e1,e2,cond_false,cond_false]; exact look_renH hφ h k
def ownN (i : Nat) : Nat := 9000 + 2 * i
def ownC (h : Heap Empty) (i : Nat) : SC → Option (SC × Heap Empty × Nat)
  | .b (.ref n) => match look h n, look h (ownN i) with
    | some (.mach (k + 1) L),none => some (.b (.ref (ownN i)),(ownN i, .mach (k + 1) L) :: put h n (.mach 0 .nilL),i + 1)
    | _,_ => none
  | .b .nils => match look h (ownN i) with
    | none => some (.b (.ref (ownN i)),(ownN i, .mach 1 .nilL) :: h,i + 1)
    | some _ => none
  | c => some (c,h,i)
def ownCs (h : Heap Empty) (i : Nat) : List SC → Option (List SC × Heap Empty × Nat)
  | [] => some ([],h,i)
  | c :: l => match ownC h i c with
    | some (c', h', i') => (match ownCs h' i' l with
      | some (l',r) => some (c' :: l',r)
      | none => none)
    | none => none
def ownW (h : Heap Empty) (i : Nat) : SW → Option (SW × Heap Empty × Nat)
  | .one c => match ownC h i c with
    | some (c',r) => some (.one c',r)
    | none => none
  | .agg l => match ownCs h i l with
    | some (l',r) => some (.agg l',r)
    | none => none
def ownWs (h : Heap Empty) (i : Nat) : List SW → Option (List SW × Heap Empty × Nat)
  | [] => some ([],h,i)
  | c :: l => match ownW h i c with
    | some (c', h', i') => (match ownWs h' i' l with
      | some (l',r) => some (c' :: l',r)
      | none => none)
    | none => none
def ownV (h : Heap Empty) : SV → Option (SV × Heap Empty)
  | .unk => none
  | .w x => match ownW h 0 x with
    | some (x',h',_) => some (.w x',h')
    | none => none
  | .tup l => match ownWs h 0 l with
    | some (l',h',_) => some (.tup l',h')
    | none => none
theorem ownN_hi (i : Nat) : Hi (ownN i) := by unfold Hi ownN; omega
section
variable {E : Env} {pr : Nat → Nat → Prop} {ρ0 : Rho} {F0 : Nat → Nat → Prop} {w0 w : World}
theorem ownC_ok {h h' : Heap Empty} {i i' : Nat} {c c' : SC} {v : Value} {ρ : Rho} {F : Nat → Nat → Prop} (ho : ownC h i c = some (c', h', i')) (H : @HeapOk E Empty _ ρ F h w) (hc : @SC.is E ρ c v) (G : Goes pr ρ0 F0 w0 ρ F w) :
    ∃ ρ' F', @SC.is E ρ' c' v ∧ @HeapOk E Empty _ ρ' F' h' w ∧ Goes pr ρ0 F0 w0 ρ' F' w ∧ Rho.Ext ρ ρ' := by
  unfold ownC at ho
  split at ho
  · rename_i n
    split at ho
    · rename_i k L hl hn
      cases ho
      obtain ⟨r,hr,rfl,hone⟩ := hc
      have hm : MachOk (k + 1) (@IE.lst E L) r (F n) w := H.obj n _ r hl hr
      have hv : ∃ u, r = .val u := by
        cases k with
        | zero => exact ⟨_,hm.1⟩
        | succ k => obtain ⟨a,len,cap,h1,_⟩ := hm; exact ⟨_,h1⟩
      obtain ⟨u,rfl⟩ := hv
      obtain ⟨F',H',G'⟩ := @HeapOk.moveM E Empty _ pr ρ F h _ w w H (some n) (F n) (ownN i) (k + 1) L u (F n) (.inr ⟨n,_,L,u,rfl,hl,hr,rfl,fun _ => Iff.rfl⟩) hn (ownN_hi i) (fun x hx => .inl hx) hm (fun _ _ _ => rfl) (Nat.le_refl _) rfl rfl rfl
      exact ⟨_,F',⟨.val u,upd_same _ _ _,rfl,hone⟩,H',G.trans G',G'.ext⟩
    · cases ho
  · split at ho
    · rename_i hn
      cases ho
      obtain rfl : v = .slice none 0 0 := hc
      obtain ⟨F',H',G'⟩ := @HeapOk.moveM E Empty _ pr ρ F h _ w w H none (fun _ => False) (ownN i) 1 .nilL (.slice none 0 0) (fun _ => False) (.inl ⟨rfl,rfl,fun _ h => h⟩) hn (ownN_hi i) (fun x hx => hx.elim) ⟨rfl,rfl,fun _ h => h⟩ (fun _ _ _ => rfl) (Nat.le_refl _) rfl rfl rfl
      exact ⟨_,F',⟨_,upd_same _ _ _,rfl,trivial⟩,H',G.trans G',G'.ext⟩
    · cases ho
  · cases ho
    exact ⟨ρ,F,hc,H,G,Rho.Ext.refl ρ⟩
theorem ownCs_ok : ∀ {l l' : List SC} {h h' : Heap Empty} {i i' : Nat} {vs : List Value} {ρ : Rho} {F : Nat → Nat → Prop}, ownCs h i l = some (l', h', i') → @HeapOk E Empty _ ρ F h w → All2 (@SC.is E ρ) l vs → Goes pr ρ0 F0 w0 ρ F w →
    ∃ ρ' F',All2 (@SC.is E ρ') l' vs ∧ @HeapOk E Empty _ ρ' F' h' w ∧ Goes pr ρ0 F0 w0 ρ' F' w ∧ Rho.Ext ρ ρ'
  | [],l',h,h',i,i',vs, ρ,F,ho,H,hc,G => by cases ho; exact ⟨ρ,F,hc,H,G,Rho.Ext.refl ρ⟩
  | c :: l,l',h,h',i,i', [], ρ,F,ho,H,hc,G => hc.elim
  | c :: l, l', h, h', i, i', v :: vs, ρ, F, ho, H, hc, G => by
    simp only [ownCs] at ho
    split at ho
    · rename_i c' h1 i1 h2
      split at ho
      · rename_i l1 r h3
        cases ho
        obtain ⟨ρ1,F1,k1,k2,k3,k4⟩ := ownC_ok h2 H hc.1 G
        obtain ⟨ρ2,F2,q1,q2,q3,q4⟩ := ownCs_ok h3 k2 (hc.2.mono fun x v hx => @SC.is_mono E ρ ρ1 k4 x v hx) k3
        exact ⟨ρ2,F2,⟨@SC.is_mono E ρ1 ρ2 q4 _ _ k1,q1⟩,q2,q3,k4.trans q4⟩
      · cases ho
    · cases ho
theorem ownW_ok {h h' : Heap Empty} {i i' : Nat} {c c' : SW} {v : Value} {ρ : Rho} {F : Nat → Nat → Prop} (ho : ownW h i c = some (c', h', i')) (H : @HeapOk E Empty _ ρ F h w) (hc : @SW.is E ρ c v) (G : Goes pr ρ0 F0 w0 ρ F w) :
    ∃ ρ' F', @SW.is E ρ' c' v ∧ @HeapOk E Empty _ ρ' F' h' w ∧ Goes pr ρ0 F0 w0 ρ' F' w ∧ Rho.Ext ρ ρ' := by
  unfold ownW at ho
  split at ho
  · split at ho
    · rename_i h2
      cases ho
      exact ownC_ok h2 H hc G
    · cases ho
  · split at ho
    · rename_i h2
      cases ho
      obtain ⟨vs,hv,hc⟩ := hc
      obtain ⟨ρ1,F1,k1,k2,k3,k4⟩ := ownCs_ok h2 H hc G
      exact ⟨ρ1,F1,⟨vs,hv,k1⟩,k2,k3,k4⟩
    · cases ho
theorem ownWs_ok : ∀ {l l' : List SW} {h h' : Heap Empty} {i i' : Nat} {vs : List Value} {ρ : Rho} {F : Nat → Nat → Prop}, ownWs h i l = some (l', h', i') → @HeapOk E Empty _ ρ F h w → All2 (@SW.is E ρ) l vs → Goes pr ρ0 F0 w0 ρ F w →
    ∃ ρ' F',All2 (@SW.is E ρ') l' vs ∧ @HeapOk E Empty _ ρ' F' h' w ∧ Goes pr ρ0 F0 w0 ρ' F' w ∧ Rho.Ext ρ ρ'
  | [],l',h,h',i,i',vs, ρ,F,ho,H,hc,G => by cases ho; exact ⟨ρ,F,hc,H,G,Rho.Ext.refl ρ⟩
  | c :: l,l',h,h',i,i', [], ρ,F,ho,H,hc,G => hc.elim
  | c :: l, l', h, h', i, i', v :: vs, ρ, F, ho, H, hc, G => by
    simp only [ownWs] at ho
    split at ho
    · rename_i c' h1 i1 h2
      split at ho
      · rename_i l1 r h3
        cases ho
        obtain ⟨ρ1,F1,k1,k2,k3,k4⟩ := ownW_ok h2 H hc.1 G
        obtain ⟨ρ2,F2,q1,q2,q3,q4⟩ := ownWs_ok h3 k2 (hc.2.mono fun x v hx => @SW.is_mono E ρ ρ1 k4 x v hx) k3
        exact ⟨ρ2,F2,⟨@SW.is_mono E ρ1 ρ2 q4 _ _ k1,q1⟩,q2,q3,k4.trans q4⟩
      · cases ho
    · cases ho
theorem ownV_ok {h h' : Heap Empty} {s s' : SV} {v : Value} {ρ : Rho} {F : Nat → Nat → Prop} (ho : ownV h s = some (s', h')) (H : @HeapOk E Empty _ ρ F h w) (hc : @SV.is E ρ s v) (G : Goes pr ρ0 F0 w0 ρ F w) :
    ∃ ρ' F', @SV.is E ρ' s' v ∧ @HeapOk E Empty _ ρ' F' h' w ∧ Goes pr ρ0 F0 w0 ρ' F' w := by
  unfold ownV at ho
  split at ho
  · cases ho
  · split at ho
    · rename_i h2
      cases ho
      obtain ⟨ρ1,F1,k1,k2,k3,_⟩ := ownW_ok h2 H hc G
      exact ⟨ρ1,F1,k1,k2,k3⟩
    · cases ho
  · split at ho
    · rename_i h2
      cases ho
      obtain ⟨vs,hv,hc⟩ := hc
      obtain ⟨ρ1,F1,k1,k2,k3,_⟩ := ownWs_ok h2 H hc G
      exact ⟨ρ1,F1,⟨vs,hv,k1⟩,k2,k3⟩
    · cases ho
end
def gcK (old : List Nat) (r : SV × Heap Empty) : Option (Heap Empty) :=
  let seen := reach r.2 1000 (r.1.nms ++ old) []
  let k : Nat → Bool := fun n => seen.contains n
  if inAll k old && (inAll k r.1.nms && closedH k r.2) then some (keepH k r.2) else none
theorem gcK_ok {E : Env} {pr : Nat → Nat → Prop} {ρ0 ρ : Rho} {F0 F : Nat → Nat → Prop} {w0 w : World} {old : List Nat} {s : SV} {h h' : Heap Empty} {v : Value} (hold : ∀ n, (ρ0 n).isSome → n ∈ old) (hd : gcK old (s, h) = some h')
    (H : @HeapOk E Empty _ ρ F h w) (hs : @SV.is E ρ s v) (G : Goes pr ρ0 F0 w0 ρ F w) : ∃ ρ', @SV.is E ρ' s v ∧ @HeapOk E Empty _ ρ' F h' w ∧ Goes pr ρ0 F0 w0 ρ' F w := by
  unfold gcK at hd
  simp only at hd
  split at hd
  · rename_i hc
    cases hd
    simp only [Bool.and_eq_true] at hc
    exact ⟨_, @SV.is_only E ρ _ s v hs hc.2.1, @HeapOk.only E Empty _ ρ F h w H _ hc.2.2,G.only fun n hn => inAll_mem hc.1 n (hold n hn)⟩
  · cases hd
def firstSl : List SC → Option Nat
  | [] => none
  | .b (.sl n _ _ _) :: _ => some n
  | .b (.isl n _ _) :: _ => some n
  | _ :: l => firstSl l
def firstSlV : SV → Option Nat
  | .w (.agg l) => firstSl l
  | .tup l => (l.filterMap fun x => match x with
    | .agg l => firstSl l
    | .one _ => none).head?
  | _ => none
inductive FoldOp where
  | mach (a : FoldAt) (K : Nat)
  | swap (m n : Nat)
  | isl (n : Nat)
  | own
  | drop
def swapT (old : List Nat) (r : SV × Heap Empty) (m n : Nat) : Tree (SV × Heap Empty) := if (hiB m && (hiB n && (!old.contains m && !old.contains n))) then .leaf (r.1.ren (swN m n),renH (swN m n) r.2) else .fail 402
def foldOp (old : List Nat) (r : SV × Heap Empty) : FoldOp → Tree (SV × Heap Empty)
  | .mach a K => if Nat.ble 1000 K then foldShs K (a.name r.1) old r (shapes K) else .fail 401
  | .swap m n => swapT old r m n
  | .isl n => match firstSlV r.1 with
    | some m => if old.contains m then .leaf r else swapT old r m n
    | none => .fail 403
  | .own => match ownV r.2 r.1 with
    | some r => .leaf r
    | none => .fail 404
  | .drop => match gcK old r with
    | some h => .leaf (r.1,h)
    | none => .fail 405
theorem swapT_ok {E : Env} {pr : Nat → Nat → Prop} {ρ0 : Rho} {F0 : Nat → Nat → Prop} {w0 w : World} {old : List Nat} {v : Value} {Q : SV × Heap Empty → Prop} (hold : ∀ n, (ρ0 n).isSome → n ∈ old)
    {m n : Nat} {s : SV} {h : Heap Empty} {ρ : Rho} {F : Nat → Nat → Prop} (H : @HeapOk E Empty _ ρ F h w) (hs : @SV.is E ρ s v) (G : Goes pr ρ0 F0 w0 ρ F w) (hQ : @Tree.holds E _ Q (swapT old (s,h) m n)) :
    ∃ s2 h2 ρ2 F2,Q (s2,h2) ∧ @SV.is E ρ2 s2 v ∧ @HeapOk E Empty _ ρ2 F2 h2 w ∧ Goes pr ρ0 F0 w0 ρ2 F2 w := by
  unfold swapT at hQ
  split at hQ
  case isFalse => exact hQ.elim
  rename_i hc
  simp only [Bool.and_eq_true,Bool.not_eq_true'] at hc
  obtain ⟨c1,c2,c3,c4⟩ := hc
  have c1 := (hiB_iff m).1 c1
  have c2 := (hiB_iff n).1 c2
  have hφ : ∀ k,swN m n (swN m n k) = k := swN_swN m n
  have hfix : ∀ k, (ρ0 k).isSome = true → swN m n k = k := fun k hk => by
    have := hold k hk
    unfold swN
    rw [if_neg (fun e => by subst e; simp [this] at c3),if_neg (fun e => by subst e; simp [this] at c4)]
  have hfix2 : ∀ k, ¬ Hi k → swN m n k = k := fun k hk => by
    unfold swN
    rw [if_neg (fun e => hk (by rw [e]; exact c1)),if_neg (fun e => hk (by rw [e]; exact c2))]
  have hhi : ∀ k, Hi (swN m n k) ↔ Hi k := fun k => by
    unfold swN
    by_cases h1 : k = m
    · subst h1; simp [c1,c2]
    · by_cases h2 : k = n
      · subst h2; simp [h1,c1,c2]
      · simp [h1,h2]
  have hinj : ∀ a b,a ≠ b → swN m n a ≠ swN m n b := fun a b hab e => hab (by rw [← hφ a,e,hφ b])
  have hρ : ∀ k,(fun k => ρ (swN m n k)) (swN m n k) = ρ k := fun k => by simp only [hφ]
  refine ⟨_,_,fun k => ρ (swN m n k),fun k => F (swN m n k),hQ,(@SV.ren_is E ρ (fun k => ρ (swN m n k)) (swN m n) s (fun k _ => (hρ k).symm) v).1 hs, @HeapOk.mk E Empty _ _ _ _ _ (fun k => ?_) (fun k o r hn hr => ?_) (fun a b x hab ha hb hh h1 h2 => ?_) (fun k o hn hw => ?_) (fun k x hk hx => H.size _ x hk hx), ?_⟩
  · rw [look_renH hφ, ← H.dom (swN m n k)]
    cases look h (swN m n k) <;> rfl
  · rw [look_renH hφ] at hn
    obtain ⟨o',ho',rfl⟩ := Option.map_eq_some_iff.1 hn
    exact (@SO.ren_ok E Empty _ ρ (fun k => ρ (swN m n k)) (swN m n) o' (fun k _ => (hρ k).symm) r (F (swN m n k)) w).1 (H.obj _ o' r ho' hr)
  · exact H.disj _ _ x (hinj a b hab) ha hb (hh.imp (hhi a).2 (hhi b).2) h1 h2
  · rw [look_renH hφ] at hn
    obtain ⟨o',ho',rfl⟩ := Option.map_eq_some_iff.1 hn
    exact (hhi k).1 (H.low _ o' ho' (by rw [← hw]; cases o' <;> rfl))
  · exact {
      ext := fun k r hr => by
        show ρ (swN m n k) = _
        rw [hfix k (by rw [hr]; rfl)]; exact G.ext k r hr
      os := G.os
      tape := G.tape
      output := G.output
      size := G.size
      keep := G.keep
      foot := fun k x hk hx => (G.foot (swN m n k) x hk hx).imp id fun ⟨j,j1,j2,j3⟩ => ⟨j,j1,j2,fun hk => j3 ((hhi k).2 hk)⟩
      old := fun k hk hr => by
        show F (swN m n k) = _
        rw [hfix2 k hk]; exact G.old k hk hr
      prot := G.prot }
theorem foldOp_ok {E : Env} {pr : Nat → Nat → Prop} {ρ0 : Rho} {F0 : Nat → Nat → Prop} {w0 w : World} {old : List Nat} {v : Value} {Q : SV × Heap Empty → Prop} (hold : ∀ n, (ρ0 n).isSome → n ∈ old)
    {op : FoldOp} {s : SV} {h : Heap Empty} {ρ : Rho} {F : Nat → Nat → Prop} (H : @HeapOk E Empty _ ρ F h w) (hs : @SV.is E ρ s v) (G : Goes pr ρ0 F0 w0 ρ F w) (hQ : @Tree.holds E _ Q (foldOp old (s,h) op)) :
    ∃ s2 h2 ρ2 F2,Q (s2,h2) ∧ @SV.is E ρ2 s2 v ∧ @HeapOk E Empty _ ρ2 F2 h2 w ∧ Goes pr ρ0 F0 w0 ρ2 F2 w := by
  cases op with
  | mach a K =>
    simp only [foldOp] at hQ
    split at hQ
    · rename_i hK
      exact foldShs_ok (Nat.le_of_ble_eq_true hK) hold H hs G (fun _ hq => hq) hQ
    · exact hQ.elim
  | swap m n => exact swapT_ok hold H hs G hQ
  | isl n =>
    simp only [foldOp] at hQ
    split at hQ
    · split at hQ
      · exact ⟨s,h, ρ,F,hQ,hs,H,G⟩
      · exact swapT_ok hold H hs G hQ
    · exact hQ.elim
  | own =>
    simp only [foldOp] at hQ
    split at hQ
    · rename_i r hr
      obtain ⟨ρ',F',k1,k2,k3⟩ := ownV_ok hr H hs G
      exact ⟨r.1,r.2, ρ',F',hQ,k1,k2,k3⟩
    · exact hQ.elim
  | drop =>
    simp only [foldOp] at hQ
    split at hQ
    · rename_i h' hd
      obtain ⟨ρ',k1,k2,k3⟩ := gcK_ok hold hd H hs G
      exact ⟨s,h', ρ',F,hQ,k1,k2,k3⟩
    · exact hQ.elim
def foldsL (old : List Nat) : List FoldOp → SV × Heap Empty → Tree (SV × Heap Empty)
  | [],r => .leaf r
  | op :: l,r => (foldOp old r op).bind (foldsL old l)
theorem foldsL_ok {E : Env} {pr : Nat → Nat → Prop} {ρ0 : Rho} {F0 : Nat → Nat → Prop} {w0 w : World} {old : List Nat} {v : Value} {Q : SV × Heap Empty → Prop} (hold : ∀ n, (ρ0 n).isSome → n ∈ old) :
    ∀ {l : List FoldOp} {s : SV} {h : Heap Empty} {ρ : Rho} {F : Nat → Nat → Prop}, @HeapOk E Empty _ ρ F h w → @SV.is E ρ s v → Goes pr ρ0 F0 w0 ρ F w → @Tree.holds E _ Q (foldsL old l (s,h)) →
    ∃ s2 h2 ρ2 F2,Q (s2,h2) ∧ @SV.is E ρ2 s2 v ∧ @HeapOk E Empty _ ρ2 F2 h2 w ∧ Goes pr ρ0 F0 w0 ρ2 F2 w
  | [],s,h, ρ,F,H,hs,G,hQ => ⟨s,h, ρ,F,hQ,hs,H,G⟩
  | op :: l, s, h, ρ, F, H, hs, G, hQ => by
    unfold foldsL at hQ
    rw [@Tree.holds_bind E] at hQ
    obtain ⟨s2,h2, ρ2,F2,k1,k2,k3,k4⟩ := foldOp_ok hold H hs G hQ
    exact foldsL_ok hold k3 k2 k4 k1
def prvA (n : Nat) : Bool := Nat.ble 5000 n && Nat.blt n 6000
def pubA (n : Nat) : Bool := !prvA n
abbrev Env.mix (E E0 : Env) : Env := ⟨fun n => if prvA n then E0.i n else E.i n,fun n => if prvA n then E0.l n else E.l n,fun n => if prvA n then E0.t n else E.t n⟩
theorem Env.mix_pub (E E0 : Env) : Ag pubA E (E.mix E0) := by
  have hp : ∀ n,pubA n = true → prvA n = false := fun n h => by simpa [pubA] using h
  refine ⟨fun n h => ?_,fun n h => ?_,fun n h => ?_⟩
  · show E.i n = if prvA n then E0.i n else E.i n
    rw [hp n h]; rfl
  · show E.l n = if prvA n then E0.l n else E.l n
    rw [hp n h]; rfl
  · show E.t n = if prvA n then E0.t n else E.t n
    rw [hp n h]; rfl
theorem Env.mix_prv (E E0 : Env) : Ag prvA E0 (E.mix E0) := by
  refine ⟨fun n h => ?_,fun n h => ?_,fun n h => ?_⟩
  · show E0.i n = if prvA n then E0.i n else E.i n
    rw [h]; rfl
  · show E0.l n = if prvA n then E0.l n else E.l n
    rw [h]; rfl
  · show E0.t n = if prvA n then E0.t n else E.t n
    rw [h]; rfl
def hiH : Heap Empty → Bool
  | [] => true
  | (n,_) :: h => hiB n && hiH h
theorem hiH_look : ∀ {h : Heap Empty} {n : Nat} {o : SO Empty}, hiH h = true → look h n = some o → Hi n
  | [],n,o,_,hl => by simp [look] at hl
  | (k, q) :: h, n, o, ha, hl => by
    simp only [hiH,Bool.and_eq_true] at ha
    simp only [look] at hl
    cases e : (k == n) with
    | true => rw [← beq_iff_eq.1 e]; exact (hiB_iff k).1 ha.1
    | false => rw [e,cond_false] at hl; exact hiH_look ha.2 hl
theorem look_append (a b : Heap Empty) (n : Nat) : look (a ++ b) n = match look a n with
    | some o => some o
    | none => look b n := by
  induction a with
  | nil => rfl
  | cons p a ih =>
    obtain ⟨m,o⟩ := p
    simp only [List.cons_append,look]
    cases (m == n) with
    | true => rfl
    | false => exact ih
def allB (p : Nat → Bool) : List BE → Bool
  | [] => true
  | b :: l => b.all p && allB p l
theorem allB_mem {p : Nat → Bool} : ∀ {l : List BE}, allB p l = true → ∀ b ∈ l, b.all p = true
  | [],_,b,hb => by cases hb
  | x :: l, h, b, hb => by
    simp only [allB,Bool.and_eq_true] at h
    rcases List.mem_cons.1 hb with rfl | hb
    · exact h.1
    · exact allB_mem h.2 b hb
def shapeB (N : Nat) (rest : Heap Empty) (sh : MShape) : Bool :=
  Nat.beq sh.main N && (hiH sh.hp && (allH prvA sh.hp && (sh.row.all prvA && (inAll (fun n => !memB sh.hp n) (namesH rest) && allB prvA sh.inv))))
theorem Summ.mach {P : Program} {c : ∀ [Env], CallF Empty} (hc : ∀ [Env], CallOk P (@c _)) {g K N a : Nat} {ps : List SV} {rest : Heap Empty} {t' : Tree (SV × Heap Empty)} (ops : List FoldOp)
    (he : enters P g) (hK : 1000 ≤ K) (hpub : (pubA a && (SVs.all pubA ps && (allH pubA rest && (allT pubA t' && (look rest N).isNone)))) = true)
    (hsh : ∀ sh ∈ shapes K, shapeB N rest sh = true ∧ ∃ tj, (∀ [Env], (c g ps [] (sh.hp ++ rest) 1).bind (foldsL (N :: namesH rest) ops) = tj) ∧
      ∀ (E : Env) (Q : SV × Heap Empty → Prop),E.l a = @IE.lst E sh.row → (∀ b ∈ sh.inv, @BE.val E b = true) → @Tree.holds E _ Q t' → @Tree.holds E _ (fun r => ∃ r',Q r' ∧ Eqv E r r') tj) :
    Summ.ok P ⟨g,ps,(N, .mach 0 (.consL (.lit K) (.latom a))) :: rest,t'⟩ := by
  refine ⟨he,fun E ρ F w argv Q H ha hQ => ?_⟩
  simp only [Bool.and_eq_true] at hpub
  obtain ⟨pa,pps,prest,pt,pN⟩ := hpub
  have H : @HeapOk E Empty _ ρ F ((N, .mach 0 (.consL (.lit K) (.latom a))) :: rest) w := H
  have ha : All2 (@SV.is E ρ) ps argv.toList := ha
  have hl0 : look ((N,(SO.mach 0 (.consL (.lit K) (.latom a)) : SO Empty)) :: rest) N = some (.mach 0 (.consL (.lit K) (.latom a))) := by simp [look]
  have Hdom := H.dom
  have Hobj := H.obj
  have Hdisj := H.disj
  have Hlow := H.low
  have Hsize := H.size
  obtain ⟨r,hr⟩ := @HeapOk.rho_some E Empty _ _ _ _ _ H N _ hl0
  have hcomp : CompOk ((K : Int)).toNat (E.l a) r (F N) w := Hobj N _ r hl0 hr
  rw [Int.toNat_natCast,CompOk.iff hK] at hcomp
  obtain ⟨sh,hs,E0, ρ0,G,hrow,hinv,hmain,HM,hFN⟩ := hcomp
  obtain ⟨hB,tj,htj,told⟩ := hsh sh hs
  simp only [shapeB,Bool.and_eq_true] at hB
  obtain ⟨b1,b2,b3,b4,b5,b6⟩ := hB
  have b1 := Nat.eq_of_beq_eq_true b1
  subst b1
  have hlrest : ∀ n, (look sh.hp n).isSome = true → look rest n = none := fun n hn => by
    cases hl : look rest n with
    | none => rfl
    | some o =>
      have := inAll_mem b5 n (look_namesH (A := Empty) hl)
      simp only [memB,hn,Bool.not_true,Bool.false_eq_true] at this
  have hdom0 : ∀ n,(look sh.hp n).isSome = (ρ0 n).isSome := fun n => by rw [← look0_look]; exact HM.dom n
  have hmem : (look sh.hp sh.main).isSome = true := by rw [hdom0,hmain]; rfl
  let E1 := E.mix E0
  let ρ1 : Rho := fun n => if (look sh.hp n).isSome = true then ρ0 n else ρ n
  let F1 : Nat → Nat → Prop := fun n => if (look sh.hp n).isSome = true then G n else F n
  have hρ1a : ∀ n,(look sh.hp n).isSome = true → ρ1 n = ρ0 n := fun n hn => if_pos hn
  have hρ1b : ∀ n, ¬ (look sh.hp n).isSome = true → ρ1 n = ρ n := fun n hn => if_neg hn
  have hF1a : ∀ n,(look sh.hp n).isSome = true → F1 n = G n := fun n hn => if_pos hn
  have hF1b : ∀ n, ¬ (look sh.hp n).isSome = true → F1 n = F n := fun n hn => if_neg hn
  have hlook : ∀ n, ¬ (look sh.hp n).isSome = true → look ((sh.main, SO.mach 0 (.consL (.lit K) (.latom a))) :: rest) n = look rest n := fun n hn => by
    simp only [look]
    cases e : (sh.main == n) with
    | true => rw [← beq_iff_eq.1 e] at hn; exact absurd hmem hn
    | false => rfl
  have hext0 : Rho.Ext ρ0 ρ1 := fun n q hq => by rw [hρ1a n (by rw [hdom0,hq]; rfl)]; exact hq
  have hextρ : Rho.Ext ρ ρ1 := fun n q hq => by
    by_cases e : (look sh.hp n).isSome = true
    · rw [hρ1a n e]
      by_cases en : n = sh.main
      · subst en; rw [hmain]; rw [hr] at hq; exact hq
      · have h1 := Hdom n
        rw [hq] at h1
        have h2 := hlrest n e
        simp only [look] at h1
        have : (sh.main == n) = false := by simpa using fun e => en e.symm
        rw [this,cond_false,h2] at h1
        cases h1
    · rw [hρ1b n e]; exact hq
  have hpb := Env.mix_pub E E0
  have hpv := Env.mix_prv E E0
  have hGN : ∀ n b,(ρ0 n).isSome = true → G n b → F sh.main b := fun n b hn hb => (hFN b).2 ⟨n,hn,hb⟩
  have hmainHi : Hi sh.main := by
    obtain ⟨o,ho⟩ := Option.isSome_iff_exists.1 hmem
    exact hiH_look b2 ho
  have H1 : @HeapOk E1 Empty _ ρ1 F1 (sh.hp ++ rest) w := by
    refine @HeapOk.mk E1 Empty _ _ _ _ _ (fun n => ?_) (fun n o q hn hq => ?_) (fun n m b hne hn hm hh hb hb2 => ?_) (fun n o hn hw => ?_) (fun n b hn hb => ?_)
    · rw [look_append]
      cases e : look sh.hp n with
      | some o =>
        have e' : (look sh.hp n).isSome = true := by rw [e]; rfl
        rw [hρ1a n e', ← hdom0,e]
      | none =>
        have e' : ¬ (look sh.hp n).isSome = true := by rw [e]; simp
        rw [hρ1b n e', ← Hdom n,hlook n e']
    · rw [look_append] at hn
      cases e : look sh.hp n with
      | some o' =>
        rw [e] at hn; cases hn
        have e' : (look sh.hp n).isSome = true := by rw [e]; rfl
        rw [hρ1a n e'] at hq
        rw [hF1a n e']
        have g1 := HM.obj n o q (by rw [look0_look]; exact e) hq
        have g2 := SO.ok_ofM g1
        have g3 := SO.ag hpv o (allH_look b3 e) g2
        exact @SO.ok_frame E1 Empty _ ρ0 ρ1 hext0 q (G n) w w o g3 (Nat.le_refl _) fun _ _ => rfl
      | none =>
        rw [e] at hn
        simp only at hn
        have e' : ¬ (look sh.hp n).isSome = true := by rw [e]; simp
        rw [hρ1b n e'] at hq
        rw [hF1b n e']
        have g2 := Hobj n o q (by rw [hlook n e']; exact hn) hq
        have g3 := SO.ag hpb o (allH_look prest hn) g2
        exact @SO.ok_frame E1 Empty _ ρ ρ1 hextρ q (F n) w w o g3 (Nat.le_refl _) fun _ _ => rfl
    · by_cases e1 : (look sh.hp n).isSome = true <;> by_cases e2 : (look sh.hp m).isSome = true
      · rw [hρ1a n e1] at hn
        rw [hρ1a m e2] at hm
        rw [hF1a n e1] at hb
        rw [hF1a m e2] at hb2
        exact HM.disj n m b hne hn hm hb hb2
      · rw [hρ1a n e1] at hn
        rw [hρ1b m e2] at hm
        rw [hF1a n e1] at hb
        rw [hF1b m e2] at hb2
        exact Hdisj sh.main m b (fun e => e2 (e ▸ hmem)) (by rw [hr]; rfl) hm (.inl hmainHi) (hGN n b hn hb) hb2
      · rw [hρ1b n e1] at hn
        rw [hρ1a m e2] at hm
        rw [hF1b n e1] at hb
        rw [hF1a m e2] at hb2
        exact Hdisj n sh.main b (fun e => e1 (e ▸ hmem)) hn (by rw [hr]; rfl) (.inr hmainHi) hb (hGN m b hm hb2)
      · rw [hρ1b n e1] at hn
        rw [hρ1b m e2] at hm
        rw [hF1b n e1] at hb
        rw [hF1b m e2] at hb2
        exact Hdisj n m b hne hn hm hh hb hb2
    · rw [look_append] at hn
      cases e : look sh.hp n with
      | some o' => exact hiH_look b2 e
      | none =>
        rw [e] at hn
        have e' : ¬ (look sh.hp n).isSome = true := by rw [e]; simp
        exact Hlow n o (by rw [hlook n e']; exact hn) hw
    · by_cases e1 : (look sh.hp n).isSome = true
      · rw [hρ1a n e1] at hn
        rw [hF1a n e1] at hb
        exact Hsize sh.main b (by rw [hr]; rfl) (hGN n b hn hb)
      · rw [hρ1b n e1] at hn
        rw [hF1b n e1] at hb
        exact Hsize n b hn hb
  have G0 : Goes (Prot.pr []) ρ F w ρ1 F1 w := {
    ext := hextρ
    os := rfl
    tape := rfl
    output := rfl
    size := Nat.le_refl _
    keep := fun _ _ _ => rfl
    foot := fun n b hn hb => by
      by_cases e1 : (look sh.hp n).isSome = true
      · rw [hρ1a n e1] at hn
        rw [hF1a n e1] at hb
        exact .inr ⟨sh.main,by rw [hr]; rfl,hGN n b hn hb,fun _ => hmainHi⟩
      · rw [hρ1b n e1] at hn
        rw [hF1b n e1] at hb
        exact .inr ⟨n,hn,hb,id⟩
    old := fun n hn hr => by
      by_cases e1 : (look sh.hp n).isSome = true
      · obtain ⟨o, ho⟩ := Option.isSome_iff_exists.1 e1
        exact absurd (hiH_look b2 ho) hn
      · exact hF1b n e1
    prot := fun _ _ _ _ _ => rfl }
  have ha1 : All2 (@SV.is E1 ρ1) ps argv.toList := (SVs.ag hpb ps _ pps ha).mono fun x v hx => @SV.is_mono E1 ρ ρ1 hextρ x v hx
  have hQ1 := Tree.ag hpb pt hQ
  have hrow1 : E1.l a = @IE.lst E1 sh.row := by
    rw [← hpb.l a pa, ← (IE.ag hpv sh.row b4).2,hrow]
  have hinv1 : ∀ b ∈ sh.inv, @BE.val E1 b = true := fun b hb => by rw [← BE.ag hpv b (allB_mem b6 b hb)]; exact hinv b hb
  have h2 := told E1 _ hrow1 hinv1 hQ1
  rw [← @htj E1, @Tree.holds_bind E1] at h2
  refine Calls.mono (@hc E1 g ps [] (sh.hp ++ rest) 1 ρ1 F1 w argv _ H1 ha1 h2).2 fun e w' he' => ?_
  obtain ⟨s,h',v, ρ',F',k1,rfl,k3,k4,k5⟩ := he'
  obtain ⟨s2, h2, ρ2, F2, ⟨r', ⟨q0, q1⟩, q2, q3⟩, q4, q5, q6⟩ := foldsL_ok (w0 := w) (fun n hn => by
      obtain ⟨q,hq⟩ := Option.isSome_iff_exists.1 hn
      obtain ⟨o,ho⟩ := @HeapOk.look_some E Empty _ _ _ _ _ H _ _ hq
      exact look_namesH (A := Empty) ho) k4 k3 (G0.trans k5) k1
  simp only [Bool.and_eq_true] at q1
  exact ⟨r'.1,r'.2,v, ρ2,F2,q0,rfl,SV.ag hpb.symm _ _ q1.1 (q2 _ _ q4),HeapOk.ag hpb.symm q1.2 (q3 _ _ _ q5),q6⟩
end Go.Proofs.Ytafemlljemhkhaa.Sx
