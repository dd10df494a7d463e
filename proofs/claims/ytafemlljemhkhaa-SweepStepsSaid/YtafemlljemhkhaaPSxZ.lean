import Derived.Test.YtafemlljemhkhaaPSxMg
namespace Go.Proofs.Ytafemlljemhkhaa.Sx
open Go
set_option linter.unusedSectionVars false
set_option linter.unusedVariables false
set_option linter.unusedSimpArgs false
variable [Env]
def findR (x : IE) : List (IE × IE) → Option IE
  | [] => none
  | (a,b) :: l => if IE.beq a x = true then some b else findR x l
def at1 (rs : List (IE × IE)) (x : IE) : IE := match findR x rs with
  | some y => y
  | none => x
def Rs (rs : List (IE × IE)) : Prop := ∀ p ∈ rs,p.1.val = p.2.val ∧ p.1.lst = p.2.lst
theorem findR_spec {x y : IE} : ∀ {rs : List (IE × IE)}, Rs rs → findR x rs = some y → x.val = y.val ∧ x.lst = y.lst
  | [],_,h => by cases h
  | (a, b) :: l, hr, h => by
    simp only [findR] at h
    split at h
    · rename_i e
      cases h
      rw [← IE.beq_eq e]
      exact hr _ (List.mem_cons_self ..)
    · exact findR_spec (fun p hp => hr p (List.mem_cons_of_mem _ hp)) h
theorem at1_spec {rs : List (IE × IE)} (hr : Rs rs) (x : IE) : (at1 rs x).val = x.val ∧ (at1 rs x).lst = x.lst := by
  unfold at1
  split
  · rename_i y h; have := findR_spec hr h; exact ⟨this.1.symm,this.2.symm⟩
  · exact ⟨rfl,rfl⟩
def mkIte (c x y : IE) : IE := if IE.beq x y = true then x else match c with
  | .lit n => if n = 0 then y else x
  | c => .ite c x y
theorem mkIte_spec (c x y : IE) : (mkIte c x y).val = (IE.ite c x y).val ∧ (mkIte c x y).lst = (IE.ite c x y).lst := by
  unfold mkIte
  split
  · rename_i h
    rw [← IE.beq_eq h]
    simp only [IE.val,IE.lst,iteI]
    constructor <;> split <;> rfl
  · split
    · rename_i n
      have e1 : (IE.ite (.lit n) x y).val = iteI n x.val y.val := rfl
      have e2 : (IE.ite (.lit n) x y).lst = iteI n x.lst y.lst := rfl
      rw [e1,e2]
      unfold iteI
      by_cases h : n = 0
      · rw [if_pos h,if_pos h,if_pos h]; exact ⟨rfl,rfl⟩
      · rw [if_neg h,if_neg h,if_neg h]; exact ⟨rfl,rfl⟩
    · exact ⟨rfl,rfl⟩
def mkCmpI (o : BinOp) (a b : IE) : IE := (canonCmp o a b).toI
theorem mkCmpI_val (o : BinOp) (a b : IE) : (mkCmpI o a b).val = (IE.cmpI o a b).val := by
  unfold mkCmpI; rw [BE.toI_val,canonCmp_val]; simp only [IE.val]
theorem toI_lst : ∀ (b : BE), b.toI.lst = []
  | .lit _ | .atom _ | .cmp _ _ _ | .not _ | .eq _ _ | .and _ _ => by simp only [BE.toI,IE.lst]
def mkNotI : IE → IE
  | .lit n => .lit (if n = 0 then 1 else 0)
  | .cmpI .eql a b => .cmpI .neq a b
  | .cmpI .neq a b => .cmpI .eql a b
  | .cmpI .lss a b => .cmpI .leq b a
  | .cmpI .leq a b => .cmpI .lss b a
  | x => .notI x
theorem mkNotI_val (x : IE) : (mkNotI x).val = (IE.notI x).val ∧ (mkNotI x).lst = [] := by
  have key : ∀ p q : Bool,p = !q → ofB p = ofB (ofB q == 0) := by intro p q h; subst h; cases q <;> rfl
  unfold mkNotI
  split
  · rename_i n
    refine ⟨?_,by simp only [IE.lst]⟩
    show (IE.lit (if n = 0 then 1 else 0)).val = (IE.notI (.lit n)).val
    by_cases h : n = 0
    · subst h; rfl
    · rw [if_neg h]
      have e : (n == 0) = false := by simpa using h
      show (0 : Int) = ofB (n == 0)
      rw [e]; rfl
  · simp only [IE.val,IE.lst,cmpVal]; exact ⟨key _ _ rfl,trivial⟩
  · simp only [IE.val,IE.lst,cmpVal]; exact ⟨key _ _ (by simp [bne]),trivial⟩
  · simp only [IE.val,IE.lst,cmpVal]; exact ⟨key _ _ (by rw [← decide_not]; exact decide_eq_decide.2 (by omega)),trivial⟩
  · simp only [IE.val,IE.lst,cmpVal]; exact ⟨key _ _ (by rw [← decide_not]; exact decide_eq_decide.2 (by omega)),trivial⟩
  · exact ⟨rfl,by simp only [IE.lst]⟩
def mkEqL (a b : IE) : IE := if IE.beq a b = true then .lit 1 else .eqL a b
theorem mkEqL_spec (a b : IE) : (mkEqL a b).val = (IE.eqL a b).val ∧ (mkEqL a b).lst = [] := by
  unfold mkEqL
  split
  · rename_i h
    rw [IE.beq_eq h]
    simp only [IE.val,IE.lst,decide_true]
    exact ⟨rfl,trivial⟩
  · exact ⟨rfl,by simp only [IE.lst]⟩
def mkMn0 : IE → IE → IE
  | .lit x, .lit y => .lit (if y < x then y else x)
  | a,b => .mn a b
theorem mkMn0_val (a b : IE) : (mkMn0 a b).val = if b.val < a.val then b.val else a.val := by unfold mkMn0; split <;> rfl
def IE.repl (rs : List (IE × IE)) : IE → IE
  | .lit n => .lit n
  | .atom i => at1 rs (.atom i)
  | .op o k a b => at1 rs (mkOp o k (a.repl rs) (b.repl rs))
  | .conv k a => at1 rs (mkConv k (a.repl rs))
  | .mn a b => at1 rs (mkMn0 (a.repl rs) (b.repl rs))
  | .mx a b => at1 rs (mkMx (a.repl rs) (b.repl rs))
  | .at_ a i s o => at1 rs (.at_ (a.repl rs) (i.repl rs) s o)
  | .dif a b => at1 rs (.dif (a.repl rs) (b.repl rs))
  | .nat a => at1 rs (mkNat (a.repl rs))
  | .cmpI o a b => at1 rs (mkCmpI o (a.repl rs) (b.repl rs))
  | .notI a => at1 rs (mkNotI (a.repl rs))
  | .andI a b => at1 rs (.andI (a.repl rs) (b.repl rs))
  | .eqI a b => at1 rs (.eqI (a.repl rs) (b.repl rs))
  | .eqL a b => at1 rs (mkEqL (a.repl rs) (b.repl rs))
  | .ite c x y => at1 rs (mkIte (c.repl rs) (x.repl rs) (y.repl rs))
  | .get l i o => at1 rs (.get (l.repl rs) (i.repl rs) o)
  | .len l => at1 rs (mkLen (l.repl rs))
  | .tab d i c => at1 rs (.tab d (i.repl rs) c)
  | .fn d a => at1 rs (.fn d (a.repl rs))
  | .latom i => at1 rs (.latom i)
  | .nilL => .nilL
  | .consL x l => at1 rs (.consL (x.repl rs) (l.repl rs))
  | .rep n s => at1 rs (.rep (n.repl rs) s)
  | .putL l o s => at1 rs (.putL (l.repl rs) (o.repl rs) (s.repl rs))
  | .subL l o n s => at1 rs (.subL (l.repl rs) (o.repl rs) (n.repl rs) s)
  | .ofTab d n => at1 rs (.ofTab d (n.repl rs))
  | .fnL d a => at1 rs (.fnL d (a.repl rs))
  | .catL a b => at1 rs (.catL (a.repl rs) (b.repl rs))
  | .tabL d n c => at1 rs (.tabL d (n.repl rs) c)
theorem mk_lst : (∀ o k a b, (mkOp o k a b).lst = []) ∧ (∀ k a, (mkConv k a).lst = []) ∧ (∀ a b, (mkMn0 a b).lst = []) ∧ (∀ a b, (mkMx a b).lst = []) ∧ (∀ a, (mkNat a).lst = []) := by
  refine ⟨fun o k a b => ?_,fun k a => ?_,fun a b => ?_,fun a b => ?_,fun a => ?_⟩
  · unfold mkOp; split <;> simp only [IE.lst]
  · unfold mkConv; split <;> simp only [IE.lst]
  · unfold mkMn0; split <;> simp only [IE.lst]
  · unfold mkMx; split <;> simp only [IE.lst]
  · unfold mkNat; split <;> simp only [IE.lst]
theorem mkLen_lst : ∀ l : IE, (mkLen l).lst = []
  | .putL l _ _ => by simp only [mkLen]; exact mkLen_lst l
  | .ofTab _ n => by simp only [mkLen]; exact mk_lst.2.2.2.2 n
  | .rep n sz => by
    simp only [mkLen]
    split
    · exact mk_lst.2.2.2.2 n
    · simp only [IE.lst]
  | .ite c x y => by
    simp only [mkLen]
    split
    · exact mkLen_lst x
    · simp only [IE.lst]
  | .lit _ | .atom _ | .op _ _ _ _ | .conv _ _ | .mn _ _ | .mx _ _ | .at_ _ _ _ _ | .dif _ _ | .nat _ | .cmpI _ _ _ | .notI _ | .andI _ _ | .eqI _ _ | .eqL _ _ | .get _ _ _ | .len _ | .tab _ _ _ | .fn _ _
  | .latom _ | .nilL | .consL _ _ | .subL _ _ _ _ | .fnL _ _ | .catL _ _ | .tabL _ _ _ => by simp only [mkLen,IE.lst]
theorem IE.repl_spec {rs : List (IE × IE)} (hr : Rs rs) : ∀ (x : IE), (x.repl rs).val = x.val ∧ (x.repl rs).lst = x.lst := by
  have go : ∀ (x y : IE), (y.val = x.val ∧ y.lst = x.lst) → (at1 rs y).val = x.val ∧ (at1 rs y).lst = x.lst := fun x y h => by
    have := at1_spec hr y
    exact ⟨this.1.trans h.1,this.2.trans h.2⟩
  intro x
  induction x with
  | lit n => exact ⟨rfl,rfl⟩
  | nilL => exact ⟨rfl,rfl⟩
  | atom i => exact go _ _ ⟨rfl,rfl⟩
  | latom i => exact go _ _ ⟨rfl,rfl⟩
  | op o k a b ia ib => exact go _ _ ⟨by rw [mkOp_val,ia.1,ib.1]; simp only [IE.val],by rw [mk_lst.1]; simp only [IE.lst]⟩
  | conv k a ia => exact go _ _ ⟨by rw [mkConv_val,ia.1]; simp only [IE.val],by rw [mk_lst.2.1]; simp only [IE.lst]⟩
  | mn a b ia ib => exact go _ _ ⟨by rw [mkMn0_val,ia.1,ib.1]; simp only [IE.val,minI],by rw [mk_lst.2.2.1]; simp only [IE.lst]⟩
  | mx a b ia ib => exact go _ _ ⟨by rw [mkMx_val,ia.1,ib.1]; simp only [IE.val,maxI],by rw [mk_lst.2.2.2.1]; simp only [IE.lst]⟩
  | at_ a i s o ia ii => exact go _ _ ⟨by simp only [IE.val,ia.1,ii.1],by simp only [IE.lst]⟩
  | dif a b ia ib => exact go _ _ ⟨by simp only [IE.val,ia.1,ib.1],by simp only [IE.lst]⟩
  | nat a ia => exact go _ _ ⟨by rw [mkNat_val,ia.1]; simp only [IE.val],by rw [mk_lst.2.2.2.2]; simp only [IE.lst]⟩
  | cmpI o a b ia ib => exact go _ _ ⟨by rw [mkCmpI_val]; simp only [IE.val,ia.1,ib.1],by rw [mkCmpI,toI_lst]; simp only [IE.lst]⟩
  | notI a ia => exact go _ _ ⟨by rw [(mkNotI_val _).1]; simp only [IE.val,ia.1],by rw [(mkNotI_val _).2]; simp only [IE.lst]⟩
  | andI a b ia ib => exact go _ _ ⟨by simp only [IE.val,ia.1,ib.1],by simp only [IE.lst]⟩
  | eqI a b ia ib => exact go _ _ ⟨by simp only [IE.val,ia.1,ib.1],by simp only [IE.lst]⟩
  | eqL a b ia ib => exact go _ _ ⟨by rw [(mkEqL_spec _ _).1]; simp only [IE.val,ia.2,ib.2],by rw [(mkEqL_spec _ _).2]; simp only [IE.lst]⟩
  | ite c x y ic ix iy => exact go _ _ ⟨by rw [(mkIte_spec _ _ _).1]; simp only [IE.val,ic.1,ix.1,iy.1],by rw [(mkIte_spec _ _ _).2]; simp only [IE.lst,ic.1,ix.2,iy.2]⟩
  | get l i o il ii => exact go _ _ ⟨by simp only [IE.val,il.2,ii.1],by simp only [IE.lst]⟩
  | len l il => exact go _ _ ⟨by rw [mkLen_val,il.2]; simp only [IE.val],by rw [mkLen_lst]; simp only [IE.lst]⟩
  | tab d i c ii => exact go _ _ ⟨by simp only [IE.val,ii.1],by simp only [IE.lst]⟩
  | fn d a ia => exact go _ _ ⟨by simp only [IE.val,ia.2],by simp only [IE.lst]⟩
  | consL x l ix il => exact go _ _ ⟨by simp only [IE.val],by simp only [IE.lst,ix.1,il.2]⟩
  | rep n s ii => exact go _ _ ⟨by simp only [IE.val],by simp only [IE.lst,ii.1]⟩
  | putL l o s il io is => exact go _ _ ⟨by simp only [IE.val],by simp only [IE.lst,il.2,io.1,is.2]⟩
  | subL l o n s il io ii => exact go _ _ ⟨by simp only [IE.val],by simp only [IE.lst,il.2,io.1,ii.1]⟩
  | ofTab d n ii => exact go _ _ ⟨by simp only [IE.val],by simp only [IE.lst,ii.1]⟩
  | fnL d a ia => exact go _ _ ⟨by simp only [IE.val],by simp only [IE.lst,ia.2]⟩
  | catL a b ia ib => exact go _ _ ⟨by simp only [IE.val],by simp only [IE.lst,ia.2,ib.2]⟩
  | tabL d n c ii => exact go _ _ ⟨by simp only [IE.val],by simp only [IE.lst,ii.1]⟩
def BE.repl (rs : List (IE × IE)) : BE → BE
  | .lit b => .lit b
  | .atom i => .atom i
  | .cmp o a b => canonCmp o (a.repl rs).sim (b.repl rs).sim
  | .not a => notC (a.repl rs)
  | .eq a b => mkEq (a.repl rs) (b.repl rs)
  | .and a b => mkAnd (a.repl rs) (b.repl rs)
theorem BE.repl_val {rs : List (IE × IE)} (hr : Rs rs) : ∀ (b : BE), (b.repl rs).val = b.val
  | .lit _ | .atom _ => rfl
  | .cmp o a b => by simp only [BE.repl,canonCmp_val,IE.sim_val,(IE.repl_spec hr a).1,(IE.repl_spec hr b).1,BE.val]
  | .not a => by simp only [BE.repl,notC_val,BE.repl_val hr a,BE.val]
  | .eq a b => by simp only [BE.repl,mkEq_val,BE.repl_val hr a,BE.repl_val hr b,BE.val]
  | .and a b => by simp only [BE.repl,mkAnd_val,BE.repl_val hr a,BE.repl_val hr b,BE.val]
end Go.Proofs.Ytafemlljemhkhaa.Sx
