import Derived.OrdersHeld
import Derived.Calls
import Derived.Below
import Derived.Test.YtafemlljemhkhaaPSxFun
import Derived.Laws.Sem
import Derived.Laws.World
import Derived.Laws.StructEq
namespace Go.Proofs.Ytafemlljemhkhaa.Sx
open Go
set_option linter.unusedSectionVars false
set_option linter.unusedVariables false
set_option linter.unusedSimpArgs false
inductive RV where
  | blk (b : Nat)
  | val (v : Value)
def RV.value : RV → Value
  | .blk b => .pointer (some ⟨b,0,none⟩)
  | .val v => v
def binVal (o : BinOp) (k : IntKind) (x y : Int) : Int :=
  match o with
  | .add => k.wrap (x + y)
  | .sub => k.wrap (x - y)
  | .mul => k.wrap (x * y)
  | .quo => k.wrap (x.tdiv y)
  | .rem => x.tmod y
  | .and => k.wrap (BitVec.ofInt k.bits x &&& BitVec.ofInt k.bits y).toNat
  | .or => k.wrap (BitVec.ofInt k.bits x ||| BitVec.ofInt k.bits y).toNat
  | .xor => k.wrap (BitVec.ofInt k.bits x ^^^ BitVec.ofInt k.bits y).toNat
  | .andNot => k.wrap (BitVec.ofInt k.bits x &&& ~~~BitVec.ofInt k.bits y).toNat
  | .shl => k.wrap (x * 2 ^ (min y.toNat k.bits))
  | .shr => x.fdiv (2 ^ (min y.toNat k.bits))
  | _ => 0
class Env where
  i : Nat → Int
  l : Nat → List Int
  t : Nat → Nat → Nat → Int
def writeL {α : Type} (l : List α) (off : Nat) : List α → List α
  | [] => l
  | c :: cs => writeL (l.set off c) (off + 1) cs
inductive IE where
  | lit (n : Int)
  | atom (id : Nat)
  | op (o : BinOp) (k : IntKind) (a b : IE)
  | conv (k : IntKind) (a : IE)
  | mn (a b : IE)
  | mx (a b : IE)
  | at_ (a i : IE) (size off : Nat)
  | dif (a b : IE)
  | nat (a : IE)
  | cmpI (o : BinOp) (a b : IE)
  | notI (a : IE)
  | andI (a b : IE)
  | eqI (a b : IE)
  | eqL (a b : IE)
  | ite (c x y : IE)
  | get (l i : IE) (off : Nat)
  | len (l : IE)
  | tab (id : Nat) (i : IE) (col : Nat)
  | fn (id : Nat) (a : IE)
  | latom (id : Nat)
  | nilL
  | consL (x l : IE)
  | rep (n : IE) (sz : Nat)
  | putL (l off src : IE)
  | subL (l off n : IE) (sz : Nat)
  | ofTab (id : Nat) (n : IE)
  | fnL (id : Nat) (a : IE)
  | catL (a b : IE)
  | tabL (id : Nat) (n : IE) (c : Nat)
def cmpVal (o : BinOp) (x y : Int) : Bool :=
  match o with
  | .eql => x == y
  | .neq => x != y
  | .lss => decide (x < y)
  | .leq => decide (x ≤ y)
  | .gtr => decide (x > y)
  | .geq => decide (x ≥ y)
  | _ => false
def ofB (b : Bool) : Int := if b then 1 else 0
def minI (x y : Int) : Int := if y < x then y else x
def maxI (x y : Int) : Int := if y > x then y else x
def iteI {α : Type} (c : Int) (x y : α) : α := if c = 0 then y else x
mutual
def IE.val [Env] : IE → Int
  | .lit n => n
  | .atom id => Env.i id
  | .op o k a b => binVal o k a.val b.val
  | .conv k a => k.wrap a.val
  | .mn a b => minI a.val b.val
  | .mx a b => maxI a.val b.val
  | .at_ a i size off => ((a.val.toNat + i.val.toNat * size + off : Nat) : Int)
  | .dif a b => ((a.val.toNat - b.val.toNat : Nat) : Int)
  | .nat a => (a.val.toNat : Int)
  | .cmpI o a b => ofB (cmpVal o a.val b.val)
  | .notI a => ofB (a.val == 0)
  | .andI a b => ofB (a.val != 0 && b.val != 0)
  | .eqI a b => ofB ((a.val != 0) == (b.val != 0))
  | .eqL a b => ofB (decide (a.lst = b.lst))
  | .ite c x y => iteI c.val x.val y.val
  | .get l i off => l.lst.getD (i.val.toNat + off) 0
  | .len l => (l.lst.length : Int)
  | .tab id i col => Env.t id i.val.toNat col
  | .fn id a => funs id a.lst
  | _ => 0
def IE.lst [Env] : IE → List Int
  | .latom id => Env.l id
  | .consL x l => x.val :: l.lst
  | .rep n sz => List.replicate (n.val.toNat * sz) 0
  | .putL l off src => writeL l.lst off.val.toNat src.lst
  | .subL l off n sz => (l.lst.drop off.val.toNat).take (n.val.toNat * sz)
  | .ofTab id n => (List.range n.val.toNat).map fun i => Env.t id i 0
  | .fnL id a => funsL id a.lst
  | .catL a b => a.lst ++ b.lst
  | .tabL id n c => (List.range n.val.toNat).flatMap fun i => (List.range c).map fun j => Env.t id i j
  | .ite c x y => iteI c.val x.lst y.lst
  | _ => []
end
def IE.beq : IE → IE → Bool
  | .lit m, .lit n => decide (m = n)
  | .atom i, .atom j => Nat.beq i j
  | .op o k a b, .op o' k' a' b' => decide (o = o') && (decide (k = k') && (IE.beq a a' && IE.beq b b'))
  | .conv k a, .conv k' a' => decide (k = k') && IE.beq a a'
  | .mn a b, .mn a' b' => IE.beq a a' && IE.beq b b'
  | .mx a b, .mx a' b' => IE.beq a a' && IE.beq b b'
  | .at_ a i s o, .at_ a' i' s' o' => Nat.beq s s' && (Nat.beq o o' && (IE.beq a a' && IE.beq i i'))
  | .dif a b, .dif a' b' => IE.beq a a' && IE.beq b b'
  | .nat a, .nat a' => IE.beq a a'
  | .cmpI o a b, .cmpI o' a' b' => decide (o = o') && (IE.beq a a' && IE.beq b b')
  | .notI a, .notI a' => IE.beq a a'
  | .andI a b, .andI a' b' => IE.beq a a' && IE.beq b b'
  | .eqI a b, .eqI a' b' => IE.beq a a' && IE.beq b b'
  | .eqL a b, .eqL a' b' => IE.beq a a' && IE.beq b b'
  | .ite c x y, .ite c' x' y' => IE.beq c c' && (IE.beq x x' && IE.beq y y')
  | .get l i o, .get l' i' o' => Nat.beq o o' && (IE.beq l l' && IE.beq i i')
  | .len l, .len l' => IE.beq l l'
  | .tab d i c, .tab d' i' c' => Nat.beq d d' && (Nat.beq c c' && IE.beq i i')
  | .fn d a, .fn d' a' => Nat.beq d d' && IE.beq a a'
  | .latom i, .latom j => Nat.beq i j
  | .nilL, .nilL => true
  | .consL x l, .consL x' l' => IE.beq x x' && IE.beq l l'
  | .rep n s, .rep n' s' => Nat.beq s s' && IE.beq n n'
  | .putL l o s, .putL l' o' s' => IE.beq l l' && (IE.beq o o' && IE.beq s s')
  | .subL l o n s, .subL l' o' n' s' => Nat.beq s s' && (IE.beq l l' && (IE.beq o o' && IE.beq n n'))
  | .ofTab d n, .ofTab d' n' => Nat.beq d d' && IE.beq n n'
  | .fnL d a, .fnL d' a' => Nat.beq d d' && IE.beq a a'
  | .catL a b, .catL a' b' => IE.beq a a' && IE.beq b b'
  | .tabL d n c, .tabL d' n' c' => Nat.beq d d' && (Nat.beq c c' && IE.beq n n')
  | _,_ => false
theorem IE.beq_eq : ∀ {x y : IE}, IE.beq x y = true → x = y := by
  intro x
  induction x <;> (intro y h; cases y <;> simp only [IE.beq,Bool.and_eq_true,decide_eq_true_eq,Nat.beq_eq,Bool.false_eq_true] at h) <;> grind
inductive BE where
  | lit (b : Bool)
  | atom (id : Nat)
  | cmp (o : BinOp) (a b : IE)
  | not (a : BE)
  | eq (a b : BE)
  | and (a b : BE)
def BE.val [Env] : BE → Bool
  | .lit b => b
  | .atom id => Env.i id != 0
  | .cmp o a b => cmpVal o a.val b.val
  | .not a => !a.val
  | .eq a b => a.val == b.val
  | .and a b => a.val && b.val
def BE.toI : BE → IE
  | .lit b => .lit (ofB b)
  | .atom id => .cmpI .neq (.atom id) (.lit 0)
  | .cmp o a b => .cmpI o a b
  | .not a => .notI a.toI
  | .eq a b => .eqI a.toI b.toI
  | .and a b => .andI a.toI b.toI
theorem BE.toI_val [Env] : ∀ (b : BE), b.toI.val = ofB b.val
  | .lit b => by simp only [BE.toI,BE.val,IE.val]
  | .atom id => by simp only [BE.toI,BE.val,IE.val,cmpVal]
  | .cmp o a b => by simp only [BE.toI,BE.val,IE.val]
  | .not a => by simp only [BE.toI,BE.val,IE.val,BE.toI_val a]; cases a.val <;> rfl
  | .eq a b => by simp only [BE.toI,BE.val,IE.val,BE.toI_val a,BE.toI_val b]; cases a.val <;> cases b.val <;> rfl
  | .and a b => by simp only [BE.toI,BE.val,IE.val,BE.toI_val a,BE.toI_val b]; cases a.val <;> cases b.val <;> rfl
def BE.beq : BE → BE → Bool
  | .lit a, .lit b => a == b
  | .atom i, .atom j => Nat.beq i j
  | .cmp o a b, .cmp o' a' b' => decide (o = o') && (IE.beq a a' && IE.beq b b')
  | .not a, .not a' => BE.beq a a'
  | .eq a b, .eq a' b' => BE.beq a a' && BE.beq b b'
  | .and a b, .and a' b' => BE.beq a a' && BE.beq b b'
  | _,_ => false
theorem BE.beq_eq : ∀ {x y : BE}, BE.beq x y = true → x = y := by
  intro x
  induction x <;> (intro y h; cases y <;> simp only [BE.beq,Bool.and_eq_true,decide_eq_true_eq,Nat.beq_eq,Bool.false_eq_true,beq_iff_eq] at h)
  case lit.lit => rw [h]
  case atom.atom => rw [h]
  case cmp.cmp => obtain ⟨rfl,h1,h2⟩ := h; rw [IE.beq_eq h1,IE.beq_eq h2]
  case not.not ih _ => rw [ih h]
  case eq.eq i1 i2 _ _ => rw [i1 h.1,i2 h.2]
  case and.and i1 i2 _ _ => rw [i1 h.1,i2 h.2]
section
variable [Env]
def mkOp (o : BinOp) (k : IntKind) : IE → IE → IE
  | .lit x, .lit y => .lit (binVal o k x y)
  | a,b => .op o k a b
theorem mkOp_val (o : BinOp) (k : IntKind) (a b : IE) : (mkOp o k a b).val = binVal o k a.val b.val := by
  unfold mkOp; split <;> rfl
def mkConv (k : IntKind) : IE → IE
  | .lit x => .lit (k.wrap x)
  | a => .conv k a
theorem mkConv_val (k : IntKind) (a : IE) : (mkConv k a).val = k.wrap a.val := by unfold mkConv; split <;> rfl
def mkMn : IE → IE → IE
  | .lit x, .lit y => .lit (if y < x then y else x)
  | a,b => if IE.beq a b = true then a else .mn a b
theorem mkMn_val (a b : IE) : (mkMn a b).val = if b.val < a.val then b.val else a.val := by
  unfold mkMn
  split
  · rfl
  · split
    · rename_i h; rw [IE.beq_eq h]; split <;> rfl
    · rfl
def mkMx : IE → IE → IE
  | .lit x, .lit y => .lit (if y > x then y else x)
  | a,b => .mx a b
theorem mkMx_val (a b : IE) : (mkMx a b).val = if b.val > a.val then b.val else a.val := by unfold mkMx; split <;> rfl
def mkAt (a i : IE) (size off : Nat) : IE :=
  match a,i with
  | .lit x, .lit y => .lit ((x.toNat + y.toNat * size + off : Nat) : Int)
  | .at_ a i s o, .lit 0 => .at_ a i s (o + off)
  | a,i => .at_ a i size off
theorem mkAt_val (a i : IE) (size off : Nat) : (mkAt a i size off).val.toNat = a.val.toNat + i.val.toNat * size + off := by
  unfold mkAt; split <;> simp only [IE.val,Int.toNat_natCast,Int.toNat_zero,Nat.zero_mul,Nat.add_zero,Nat.add_assoc]
def mkDif (a b : IE) : IE :=
  match a,b with
  | .lit x, .lit y => .lit ((x.toNat - y.toNat : Nat) : Int)
  | a,b => .dif a b
theorem mkDif_val (a b : IE) : (mkDif a b).val.toNat = a.val.toNat - b.val.toNat := by
  unfold mkDif; split <;> simp only [IE.val,Int.toNat_natCast]
def mkNat (a : IE) : IE :=
  match a with
  | .lit x => .lit (x.toNat : Int)
  | .len l => .len l
  | .nat b => .nat b
  | a => .nat a
theorem mkNat_val (a : IE) : (mkNat a).val = (a.val.toNat : Int) := by
  unfold mkNat; split <;> simp only [IE.val,Int.toNat_natCast]
theorem length_writeL {α : Type} : ∀ (cs : List α) (l : List α) (off : Nat), (writeL l off cs).length = l.length
  | [],_,_ => rfl
  | c :: cs,l,off => by simp only [writeL]; rw [length_writeL cs]; simp
def mkLen : IE → IE
  | .putL l _ _ => mkLen l
  | .ofTab _ n => mkNat n
  | .rep n sz => if sz = 1 then mkNat n else .len (.rep n sz)
  | .ite c x y => if IE.beq (mkLen x) (mkLen y) = true then mkLen x else .len (.ite c x y)
  | l => .len l
theorem mkLen_val : ∀ (l : IE), (mkLen l).val = (l.lst.length : Int)
  | .putL l o s => by simp only [mkLen,IE.lst,length_writeL]; exact mkLen_val l
  | .ofTab _ n => by simp only [mkLen,IE.lst,List.length_map,List.length_range]; exact mkNat_val n
  | .rep n sz => by
    simp only [mkLen]
    split
    · rename_i h; subst h; simp only [IE.lst,List.length_replicate,Nat.mul_one]; exact mkNat_val n
    · simp only [IE.val]
  | .ite c x y => by
    simp only [mkLen]
    split
    · rename_i h
      have h1 := mkLen_val x
      have h2 := mkLen_val y
      rw [← IE.beq_eq h] at h2
      simp only [IE.lst,iteI]
      split
      · exact h2
      · exact h1
    · simp only [IE.val]
  | .lit _ | .atom _ | .op _ _ _ _ | .conv _ _ | .mn _ _ | .mx _ _ | .at_ _ _ _ _ | .dif _ _ | .nat _ | .cmpI _ _ _ | .notI _ | .andI _ _ | .eqI _ _ | .eqL _ _ | .get _ _ _ | .len _ | .tab _ _ _ | .fn _ _
  | .latom _ | .nilL | .consL _ _ | .subL _ _ _ _ | .fnL _ _ | .catL _ _ | .tabL _ _ _ => by simp only [mkLen,IE.val]
theorem writeL_self (l : List Int) (o : Nat) : writeL l o [l.getD o 0] = l := by
  simp only [writeL]
  rcases Nat.lt_or_ge o l.length with h | h
  · rw [List.getD_eq_getElem?_getD,List.getElem?_eq_getElem h,Option.getD_some,List.set_getElem_self]
  · exact List.set_eq_of_length_le h
theorem writeL_all : ∀ (s l p : List Int), s.length = l.length → writeL (p ++ l) p.length s = p ++ s
  | [], [],p,_ => rfl
  | x :: s, y :: l, p, h => by
    simp only [writeL]
    have := writeL_all s l (p ++ [x]) (by simpa using h)
    rw [List.length_append,List.append_assoc,List.append_assoc] at this
    rw [List.set_append_right _ _ (Nat.le_refl _),Nat.sub_self]
    exact this
  | [],_ :: _,p,h => by simp at h
  | _ :: _, [],p,h => by simp at h
def mkPutL (l o s : IE) : IE :=
  match s with
  | .consL (.get l' o' 0) .nilL => if (IE.beq l l' && IE.beq o o') = true then l else .putL l o s
  | s => match o with
    | .lit 0 => if IE.beq (mkLen s) (mkLen l) = true then s else .putL l o s
    | o => .putL l o s
theorem mkPutL_lst (l o s : IE) : (mkPutL l o s).lst = writeL l.lst o.val.toNat s.lst := by
  unfold mkPutL
  split
  · rename_i l' o'
    split
    · rename_i h
      rw [Bool.and_eq_true] at h
      rw [← IE.beq_eq h.1, ← IE.beq_eq h.2]
      simp only [IE.lst,IE.val,Nat.add_zero]
      exact (writeL_self _ _).symm
    · simp only [IE.lst]
  · split
    · split
      · rename_i h
        have := congrArg IE.val (IE.beq_eq h)
        rw [mkLen_val,mkLen_val] at this
        have h2 := writeL_all s.lst l.lst [] (by omega)
        simp only [List.nil_append,List.length_nil] at h2
        exact h2.symm
      · simp only [IE.lst]
    · simp only [IE.lst]
def mkSubL (l off n : IE) (sz : Nat) : IE :=
  match off with
  | .lit 0 => if sz = 1 ∧ IE.beq (mkNat n) (mkLen l) = true then l else .subL l (.lit 0) n sz
  | off => .subL l off n sz
theorem mkSubL_lst (l off n : IE) (sz : Nat) : (mkSubL l off n sz).lst = (l.lst.drop off.val.toNat).take (n.val.toNat * sz) := by
  unfold mkSubL
  split
  · split
    · rename_i h
      obtain ⟨rfl,h⟩ := h
      have := congrArg IE.val (IE.beq_eq h)
      rw [mkLen_val,mkNat_val] at this
      simp only [IE.val,Int.toNat_zero,List.drop_zero,Nat.mul_one]
      rw [List.take_of_length_le (by omega)]
    · simp only [IE.lst]
  · simp only [IE.lst]
def mkGet (l off : IE) (i : Nat) : IE :=
  match l with
  | .rep _ _ => .lit 0
  | .putL l' o (.consL x .nilL) => if i = 0 ∧ IE.beq o off = true then x else (match o, off with
    | .lit a, .lit b => if a.toNat = b.toNat + i then .get (.putL l' o (.consL x .nilL)) off i else mkGet l' off i
    | _,_ => .get (.putL l' o (.consL x .nilL)) off i)
  | l => .get l off i
theorem mkGet_val : ∀ (l off : IE) (i : Nat), off.val.toNat + i < l.lst.length → (mkGet l off i).val = l.lst.getD (off.val.toNat + i) 0
  | .rep n sz, off, i, h => by
    simp only [mkGet,IE.val,IE.lst]
    rw [List.getD_eq_getElem?_getD,List.getElem?_replicate]
    split <;> rfl
  | .putL l' o s, off, i, h => by
    cases s with
    | consL x y =>
      cases y with
      | nilL =>
        simp only [mkGet]
        have e1 : (IE.putL l' o (.consL x .nilL)).lst = l'.lst.set o.val.toNat x.val := by simp only [IE.lst,writeL]
        split
        · rename_i hc
          obtain ⟨rfl,hb⟩ := hc
          rw [e1] at h ⊢
          rw [List.length_set] at h
          rw [← IE.beq_eq hb] at h ⊢
          rw [List.getD_eq_getElem?_getD,Nat.add_zero,List.getElem?_set_self (by omega),Option.getD_some]
        · split
          · rename_i a b _
            split
            · simp only [IE.val]
            · rename_i hne
              rw [e1] at h ⊢
              rw [List.length_set] at h
              rw [mkGet_val l' _ i h,List.getD_eq_getElem?_getD,List.getD_eq_getElem?_getD,List.getElem?_set_ne]
              simpa [IE.val] using hne
          · simp only [IE.val]
      | _ => simp only [mkGet,IE.val]
    | _ => simp only [mkGet,IE.val]
  | .lit _,_,_,_ | .atom _,_,_,_ | .op _ _ _ _,_,_,_ | .conv _ _,_,_,_ | .mn _ _,_,_,_ | .mx _ _,_,_,_ | .at_ _ _ _ _,_,_,_ | .dif _ _,_,_,_ | .nat _,_,_,_ | .cmpI _ _ _,_,_,_ | .notI _,_,_,_
  | .andI _ _,_,_,_ | .eqI _ _,_,_,_ | .eqL _ _,_,_,_ | .ite _ _ _,_,_,_ | .get _ _ _,_,_,_ | .len _,_,_,_ | .tab _ _ _,_,_,_ | .fn _ _,_,_,_ | .latom _,_,_,_ | .nilL,_,_,_ | .consL _ _,_,_,_ | .subL _ _ _ _,_,_,_ | .ofTab _ _,_,_,_ | .fnL _ _,_,_,_ | .catL _ _,_,_,_ | .tabL _ _ _,_,_,_ => by simp only [mkGet,IE.val]
def rowB (off : IE) (sz : Nat) (l : IE) : BE :=
  match off,sz with
  | .at_ (.lit 0) j 1 0,1 => .and (.cmp .geq j (.lit 0)) (.cmp .lss j (mkLen l))
  | off,sz => .cmp .leq (.at_ off (.lit 0) 0 sz) (mkLen l)
theorem rowB_val {off : IE} {sz : Nat} {l : IE} (h : (rowB off sz l).val = true) : off.val.toNat + sz ≤ l.lst.length := by
  unfold rowB at h
  split at h
  · rename_i j
    have h1 : j.val ≥ 0 := of_decide_eq_true (Bool.and_eq_true_iff.1 h).1
    have h2 : j.val < (mkLen l).val := of_decide_eq_true (Bool.and_eq_true_iff.1 h).2
    rw [mkLen_val] at h2
    have h3 : (IE.at_ (.lit 0) j 1 0).val.toNat = j.val.toNat := by
      simp only [IE.val,Int.toNat_natCast,Int.toNat_zero,Nat.zero_add,Nat.mul_one,Nat.add_zero]
    rw [h3]
    omega
  · have h2 := of_decide_eq_true h
    rw [mkLen_val] at h2
    simp only [IE.val] at h2
    omega
def mkCmp (o : BinOp) (a b : IE) : BE :=
  match a,b with
  | .lit x, .lit y => .lit (cmpVal o x y)
  | a,b => if IE.beq a b = true then .lit (cmpVal o 0 0) else .cmp o a b
theorem cmpVal_same (o : BinOp) (x : Int) : cmpVal o 0 0 = cmpVal o x x := by cases o <;> simp [cmpVal]
theorem mkCmp_val (o : BinOp) (a b : IE) : (mkCmp o a b).val = cmpVal o a.val b.val := by
  unfold mkCmp
  split
  · rfl
  · split
    · rename_i h; rw [IE.beq_eq h]; exact cmpVal_same o _
    · rfl
def mkNot : BE → BE
  | .lit b => .lit (!b)
  | .not a => a
  | a => .not a
theorem mkNot_val (a : BE) : (mkNot a).val = !a.val := by unfold mkNot; split <;> simp [BE.val]
def mkEq : BE → BE → BE
  | .lit x, .lit y => .lit (x == y)
  | .lit true,b => b
  | .lit false,b => mkNot b
  | a, .lit true => a
  | a, .lit false => mkNot a
  | a,b => if BE.beq a b = true then .lit true else .eq a b
theorem mkEq_val (a b : BE) : (mkEq a b).val = (a.val == b.val) := by
  unfold mkEq; split
  case h_6 => split
              · rename_i h; rw [BE.beq_eq h]; simp [BE.val]
              · rfl
  all_goals simp [BE.val,mkNot_val]
def mkAnd : BE → BE → BE
  | .lit true,b => b
  | .lit false,_ => .lit false
  | a, .lit true => a
  | _, .lit false => .lit false
  | a,b => .and a b
theorem mkAnd_val (a b : BE) : (mkAnd a b).val = (a.val && b.val) := by
  unfold mkAnd; split <;> simp [BE.val]
abbrev Rho := Nat → Option RV
inductive SB where
  | unk
  | bool (b : BE)
  | int (k : IntKind) (e : IE)
  | nilp
  | ptr (n : Nat) (off : IE)
  | sl (n : Nat) (off len cap : IE)
  | isl (n : Nat) (off len : IE)
  | nils
  | nilf
  | ref (n : Nat)
  | gptr (n : Nat) (e : IE)
inductive SC where
  | b (x : SB)
  | fn (f : Fn) (first cap : List SB)
inductive SW where
  | one (c : SC)
  | agg (l : List SC)
inductive SV where
  | unk
  | w (x : SW)
  | tup (l : List SW)
def One : Value → Prop
  | .agg _ => False
  | .tuple _ => False
  | _ => True
theorem One.cells {v : Value} (h : One v) : v.cells = #[v] := by cases v <;> simp_all [One,Value.cells]
def SB.is (ρ : Rho) : SB → Value → Prop
  | .unk,v => One v
  | .bool b,v => v = .bool b.val
  | .int k e,v => v = .int k e.val
  | .nilp,v => v = .pointer none
  | .ptr n off,v => ∃ b, ρ n = some (.blk b) ∧ v = .pointer (some ⟨b,off.val.toNat,none⟩)
  | .sl n off len cap,v => ∃ b, ρ n = some (.blk b) ∧ v = .slice (some ⟨b,off.val.toNat,none⟩) len.val.toNat cap.val.toNat
  | .isl n off len,v => ∃ a c,v = .slice a len.val.toNat c ∧ (len.val.toNat = 0 ∨ ∃ b, ρ n = some (.blk b) ∧ a = some ⟨b,off.val.toNat,none⟩)
  | .nils,v => v = .slice none 0 0
  | .nilf,v => v = .nilFunc
  | .ref n,v => ∃ r, ρ n = some r ∧ v = r.value ∧ One v
  | .gptr n e,v => ∃ b o len cap, ρ n = some (.val (.slice (some ⟨b,o,none⟩) len cap)) ∧ v = .pointer (some ⟨b,o + e.val.toNat,none⟩)
def All2 {α β : Type} (R : α → β → Prop) : List α → List β → Prop
  | [], [] => True
  | a :: l,b :: m => R a b ∧ All2 R l m
  | _,_ => False
def SC.is (ρ : Rho) : SC → Value → Prop
  | .b x,v => x.is ρ v
  | .fn f first cap,v => ∃ vs us,v = .func f vs us ∧ All2 (SB.is ρ) first vs.toList ∧ All2 (SB.is ρ) cap us.toList
def SW.is (ρ : Rho) : SW → Value → Prop
  | .one c,v => c.is ρ v
  | .agg l,v => ∃ vs : Array Value,v = .agg vs ∧ All2 (SC.is ρ) l vs.toList
def SV.is (ρ : Rho) : SV → Value → Prop
  | .unk,_ => True
  | .w x,v => x.is ρ v
  | .tup l,v => ∃ vs : Array Value,v = .tuple vs ∧ All2 (SW.is ρ) l vs.toList
section
variable {α β : Type} {R : α → β → Prop}
theorem All2.length : ∀ {l : List α} {m : List β}, All2 R l m → l.length = m.length
  | [], [],_ => rfl
  | _ :: _,_ :: _,h => by simp only [List.length_cons]; rw [All2.length h.2]
  | [],_ :: _,h => h.elim
  | _ :: _, [],h => h.elim
theorem All2.mono {R' : α → β → Prop} (hr : ∀ a b, R a b → R' a b) : ∀ {l : List α} {m : List β}, All2 R l m → All2 R' l m
  | [], [],_ => trivial
  | _ :: _,_ :: _,h => ⟨hr _ _ h.1,All2.mono hr h.2⟩
  | [],_ :: _,h => h.elim
  | _ :: _, [],h => h.elim
theorem All2.get : ∀ {l : List α} {m : List β}, All2 R l m → ∀ (i : Nat) (a : α), l[i]? = some a → ∃ b, m[i]? = some b ∧ R a b
  | [], [],_,i,a,h => by simp at h
  | x :: l, y :: m, h, i, a, hi => by
    cases i with
    | zero => simp at hi; subst hi; exact ⟨y,by simp,h.1⟩
    | succ i => simp at hi ⊢; exact All2.get h.2 i a hi
  | [],_ :: _,h,_,_,_ => h.elim
  | _ :: _, [],h,_,_,_ => h.elim
theorem All2.set : ∀ {l : List α} {m : List β}, All2 R l m → ∀ (i : Nat) (a : α) (b : β), R a b → All2 R (l.set i a) (m.set i b)
  | [], [],_,i,a,b,h => by simp [All2]
  | x :: l, y :: m, h, i, a, b, hr => by
    cases i with
    | zero => exact ⟨hr,h.2⟩
    | succ i => exact ⟨h.1,All2.set h.2 i a b hr⟩
  | [],_ :: _,h,_,_,_,_ => h.elim
  | _ :: _, [],h,_,_,_,_ => h.elim
theorem All2.append : ∀ {l l' : List α} {m m' : List β}, All2 R l m → All2 R l' m' → All2 R (l ++ l') (m ++ m')
  | [],_, [],_,_,h' => h'
  | _ :: _,_,_ :: _,_,h,h' => ⟨h.1,All2.append h.2 h'⟩
  | [],_,_ :: _,_,h,_ => h.elim
  | _ :: _,_, [],_,h,_ => h.elim
theorem All2.take : ∀ {l : List α} {m : List β}, All2 R l m → ∀ n, All2 R (l.take n) (m.take n)
  | _,_,_,0 => by simp [All2]
  | [], [],_,_ + 1 => by simp [All2]
  | _ :: _,_ :: _,h,n + 1 => ⟨h.1,All2.take h.2 n⟩
  | [],_ :: _,h,_ + 1 => h.elim
  | _ :: _, [],h,_ + 1 => h.elim
theorem All2.drop : ∀ {l : List α} {m : List β}, All2 R l m → ∀ n, All2 R (l.drop n) (m.drop n)
  | _,_,h,0 => by simpa using h
  | [], [],_,_ + 1 => by simp [All2]
  | _ :: _,_ :: _,h,n + 1 => All2.drop h.2 n
  | [],_ :: _,h,_ + 1 => h.elim
  | _ :: _, [],h,_ + 1 => h.elim
theorem All2.replicate (a : α) (b : β) (h : R a b) : ∀ n, All2 R (List.replicate n a) (List.replicate n b)
  | 0 => trivial
  | n + 1 => ⟨h,All2.replicate a b h n⟩
theorem All2.map {γ : Type} (f : γ → α) (g : γ → β) : ∀ (l : List γ), (∀ x ∈ l, R (f x) (g x)) → All2 R (l.map f) (l.map g)
  | [],_ => trivial
  | x :: l,h => ⟨h x (by simp),All2.map f g l (fun y hy => h y (by simp [hy]))⟩
end
def Rho.Ext (ρ ρ' : Rho) : Prop := ∀ n r, ρ n = some r → ρ' n = some r
theorem Rho.Ext.refl (ρ : Rho) : Rho.Ext ρ ρ := fun _ _ h => h
theorem Rho.Ext.trans {ρ σ τ : Rho} (h : Rho.Ext ρ σ) (k : Rho.Ext σ τ) : Rho.Ext ρ τ := fun n r hr => k n r (h n r hr)
theorem SB.is_mono {ρ ρ' : Rho} (hρ : Rho.Ext ρ ρ') (x : SB) (v : Value) (h : x.is ρ v) : x.is ρ' v := by
  cases x <;> simp only [SB.is] at h ⊢ <;> first
    | exact h
    | (obtain ⟨b,hb,hv⟩ := h; exact ⟨b,hρ _ _ hb,hv⟩)
    | (obtain ⟨a,c,ha,hv⟩ := h; exact ⟨a,c,ha,hv.imp id fun ⟨b,hb,e⟩ => ⟨b,hρ _ _ hb,e⟩⟩)
    | (obtain ⟨b,o,l,c,hb,hv⟩ := h; exact ⟨b,o,l,c,hρ _ _ hb,hv⟩)
theorem SC.is_mono {ρ ρ' : Rho} (hρ : Rho.Ext ρ ρ') (x : SC) (v : Value) (h : x.is ρ v) : x.is ρ' v := by
  cases x with
  | b x => exact SB.is_mono hρ x v h
  | fn f a c =>
    obtain ⟨vs,us,hv,h1,h2⟩ := h
    exact ⟨vs,us,hv,h1.mono (SB.is_mono hρ),h2.mono (SB.is_mono hρ)⟩
theorem SW.is_mono {ρ ρ' : Rho} (hρ : Rho.Ext ρ ρ') (x : SW) (v : Value) (h : x.is ρ v) : x.is ρ' v := by
  cases x with
  | one x => exact SC.is_mono hρ x v h
  | agg l => obtain ⟨vs,hv,h1⟩ := h; exact ⟨vs,hv,h1.mono (SC.is_mono hρ)⟩
theorem SV.is_mono {ρ ρ' : Rho} (hρ : Rho.Ext ρ ρ') (x : SV) (v : Value) (h : x.is ρ v) : x.is ρ' v := by
  cases x with
  | unk => trivial
  | w x => exact SW.is_mono hρ x v h
  | tup l => obtain ⟨vs,hv,h1⟩ := h; exact ⟨vs,hv,h1.mono (SW.is_mono hρ)⟩
theorem SB.is_one {ρ : Rho} {x : SB} {v : Value} (h : x.is ρ v) : One v := by
  cases x <;> simp only [SB.is] at h
  case unk => exact h
  case ptr => obtain ⟨b,_,rfl⟩ := h; trivial
  case sl => obtain ⟨b,_,rfl⟩ := h; trivial
  case isl => obtain ⟨a,c,rfl,_⟩ := h; trivial
  case ref => obtain ⟨r,_,_,h⟩ := h; exact h
  case gptr => obtain ⟨_,_,_,_,_,rfl⟩ := h; trivial
  all_goals (subst h; trivial)
theorem SC.is_one {ρ : Rho} {x : SC} {v : Value} (h : x.is ρ v) : One v := by
  cases x with
  | b x => exact SB.is_one h
  | fn => obtain ⟨vs,us,rfl,_⟩ := h; trivial
end
end Go.Proofs.Ytafemlljemhkhaa.Sx
namespace Go.Proofs.Ytafemlljemhkhaa.Sx
open Go
set_option linter.unusedSectionVars false
set_option linter.unusedVariables false
set_option linter.unusedSimpArgs false
variable [Env]
class AbsK (A : Type) where
  ok : A → RV → (Nat → Prop) → World → Prop
  size : ∀ {a r F w},ok a r F w → ∀ x,F x → x < w.heap.size
  frame : ∀ {a r F w w'},ok a r F w → w.heap.size ≤ w'.heap.size → (∀ x,F x → w'.heap[x]? = w.heap[x]?) → ok a r F w'
  self : ∀ {a b F w},ok a (.blk b) F w → F b
  cell : A → Nat → Option SC
  cell_ok : ∀ {a r F w off c},ok a r F w → cell a off = some c → ∃ b v,r = .blk b ∧ w.cell? ⟨b,off,none⟩ = some v ∧ ∀ ρ,c.is ρ v
inductive Col where
  | int (k : IntKind)
  | bool
def Col.value : Col → Int → Value
  | .int k,x => .int k x
  | .bool,x => .bool (x != 0)
inductive SO (A : Type) where
  | cells (elem : Nat) (l : List SC) (tail : Nat)
  | row (k : IntKind) (elem : Nat) (l : IE)
  | abs (a : A)
  | tab (cols : List Col) (o n : IE) (id : Nat)
  | mach (k : Nat) (l : IE)
def SO.wr {A : Type} : SO A → Bool
  | .tab _ _ _ _ => false
  | _ => true
structure MShape where
  main : Nat
  hp : List (Nat × SO Empty)
  row : IE
  inv : List BE
end Go.Proofs.Ytafemlljemhkhaa.Sx
