import Derived.Below
namespace Go.Proofs.Ytafemlljemhkhaa.Sx
def rightP (t s c h k e l : Int) : Prop := 1 ≤ t ∧ t ≤ 8 ∧ 1 ≤ s ∧ s ≤ 8 ∧ 1 ≤ c ∧ c ≤ 64 ∧ 1 ≤ h ∧ h ≤ 6 ∧ 1 ≤ k ∧ k ≤ 64 ∧ 1 ≤ e ∧ e ≤ 64 ∧ 0 ≤ l ∧ l ≤ 1073741823
instance (t s c h k e l : Int) : Decidable (rightP t s c h k e l) := by unfold rightP; infer_instance
def lenF (t s c h k e l : Int) : Int := if rightP t s c h k e l then 1 + t * s + (c + 1) * (6 + h) else 0
def reservedF (t s c h k e l a b : Int) : Int := if rightP t s c h k e l ∧ 0 ≤ a ∧ a < t ∧ 0 ≤ b ∧ b < s then 1 + a * s + b else -1
def cellF (t s c h k e l i f : Int) : Int := if rightP t s c h k e l ∧ 0 ≤ i ∧ i ≤ c ∧ 0 ≤ f ∧ f < 6 + h then 1 + t * s + i * (6 + h) + f else -1
def inF (c : Int) (r : List Int) : Prop := 0 ≤ c ∧ c < r.length
instance (c : Int) (r : List Int) : Decidable (inF c r) := by unfold inF; infer_instance
def hadF (c : Int) (r : List Int) : Int := if inF c r then r.getD c.toNat 0 else 0
def wrapU (x : Int) : Int := x % 18446744073709551616
def ofP (p : Prop) [Decidable p] : Int := if p then 1 else 0
def slotGenF (w : Int) : Int := if w / 4 > 1073741823 then 1073741823 else w / 4
def afterF (g l : Int) : Int :=
  let g := if g < 0 then 0 else g
  let l := if l < 0 then 0 else if l > 1073741823 then 1073741823 else l
  if g ≥ l then 4 * l + 2 else 4 * g + 4
def metaP (s g : Int) : Prop := 0 ≤ s ∧ s ≤ 2 ∧ 0 ≤ g ∧ g ≤ 1073741823
instance (s g : Int) : Decidable (metaP s g) := by unfold metaP; infer_instance
def packP (i g : Int) : Prop := 0 ≤ i ∧ i ≤ 4294967295 ∧ 0 ≤ g ∧ g ≤ 1073741823
instance (i g : Int) : Decidable (packP i g) := by unfold packP; infer_instance
def markF (w : Int) : Int := if w / 4611686018427387904 % 2 = 1 then w else w + 4611686018427387904
def packF (i g m : Int) : Int := if packP i g then (if m = 0 then 9223372036854775808 + 4294967296 * g + i else 9223372036854775808 + 4294967296 * g + i + 4611686018427387904) else 0
theorem ofP_ne (p : Prop) [Decidable p] : (ofP p != 0) = decide p := by by_cases h : p <;> simp [ofP,h]
def setF (c v : Int) (r : List Int) : List Int := if inF c r then r.set c.toNat v else r
def pokeS (s st c v : Int) (p : List Int × List Int × Bool) : List Int × List Int × Bool :=
  if st = s then (setF c v p.1, [Go.IntKind.i64.wrap (p.2.1.getD 0 0 + 1),2,c,0,hadF c p.1,if inF c p.1 then v else 0,ofP (inF c p.1)],p.2.2 || decide (inF c p.1 ∧ v ≠ hadF c p.1)) else p
def pokeN (s : Int) (l r a : List Int) : Nat → List Int × List Int × Bool
  | 0 => (r,a,false)
  | n + 1 => pokeS s (l.getD (3 * n) 0) (l.getD (3 * n + 1) 0) (l.getD (3 * n + 2) 0) (pokeN s l r a n)
def pokedF (l : List Int) : List Int × List Int × Bool := match l with
  | s :: n :: m => pokeN s m ((m.drop (3 * n.toNat)).drop 7) ((m.drop (3 * n.toNat)).take 7) n.toNat
  | _ => ([], [],false)
def atF (f k m : Int) : Int := Go.IntKind.i64.wrap (Int.tmod (Go.IntKind.i64.wrap (Go.IntKind.i64.wrap ((if f < 1 ∨ f > m then 1 else f) - 1) + k)) m + 1)
def begunF (a f m : Int) : Int := if a > 0 then a else if 1 ≤ f ∧ f ≤ m then f else 1
def covF (b r e : Int) : Prop := e ≠ 0 ∧ e ≥ b ∧ e ≤ r
instance (b r e : Int) : Decidable (covF b r e) := by unfold covF; infer_instance
def idxF (b r : Int) : Int → List Int → Int
  | _, [] => -1
  | i,e :: l => if covF b r e then i else idxF b r (i + 1) l
def splitF (is : Bool) (eras : List Int) : List Int → List Int
  | n :: b :: r :: l => if decide (idxF b r 0 eras ≥ 0) = is then n :: b :: r :: splitF is eras l else splitF is eras l
  | _ => []
def metasF (l : List Int) : List Int := match l with
  | t :: s :: c :: h :: k :: e :: g :: r => (List.range c.toNat).map fun i : Nat => hadF (cellF t s c h k e g ((i : Int) + 1) 0) r
  | _ => []
def clrF (t s c h k e g th : Int) : Nat → List Int → List Int
  | 0,r => r
  | n + 1,r => setF (reservedF t s c h k e g th n) 0 (clrF t s c h k e g th n r)
def seenF (t s c h k e g : Int) (r : List Int) (n : Nat) : List Int := (List.range n).map fun i : Nat => hadF (reservedF t s c h k e g ((i : Int) / s) ((i : Int) % s)) r
def freeF (t s c h k e g : Int) : List Int → List Int → List Int
  | n :: _ :: _ :: l,r => freeF t s c h k e g l (setF (cellF t s c h k e g (n % 4294967296) 0) (afterF (n / 4294967296 % 1073741824) g) r)
  | _,r => r
structure SwpF where
  r1 : List Int
  seen : List Int
  kept : List Int
  others : List Int
  r2 : List Int
def swpF (l : List Int) : SwpF := match l with
  | t :: s :: c :: h :: k :: e :: g :: th :: n :: m =>
    let L := m.take n.toNat
    let r1 := clrF t s c h k e g th s.toNat (m.drop n.toNat)
    let seen := seenF t s c h k e g r1 (t * s).toNat
    ⟨r1,seen,splitF true seen L,splitF false seen L,freeF t s c h k e g (splitF false seen L) r1⟩
  | _ => ⟨[], [], [], [], []⟩
def relF (t s c h k e g : Int) : Nat → List Int → List Int
  | 0,r => r
  | n + 1,r => setF (cellF t s c h k e g ((n : Int) + 1) 0) 1 (relF t s c h k e g n r)
def entF : Nat → List Int → List Int
  | i,_ :: b :: r :: l => (9223372036854775808 + ((i : Int) + 1)) :: b :: r :: entF (i + 1) l
  | _,_ => []
end Go.Proofs.Ytafemlljemhkhaa.Sx
namespace Go.Proofs.Ytafemlljemhkhaa.Sx
abbrev wI (x : Int) : Int := Go.IntKind.i64.wrap x
structure Cfg where
  t : Int
  s : Int
  c : Int
  h : Int
  k : Int
  e : Int
  l : Int
structure Grd where
  many : Int
  latest : Int
  thread : Int
structure Bnk where
  count : Int
  kind : Int
  cell : Int
  via : Int
  old : Int
  new : Int
  done : Bool
  row : List Int
structure Wd where
  C : Cfg
  G : Grd
  B : Bnk
  F : List Int
def Cfg.right (C : Cfg) : Prop := rightP C.t C.s C.c C.h C.k C.e C.l
def Cfg.cell (C : Cfg) (i f : Int) : Int := cellF C.t C.s C.c C.h C.k C.e C.l i f
def Cfg.res (C : Cfg) (t s : Int) : Int := reservedF C.t C.s C.c C.h C.k C.e C.l t s
def Bnk.load (B : Bnk) (c v : Int) : Bnk := ⟨wI (B.count + 1),1,c,v,hadF c B.row,hadF c B.row,decide (inF c B.row),B.row⟩
def Bnk.store (B : Bnk) (c v x : Int) : Bnk := ⟨wI (B.count + 1),2,c,v,hadF c B.row,if inF c B.row then x else 0,decide (inF c B.row),setF c x B.row⟩
def Bnk.swap (B : Bnk) (c v o x : Int) : Bnk := ⟨wI (B.count + 1),3,c,v,hadF c B.row,if inF c B.row then (if hadF c B.row = o then x else hadF c B.row) else 0,decide (inF c B.row ∧ hadF c B.row = o),setF c (if hadF c B.row = o then x else hadF c B.row) B.row⟩
def Bnk.add (B : Bnk) (c v x : Int) : Bnk := ⟨wI (B.count + 1),4,c,v,hadF c B.row,if inF c B.row then wrapU (hadF c B.row + x) else 0,decide (inF c B.row),setF c (wrapU (hadF c B.row + x)) B.row⟩
def plainF (w : Int) : Int := if w / 4611686018427387904 % 2 = 1 then w - 4611686018427387904 else w
def marked (w : Int) : Prop := w / 4611686018427387904 % 2 = 1
instance (w : Int) : Decidable (marked w) := inferInstanceAs (Decidable (w / 4611686018427387904 % 2 = 1))
def valid (w : Int) : Prop := w ≥ 9223372036854775808
instance (w : Int) : Decidable (valid w) := inferInstanceAs (Decidable (w ≥ 9223372036854775808))
def headW : Int := 9223372036854775808
def lastEra : Int := 18446744073709551615
def Bnk.ld (C : Cfg) (B : Bnk) (h f : Int) : Bnk := B.load (C.cell (h % 4294967296) f) (plainF h)
def Bnk.st (C : Cfg) (B : Bnk) (h f x : Int) : Bnk := B.store (C.cell (h % 4294967296) f) (plainF h) x
def Bnk.sw (C : Cfg) (B : Bnk) (h f o x : Int) : Bnk := B.swap (C.cell (h % 4294967296) f) (plainF h) o x
def Bnk.ad (C : Cfg) (B : Bnk) (h f x : Int) : Bnk := B.add (C.cell (h % 4294967296) f) (plainF h) x
def pubG (C : Cfg) (G : Grd) (B : Bnk) (era : Int) : Grd × Bnk × Bool :=
  if G.many < C.s then (⟨wI (G.many + 1),era,G.thread⟩,B.store (C.res G.thread (wI (wI (G.many + 1) - 1))) 0 era,true) else (⟨1,era,G.thread⟩,B.store (C.res G.thread 0) 0 era,false)
def clrG (C : Cfg) (G : Grd) (B : Bnk) (slot : Int) : Grd × Bnk := (if slot = wI (C.s - 1) then ⟨0,0,G.thread⟩ else G,B.store (C.res G.thread slot) 0 0)
def backF (C : Cfg) (B : Bnk) (h : Int) : Bnk := B.store (C.cell (h % 4294967296) 0) 0 (afterF (h / 4294967296 % 1073741824) C.l)
def wordsP (l : List Int) : Prop := ∀ x ∈ l,0 ≤ x ∧ x < 18446744073709551616
instance (l : List Int) : Decidable (wordsP l) := inferInstanceAs (Decidable (∀ x ∈ l,0 ≤ x ∧ x < 18446744073709551616))
theorem splM3 (b : Bool) (e : List Int) : ∀ l : List Int, (splitF b e l).length % 3 = 0
  | n :: b' :: r :: l => by
    unfold splitF
    have := splM3 b e l
    split
    · simp only [List.length_cons]; omega
    · exact this
  | [] => by simp [splitF]
  | [_] => by simp [splitF]
  | [_,_] => by simp [splitF]
theorem drop_sub {l : List Int} (h : (l.length : Int) % 3 = 0) (h0 : 0 < (l.length : Int) / 3) : (l.drop (((((0 : Int)).toNat + ((1 : Int)).toNat * 3 + 0 : Nat)) : Int).toNat).take (((((((l.length : Int) / (3 : Int)).toNat - ((1 : Int)).toNat : Nat) : Int)).toNat) * 3) = l.drop 3 := by
  have e : (((((0 : Int)).toNat + ((1 : Int)).toNat * 3 + 0 : Nat)) : Int).toNat = 3 := rfl
  rw [e]
  refine List.take_of_length_le ?_
  rw [List.length_drop]
  have : (1 : Int).toNat = 1 := rfl
  rw [this]
  omega
structure Fnd where
  tag : Int
  k : Int
  level : Int
  pred : Int
  x : Int
  s : Int
  era : Int
  at_ : Int
  n : Int
  ends : List Int
def Fnd.enc (f : Fnd) : List Int := f.tag :: f.k :: f.level :: f.pred :: f.x :: f.s :: f.era :: f.at_ :: f.n :: f.ends
def Fnd.dec : List Int → Fnd
  | t :: k :: l :: p :: x :: s :: e :: a :: n :: r => ⟨t,k,l,p,x,s,e,a,n,r⟩
  | _ => ⟨0,0,0,0,0,0,0,0,0, []⟩
def Fnd.anew (C : Cfg) (f : Fnd) : Fnd := { f with tag := 1,level := wI (C.h - 1),pred := headW,n := C.h,ends := List.replicate (C.h.toNat * 3) 0 }
def wr3 (l : List Int) (i a b c : Int) : List Int := ((l.set (i.toNat * 3) a).set (i.toNat * 3 + 1) b).set (i.toNat * 3 + 2) c
def Fnd.ended (f : Fnd) (succ key : Int) : Fnd := { f with tag := if wI (f.level - 1) < 0 then 7 else 1,level := wI (f.level - 1),ends := wr3 f.ends f.level f.pred succ key }
def Fnd.next (f : Fnd) : Int := wI (6 + f.level)
def Fnd.read (C : Cfg) (f : Fnd) (B : Bnk) : Fnd × Bnk :=
  let b := B.ld C f.pred f.next
  let f := if f.level = 0 then { f with at_ := b.count } else f
  if marked b.old then (f.anew C,b) else if ¬ valid b.old then (f.ended 0 0,b) else ({ f with x := b.old,tag := 2 },b)
def Fnd.step (C : Cfg) (f : Fnd) (B : Bnk) (G : Grd) : Fnd × Bnk × Grd :=
  if f.tag = 0 then let r := (f.anew C).read C B; (r.1,r.2,G)
  else if f.tag = 1 then let r := f.read C B; (r.1,r.2,G)
  else if f.tag = 2 then let b := B.load 0 0; ({ f with era := b.old,tag := if b.old = G.latest then 4 else 3 },b,G)
  else if f.tag = 3 then let r := pubG C G B f.era; (if r.2.2 then { f with tag := 1 } else f.anew C,r.2.1,r.1)
  else if f.tag = 4 then let b := B.ld C f.x f.next; ({ f with s := b.old,tag := if marked b.old then 5 else 6 },b,G)
  else if f.tag = 5 then let b := B.sw C f.pred f.next f.x (plainF f.s); (if b.done = true then { f with tag := 1 } else f.anew C,b,G)
  else if f.tag = 6 then let b := B.ld C f.x 1; (if b.old ≥ f.k then f.ended f.x b.old else { f with pred := f.x,tag := 1 },b,G)
  else (f,B,G)
def Fnd.stepW (w : Wd) : Wd := let r := (Fnd.dec w.F).step w.C w.B w.G; ⟨w.C,r.2.2,r.2.1,r.1.enc⟩
def Fnd.of (f : Fnd) (level : Int) (j : Nat) : Int := if f.tag = 7 ∧ 0 ≤ level ∧ level < f.n then f.ends.getD (level.toNat * 3 + j) 0 else 0
structure RFn where
  k : Int
  next : Int
  down : Int
  pred : Int
  x : Int
  s : Int
  era : Int
  at_ : Int
  done : Int
  preds : List Int
  succs : List Int
  keys : List Int
def RFn.enc (f : RFn) : List Int := f.k :: f.next :: f.down :: f.pred :: f.x :: f.s :: f.era :: f.at_ :: f.done :: (f.preds.length : Int) :: (f.succs.length : Int) :: (f.preds ++ (f.succs ++ f.keys))
def RFn.dec : List Int → RFn
  | k :: n :: d :: p :: x :: s :: e :: a :: o :: b :: c :: r => ⟨k,n,d,p,x,s,e,a,o,r.take b.toNat,(r.drop b.toNat).take c.toNat,(r.drop b.toNat).drop c.toNat⟩
  | _ => ⟨0,0,0,0,0,0,0,0,0, [], [], []⟩
def RFn.anew (f : RFn) : RFn := ⟨f.k,0,0,headW,0,0,0,f.at_,0, [], [], []⟩
def RFn.ended (C : Cfg) (f : RFn) (succ key : Int) : RFn := { f with preds := f.preds ++ [f.pred],succs := f.succs ++ [succ],keys := f.keys ++ [key],down := wI (f.down + 1),next := 0,done := ofP (wI (f.down + 1) ≥ C.h) }
def RFn.level (C : Cfg) (f : RFn) : Int := wI (wI (C.h - 1) - f.down)
def RFn.field (C : Cfg) (f : RFn) : Int := wI (6 + f.level C)
def RFn.read (C : Cfg) (f : RFn) (B : Bnk) : RFn × Bnk :=
  let b := B.ld C f.pred (f.field C)
  let f := if f.level C = 0 then { f with at_ := b.count } else f
  if marked b.old then (f.anew,b) else if ¬ valid b.old then (f.ended C 0 0,b) else ({ f with x := b.old,next := 1 },b)
def RFn.step (C : Cfg) (f : RFn) (B : Bnk) (G : Grd) : RFn × Bnk × Grd :=
  if f.done ≠ 0 then (f,B,G)
  else if f.next = 0 then let r := f.read C B; (r.1,r.2,G)
  else if f.next = 1 then let b := B.load 0 0; ({ f with era := b.old,next := if b.old = G.latest then 3 else 2 },b,G)
  else if f.next = 2 then let r := pubG C G B f.era; (if r.2.2 then { f with next := 0 } else ({ f with next := 0 } : RFn).anew,r.2.1,r.1)
  else if f.next = 3 then let b := B.ld C f.x (f.field C); ({ f with s := b.old,next := if marked b.old then 4 else 5 },b,G)
  else if f.next = 4 then let b := B.sw C f.pred (f.field C) f.x (plainF f.s); (if b.done = true then { f with next := 0 } else ({ f with next := 0 } : RFn).anew,b,G)
  else if f.next = 5 then let b := B.ld C f.x 1; (if b.old ≥ f.k then f.ended C f.x b.old else { f with pred := f.x,next := 0 },b,G)
  else (f,B,G)
def RFn.stepW (w : Wd) : Wd := let r := (RFn.dec w.F).step w.C w.B w.G; ⟨w.C,r.2.2,r.2.1,r.1.enc⟩
def RFn.part (f : RFn) (l : List Int) (level : Int) : Int := if f.done ≠ 0 ∧ 0 ≤ level ∧ level < l.length then l.getD (l.length - 1 - level.toNat) 0 else 0
structure Swp where
  tag : Int
  slot : Int
  l : List Int
  seen : List Int
  others : List Int
def Swp.enc (f : Swp) : List Int := f.tag :: f.slot :: (f.l.length : Int) :: (f.seen.length : Int) :: (f.l ++ (f.seen ++ f.others))
def Swp.dec : List Int → Swp
  | t :: s :: a :: b :: r => ⟨t,s,r.take a.toNat,(r.drop a.toNat).take b.toNat,(r.drop a.toNat).drop b.toNat⟩
  | _ => ⟨0,0, [], [], []⟩
def Swp.split (f : Swp) : Swp := { f with tag := if splitF false f.seen f.l = [] then 3 else 2,l := splitF true f.seen f.l,others := splitF false f.seen f.l }
def Swp.step (C : Cfg) (f : Swp) (B : Bnk) (G : Grd) : Swp × Bnk × Grd :=
  if f.tag = 0 then
    let r := clrG C G B f.slot
    let f : Swp := { f with slot := wI (f.slot + 1) }
    (if f.slot < C.s then f else { f with tag := if (f.l.length : Int) / 3 ≥ C.k then 1 else 3,slot := 0 },r.2,r.1)
  else if f.tag = 1 then
    let n : Int := f.seen.length
    let b := B.load (C.res (wI (Int.tdiv n C.s)) (Int.tmod n C.s)) 0
    let f : Swp := { f with seen := f.seen ++ [b.old] }
    (if wI (n + 1) < wI (C.t * C.s) then f else f.split,b,G)
  else if f.tag = 2 then
    let b := backF C B (f.others.getD 0 0)
    let f : Swp := { f with others := f.others.drop 3 }
    (if f.others = [] then { f with tag := 3 } else f,b,G)
  else (f,B,G)
def Swp.stepW (w : Wd) : Wd := let r := (Swp.dec w.F).step w.C w.B w.G; ⟨w.C,r.2.2,r.2.1,r.1.enc⟩
structure RSw where
  next : Int
  cleared : Int
  done : Int
  l : List Int
  seen : List Int
  others : List Int
def RSw.enc (f : RSw) : List Int := f.next :: f.cleared :: f.done :: (f.l.length : Int) :: (f.seen.length : Int) :: (f.l ++ (f.seen ++ f.others))
def RSw.dec : List Int → RSw
  | n :: c :: d :: a :: b :: r => ⟨n,c,d,r.take a.toNat,(r.drop a.toNat).take b.toNat,(r.drop a.toNat).drop b.toNat⟩
  | _ => ⟨0,0,0, [], [], []⟩
def RSw.step (C : Cfg) (f : RSw) (B : Bnk) (G : Grd) : RSw × Bnk × Grd :=
  if f.done ≠ 0 then (f,B,G)
  else if f.next = 0 then
    let r := clrG C G B f.cleared
    let f : RSw := { f with cleared := wI (f.cleared + 1) }
    (if f.cleared ≥ C.s then { f with next := 1,done := ofP ((f.l.length : Int) / 3 < C.k) } else f,r.2,r.1)
  else if f.next = 1 then
    let n : Int := f.seen.length
    let b := B.load (C.res (wI (Int.tdiv n C.s)) (Int.tmod n C.s)) 0
    let f : RSw := { f with seen := f.seen ++ [b.old] }
    (if wI (n + 1) ≥ wI (C.t * C.s) then { f with others := splitF false f.seen f.l,l := splitF true f.seen f.l,next := 2,done := ofP (splitF false f.seen f.l = []) } else f,b,G)
  else
    let b := backF C B (f.others.getD 0 0)
    let f : RSw := { f with others := f.others.drop 3 }
    ({ f with done := ofP (f.others = []) },b,G)
def RSw.stepW (w : Wd) : Wd := let r := (RSw.dec w.F).step w.C w.B w.G; ⟨w.C,r.2.2,r.2.1,r.1.enc⟩
structure Ret where
  tag : Int
  node : Int
  birth : Int
  retired : Int
  last : Int
  f : List Int
def Ret.enc (r : Ret) : List Int := r.tag :: r.node :: r.birth :: r.retired :: r.last :: r.f
def Ret.dec : List Int → Ret
  | t :: n :: b :: r :: l :: f => ⟨t,n,b,r,l,f⟩
  | _ => ⟨0,0,0,0,0, []⟩
def Ret.step (C : Cfg) (r : Ret) (B : Bnk) (G : Grd) : Ret × Bnk × Grd :=
  if r.tag = 0 then let b := B.ad C r.node 5 lastEra; (if b.old = 1 then { r with last := 1,tag := 1 } else { r with tag := 4 },b,G)
  else if r.tag = 1 then let w := Fnd.stepW ⟨C,G,B,r.f⟩; ({ r with f := w.F,tag := if w.F.getD 0 0 = 7 then 2 else 1 },w.B,w.G)
  else if r.tag = 2 then let b := B.ld C r.node 3; ({ r with birth := b.old,tag := 3 },b,G)
  else if r.tag = 3 then let b := B.load 0 0; ({ r with retired := b.old,tag := 4 },b,G)
  else (r,B,G)
def Ret.stepW (w : Wd) : Wd := let r := (Ret.dec w.F).step w.C w.B w.G; ⟨w.C,r.2.2,r.2.1,r.1.enc⟩
structure RRt where
  h : Int
  next : Int
  last : Int
  node : Int
  birth : Int
  retired : Int
  done : Int
  f : List Int
def RRt.enc (r : RRt) : List Int := r.h :: r.next :: r.last :: r.node :: r.birth :: r.retired :: r.done :: r.f
def RRt.dec : List Int → RRt
  | h :: n :: l :: e :: b :: r :: d :: f => ⟨h,n,l,e,b,r,d,f⟩
  | _ => ⟨0,0,0,0,0,0,0, []⟩
def RRt.step (C : Cfg) (r : RRt) (B : Bnk) (G : Grd) : RRt × Bnk × Grd :=
  if r.done ≠ 0 then (r,B,G)
  else if r.next = 0 then let b := B.ad C r.h 5 lastEra; ({ r with last := ofP (b.old = 1),done := ofP (b.old ≠ 1),next := 1 },b,G)
  else if r.next = 1 then let w := RFn.stepW ⟨C,G,B,r.f⟩; ({ r with f := w.F,next := if w.F.getD 8 0 ≠ 0 then 2 else 1 },w.B,w.G)
  else if r.next = 2 then let b := B.ld C r.h 3; ({ r with birth := b.old,next := 3 },b,G)
  else let b := B.load 0 0; ({ r with retired := b.old,node := plainF r.h,done := 1 },b,G)
def RRt.stepW (w : Wd) : Wd := let r := (RRt.dec w.F).step w.C w.B w.G; ⟨w.C,r.2.2,r.2.1,r.1.enc⟩
def newF (C : Cfg) : List Int := setF (C.cell 0 4) C.h (setF (C.cell 0 0) 1 (setF 0 1 (List.replicate (lenF C.t C.s C.c C.h C.k C.e C.l).toNat 0)))
def slotsB (C : Cfg) : Nat → Bnk
  | 0 => ⟨0,0,0,0,0,0,false,newF C⟩
  | n + 1 => (slotsB C n).store (C.cell ((n : Int) + 1) 0) 0 1
def slotsF (C : Cfg) (n : Nat) : List Int := (slotsB C n).row
def Bnk.num (B : Bnk) : Nat → Int
  | 0 => B.count
  | 1 => B.kind
  | 2 => B.cell
  | 3 => B.via
  | 4 => B.old
  | 5 => B.new
  | _ => if B.done then 1 else 0
def stepM : Nat → Wd → Wd
  | 0 => Fnd.stepW
  | 1 => RFn.stepW
  | 2 => Swp.stepW
  | 3 => RSw.stepW
  | 4 => Ret.stepW
  | 5 => RRt.stepW
  | _ => id
def endM : Nat → List Int → Bool
  | 0,F => F.getD 0 0 = 7
  | 2,F => F.getD 0 0 = 3
  | 4,F => F.getD 0 0 = 4
  | _,_ => true
def runM (m : Nat) : Nat → Wd → Int × Wd
  | 0,w => (0,w)
  | n + 1,w => if endM m w.F = true then (0,w) else let r := runM m n (stepM m w); (r.1 + 1,r.2)
def decW : List Int → Wd
  | t :: s :: c :: h :: k :: e :: l :: mn :: lt :: th :: ct :: kd :: ce :: vi :: ol :: ne :: dn :: n :: r => ⟨⟨t,s,c,h,k,e,l⟩,⟨mn,lt,th⟩,⟨ct,kd,ce,vi,ol,ne,dn != 0,r.drop n.toNat⟩,r.take n.toNat⟩
  | _ => ⟨⟨0,0,0,0,0,0,0⟩,⟨0,0,0⟩,⟨0,0,0,0,0,0,false, []⟩, []⟩
def outI (w : Wd) : Nat → Int
  | 0 => w.B.count
  | 1 => w.B.kind
  | 2 => w.B.cell
  | 3 => w.B.via
  | 4 => w.B.old
  | 5 => w.B.new
  | 6 => if w.B.done then 1 else 0
  | 7 => w.G.many
  | 8 => w.G.latest
  | i + 9 => w.F.getD i 0
def listM : Nat → Nat → List Int → List Int
  | 1,0,F => (RFn.dec F).preds
  | 1,1,F => (RFn.dec F).succs
  | 1,_,F => (RFn.dec F).keys
  | 2,0,F => (Swp.dec F).l
  | 2,1,F => (Swp.dec F).seen
  | 3,0,F => (RSw.dec F).l
  | 3,1,F => (RSw.dec F).seen
  | 3,_,F => (RSw.dec F).others
  | 5,j,F => listM 1 j (RRt.dec F).f
  | 9,0,t :: s :: c :: h :: k :: e :: l :: n :: _ => slotsF ⟨t,s,c,h,k,e,l⟩ n.toNat
  | 9,1,F => entF 0 F
  | _,_,_ => []
def outL (m : Nat) (w : Wd) : Nat → List Int
  | 0 => w.F
  | 1 => w.B.row
  | j + 2 => listM m j w.F
def mchI (d : Nat) (l : List Int) : Int :=
  if d < 4000 then outI (stepM ((d - 1000) / 100) (decW l)) (d % 100)
  else if d < 7000 then (match l with
    | n :: r => if d % 100 = 99 then (runM ((d - 4000) / 100) n.toNat (decW r)).1 else outI (runM ((d - 4000) / 100) n.toNat (decW r)).2 (d % 100)
    | [] => 0)
  else if d / 100 = 79 ∧ d % 100 < 90 then (match l with
    | t :: s :: c :: h :: k :: e :: a :: n :: _ => (slotsB ⟨t,s,c,h,k,e,a⟩ n.toNat).num (d % 100)
    | _ => 0)
  else match d, l with
    | 7000,v :: F => (Fnd.dec F).of v 0
    | 7001,v :: F => (Fnd.dec F).of v 1
    | 7002,v :: F => (Fnd.dec F).of v 2
    | 7100,v :: F => (RFn.dec F).part (RFn.dec F).preds v
    | 7101,v :: F => (RFn.dec F).part (RFn.dec F).succs v
    | 7102,v :: F => (RFn.dec F).part (RFn.dec F).keys v
    | 7999,F => ofP (wordsP F)
    | _,_ => 0
def mchL (d : Nat) (l : List Int) : List Int :=
  if d < 4000 then outL ((d - 1000) / 100) (stepM ((d - 1000) / 100) (decW l)) (d % 100)
  else if d < 7000 then (match l with
    | n :: r => outL ((d - 4000) / 100) (runM ((d - 4000) / 100) n.toNat (decW r)).2 (d % 100)
    | [] => [])
  else listM ((d - 7000) / 100) (d % 100) l
end Go.Proofs.Ytafemlljemhkhaa.Sx
