/-
  WHAT PURE FUNCTIONS TELL: one table of functions of whole numbers.
-/
import Derived.Below
namespace Go.Proofs.Ytafemlljemhkhaa.Sx

/-- Is there such a world? -/
def rightP (t s c h k e l : Int) : Prop := 1 ≤ t ∧ t ≤ 8 ∧ 1 ≤ s ∧ s ≤ 8 ∧ 1 ≤ c ∧ c ≤ 64 ∧ 1 ≤ h ∧ h ≤ 6 ∧ 1 ≤ k ∧ k ≤ 64 ∧ 1 ≤ e ∧ e ≤ 64 ∧ 0 ≤ l ∧ l ≤ 1073741823
instance (t s c h k e l : Int) : Decidable (rightP t s c h k e l) := by unfold rightP; infer_instance
def lenF (t s c h k e l : Int) : Int := if rightP t s c h k e l then 1 + t * s + (c + 1) * (6 + h) else 0
def reservedF (t s c h k e l a b : Int) : Int := if rightP t s c h k e l ∧ 0 ≤ a ∧ a < t ∧ 0 ≤ b ∧ b < s then 1 + a * s + b else -1
def cellF (t s c h k e l i f : Int) : Int := if rightP t s c h k e l ∧ 0 ≤ i ∧ i ≤ c ∧ 0 ≤ f ∧ f < 6 + h then 1 + t * s + i * (6 + h) + f else -1

/-- A row's cell: is there one; what it has. -/
def inF (c : Int) (r : List Int) : Prop := 0 ≤ c ∧ c < r.length
instance (c : Int) (r : List Int) : Decidable (inF c r) := by unfold inF; infer_instance
def hadF (c : Int) (r : List Int) : Int := if inF c r then r.getD c.toNat 0 else 0
def wrapU (x : Int) : Int := x % 18446744073709551616
def wrapI (x : Int) : Int := (x + 9223372036854775808) % 18446744073709551616 - 9223372036854775808
def ofP (p : Prop) [Decidable p] : Int := if p then 1 else 0
/-- Words of slots. -/
def slotGenF (w : Int) : Int := if w / 4 > 1073741823 then 1073741823 else w / 4
def afterF (g l : Int) : Int :=
  let g := if g < 0 then 0 else g
  let l := if l < 0 then 0 else if l > 1073741823 then 1073741823 else l
  if g ≥ l then 4 * l + 2 else 4 * g + 4
def metaP (s g : Int) : Prop := 0 ≤ s ∧ s ≤ 2 ∧ 0 ≤ g ∧ g ≤ 1073741823
instance (s g : Int) : Decidable (metaP s g) := by unfold metaP; infer_instance
def packP (i g : Int) : Prop := 0 ≤ i ∧ i ≤ 4294967295 ∧ 0 ≤ g ∧ g ≤ 1073741823
instance (i g : Int) : Decidable (packP i g) := by unfold packP; infer_instance
def markF (w : Int) : Int := if w / 4611686018427387904 % 2 = 1 then w else w + 4611686018427387904
def packF (i g m : Int) : Int := if packP i g then (if m = 0 then 9223372036854775808 + 4294967296 * g + i else 9223372036854775808 + 4294967296 * g + i + 4611686018427387904) else 0

theorem ofP_ne (p : Prop) [Decidable p] : (ofP p != 0) = decide p := by by_cases h : p <;> simp [ofP, h]

/-- A row, one cell of it another one; where there is no such cell, as it is. -/
def setF (c v : Int) (r : List Int) : List Int := if inF c r then r.set c.toNat v else r
/-- What others write (step, cell, word), as far as it is due at a step: the row, the count and the last access (count, kind, cell, via, old, new, done), is a cell changed. -/
def pokeS (s st c v : Int) (p : List Int × List Int × Bool) : List Int × List Int × Bool :=
  if st = s then (setF c v p.1, [Go.IntKind.i64.wrap (p.2.1.getD 0 0 + 1), 2, c, 0, hadF c p.1, if inF c p.1 then v else 0, ofP (inF c p.1)], p.2.2 || decide (inF c p.1 ∧ v ≠ hadF c p.1)) else p
def pokeN (s : Int) (l r a : List Int) : Nat → List Int × List Int × Bool
  | 0 => (r, a, false)
  | n + 1 => pokeS s (l.getD (3 * n) 0) (l.getD (3 * n + 1) 0) (l.getD (3 * n + 2) 0) (pokeN s l r a n)
/-- The same of one row of numbers: step, how many pokes, these, the count and the last access, the row. -/
def pokedF (l : List Int) : List Int × List Int × Bool := match l with
  | s :: n :: m => pokeN s m ((m.drop (3 * n.toNat)).drop 7) ((m.drop (3 * n.toNat)).take 7) n.toNat
  | _ => ([], [], false)
/-- The slot that a claim looks at: as the document counts; as the program begins. -/
def atF (f k m : Int) : Int := Go.IntKind.i64.wrap (Int.tmod (Go.IntKind.i64.wrap (Go.IntKind.i64.wrap ((if f < 1 ∨ f > m then 1 else f) - 1) + k)) m + 1)
def begunF (a f m : Int) : Int := if a > 0 then a else if 1 ≤ f ∧ f ≤ m then f else 1
/-- Is an era one that covers; the first place of one that does, or -1; entries (node, birth, retired) that are covered by eras, or are not. -/
def covF (b r e : Int) : Prop := e ≠ 0 ∧ e ≥ b ∧ e ≤ r
instance (b r e : Int) : Decidable (covF b r e) := by unfold covF; infer_instance
def idxF (b r : Int) : Int → List Int → Int
  | _, [] => -1
  | i, e :: l => if covF b r e then i else idxF b r (i + 1) l
def splitF (is : Bool) (eras : List Int) : List Int → List Int
  | n :: b :: r :: l => if decide (idxF b r 0 eras ≥ 0) = is then n :: b :: r :: splitF is eras l else splitF is eras l
  | _ => []
/-- A world's slots' words. -/
def metasF (l : List Int) : List Int := match l with
  | t :: s :: c :: h :: k :: e :: g :: r => (List.range c.toNat).map fun i : Nat => hadF (cellF t s c h k e g ((i : Int) + 1) 0) r
  | _ => []
/-- A sweep: the row behind clearing so many reservations of a thread; what is seen; the row behind letting nodes go. -/
def clrF (t s c h k e g th : Int) : Nat → List Int → List Int
  | 0, r => r
  | n + 1, r => setF (reservedF t s c h k e g th n) 0 (clrF t s c h k e g th n r)
def seenF (t s c h k e g : Int) (r : List Int) (n : Nat) : List Int := (List.range n).map fun i : Nat => hadF (reservedF t s c h k e g ((i : Int) / s) ((i : Int) % s)) r
def freeF (t s c h k e g : Int) : List Int → List Int → List Int
  | n :: _ :: _ :: l, r => freeF t s c h k e g l (setF (cellF t s c h k e g (n % 4294967296) 0) (afterF (n / 4294967296 % 1073741824) g) r)
  | _, r => r
/-- Of a world, a thread, how many words its entries have, these, the row: the row behind clearing; what is seen; what is kept; the others; the row at the end. -/
structure SwpF where
  r1 : List Int
  seen : List Int
  kept : List Int
  others : List Int
  r2 : List Int
def swpF (l : List Int) : SwpF := match l with
  | t :: s :: c :: h :: k :: e :: g :: th :: n :: m =>
    let L := m.take n.toNat
    let r1 := clrF t s c h k e g th s.toNat (m.drop n.toNat)
    let seen := seenF t s c h k e g r1 (t * s).toNat
    ⟨r1, seen, splitF true seen L, splitF false seen L, freeF t s c h k e g (splitF false seen L) r1⟩
  | _ => ⟨[], [], [], [], []⟩
/-- A world whose slots from 1 on are taken, so many; entries of these. -/
def relF (t s c h k e g : Int) : Nat → List Int → List Int
  | 0, r => r
  | n + 1, r => setF (cellF t s c h k e g ((n : Int) + 1) 0) 1 (relF t s c h k e g n r)
def entF : Nat → List Int → List Int
  | i, _ :: b :: r :: l => (9223372036854775808 + ((i : Int) + 1)) :: b :: r :: entF (i + 1) l
  | _, _ => []
/-- Rows out of rows. -/
def funsL : Nat → List Int → List Int
  | 5, l => (swpF l).r1
  | 6, l => (swpF l).seen
  | 7, l => (swpF l).kept
  | 8, l => (swpF l).r2
  | 9, t :: s :: c :: h :: k :: e :: g :: n :: r => relF t s c h k e g n.toNat r
  | 10, l => entF 0 l
  | 1, l => (pokedF l).1
  | 2, l => metasF l
  | 3, n :: m => splitF true (m.take n.toNat) (m.drop n.toNat)
  | 4, n :: m => splitF false (m.take n.toNat) (m.drop n.toNat)
  | _, _ => []

def funs2 : Nat → List Int → Int
  | 40, l => (pokedF l).2.1.getD 0 0
  | 41, l => (pokedF l).2.1.getD 1 0
  | 42, l => (pokedF l).2.1.getD 2 0
  | 43, l => (pokedF l).2.1.getD 3 0
  | 44, l => (pokedF l).2.1.getD 4 0
  | 45, l => (pokedF l).2.1.getD 5 0
  | 46, l => (pokedF l).2.1.getD 6 0
  | 7, [w] => ofP (w ≥ 9223372036854775808)
  | 8, [w] => ofP (w / 4611686018427387904 % 2 = 1)
  | 9, [w] => w / 4294967296 % 1073741824
  | 10, c :: r => hadF c r
  | 12, c :: r => ofP (inF c r)
  | 13, c :: r => if inF c r then c else r.length
  | 14, v :: c :: r => if inF c r then v else 0
  | 15, o :: v :: c :: r => if inF c r then (if hadF c r = o then v else hadF c r) else 0
  | 16, o :: c :: r => ofP (inF c r ∧ hadF c r = o)
  | 17, b :: c :: r => if inF c r then wrapU (hadF c r + b) else 0
  | 18, v :: c :: r => ofP (inF c r ∧ v ≠ hadF c r)
  | 19, o :: v :: c :: r => ofP (inF c r ∧ hadF c r = o ∧ v ≠ hadF c r)
  | 20, b :: c :: r => ofP (inF c r ∧ wrapU (hadF c r + b) ≠ hadF c r)
  | 21, [w] => w % 4
  | 22, [w] => slotGenF w
  | 23, [g, l] => afterF g l
  | 24, [s, g] => if metaP s g then 4 * g + s else 0
  | 25, [s, g] => ofP (metaP s g)
  | 26, [i, g, m] => packF i g m
  | 27, [i, g, _] => ofP (packP i g)
  | 28, [w] => markF w
  | 29, [w] => ofP (w % 2 = 1)
  | 30, [w] => if w % 2 = 1 then w else w + 1
  | 31, [w] => w / 2
  | 32, [v] => if v ≥ 9223372036854775808 then 0 else 2 * v
  | 33, [v] => ofP (v < 9223372036854775808)
  | 34, [f, k, m] => atF f k m
  | 35, [a, f, m] => begunF a f m
  | 50, [n, k] => n / k
  | 60, b :: r :: l => idxF b r 0 l
  | 62, l => (swpF l).others.length / 3
  | 47, l => if (pokedF l).2.2 = true then 1 else 0
  | _, _ => 0
def funs : Nat → List Int → Int
  | 1, [t, s, c, h, k, e, l] => if rightP t s c h k e l then 1 else 0
  | 2, [t, s, c, h, k, e, l] => lenF t s c h k e l
  | 3, [t, s, c, h, k, e, l, a, b] => reservedF t s c h k e l a b
  | 4, [t, s, c, h, k, e, l, i, f] => cellF t s c h k e l i f
  | 5, [w] => w % 4294967296
  | 6, [w] => if w / 4611686018427387904 % 2 = 1 then w - 4611686018427387904 else w
  | d, l => funs2 d l

end Go.Proofs.Ytafemlljemhkhaa.Sx
