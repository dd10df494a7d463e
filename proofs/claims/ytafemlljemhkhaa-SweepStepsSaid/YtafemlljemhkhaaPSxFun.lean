import Derived.Test.YtafemlljemhkhaaPSxD
namespace Go.Proofs.Ytafemlljemhkhaa.Sx
def funsLA : Nat → List Int → List Int
  | 5,l => (swpF l).r1
  | 6,l => (swpF l).seen
  | 7,l => (swpF l).kept
  | 8,l => (swpF l).r2
  | 9,t :: s :: c :: h :: k :: e :: g :: n :: r => relF t s c h k e g n.toNat r
  | 10,l => entF 0 l
  | 1,l => (pokedF l).1
  | 2,l => metasF l
  | 3,n :: m => splitF true (m.take n.toNat) (m.drop n.toNat)
  | 4,n :: m => splitF false (m.take n.toNat) (m.drop n.toNat)
  | _,_ => []
def funsL (d : Nat) (l : List Int) : List Int := bif Nat.ble 1000 d then mchL d l else funsLA d l
def funs2 : Nat → List Int → Int
  | 40,l => (pokedF l).2.1.getD 0 0
  | 41,l => (pokedF l).2.1.getD 1 0
  | 42,l => (pokedF l).2.1.getD 2 0
  | 43,l => (pokedF l).2.1.getD 3 0
  | 44,l => (pokedF l).2.1.getD 4 0
  | 45,l => (pokedF l).2.1.getD 5 0
  | 46,l => (pokedF l).2.1.getD 6 0
  | 7, [w] => ofP (w ≥ 9223372036854775808)
  | 8, [w] => ofP (w / 4611686018427387904 % 2 = 1)
  | 9, [w] => w / 4294967296 % 1073741824
  | 10,c :: r => hadF c r
  | 12,c :: r => ofP (inF c r)
  | 13,c :: r => if inF c r then c else r.length
  | 14,v :: c :: r => if inF c r then v else 0
  | 15,o :: v :: c :: r => if inF c r then (if hadF c r = o then v else hadF c r) else 0
  | 16,o :: c :: r => ofP (inF c r ∧ hadF c r = o)
  | 17,b :: c :: r => if inF c r then wrapU (hadF c r + b) else 0
  | 18,v :: c :: r => ofP (inF c r ∧ v ≠ hadF c r)
  | 19,o :: v :: c :: r => ofP (inF c r ∧ hadF c r = o ∧ v ≠ hadF c r)
  | 20,b :: c :: r => ofP (inF c r ∧ wrapU (hadF c r + b) ≠ hadF c r)
  | 21, [w] => w % 4
  | 22, [w] => slotGenF w
  | 23, [g,l] => afterF g l
  | 24, [s,g] => if metaP s g then 4 * g + s else 0
  | 25, [s,g] => ofP (metaP s g)
  | 26, [i,g,m] => packF i g m
  | 27, [i,g,_] => ofP (packP i g)
  | 28, [w] => markF w
  | 29, [w] => ofP (w % 2 = 1)
  | 30, [w] => if w % 2 = 1 then w else w + 1
  | 31, [w] => w / 2
  | 32, [v] => if v ≥ 9223372036854775808 then 0 else 2 * v
  | 33, [v] => ofP (v < 9223372036854775808)
  | 34, [f,k,m] => atF f k m
  | 35, [a,f,m] => begunF a f m
  | 50, [n,k] => n / k
  | 60,b :: r :: l => idxF b r 0 l
  | 62,l => (swpF l).others.length / 3
  | 47,l => if (pokedF l).2.2 = true then 1 else 0
  | _,_ => 0
def funsA : Nat → List Int → Int
  | 1, [t,s,c,h,k,e,l] => if rightP t s c h k e l then 1 else 0
  | 2, [t,s,c,h,k,e,l] => lenF t s c h k e l
  | 3, [t,s,c,h,k,e,l,a,b] => reservedF t s c h k e l a b
  | 4, [t,s,c,h,k,e,l,i,f] => cellF t s c h k e l i f
  | 5, [w] => w % 4294967296
  | 6, [w] => if w / 4611686018427387904 % 2 = 1 then w - 4611686018427387904 else w
  | d,l => funs2 d l
def funs (d : Nat) (l : List Int) : Int := bif Nat.ble 1000 d then mchI d l else funsA d l
end Go.Proofs.Ytafemlljemhkhaa.Sx
