import Derived.Test.YtafemlljemhkhaaPSxM0
namespace Go.Proofs.Ytafemlljemhkhaa.Sx
open Go
namespace Lay
def li (n : Int) : IE := .lit n
def ai (i : Nat) : IE := .atom (5000 + i)
def al (i : Nat) : IE := .latom (5000 + i)
def ci (i : Nat) : SC := .b (.int .i64 (ai i))
def pt (n : Nat) : SB := .ptr n (.lit 0)
def rf (n : Nat) : SC := .b (.ref n)
def row : List IE → IE → IE
  | [],l => l
  | x :: xs,l => .consL x (row xs l)
def some3 (l : IE) : BE := .cmp .lss (.lit 0) (.fn 50 (.consL (.len l) (.consL (.lit 3) .nilL)))
def by3 (l : IE) : BE := .cmp .eql (.op .rem .i64 (.len l) (.lit 3)) (.lit 0)
def swBox : List (Nat × SO Empty) := [(304, .cells 73 [.b (pt 300)] 0),(306, .mach 4 (al 0))]
def swS (f s : SC) : Nat × SO Empty := (300, .cells 145 [f,rf 306,s] 0)
def sweep : List MShape := [
  ⟨300,swS (.fn (.func 119) [] [pt 302,pt 304]) (.b .nils) :: (302, .cells 3 [ci 1] 0) :: swBox,row [li 0,ai 1, .len (al 0),li 0] (al 0), []⟩,
  ⟨300,swS (.fn (.func 129) [] [pt 304]) (.b .nils) :: swBox,row [li 1,li 0, .len (al 0),li 0] (al 0), []⟩,
  ⟨300,swS (.fn (.func 129) [] [pt 304]) (rf 308) :: (308, .mach 2 (al 1)) :: swBox,row [li 1,li 0, .len (al 0), .len (al 1)] (.catL (al 0) (al 1)), []⟩,
  ⟨300,swS (.fn (.func 137) [] [pt 310,pt 304]) (rf 308) :: (308, .mach 2 (al 1)) :: (310, .cells 70 [rf 312] 0) :: (312, .mach 4 (al 2)) :: swBox,row [li 2,li 0, .len (al 0), .len (al 1)] (.catL (al 0) (.catL (al 1) (al 2))), [some3 (al 2),by3 (al 2)]⟩,
  ⟨300,swS (.b .nilf) (.b .nils) :: [(306, .mach 4 (al 0))],row [li 3,li 0, .len (al 0),li 0] (al 0), []⟩,
  ⟨300,swS (.b .nilf) (rf 308) :: (308, .mach 2 (al 1)) :: [(306, .mach 4 (al 0))],row [li 3,li 0, .len (al 0), .len (al 1)] (.catL (al 0) (al 1)), []⟩]
end Lay
def shapes : Nat → List MShape
  | 1003 => Lay.sweep
  | _ => []
end Go.Proofs.Ytafemlljemhkhaa.Sx
