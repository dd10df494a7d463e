/-
  WHAT PURE FUNCTIONS TELL: one table of functions of whole numbers.
-/
import Derived.Below
namespace Go.Proofs.Ytalobhgefmhboaa.Sx

/-- Is there such a world? -/
def rightP (t s c h k e l : Int) : Prop := 1 ≤ t ∧ t ≤ 8 ∧ 1 ≤ s ∧ s ≤ 8 ∧ 1 ≤ c ∧ c ≤ 64 ∧ 1 ≤ h ∧ h ≤ 6 ∧ 1 ≤ k ∧ k ≤ 64 ∧ 1 ≤ e ∧ e ≤ 64 ∧ 0 ≤ l ∧ l ≤ 1073741823
instance (t s c h k e l : Int) : Decidable (rightP t s c h k e l) := by unfold rightP; infer_instance
def lenF (t s c h k e l : Int) : Int := if rightP t s c h k e l then 1 + t * s + (c + 1) * (6 + h) else 0
def reservedF (t s c h k e l a b : Int) : Int := if rightP t s c h k e l ∧ 0 ≤ a ∧ a < t ∧ 0 ≤ b ∧ b < s then 1 + a * s + b else -1
def cellF (t s c h k e l i f : Int) : Int := if rightP t s c h k e l ∧ 0 ≤ i ∧ i ≤ c ∧ 0 ≤ f ∧ f < 6 + h then 1 + t * s + i * (6 + h) + f else -1

def funs : Nat → List Int → Int
  | 1, [t, s, c, h, k, e, l] => if rightP t s c h k e l then 1 else 0
  | 2, [t, s, c, h, k, e, l] => lenF t s c h k e l
  | 3, [t, s, c, h, k, e, l, a, b] => reservedF t s c h k e l a b
  | 4, [t, s, c, h, k, e, l, i, f] => cellF t s c h k e l i f
  | 5, [w] => w % 4294967296
  | 6, [w] => if w / 4611686018427387904 % 2 = 1 then w - 4611686018427387904 else w
  | _, _ => 0

end Go.Proofs.Ytalobhgefmhboaa.Sx
