import Derived.Test.YtafemlljemhkhaaPSxSqt
namespace Go.Proofs.Ytafemlljemhkhaa.Sx
set_option linter.unusedVariables false
set_option linter.unusedSimpArgs false
def firsts : List Int → List Int
  | n :: _ :: _ :: l => n :: firsts l
  | _ => []
theorem firsts_append : ∀ (l m : List Int), l.length % 3 = 0 → firsts (l ++ m) = firsts l ++ firsts m
  | n :: b :: r :: l, m, h => by
    have ih := firsts_append l m (by simp only [List.length_cons] at h; omega)
    simp only [List.cons_append, firsts, ih]
  | [], m, _ => by simp [firsts]
  | [_], m, h => by simp at h
  | [_, _], m, h => by simp at h
end Go.Proofs.Ytafemlljemhkhaa.Sx
