import Derived.Test.YtafemlljemhkhaaPSxYy
namespace Go.Proofs.Ytafemlljemhkhaa.Sx
open Go Go.ChangeShapes Go.WideShapes Go.ChangeAt Go.RowKit
set_option linter.unusedSectionVars false
set_option linter.unusedVariables false
set_option linter.unusedSimpArgs false
inductive AK where
  | pk (x : PK)
  | st (xs : List PK)
def oneB : PK → Bool
  | .one _ => true
  | .sl _ => true
  | .agg _ => false
section
variable {H : Type} {enc : TypeId × Value → H} {P : Program} {W : World} {b0 : Nat} {sp : Nat → Bool} {held : Bool}
def ToldL (W : World) : List PK → List Value → Prop
  | [], [] => True
  | p :: ps, v :: vs => (∃ ns tb bo, Told W p v ns tb bo) ∧ ToldL W ps vs
  | _, _ => False
theorem ToldL.app {ps' : List PK} {vs' : List Value} (h' : ∃ ns tb bo, Tolds W ps' vs' ns tb bo) : ∀ {ps : List PK} {vs : List Value}, ToldL W ps vs → ∃ ns tb bo, Tolds W (ps ++ ps') (vs ++ vs') ns tb bo
  | [], [], _ => h'
  | p :: ps, v :: vs, h => by
    obtain ⟨ns1, tb1, bo1, g1⟩ := h.1
    obtain ⟨ns2, tb2, bo2, g2⟩ := ToldL.app h' h.2
    obtain ⟨tb, bo, g⟩ := Tolds.cons g1 g2
    exact ⟨_, tb, bo, g⟩
  | [], _ :: _, h => h.elim
  | _ :: _, [], h => h.elim
inductive FlatV (P : Program) : List AK → List Value → List Value → Prop
  | nil : FlatV P [] [] []
  | pk {x : PK} {l : List AK} {v : Value} {vs us : List Value} : FlatV P l vs us → FlatV P (.pk x :: l) (v :: vs) (v :: us)
  | st {ps : List PK} {l : List AK} {cs : Array Value} {vs us : List Value} : (ps.all oneB = true) → ps.length = cs.toList.length → FlatV P l vs us → FlatV P (.st ps :: l) (.agg cs :: vs) (cs.toList ++ us)
end
end Go.Proofs.Ytafemlljemhkhaa.Sx
