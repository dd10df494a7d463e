import Derived.Test.YtafemlljemhkhaaPSxZ
import Derived.WalkKit
import Derived.ProofKit
import Derived.OpenShut
import Derived.ChangeOld
import Derived.Carry
import Derived.SizedLaws
namespace Go.Proofs.Ytafemlljemhkhaa.Sx
open Go Go.ChangeShapes Go.WideShapes Go.ChangeAt Go.RowKit
set_option linter.unusedSectionVars false
set_option linter.unusedVariables false
set_option linter.unusedSimpArgs false
@[reducible] def env0 : Env := ⟨fun _ => 0,fun _ => [],fun _ _ _ => 0⟩
def Col.wf : Col → Int → Prop
  | .int k,z => (Lit.int k z).wf = true
  | .bool,z => z = 0 ∨ z = 1
theorem Col.wf_zero (c : Col) : c.wf 0 := by
  cases c with
  | int k => cases k <;> rfl
  | bool => exact .inl rfl
def Fits (c : Col) (v : Value) : Prop := ∃ z,v = c.value z ∧ c.wf z
def colsF (P : Program) (r : TypeId → Option (List Col)) : Nat → List Field → Option (List Col)
  | _, [] => some []
  | off, f :: fs => match r f.type with
    | some c => if f.offset = off ∧ c.length = P.cellsOf f.type then (match colsF P r (off + c.length) fs with
      | some l => some (c ++ l)
      | none => none) else none
    | none => none
def colsT (P : Program) : Nat → TypeId → Option (List Col)
  | 0,_ => none
  | d + 1, t => match P.underlying t with
    | some .bool => some [.bool]
    | some (.int k) => some [.int k]
    | some (.struct fs) => match colsF P (colsT P d) 0 fs.toList with
      | some l => if l.length = P.cellsOf t then some l else none
      | none => none
    | some (.array n e) => match colsT P d e with
      | some c => if c.length = P.cellsOf e ∧ n * c.length = P.cellsOf t then some (List.replicate n c).flatten else none
      | none => none
    | _ => none
section
variable {H : Type} {enc : TypeId × Value → H} {P : Program} {w : World} {base : Nat} {spare : Nat → Bool} {held : Bool}
theorem mapM_each {α β : Type} {f : α → Option β} : ∀ {l : List α} {xs : List β}, l.mapM f = some xs → ∀ a ∈ l, ∃ y, f a = some y
  | [],_,_,a,ha => by cases ha
  | b :: l, xs, h, a, ha => by
    rw [List.mapM_cons] at h
    cases hb : f b with
    | none => rw [hb] at h; cases h
    | some y =>
      cases hl : l.mapM f with
      | none => rw [hb,hl] at h; cases h
      | some ys =>
        rcases List.mem_cons.1 ha with rfl | ha
        · exact ⟨y,hb⟩
        · exact mapM_each hl a ha
theorem All2_segs {α β : Type} {R : α → β → Prop} {c : List α} : ∀ (n : Nat) (cs : List β), (∀ i, i < n → All2 R c ((cs.drop (i * c.length)).take c.length)) → cs.length = n * c.length → All2 R (List.replicate n c).flatten cs
  | 0, cs, _, hl => by
    have : cs = [] := List.length_eq_zero_iff.1 (by simpa using hl)
    subst this; trivial
  | n + 1, cs, h, hl => by
    rw [List.replicate_succ,List.flatten_cons, ← List.take_append_drop c.length cs]
    letI := env0
    refine All2.append (by have := h 0 (by omega); simpa using this) (All2_segs n (cs.drop c.length) (fun i hi => ?_) (by rw [List.length_drop,hl,Nat.succ_mul]; omega))
    have := h (i + 1) (by omega)
    rw [List.drop_drop,show c.length + i * c.length = (i + 1) * c.length by rw [Nat.succ_mul]; omega]
    exact this
theorem colsF_fit {r : TypeId → Option (List Col)} {g : TypeId → List Value → Option (DataW H × List MemPlace)} (hr : ∀ t cols cs x, r t = some cols → g t cs = some x → All2 Fits cols cs) {cs : List Value} :
    ∀ {fs : List Field} {off : Nat} {l : List Col} {xs : List (DataW H × List MemPlace)},colsF P r off fs = some l → (fs.mapM fun f => g f.type ((cs.drop f.offset).take (P.cellsOf f.type))) = some xs → cs.length = off + l.length → All2 Fits l (cs.drop off)
  | [], off, l, xs, h, _, hl => by
    simp only [colsF,Option.some.injEq] at h
    subst h
    rw [List.drop_eq_nil_of_le (by simp at hl; omega)]
    trivial
  | f :: fs, off, l, xs, h, hm, hl => by
    simp only [colsF] at h
    split at h
    · rename_i c hc
      split at h
      · rename_i hof
        split at h
        · rename_i l' hl'
          cases h
          rw [List.mapM_cons] at hm
          cases h1 : g f.type ((cs.drop f.offset).take (P.cellsOf f.type)) with
          | none => rw [h1] at hm; cases hm
          | some y =>
            cases h2 : (fs.mapM fun f => g f.type ((cs.drop f.offset).take (P.cellsOf f.type))) with
            | none => rw [h1,h2] at hm; cases hm
            | some ys =>
              have a1 := hr _ _ _ _ hc h1
              rw [hof.1, ← hof.2] at a1
              have a2 := colsF_fit hr hl' h2 (by rw [hl,List.length_append]; omega)
              rw [← List.take_append_drop c.length (cs.drop off),List.drop_drop]
              letI := env0
              exact a1.append a2
        · cases h
      · cases h
    · cases h
theorem trod_flat : ∀ (d : Nat) {t : TypeId} {cols : List Col} (_ : colsT P d t = some cols) {fuel : Nat} {cs : List Value} {x : DataW H × List MemPlace} (_ : DataW.trod enc P w base spare held fuel t cs = some x), All2 Fits cols cs
  | 0,_,_,h,_,_,_,_ => by cases h
  | d + 1, t, cols, h, fuel, cs, x, hx => by
    cases fuel with
    | zero => simp [DataW.trod] at hx
    | succ fuel =>
      unfold colsT at h
      unfold DataW.trod at hx
      split at h
      · rename_i hu
        cases h
        rw [hu] at hx
        obtain ⟨b, rfl⟩ : ∃ b, cs = [.bool b] := by
          split at hx <;> simp_all
        exact ⟨⟨if b then 1 else 0,by cases b <;> rfl,by cases b; exact .inl rfl; exact .inr rfl⟩,trivial⟩
      · rename_i k hu
        cases h
        rw [hu] at hx
        obtain ⟨n, rfl, hw⟩ : ∃ n, cs = [.int k n] ∧ (Lit.int k n).wf = true := by
          split at hx <;> simp_all
        exact ⟨⟨n,rfl,hw⟩,trivial⟩
      · rename_i fs hu
        rw [hu] at hx
        split at h
        · rename_i l hl
          split at h
          · rename_i hlen
            cases h
            have hx' : (if cs.length = P.cellsOf t then (fs.toList.mapM fun f => DataW.trod enc P w base spare held fuel f.type ((cs.drop f.offset).take (P.cellsOf f.type))).map fun xs => ((.agg (xs.map (·.1)), xs.flatMap (·.2)) : DataW H × List MemPlace) else none) = some x := by
              revert hx
              cases cs with
              | nil => exact id
              | cons c cs => cases cs <;> cases c <;> exact id
            split at hx'
            · rename_i hc
              cases hm : (fs.toList.mapM fun f => DataW.trod enc P w base spare held fuel f.type ((cs.drop f.offset).take (P.cellsOf f.type))) with
              | none => rw [hm] at hx'; cases hx'
              | some xs =>
                have := colsF_fit (g := fun t cs => DataW.trod enc P w base spare held fuel t cs) (r := colsT P d) (fun t cols cs x h1 h2 => trod_flat d h1 h2) hl hm (by rw [hc,hlen]; omega)
                simpa using this
            · cases hx'
          · cases h
        · cases h
      · rename_i n e hu
        rw [hu] at hx
        split at h
        · rename_i c hc
          split at h
          · rename_i hlen
            cases h
            have hx' : (if cs.length = P.cellsOf t then ((List.range n).mapM fun i => DataW.trod enc P w base spare held fuel e ((cs.drop (i * P.cellsOf e)).take (P.cellsOf e))).map fun xs => ((.agg (xs.map (·.1)), xs.flatMap (·.2)) : DataW H × List MemPlace) else none) = some x := by
              revert hx
              cases cs with
              | nil => exact id
              | cons c cs => cases cs <;> cases c <;> exact id
            split at hx'
            · rename_i hcl
              cases hm : ((List.range n).mapM fun i => DataW.trod enc P w base spare held fuel e ((cs.drop (i * P.cellsOf e)).take (P.cellsOf e))) with
              | none => rw [hm] at hx'; cases hx'
              | some xs =>
                refine All2_segs n cs (fun i hi => ?_) (by rw [hcl,hlen.2])
                obtain ⟨y,hy⟩ := mapM_each hm i (List.mem_range.2 hi)
                have := trod_flat d hc hy
                rw [hlen.1]
                exact this
            · cases hx'
          · cases h
        · cases h
      · cases h
theorem cells_get {a : Addr} {n : Nat} {cs : List Value} (h : w.cells? base a n = some cs) : cs.length = n ∧ ∀ j v, cs[j]? = some v → w.cell? (a.add j) = some v := by
  unfold World.cells? at h
  split at h
  · have key : ∀ (l : List Nat) (cs : List Value), (l.mapM fun i => w.cell? (a.add i)) = some cs → cs.length = l.length ∧ ∀ (j : Nat) (v : Value), cs[j]? = some v → ∃ i : Nat, l[j]? = some i ∧ w.cell? (a.add i) = some v := by
      intro l
      induction l with
      | nil => intro cs h; simp at h; subst h; exact ⟨rfl,fun j v h => by simp at h⟩
      | cons i l ih =>
        intro cs h
        rw [List.mapM_cons] at h
        cases h1 : w.cell? (a.add i) with
        | none => rw [h1] at h; cases h
        | some u =>
          cases h2 : (l.mapM fun i => w.cell? (a.add i)) with
          | none => rw [h1,h2] at h; cases h
          | some us =>
            rw [h1,h2] at h
            cases h
            obtain ⟨g1,g2⟩ := ih us h2
            refine ⟨by simp [g1],fun j v hj => ?_⟩
            cases j with
            | zero => simp at hj; subst hj; exact ⟨i,rfl,h1⟩
            | succ j => simp at hj; exact g2 j v hj
    obtain ⟨g1,g2⟩ := key _ _ h
    refine ⟨by simpa using g1,fun j v hj => ?_⟩
    obtain ⟨i,hi,hv⟩ := g2 j v hj
    rw [List.getElem?_range (by have := (List.getElem?_eq_some_iff.1 hj).1; rw [g1] at this; simpa using this)] at hi
    cases hi
    exact hv
  · cases h
def zOf : Value → Int
  | .int _ z => z
  | .bool b => if b then 1 else 0
  | _ => 0
theorem fits_z {c : Col} {v : Value} (h : Fits c v) : v = c.value (zOf v) ∧ c.wf (zOf v) := by
  obtain ⟨z,rfl,hz⟩ := h
  cases c with
  | int k => exact ⟨rfl,hz⟩
  | bool =>
    have hz' : z = 0 ∨ z = 1 := hz
    rcases hz' with rfl | rfl <;> exact ⟨rfl,hz⟩
theorem slice_tab {d : Nat} {t e : TypeId} {cols : List Col} (ht : P.underlying t = some (.slice e)) (hc : colsT P d e = some cols) (hn : cols.length = P.cellsOf e) (h0 : 0 < cols.length) {a : Option Addr} {len cap : Nat} {x : DataW H} {ps : List MemPlace}
    (h : DataW.Trod enc P w base spare held t (.slice a len cap) x ps) :
    len ≤ maxLen ∧ (len = 0 ∨ ∃ b o,a = some ⟨b,o,none⟩ ∧ b < w.heap.size ∧ ∀ i,i < len → ∀ j c,cols[j]? = some c → ∃ v,w.cell? ⟨b,o + i * cols.length + j,none⟩ = some v ∧ Fits c v) := by
  obtain ⟨fuel,hf⟩ := h
  rcases DataW.trod_slice ht hf with ⟨h1,_⟩ | ⟨a',len',cap',elems,rest,n,_,h1,_,_,hl,hm,hlen,hel,_⟩
  · simp [Value.cells] at h1
    obtain ⟨_,rfl,_⟩ := h1
    exact ⟨Nat.zero_le _, .inl rfl⟩
  · simp [Value.cells] at h1
    obtain ⟨rfl,rfl,rfl⟩ := h1
    refine ⟨Nat.le_trans hl hm, ?_⟩
    rcases Nat.eq_zero_or_pos len with h2 | h2
    · exact .inl h2
    right
    have each : ∀ i, i < len → ∃ cs, w.cells? base (a'.add (i * P.cellsOf e)) (P.cellsOf e) = some cs ∧ All2 Fits cols cs := by
      intro i hi
      have h3 := hel i hi
      rw [List.getElem?_eq_getElem (by omega)] at h3
      obtain ⟨cs,hcs,hr⟩ := Option.bind_eq_some_iff.1 h3
      exact ⟨cs,hcs,trod_flat d hc hr⟩
    have spot : a'.spot = none := by
      obtain ⟨cs,hcs,hR⟩ := each 0 h2
      obtain ⟨g1,g2⟩ := cells_get hcs
      have hlt : 0 < cs.length := by rw [g1, ← hn]; exact h0
      have := g2 0 cs[0] (List.getElem?_eq_getElem hlt)
      have e0 : (a'.add (0 * P.cellsOf e)).add 0 = a' := by simp [Addr.add]
      rw [e0] at this
      exact World.cell?_spot this
    obtain ⟨b,o,sp⟩ := a'
    have spot' : sp = none := spot
    subst spot'
    have cell : ∀ i, i < len → ∀ j c, cols[j]? = some c → ∃ v, w.cell? ⟨b, o + i * cols.length + j, none⟩ = some v ∧ Fits c v := by
      intro i hi j c hj
      obtain ⟨cs,hcs,hR⟩ := each i hi
      obtain ⟨g1,g2⟩ := cells_get hcs
      letI := env0
      obtain ⟨v,hv,hfit⟩ := hR.get j c hj
      refine ⟨v, ?_,hfit⟩
      have := g2 j v hv
      rw [← hn] at this
      have e1 : (Addr.add ⟨b, o, none⟩ (i * cols.length)).add j = ⟨b, o + i * cols.length + j, none⟩ := by
        unfold Addr.add
        by_cases hi0 : i * cols.length = 0
        · rw [if_pos hi0, hi0]
          by_cases hj0 : j = 0
          · rw [if_pos hj0,hj0]; rfl
          · rw [if_neg hj0]; rfl
        · rw [if_neg hi0]
          by_cases hj0 : j = 0
          · rw [if_pos hj0,hj0]; rfl
          · rw [if_neg hj0]
      rwa [e1] at this
    refine ⟨b,o,rfl, ?_,cell⟩
    obtain ⟨v,hv,_⟩ := cell 0 h2 0 cols[0] (List.getElem?_eq_getElem h0)
    unfold World.cell? at hv
    cases hb : w.heap[b]? with
    | none => simp [hb] at hv
    | some o => exact (Array.getElem?_eq_some_iff.1 hb).1
end
end Go.Proofs.Ytafemlljemhkhaa.Sx
