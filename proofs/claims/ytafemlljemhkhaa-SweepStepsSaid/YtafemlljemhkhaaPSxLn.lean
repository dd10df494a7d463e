import Derived.Test.YtafemlljemhkhaaPSxY6
namespace Go.Proofs.Ytafemlljemhkhaa.Sx
open Go Go.ChangeShapes Go.WideShapes Go.ChangeAt Go.RowKit
set_option linter.unusedSectionVars false
set_option linter.unusedVariables false
set_option linter.unusedSimpArgs false
section
variable {H : Type} {enc : TypeId × Value → H} {P : Program} {W : World} {b0 : Nat} {sp : Nat → Bool} {held : Bool}
theorem st_len {t : TypeId} {fs : Array Field} {f0 : Field} {fl : List Field} {e : TypeId} (hu : P.underlying t = some (.struct fs)) (hfs : fs.toList = f0 :: fl) (h0 : P.underlying f0.type = some (.slice e)) (ho : f0.offset = 0)
    {cs : Array Value} {d : DataW H} {p : List MemPlace} (hd : DataW.Trod enc P W 0 sp held t (.agg cs) d p) (hw : (d.weights P t).all (fun x => decide (x ≤ reachBytes)) = true) {a : Option Addr} {len cap : Nat} {r : List Value} (hcs : cs.toList = .slice a len cap :: r) : len * P.bytesOf e ≤ reachBytes := by
  obtain ⟨fuel,hf⟩ := hd
  have hx := hf
  cases fuel with
  | zero => simp [DataW.trod] at hx
  | succ fuel =>
    unfold DataW.trod at hx
    rw [hu] at hx
    have hc : (Value.agg cs).cells = cs := rfl
    rw [hc] at hx
    have hx' : (if cs.toList.length = P.cellsOf t then (fs.toList.mapM fun f => DataW.trod enc P W 0 sp held fuel f.type ((cs.toList.drop f.offset).take (P.cellsOf f.type))).map fun xs => ((.agg (xs.map (·.1)), xs.flatMap (·.2)) : DataW H × List MemPlace) else none) = some (d, p) := by
      revert hx
      generalize cs.toList = l0
      cases l0 with
      | nil => exact id
      | cons c l0 => cases l0 <;> cases c <;> exact id
    split at hx'
    · rw [hfs, List.mapM_cons, ho, List.drop_zero] at hx'
      cases h1 : DataW.trod enc P W 0 sp held fuel f0.type (cs.toList.take (P.cellsOf f0.type)) with
      | none => rw [h1] at hx'; cases hx'
      | some y =>
        cases h2 : (fl.mapM fun f => DataW.trod enc P W 0 sp held fuel f.type ((cs.toList.drop f.offset).take (P.cellsOf f.type))) with
        | none => rw [h1,h2] at hx'; cases hx'
        | some ys =>
          rw [h1,h2] at hx'
          cases hx'
          rw [hcs] at h1
          have hy : ∀ v : Value, (Value.slice a len cap :: r).take (P.cellsOf f0.type) = [v] → v = .slice a len cap := fun v hv => by
            cases hk : P.cellsOf f0.type with
            | zero => rw [hk] at hv; cases hv
            | succ k => rw [hk,List.take_succ_cons] at hv; exact (List.cons.inj hv).1.symm
          rcases DataW.trod_slice h0 h1 with ⟨q1,q2⟩ | ⟨a',len',cap',elems,rest,n,_,q1,q2,_,_,_,q3,_⟩
          · cases hy _ q1
            omega
          · cases hy _ q1
            subst q2
            have hw2 : ((DataW.agg (DataW.slice (elems.map (·.1)) (rest.map (·.1)) :: ys.map (·.1))).weights P t).all (fun x => decide (x ≤ reachBytes)) = true := hw
            simp only [DataW.weights,hu,hfs,List.map_cons,DataW.weightsEach,h0,List.cons_append,List.all_cons,Bool.and_eq_true,decide_eq_true_eq,List.length_map,q3] at hw2
            exact Nat.le_trans (Nat.mul_le_mul_right _ (Nat.le_add_right _ _)) hw2.1
    · cases hx'
theorem each2 {t0 t1 t2 : TypeId} {ts : List TypeId} {d0 d1 d2 : DataW H} {ds : List (DataW H)} (h : (DataW.weightsEach P (t0 :: t1 :: t2 :: ts) (d0 :: d1 :: d2 :: ds)).all (fun x => decide (x ≤ reachBytes)) = true) : (d2.weights P t2).all (fun x => decide (x ≤ reachBytes)) = true := by
  simp only [DataW.weightsEach,List.all_append,Bool.and_eq_true] at h
  exact h.2.2.1
theorem isl_len {E : Env} {ρ : Rho} {p0 p1 : SV} {n k : Nat} {o : IE} {cells : List SC} {v0 v1 v2 : Value} (h : All2 (@SV.is E ρ) [p0, p1, .w (.agg (.b (.isl n o (.atom k)) :: cells))] [v0, v1, v2]) : ∃ (cs : Array Value) (a : Option Addr) (c : Nat) (r : List Value), v2 = .agg cs ∧ cs.toList = .slice a (E.i k).toNat c :: r := by
  obtain ⟨cs,rfl,hc⟩ : ∃ cs : Array Value,v2 = .agg cs ∧ All2 (@SC.is E ρ) (.b (.isl n o (.atom k)) :: cells) cs.toList := h.2.2.1
  cases hl : cs.toList with
  | nil => rw [hl] at hc; exact hc.elim
  | cons x r =>
    rw [hl] at hc
    obtain ⟨a,c,rfl,_⟩ : ∃ a c,x = .slice a (E.i k).toNat c ∧ _ := hc.1
    exact ⟨cs,a,c,r,rfl,hl⟩
theorem law_loopsH {g : Nat} {ts : List TypeId} {gs : List AK} {d : Nat} (hk : kindsG P d ts = some gs) {args : Array Value} {ds : List (DataW H)} {ps : List MemPlace} (hv : ∀ (j : Nat) t v, ts[j]? = some t → args.toList[j]? = some v → Value.okWide P W .any b0 t v)
    (ht : DataW.TrodAll enc P W 0 sp held ts args.toList ds ps) (hlaw : ∀ (E : Env) (ρ : Rho) (F : Nat → Nat → Prop), symRng E (flatG gs) 0 0 → @HeapOk E Empty _ ρ F (symHeap (flatG gs) 0 0) W → All2 (@SV.is E ρ) (symArgsG gs 0 0) args.toList →
      Calls P g args W fun e w' => e = .returned (.bool true) ∧ ∃ ρ' F',Reach ρ F W ρ' F' w') : Calls P g args W fun e W' => e = .returned (.bool true) ∧ Below W.heap.size W W' := by
  obtain ⟨us,hus,ns,tb,bo,h⟩ := tolds_ofG hk hv ht
  obtain ⟨E, ρ,F,h1,h2,h3,h4⟩ := start h
  refine Calls.mono (hlaw E ρ F h1 h2 (symG hus h3)) fun e W' he => ?_
  obtain ⟨he, ρ',F',R⟩ := he
  exact ⟨he,R.os,R.tape,R.output,R.size,fun k hk => R.keep k hk fun n hn hs => by rw [h4 n hn] at hs; cases hs⟩
end
end Go.Proofs.Ytafemlljemhkhaa.Sx
