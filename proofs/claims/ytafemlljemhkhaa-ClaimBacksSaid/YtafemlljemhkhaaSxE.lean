/-
  THE SYMBOLIC EXECUTOR, part E: operations that neither read nor write memory, one by one.
-/
import Derived.Test.YtafemlljemhkhaaSxD
import Derived.Laws.StructEq
namespace Go.Proofs.Ytafemlljemhkhaa.Sx
open Go
set_option linter.unusedSectionVars false
set_option linter.unusedVariables false
set_option linter.unusedSimpArgs false
variable [Env]

/-! ### equality -/
def eqFieldsS (P : Program) (xs ys : List SC) : List Field → Option BE
  | [] => some (.lit true)
  | f :: fs =>
    if f.name = "_" then none else
    match aggT P f.type, xs[f.offset]?, ys[f.offset]?, eqFieldsS P xs ys fs with
    | some false, some x, some y, some e => match eqSC P f.type x y with
      | some e0 => some (mkAnd e0 e)
      | none => none
    | _, _, _, _ => none
theorem eqFieldsS_gives {P : Program} {ρ : Rho} {xs ys : List SC} {us vs : Array Value} (hx : All2 (SC.is ρ) xs us.toList) (hy : All2 (SC.is ρ) ys vs.toList) (d : Nat) :
    ∀ {fs : List Field} {e : BE}, eqFieldsS P xs ys fs = some e → Gives P (Op.eqFields (d + 1) us vs fs) e.val
  | [], e, h => by cases h; exact fun _ => rfl
  | f :: fs, e, h => by
    intro w
    simp only [eqFieldsS] at h
    split at h
    · cases h
    · rename_i hn
      split at h
      · rename_i x y e1 h1 h2 h3 h4
        split at h
        · rename_i e0 h5
          cases h
          obtain ⟨u, hu, hux⟩ := hx.get _ _ h2
          obtain ⟨v, hv, hvy⟩ := hy.get _ _ h3
          have hu' : us[f.offset]? = some u := by simpa using hu
          have hv' : vs[f.offset]? = some v := by simpa using hv
          have ih := eqFieldsS_gives hx hy d h4 w
          have hq := eqSC_gives h5 hux hvy d
          have hpx : Gives P (part f.type us f.offset) u := fun w => by simp [part, gives_isAgg h1 w, hu']
          have hpy : Gives P (part f.type vs f.offset) v := fun w => by simp [part, gives_isAgg h1 w, hv']
          simp only [Op.eqFields, if_pos hn, Sem.run_bind, hpx w, hpy w, hq w, Result.andThen_ok, mkAnd_val, Sem.run_ite, Sem.run_pure, ih]
          cases e0.val <;> simp
        · cases h
      · cases h

def eqArrS (P : Program) (e : TypeId) (sz : Nat) (xs ys : List SC) : Nat → Nat → Option BE
  | 0, _ => some (.lit true)
  | n + 1, i => match xs[i * sz]?, ys[i * sz]?, eqArrS P e sz xs ys n (i + 1) with
    | some x, some y, some r => match eqSC P e x y with
      | some e0 => some (mkAnd e0 r)
      | none => none
    | _, _, _ => none
def eqArrRec (d : Nat) (e : TypeId) (sz : Nat) (xs ys : Array Value) : Nat → Nat → Sem Bool
  | 0, _ => pure true
  | n + 1, i => do
    let a ← part e xs (i * sz)
    let b ← part e ys (i * sz)
    let r ← Op.equalIn d e a b
    if (!r) = true then pure false else eqArrRec d e sz xs ys n (i + 1)
theorem run_equalIn_array {P : Program} (w : World) (d : Nat) (t e : TypeId) (n sz : Nat) (xs ys : Array Value) (ht : P.underlying t = some (.array n e)) (hs : sizeT P e = some sz) :
    (Op.equalIn (d + 1) t (.agg xs) (.agg ys)).run P w = (eqArrRec d e sz xs ys n 0).run P w := by
  simp only [Op.equalIn, Sem.run_bind, gives_underlying ht w, Result.andThen_ok, gives_sizeOf hs w]
  rw [Std.Legacy.Range.forIn_eq_forIn_range']
  have key : ∀ (n i : Nat) (w : World),
      ((forIn (List.range' i n 1) ((none, ()) : Option Bool × Unit) fun i _ => do
          let a ← part e xs (i * sz)
          let b ← part e ys (i * sz)
          let r ← Op.equalIn d e a b
          if (!r) = true then pure (ForInStep.done (some false, ())) else pure (ForInStep.yield (none, ())) : Sem (Option Bool × Unit)).run P w).andThen
        (fun r w' => (match r.fst with | some b => (pure b : Sem Bool) | none => pure true).run P w') = (eqArrRec d e sz xs ys n i).run P w := by
    intro n
    induction n with
    | zero => intro i w; simp [eqArrRec]
    | succ n ih =>
      intro i w
      simp only [List.range'_succ, List.forIn_cons, eqArrRec, Sem.run_bind]
      generalize (part e xs (i * sz)).run P w = r1
      cases r1 with
      | halt x w1 => simp [Result.andThen]
      | ok a w1 =>
        simp only [Result.andThen_ok]
        generalize (part e ys (i * sz)).run P w1 = r2
        cases r2 with
        | halt x w2 => simp [Result.andThen]
        | ok b w2 =>
          simp only [Result.andThen_ok]
          generalize (Op.equalIn d e a b).run P w2 = r3
          cases r3 with
          | halt x w3 => simp [Result.andThen]
          | ok r w3 =>
            cases r
            · simp only [Result.andThen_ok, Bool.not_false, if_true, Sem.run_pure]
            · simp only [Result.andThen_ok, Bool.not_true, Bool.false_eq_true, if_false, Sem.run_pure]
              exact ih (i + 1) w3
  have := key n 0 w
  simp at this ⊢
  rw [← this]
  refine congrArg _ ?_
  funext r w'
  rcases r with ⟨_ | b, _⟩ <;> rfl
theorem eqArrS_gives {P : Program} {ρ : Rho} {xs ys : List SC} {us vs : Array Value} (hx : All2 (SC.is ρ) xs us.toList) (hy : All2 (SC.is ρ) ys vs.toList) (d : Nat)
    {t : TypeId} {sz : Nat} (h1 : aggT P t = some false) :
    ∀ {n i : Nat} {e : BE}, eqArrS P t sz xs ys n i = some e → Gives P (eqArrRec (d + 1) t sz us vs n i) e.val
  | 0, i, e, h => by cases h; exact fun _ => rfl
  | n + 1, i, e, h => by
    intro w
    simp only [eqArrS] at h
    split at h
    · rename_i x y e1 h2 h3 h4
      split at h
      · rename_i e0 h5
        cases h
        obtain ⟨u, hu, hux⟩ := hx.get _ _ h2
        obtain ⟨v, hv, hvy⟩ := hy.get _ _ h3
        have hu' : us[i * sz]? = some u := by simpa using hu
        have hv' : vs[i * sz]? = some v := by simpa using hv
        have ih := eqArrS_gives hx hy d h1 h4 w
        have hq := eqSC_gives h5 hux hvy d
        have hpx : Gives P (part t us (i * sz)) u := fun w => by simp [part, gives_isAgg h1 w, hu']
        have hpy : Gives P (part t vs (i * sz)) v := fun w => by simp [part, gives_isAgg h1 w, hv']
        simp only [eqArrRec, Sem.run_bind, hpx w, hpy w, hq w, Result.andThen_ok, mkAnd_val, Sem.run_ite, Sem.run_pure, ih]
        cases e0.val <;> simp
      · cases h
    · cases h

/-- '==' of two values, of whatever type the executor knows. -/
def eqS (P : Program) (t : TypeId) (x y : SV) : Option BE :=
  match x, y with
  | .w (.one c), .w (.one d) => eqSC P t c d
  | .w (.agg xs), .w (.agg ys) =>
    if P.eqGuardType P.depth t then none else
    match P.underlying t with
    | some (.struct fs) => if P.stoodInHeld t then none else eqFieldsS P xs ys fs.toList
    | some (.array n e) => match aggT P e, sizeT P e with
      | some false, some sz => eqArrS P e sz xs ys n 0
      | _, _ => none
    | _ => none
  | _, _ => none
theorem eqS_gives {P : Program} {t : TypeId} {x y : SV} {e : BE} (h : eqS P t x y = some e) {ρ : Rho} {u v : Value} (hx : x.is ρ u) (hy : y.is ρ v) :
    Gives P (Op.equal t u v) e.val ∧ ∀ op a b, Gives P (eqGuard op t a b u v) () := by
  unfold eqS at h
  split at h
  · rename_i c d
    refine ⟨eqSC_gives h hx hy 9999, fun op a b w => ?_⟩
    have h1 := SC.is_one (ρ := ρ) (x := c) hx
    unfold eqSC at h
    unfold eqGuard
    split at h <;> first
      | (cases h; done)
      | (rename_i p q hu; have hx' : u = .bool p.val := hx; subst hx'; cases op <;> simp; done)
      | (rename_i k p k' q hu; have hx' : u = .int k p.val := hx; subst hx'; cases op <;> simp; done)
      | (have hx' : u = .pointer none := hx; subst hx'; cases op <;> simp; done)
      | (have hx' : u = .slice none 0 0 := hx; subst hx'; cases op <;> simp; done)
      | (have hx' : u = .nilFunc := hx; subst hx'; cases op <;> simp; done)
      | (obtain ⟨b', _, rfl⟩ := hx; cases op <;> simp; done)
      | (obtain ⟨b', c', rfl, _⟩ := hx; cases op <;> simp; done)
      | skip
  · rename_i xs ys
    obtain ⟨us, rfl, hx'⟩ := hx
    obtain ⟨vs, rfl, hy'⟩ := hy
    split at h
    · cases h
    · rename_i hg
      refine ⟨?_, fun op a b w => run_eqGuard_agg w op t a b us vs (by simpa using hg)⟩
      split at h
      · rename_i fs hu
        split at h
        · cases h
        · rename_i hst
          intro w
          have hf : P.fieldsOf t = fs := by simp [Program.fieldsOf, hu]
          show (Op.equalIn (9999 + 1) t (.agg us) (.agg vs)).run P w = _
          rw [run_equalIn_struct w 9999 t us vs (by rw [hf]; exact hu) (by simpa using hst), hf]
          exact eqFieldsS_gives hx' hy' 9998 h w
      · rename_i n e' hu
        split at h
        · rename_i sz h1 h2
          intro w
          show (Op.equalIn (9999 + 1) t (.agg us) (.agg vs)).run P w = _
          rw [run_equalIn_array w 9999 t e' n sz us vs hu h2]
          exact eqArrS_gives hx' hy' 9998 h1 h w
        · cases h
      · cases h
  · cases h

end Go.Proofs.Ytafemlljemhkhaa.Sx
