/-
  THE SYMBOLIC EXECUTOR, part M: whatever order a region draws: operations that may be taken first.
  (The first laws follow the library's own, Derived/OrdersHeld.lean; here the condition on the world is asked for behind those operations alone that could come ahead of a load.)
-/
import Derived.Test.YtafemlljemhkhaaSxL
namespace Go.Proofs.Ytafemlljemhkhaa.Sx
open Go
set_option linter.unusedSectionVars false
set_option linter.unusedVariables false
set_option linter.unusedSimpArgs false
variable [Env]

section
variable {P : Program} {ops : Array Oper} {Q : Exit → Act → World → Prop} {S : World → Prop} {need : Nat → Bool}

def wpAnyN (P : Program) (ops : Array Oper) (Q : Exit → Act → World → Prop) (need : Nat → Bool) (S : World → Prop) : Nat → Array Bool → Act → World → Prop
  | 0, listed, a, w => Region.ready .any ops listed = [] ∧ Q .normal a w
  | fuel + 1, listed, a, w =>
    (Region.ready .any ops listed = [] → Q .normal a w) ∧
    ∀ i ∈ Region.ready .any ops listed, wpOp P ops Q i (fun a' w' => (need i = true → S w → S w') ∧ wpAnyN P ops Q need S fuel (listed.setIfInBounds i true) a' w') a w
theorem wpAny_of_N : ∀ (fuel : Nat) (listed : Array Bool) (a : Act) (w : World), wpAnyN P ops Q need S fuel listed a w → wpAny P .any ops Q fuel listed a w
  | 0, _, _, _, h => h
  | fuel + 1, _, _, _, h => ⟨h.1, fun i hi => wpOp_mono (fun a' w' h' => wpAny_of_N fuel _ a' w' h'.2) (h.2 i hi)⟩
theorem wpAnyN_first {i : Nat} {oi : Oper} {v : Value} {S' : World → Prop} (hi : ops[i]? = some oi) (hsel : ∀ (j : Nat) (o : Oper) cs b, ops[j]? = some o → o.op ≠ .select cs b)
    (hQ : ∀ c a w, Q (.panic c) (a.put oi.dst v) w → Q (.panic c) a w)
    (hS : ∀ listed j w w', listed.getD i true = false → j ∈ Region.ready .any ops listed → j ≠ i → (need j = true → S w → S w') → S' w → S' w') :
    ∀ (fuel : Nat) (listed : Array Bool) (a : Act) (w : World),
      (∀ j oj, ops[j]? = some oj → j ≠ i → listed.getD j true = false → (∀ e ∈ oj.after, Region.binds .any e = true → e.on ≠ i) → oi.apart ops oj = true) →
      i ∈ Region.ready .any ops listed → YieldsIf P ops S' oi v a → S' w →
      wpAnyN P ops Q need S fuel (listed.setIfInBounds i true) (a.put oi.dst v) w → wpAnyN P ops Q need S (fuel + 1) listed a w := by
  intro fuel
  induction fuel with
  | zero =>
    intro listed a w _ hr hy hw H
    refine ⟨fun h => (by rw [h] at hr; cases hr), fun j hj => ?_⟩
    by_cases hji : j = i
    · subst hji; exact hy.wpOp hi hw ⟨fun _ h => h, H⟩
    · have := ready_mono hj hji
      rw [H.1] at this
      cases this
  | succ fuel ih =>
    intro listed a w hfree hr hy hw H
    refine ⟨fun h => (by rw [h] at hr; cases hr), fun j hj => ?_⟩
    by_cases hji : j = i
    · subst hji; exact hy.wpOp hi hw ⟨fun _ h => h, H⟩
    · have h1 := H.2 j (ready_mono hj hji)
      obtain ⟨hjun, oj, hoj, hall⟩ := mem_ready.1 hj
      have hiun := (mem_ready.1 hr).1
      have hnot : ∀ e ∈ oj.after, Region.binds .any e = true → e.on ≠ i := fun e he hb heq => by
        have h1 := hall e he hb
        rw [heq] at h1
        rcases Nat.lt_or_ge i listed.size with h' | h'
        · simp [h'] at hiun h1; rw [hiun] at h1; cases h1
        · simp [Array.getElem?_eq_none h'] at h1
      have h2 := wpOp_putIf hoj (hfree j oj hoj hji hjun hnot) (fun cs b => hsel i oi cs b hi) (fun cs b => hsel j oj cs b hoj) hQ hy h1
      have hfree' : ∀ k ok, ops[k]? = some ok → k ≠ i → (listed.setIfInBounds j true).getD k true = false →
          (∀ e ∈ ok.after, Region.binds .any e = true → e.on ≠ i) → oi.apart ops ok = true := fun k ok hk hki hun hno => by
        refine hfree k ok hk hki ?_ hno
        by_cases hjk : j = k
        · subst hjk; exact hjun
        · rw [getD_set_ne true hjk] at hun; exact hun
      refine wpOp_mono (fun a' w' h3 => ?_) h2
      refine ⟨h3.2.1, ih (listed.setIfInBounds j true) a' w' hfree' (ready_mono hr (Ne.symm hji)) h3.1 (hS listed j w w' hiun hj hji h3.2.1 hw) ?_⟩
      rw [Array.setIfInBounds_comm _ _ hji]
      exact h3.2.2

/-- How many have not come up. -/
def unl (listed : Array Bool) : Nat := listed.toList.count false
theorem count_set : ∀ (l : List Bool) (i : Nat), l[i]? = some false → (l.set i true).count false + 1 = l.count false
  | [], i, h => by simp at h
  | b :: l, 0, h => by simp at h; subst h; simp
  | b :: l, i + 1, h => by
    simp at h
    have := count_set l i h
    cases b <;> simp [List.set_cons_succ] <;> omega
theorem unl_set {listed : Array Bool} {i : Nat} (h : listed.getD i true = false) : unl (listed.setIfInBounds i true) + 1 = unl listed := by
  unfold unl
  rw [Array.toList_setIfInBounds]
  refine count_set _ _ ?_
  simp only [Array.getD_eq_getD_getElem?] at h
  cases hl : listed[i]? with
  | none => rw [hl] at h; simp at h
  | some b => rw [hl] at h; simp at h; subst h; simpa using hl
theorem unl_pos {listed : Array Bool} {i : Nat} (h : listed.getD i true = false) : 0 < unl listed := by have := unl_set h; omega
theorem wpAnyN_all {fuel : Nat} {listed : Array Bool} {a : Act} {w : World} (hne : Region.ready .any ops listed ≠ [])
    (h : ∀ i ∈ Region.ready .any ops listed, wpOp P ops Q i (fun a' w' => (need i = true → S w → S w') ∧ wpAnyN P ops Q need S fuel (listed.setIfInBounds i true) a' w') a w) : wpAnyN P ops Q need S (fuel + 1) listed a w :=
  ⟨fun h0 => absurd h0 hne, h⟩
theorem wpAnyN_done {listed : Array Bool} {a : Act} {w : World} (hr : Region.ready .any ops listed = []) (h : Q .normal a w) :
    ∀ fuel, wpAnyN P ops Q need S fuel listed a w
  | 0 => ⟨hr, h⟩
  | _ + 1 => ⟨fun _ => h, by rw [hr]; simp⟩
end

/-! ### a schedule -/
inductive Md where
  | take | eff | alc
  deriving DecidableEq
def isPureK : Op → Bool
  | .move _ | .assign _ | .pick .. | .build .. | .field .. | .extract .. | .nilCheck _ | .binOp .. | .unOp .. | .convert .. | .makeFunc .. | .fieldAddr .. | .indexAddr .. | .index .. => true
  | .slice _ _ _ _ none => true
  | .call { callee := .builtin .len, .. } | .call { callee := .builtin .min, .. } | .call { callee := .builtin .max, .. } => true
  | _ => false
def isAlcK (o : Oper) : Bool := match o.op, o.guard with | .alloc _, none => o.dst.isSome | _, _ => false
def tmpsOf (o : Op) : List Tmp := o.operands.toList.filterMap fun | .tmp t => some t | _ => none
/-- Which operations are taken first: all but calls and their like, and loads at addresses that these give. -/
def kinds (ops : List Oper) : List Tmp → List Md
  | taint => match ops with
    | [] => []
    | o :: rest =>
      let t := (tmpsOf o.op).any taint.contains
      let put := match o.dst with | some d => d :: taint | none => taint
      if isPureK o.op then .take :: kinds rest (if t then put else taint)
      else if isAlcK o then .alc :: kinds rest put
      else match o.op with
        | .load _ _ => if t then .eff :: kinds rest put else .take :: kinds rest taint
        | _ => .eff :: kinds rest put
/-- The next one: one that is taken first, else a call or its like, else a new block. -/
def nextOf (ms : List Md) (rs : List Nat) : Option (Nat × Md) :=
  match rs.find? fun i => ms.getD i .eff == .take with
  | some i => some (i, .take)
  | none => match rs.find? fun i => ms.getD i .eff == .eff with
    | some i => some (i, .eff)
    | none => match rs with
      | i :: _ => some (i, .alc)
      | [] => none
def mkSched (ops : Array Oper) (ms : List Md) : Nat → Array Bool → List (Nat × Md)
  | 0, _ => []
  | n + 1, L => match nextOf ms (Region.ready .any ops L) with
    | some (i, m) => (i, m) :: mkSched ops ms n (L.setIfInBounds i true)
    | none => []

def pendOf : List (Nat × Md) → List Nat
  | [] => []
  | (i, .alc) :: l => i :: pendOf l
  | _ :: l => pendOf l
def loadsOf (ops : Array Oper) : List (Nat × Md) → List Nat
  | [] => []
  | (i, .take) :: l => match ((ops[i]?).map (·.op) : Option Op) with
    | some (.load _ _) => i :: loadsOf ops l
    | _ => loadsOf ops l
  | _ :: l => loadsOf ops l
def needOf (ops : Array Oper) (loads : List Nat) (j : Nat) : Bool :=
  match ops[j]? with
  | some o => !(loads.all fun i => o.after.any fun e => Region.binds .any e && e.on == i)
  | none => true
def setAll (L : Array Bool) (E : List Nat) : Array Bool := E.foldl (fun l i => l.setIfInBounds i true) L
def zeroOk (P : Program) (o : Oper) : Bool := match o.op with | .alloc e => (zeroT P e).isSome | _ => false
def chk (P : Program) (ops : Array Oper) : List (Nat × Md) → Array Bool → Bool
  | [], L => (Region.ready .any ops L).isEmpty
  | (i, m) :: rest, L =>
    match ops[i]? with
    | none => false
    | some oi =>
      let pend := pendOf rest
      (Region.ready .any ops L).contains i && !pend.contains i &&
      (pend.all fun p => match ops[p]? with | some op => oi.apart ops op && isAlcK op && zeroOk P op | none => false) &&
      (match m with
        | .take => Region.free .any ops L i && (isPureK oi.op || (match oi.op with | .load _ _ => true | _ => false))
        | .eff => (Region.ready .any ops (setAll L pend)).all fun k => k == i
        | .alc => isAlcK oi && zeroOk P oi && (Region.ready .any ops (setAll L pend)).all fun k => k == i) &&
      chk P ops rest (L.setIfInBounds i true)

theorem getD_set' (L : Array Bool) (i j : Nat) (d : Bool) : (L.setIfInBounds i true).getD j d = if i = j ∧ j < L.size then true else L.getD j d := by
  simp only [Array.getD_eq_getD_getElem?]
  by_cases h : i = j
  · subst h
    by_cases hs : i < L.size
    · simp [hs]
    · simp [hs, Array.getElem?_eq_none (Nat.le_of_not_lt hs)]
  · rw [Array.getElem?_setIfInBounds_ne h]; simp [h]
theorem setAll_getD : ∀ (E : List Nat) (L : Array Bool) (j : Nat) (d : Bool), (setAll L E).getD j d = if j ∈ E ∧ j < L.size then true else L.getD j d
  | [], L, j, d => by simp [setAll]
  | i :: E, L, j, d => by
    have : setAll L (i :: E) = setAll (L.setIfInBounds i true) E := rfl
    rw [this, setAll_getD E, getD_set']
    simp only [Array.size_setIfInBounds, List.mem_cons]
    by_cases h1 : j ∈ E ∧ j < L.size
    · simp [h1]
    · by_cases h2 : i = j ∧ j < L.size
      · rw [if_neg h1, if_pos h2, if_pos ⟨.inl h2.1.symm, h2.2⟩]
      · rw [if_neg h1, if_neg h2, if_neg]
        rintro ⟨h3 | h3, h4⟩
        · exact h2 ⟨h3.symm, h4⟩
        · exact h1 ⟨h3, h4⟩
theorem setAll_size : ∀ (E : List Nat) (L : Array Bool), (setAll L E).size = L.size
  | [], L => rfl
  | i :: E, L => by
    have : setAll L (i :: E) = setAll (L.setIfInBounds i true) E := rfl
    rw [this, setAll_size E]; simp

end Go.Proofs.Ytafemlljemhkhaa.Sx
