/-
  THE SYMBOLIC EXECUTOR, part N: a region that draws its order.
-/
import Derived.Test.YtafemlljemhkhaaSxM
namespace Go.Proofs.Ytafemlljemhkhaa.Sx
open Go
set_option linter.unusedSectionVars false
set_option linter.unusedVariables false
set_option linter.unusedSimpArgs false
variable [Env]

section
variable {A : Type} [AbsK A]

def takeOp (P : Program) (R : Prot) (op : Op) (l : List SV) (h0 : Heap A) : Tree SV :=
  match pureOp P op l with
  | some t => t
  | none => match op with
    | .load t a => if covered P t (ev l a) R && (aggT P t != some false || sizeT P t == some 1) then loadS P t (ev l a) h0 else .fail 140
    | _ => .fail 141
def runSched (P : Program) (c : CallF A) (x : Extra A) (prot R : Prot) (ops : Array Oper) (base : Nat) (loads : List Nat) (h0 : Heap A) : List (Nat × Md) → List SV → Heap A → Tree (List SV × Heap A)
  | [], l, h => .leaf (l, h)
  | (i, m) :: rest, l, h =>
    match ops[i]? with
    | none => .fail 142
    | some o =>
      match m with
      | .take => guarded ops o l (fun l => (takeOp P R o.op l h0).bind fun s => runSched P c x prot R ops base loads h0 rest (setS l o.dst s) h)
          (fun l => runSched P c x prot R ops base loads h0 rest (setS l o.dst undefS) h)
      | .eff => guarded ops o l (fun l => (doOp P c x (if needOf ops loads i then R ++ prot else prot) o.op l h (nmOf base i)).bind fun r => runSched P c x prot R ops base loads h0 rest (setS l o.dst r.1) r.2)
          (fun l => runSched P c x prot R ops base loads h0 rest (setS l o.dst undefS) h)
      | .alc => match o.op with
        | .alloc e => (allocS P e h (nmOf base i)).bind fun r => runSched P c x prot R ops base loads h0 rest (setS l o.dst r.1) r.2
        | _ => .fail 143

/-- A block that stands is given a name. -/
theorem HeapOk.adopt {ρ : Rho} {F : Nat → Nat → Prop} {h : Heap A} {w : World} (H : HeapOk ρ F h w) {n b e : Nat} {cs : List SC} {vs : Array Value} (hn : look h n = none) (hni : Hi n) (hb : w.heap[b]? = some (.cells vs e (0, 0)))
    (hc : All2 (SC.is ρ) cs vs.toList) (hF : ∀ m, (ρ m).isSome → ¬ F m b) : HeapOk (upd ρ n (some (.blk b))) (upd F n (fun x => x = b)) ((n, .cells e cs 0) :: h) w := by
  have hρn : ρ n = none := by
    have := H.dom n; rw [hn] at this
    cases hr : ρ n with
    | none => rfl
    | some r => rw [hr] at this; simp at this
  have hext : Rho.Ext ρ (upd ρ n (some (.blk b))) := fun m r hm => by
    rw [upd_ne _ _ _ _ (fun e => by subst e; rw [hρn] at hm; cases hm)]; exact hm
  have hbound : ∀ m, (upd ρ n (some (.blk b)) m).isSome → m ≠ n → (ρ m).isSome := fun m hm e => by rwa [upd_ne _ _ _ _ e] at hm
  refine ⟨?_, ?_, ?_, ?_, ?_⟩
  · intro m
    by_cases e : m = n
    · subst e; rw [upd_same]; simp [look]
    · have : (n == m) = false := by simpa using Ne.symm e
      rw [upd_ne _ _ _ _ e]; simp only [look, this, cond_false]; exact H.dom m
  · intro m o' r hm hr
    by_cases emn : m = n
    · subst emn
      rw [upd_same] at hr ⊢
      obtain rfl := Option.some.inj hr
      have hm' : SO.cells e cs 0 = o' := by simpa [look] using hm
      subst hm'
      exact ⟨b, vs, rfl, hb, ⟨vs.toList, [], (List.append_nil _).symm, rfl, hc.mono (SC.is_mono hext)⟩, fun x => Iff.rfl⟩
    · have hne : (n == m) = false := by simpa using Ne.symm emn
      rw [upd_ne _ _ _ _ emn] at hr ⊢
      simp only [look, hne, cond_false] at hm
      exact SO.ok_frame hext (H.obj m o' r hm hr) (Nat.le_refl _) fun x hx => rfl
  · intro m m' x hne hm hm' hwr hx hx'
    by_cases e : m = n
    · subst e
      rw [upd_same] at hx
      rw [upd_ne _ _ _ _ (Ne.symm hne)] at hx'
      subst hx
      exact hF m' (hbound m' hm' (Ne.symm hne)) hx'
    · rw [upd_ne _ _ _ _ e] at hx
      have h1 := hbound m hm e
      by_cases e' : m' = n
      · subst e'
        rw [upd_same] at hx'
        subst hx'
        exact hF m h1 hx
      · rw [upd_ne _ _ _ _ e'] at hx'
        exact H.disj m m' x hne h1 (hbound m' hm' e') hwr hx hx'
  · intro m o' hm hw
    by_cases e : m = n
    · exact e ▸ hni
    · have hne : (n == m) = false := by simpa using Ne.symm e
      simp only [look, hne, cond_false] at hm
      exact H.low m o' hm hw
  · intro m x hm hx
    by_cases e : m = n
    · subst e; rw [upd_same] at hx; subst hx; exact (Array.getElem?_eq_some_iff.1 hb).1
    · rw [upd_ne _ _ _ _ e] at hx
      exact H.size m x (hbound m hm e) hx
omit [AbsK A] in
theorem Goes.adopt {prot : Nat → Nat → Prop} {ρ0 ρ : Rho} {F0 F : Nat → Nat → Prop} {w0 w : World} (G : Goes prot ρ0 F0 w0 ρ F w) {n b : Nat} (hn : ρ n = none) (hni : Hi n) (hb : w0.heap.size ≤ b) :
    Goes prot ρ0 F0 w0 (upd ρ n (some (.blk b))) (upd F n (fun x => x = b)) w where
  ext := fun m r hm => by
    have h1 := G.ext m r hm
    rw [upd_ne _ _ _ _ (fun e => by subst e; rw [hn] at h1; cases h1)]; exact h1
  os := G.os
  tape := G.tape
  output := G.output
  size := G.size
  keep := G.keep
  foot := fun m x hm hx => by
    by_cases e : m = n
    · subst e; rw [upd_same] at hx; subst hx; exact .inl hb
    · rw [upd_ne _ _ _ _ e] at hm hx; exact G.foot m x hm hx
  old := fun m hm hs => by
    have e : m ≠ n := fun e => hm (e ▸ hni)
    rw [upd_ne _ _ _ _ e]; exact G.old m hm hs
  prot := G.prot
/-- A new block that has no name yet. -/
theorem HeapOk.pushed {ρ : Rho} {F : Nat → Nat → Prop} {h : Heap A} {w : World} (H : HeapOk ρ F h w) (obj : Obj) : HeapOk ρ F h { w with heap := w.heap.push obj } :=
  ⟨H.dom, fun m o r hm hr => SO.ok_frame (Rho.Ext.refl ρ) (H.obj m o r hm hr) (by simp) fun x hx => by
      show (w.heap.push obj)[x]? = _
      rw [Array.getElem?_push, if_neg]; have := H.size m x (by simp [hr]) hx; omega,
    H.disj, H.low, fun m x hm hx => by have := H.size m x hm hx; show x < (w.heap.push obj).size; rw [Array.size_push]; omega⟩
theorem Goes.pushed {prot : Nat → Nat → Prop} {ρ : Rho} {F : Nat → Nat → Prop} {h : Heap A} {w : World} (H : HeapOk ρ F h w) (obj : Obj) : Goes prot ρ F w ρ F { w with heap := w.heap.push obj } where
  ext := Rho.Ext.refl ρ
  os := rfl
  tape := rfl
  output := rfl
  size := by simp
  keep := fun x hx _ => by show (w.heap.push obj)[x]? = _; rw [Array.getElem?_push, if_neg (by omega)]
  foot := fun n x hn hx => .inr ⟨n, hn, hx, id⟩
  old := fun _ _ _ => rfl
  prot := fun m k _ b hb => cell_congr (by show (w.heap.push obj)[b]? = _; rw [Array.getElem?_push, if_neg]; have := H.size m b (by simp [hb]) (H.self hb); omega) k

/-- A new block that came up ahead of its turn. -/
structure EarlyAt (P : Program) (ops : Array Oper) (ρ : Rho) (F : Nat → Nat → Prop) (w0 : World) (a : Act) (w : World) (p b : Nat) : Prop where
  op : ∃ o d e zv cs, ops[p]? = some o ∧ o.op = .alloc e ∧ o.dst = some d ∧ zeroT P e = some cs ∧ Gives P (zeroValue e) zv ∧ (∀ ρ, All2 (SC.is ρ) cs zv.cells.toList) ∧
    a.tmps[d]? = some (.pointer (some ⟨b, 0, none⟩)) ∧ w.heap[b]? = some (.cells zv.cells e (0, 0))
  lo : w0.heap.size ≤ b
  hi : b < w.heap.size
  out : ∀ n, (ρ n).isSome → ¬ F n b
def dstsOf (ops : Array Oper) (E : List Nat) : List Nat := E.filterMap fun p => (ops[p]?).bind (·.dst)

structure Rel (P : Program) (ops : Array Oper) (prot R : Prot) (loads : List Nat) (ρ0 : Rho) (F0 : Nat → Nat → Prop) (w0 : World) (L : Array Bool) (E : List Nat) (be : Nat → Nat)
    (ρ : Rho) (F : Nat → Nat → Prop) (l : List SV) (h : Heap A) (a : Act) (w : World) : Prop where
  T : TmpsOk ρ (dstsOf ops E) l a
  H : HeapOk ρ F h w
  G : Goes prot.pr ρ0 F0 w0 ρ F w
  S : (∃ i ∈ loads, L.getD i true = false) → ∀ n k, R.pr n k → ∀ b, ρ0 n = some (.blk b) → w.cell? ⟨b, k, none⟩ = w0.cell? ⟨b, k, none⟩
  Ea : ∀ p ∈ E, EarlyAt P ops ρ F w0 a w p (be p)
  inj : ∀ p ∈ E, ∀ q ∈ E, p ≠ q → be p ≠ be q
  dis : ∀ p ∈ E, ∀ q ∈ E, p ≠ q → ∀ op oq, ops[p]? = some op → ops[q]? = some oq → op.dst ≠ oq.dst ∨ op.dst = none

theorem mem_dstsOf {ops : Array Oper} {E : List Nat} {d : Nat} : d ∈ dstsOf ops E ↔ ∃ p ∈ E, ∃ o, ops[p]? = some o ∧ o.dst = some d := by
  unfold dstsOf
  rw [List.mem_filterMap]
  constructor
  · rintro ⟨p, hp, h⟩
    cases ho : ops[p]? with
    | none => rw [ho] at h; simp at h
    | some o => rw [ho] at h; exact ⟨p, hp, o, ho, by simpa using h⟩
  · rintro ⟨p, hp, o, ho, hd⟩
    exact ⟨p, hp, by rw [ho]; simpa using hd⟩
theorem EarlyAt.step {P : Program} {ops : Array Oper} {ρ ρ' : Rho} {F F' : Nat → Nat → Prop} {w0 w w' : World} {a a' : Act} {p b : Nat} {pr : Nat → Nat → Prop} (h : EarlyAt P ops ρ F w0 a w p b) (G : Goes pr ρ F w ρ' F' w')
    (ht : ∀ o d, ops[p]? = some o → o.dst = some d → a'.tmps[d]? = a.tmps[d]?) : EarlyAt P ops ρ' F' w0 a' w' p b := by
  obtain ⟨⟨o, d, e, zv, cs, h1, h2, h3, h4, h5, h6, h7, h8⟩, hlo, hhi, hout⟩ := h
  refine ⟨⟨o, d, e, zv, cs, h1, h2, h3, h4, h5, h6, by rw [ht o d h1 h3]; exact h7, by rw [G.keep b hhi fun n _ => hout n]; exact h8⟩, hlo, Nat.lt_of_lt_of_le hhi G.size, fun n hn hf => ?_⟩
  rcases G.foot n b hn hf with h | ⟨m, hm, hf, _⟩
  · omega
  · exact hout m hm hf
theorem put_other {a : Act} {dst : Option Tmp} {v : Value} {d : Nat} (h : dst ≠ some d) : (a.put dst v).tmps[d]? = a.tmps[d]? := by
  cases dst with
  | none => rfl
  | some e =>
    have hne : e ≠ d := fun he => h (by rw [he])
    simp [Act.put, Array.getElem?_setIfInBounds_ne hne]

theorem isAlcK_spec {o : Oper} (h : isAlcK o = true) : ∃ e d, o.op = .alloc e ∧ o.guard = none ∧ o.dst = some d := by
  unfold isAlcK at h
  split at h
  · rename_i e h1 h2
    obtain ⟨d, hd⟩ := Option.isSome_iff_exists.1 h
    exact ⟨e, d, h1, h2, hd⟩
  · cases h
theorem zeroOk_spec {P : Program} {o : Oper} {e : TypeId} (h : zeroOk P o = true) (he : o.op = .alloc e) : ∃ cs, zeroT P e = some cs := by
  unfold zeroOk at h
  rw [he] at h
  exact Option.isSome_iff_exists.1 h
theorem zero_any {P : Program} {e : TypeId} {cs : List SC} (h : zeroT P e = some cs) : ∃ v, Gives P (zeroValue e) v ∧ ∀ ρ, All2 (SC.is ρ) cs v.cells.toList := by
  unfold zeroT at h
  split at h
  · rename_i i hi
    split at h
    · rename_i v hv
      exact ⟨v, fun w => by simp [zeroValue, typeInfo, hi, hv], fun ρ => litSCs_is h⟩
    · cases h
  · cases h

/-- A new block comes up ahead of its turn. -/
theorem Rel.early {P : Program} {ops : Array Oper} {prot R : Prot} {loads : List Nat} {ρ0 : Rho} {F0 : Nat → Nat → Prop} {w0 : World} {L : Array Bool} {E : List Nat} {be : Nat → Nat}
    {ρ : Rho} {F : Nat → Nat → Prop} {l : List SV} {h : Heap A} {a : Act} {w : World} (r : Rel P ops prot R loads ρ0 F0 w0 L E be ρ F l h a w) (hRb : ∀ n b, ρ0 n = some (.blk b) → b < w0.heap.size)
    {p : Nat} {o : Oper} (ho : ops[p]? = some o) (hp : p ∉ E) (hk : isAlcK o = true) (hz : zeroOk P o = true) (hds : ∀ q ∈ E, ∀ oq, ops[q]? = some oq → o.dst ≠ oq.dst) (hsz : ∀ d, o.dst = some d → d < l.length)
    {S : World → Prop} {K : Act → World → Prop} {Q : Exit → Act → World → Prop} (hS : S = fun w => ∀ n k, R.pr n k → ∀ b, ρ0 n = some (.blk b) → w.cell? ⟨b, k, none⟩ = w0.cell? ⟨b, k, none⟩)
    (hK : ∀ a' w', (S w → S w') → Rel P ops prot R loads ρ0 F0 w0 L (p :: E) (upd be p w.heap.size) ρ F l h a' w' → K a' w') : wpOp P ops Q p K a w := by
  obtain ⟨e, d, h1, h2, h3⟩ := isAlcK_spec hk
  obtain ⟨cs, h4⟩ := zeroOk_spec hz h1
  obtain ⟨zv, h5, h6⟩ := zero_any h4
  have hrun : (execOp a.eval o).run P w = .ok (.value (.pointer (some ⟨w.heap.size, 0, none⟩))) { w with heap := w.heap.push (.cells zv.cells e (0, 0)) } := by
    obtain ⟨dst, op, type, pos, after, guard⟩ := o
    simp only at h1 h2 h3
    subst h1
    simp [execOp, Instr.alloc, h5 w, newVar, newRow]
  unfold wpOp
  simp only [ho]
  rw [if_pos (by simp [Region.wanted, h2])]
  refine .inl (wp_of_value hrun (hK _ _ ?_ ?_))
  · subst hS
    intro hSw n k hn b hb
    refine Eq.trans (cell_congr ?_ k) (hSw n k hn b hb)
    show (w.heap.push _)[b]? = _
    rw [Array.getElem?_push, if_neg]
    have := hRb n b hb; have := r.G.size; omega
  · have Gp := Goes.pushed (prot := prot.pr) r.H (.cells zv.cells e (0, 0))
    rw [h3]
    have hd : d < a.tmps.size := by rw [r.T.size]; exact hsz d h3
    refine ⟨?_, r.H.pushed _, r.G.trans Gp, ?_, ?_, ?_, ?_⟩
    · refine ⟨by simp [Act.put, r.T.size], fun i s hi hl => ?_, r.T.defers⟩
      have hi' : i ∉ dstsOf ops E := fun hc => hi (by
        rw [mem_dstsOf] at hc ⊢
        obtain ⟨q, hq, x⟩ := hc
        exact ⟨q, List.mem_cons_of_mem _ hq, x⟩)
      have hne : d ≠ i := fun he => hi (by rw [mem_dstsOf]; exact ⟨p, List.mem_cons_self .., o, ho, by rw [← he]; exact h3⟩)
      obtain ⟨v, hv, hs⟩ := r.T.at_ i s hi' hl
      exact ⟨v, by rw [put_other (fun he => hne (Option.some.inj he))]; exact hv, hs⟩
    · intro hex n k hn b hb
      refine Eq.trans (cell_congr ?_ k) (r.S hex n k hn b hb)
      show (w.heap.push _)[b]? = _
      rw [Array.getElem?_push, if_neg]
      have := hRb n b hb; have := r.G.size; omega
    · intro q hq
      rcases List.mem_cons.1 hq with rfl | hq
      · rw [upd_same]
        refine ⟨⟨o, d, e, zv, cs, ho, h1, h3, h4, h5, h6, ?_, by simp⟩, r.G.size, by simp, fun n hn hf => ?_⟩
        · simp [Act.put, hd]
        · have := r.H.size n _ hn hf; omega
      · have hqp : q ≠ p := fun e => hp (e ▸ hq)
        rw [upd_ne _ _ _ _ hqp]
        refine (r.Ea q hq).step Gp fun oq dq hoq hdq => put_other ?_
        have := hds q hq oq hoq
        rw [h3, hdq] at this
        exact this
    · intro q hq q' hq' hne
      rcases List.mem_cons.1 hq with rfl | hq1
      · rcases List.mem_cons.1 hq' with rfl | hq1'
        · exact absurd rfl hne
        · have hqp : q' ≠ q := fun e => hne e.symm
          rw [upd_same, upd_ne _ _ _ _ hqp]
          have := (r.Ea q' hq1').hi; omega
      · have hqp : q ≠ p := fun e => hp (e ▸ hq1)
        rcases List.mem_cons.1 hq' with rfl | hq1'
        · rw [upd_same, upd_ne _ _ _ _ hqp]
          have := (r.Ea q hq1).hi; omega
        · have hqp' : q' ≠ p := fun e => hp (e ▸ hq1')
          rw [upd_ne _ _ _ _ hqp, upd_ne _ _ _ _ hqp']
          exact r.inj q hq1 q' hq1' hne
    · intro q hq q' hq' hne oq oq' hoq hoq'
      rcases List.mem_cons.1 hq with rfl | hq1
      · rcases List.mem_cons.1 hq' with rfl | hq1'
        · exact absurd rfl hne
        · rw [ho] at hoq; cases hoq
          exact .inl (hds q' hq1' oq' hoq')
      · rcases List.mem_cons.1 hq' with rfl | hq1'
        · rw [ho] at hoq'; cases hoq'
          exact .inl (fun e => hds q hq1 oq hoq e.symm)
        · exact r.dis q hq1 q' hq1' hne oq oq' hoq hoq'

end
end Go.Proofs.Ytafemlljemhkhaa.Sx
