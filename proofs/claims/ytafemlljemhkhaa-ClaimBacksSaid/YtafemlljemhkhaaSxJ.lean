/-
  THE SYMBOLIC EXECUTOR, part J: loads and stores.
-/
import Derived.Test.YtafemlljemhkhaaSxI
namespace Go.Proofs.Ytafemlljemhkhaa.Sx
open Go
set_option linter.unusedSectionVars false
set_option linter.unusedVariables false
set_option linter.unusedSimpArgs false
variable [Env]

/-- Cells that may not be written: of a name, one cell, or all. -/
abbrev Prot := List (Nat × Option Nat)
def Prot.has (p : Prot) (n k : Nat) : Bool := p.any fun q => q.1 == n && (match q.2 with | none => true | some j => j == k)
def Prot.names (p : Prot) (n : Nat) : Bool := p.any fun q => q.1 == n
def Prot.pr (p : Prot) (n k : Nat) : Prop := p.has n k = true
theorem Prot.not_of_names {p : Prot} {n : Nat} (h : p.names n = false) (k : Nat) : ¬ p.pr n k := by
  intro hk
  simp only [Prot.pr, Prot.has, List.any_eq_true, Bool.and_eq_true] at hk
  obtain ⟨q, hq, h1, _⟩ := hk
  have : p.names n = true := List.any_eq_true.2 ⟨q, hq, h1⟩
  rw [this] at h; cases h
def Prot.whole (p : Prot) (n : Nat) : Bool := p.any fun q => q.1 == n && (match q.2 with | none => true | some _ => false)
theorem Prot.of_whole {p : Prot} {n : Nat} (h : p.whole n = true) (k : Nat) : p.pr n k := by
  simp only [Prot.whole, List.any_eq_true, Bool.and_eq_true] at h
  obtain ⟨q, hq, h1, h2⟩ := h
  refine List.any_eq_true.2 ⟨q, hq, ?_⟩
  simp only [h1, Bool.true_and]
  split at h2 <;> simp_all

section
variable {A : Type} [AbsK A]

/-- What stands in a cell of an object. -/
def cellAt (o : SO A) (off : IE) (i : Nat) : Option SC :=
  match o, off with
  | .cells _ l _, .lit j => l[j.toNat + i]?
  | .row k _ l, off => some (.b (.int k (mkGet l off i)))
  | .abs a, .lit j => AbsK.cell a (j.toNat + i)
  | .tab cols o nn id, .at_ base ix sz j => if sz = cols.length then
      (cols[j + i]?).map fun c => match c with
        | .int k => .b (.int k (.tab id ix (j + i)))
        | .bool => .b (.bool (.cmp .neq (.tab id ix (j + i)) (.lit 0)))
    else none
  | _, _ => none
def rowOk (o : SO A) (off : IE) (sz : Nat) : BE :=
  match o with
  | .row _ _ l => rowB off sz l
  | .tab cols o n _ => match off with
    | .at_ base ix _ _ => .and (.cmp .eql (.nat base) (.nat o)) (.cmp .lss (.nat ix) (.nat n))
    | _ => .lit true
  | _ => .lit true
theorem cellAt_ok {ρ : Rho} {b : Nat} {F : Nat → Prop} {w : World} {o : SO A} (ho : o.ok ρ (.blk b) F w) {off : IE} {i sz : Nat} {c : SC} (h : cellAt o off i = some c)
    (hr : (rowOk o off sz).val = true) (hi : i < sz) : ∃ v, w.cell? ⟨b, off.val.toNat + i, none⟩ = some v ∧ c.is ρ v := by
  unfold cellAt at h
  split at h
  · rename_i e l t j
    obtain ⟨b', vs, hb, hblk, ⟨us, rest, hvs, hrest, hl⟩, _⟩ := ho
    cases hb
    obtain ⟨v, hv, hc⟩ := hl.get _ _ h
    refine ⟨v, ?_, hc⟩
    have hlt : j.toNat + i < us.length := (List.getElem?_eq_some_iff.1 hv).1
    rw [cell_of_block hblk, ← Array.getElem?_toList, hvs]
    simp only [IE.val]
    rw [List.getElem?_append_left hlt]
    exact hv
  · rename_i off' k e l
    rcases ho with ⟨_, ho, _⟩ | ⟨b', rest, hb, hblk, _⟩
    · cases ho
    cases hb
    cases h
    have hr' := rowB_val hr
    have hlt : off.val.toNat + i < l.lst.length := by omega
    refine ⟨.int k (l.lst.getD (off.val.toNat + i) 0), ?_, by show _ = _; rw [mkGet_val _ _ _ hlt]⟩
    rw [cell_of_block hblk, List.getElem?_toArray, List.getElem?_append_left (by simpa using hlt)]
    simp [List.getD_eq_getElem?_getD, hlt]
  · rename_i a j
    obtain ⟨b', v, hb, hc, his⟩ := AbsK.cell_ok ho h
    cases hb
    exact ⟨v, by simpa [IE.val] using hc, his ρ⟩
  · rename_i cols o n id base ix sz' j
    split at h
    · rename_i he
      rcases ho with ⟨_, ho, _⟩ | ⟨b', hb, _, _, hc⟩
      · cases ho
      cases hb
      obtain ⟨c0, hc0, rfl⟩ := Option.map_eq_some_iff.1 h
      simp only [rowOk, BE.val, Bool.and_eq_true] at hr
      have hlt : ix.val.toNat < n.val.toNat := by
        have := of_decide_eq_true hr.2
        simp only [IE.val] at this
        omega
      have hbo : base.val.toNat = o.val.toNat := by
        have := hr.1
        simp only [cmpVal, IE.val, beq_iff_eq] at this
        omega
      have := hc ix.val.toNat hlt (j + i) c0 hc0
      refine ⟨_, (by
        simp only [IE.val]
        rw [he, hbo]
        rw [show (((o.val.toNat + ix.val.toNat * cols.length + j : Nat) : Int).toNat + i) = o.val.toNat + ix.val.toNat * cols.length + (j + i) by rw [Int.toNat_natCast]; omega]
        exact this), ?_⟩
      cases c0
      · show _ = _; simp only [Col.value, IE.val]
      · show _ = _; simp only [Col.value, BE.val, IE.val, cmpVal]
    · cases h
  · cases h
def cellsAt (o : SO A) (off : IE) : Nat → Nat → Option (List SC)
  | _, 0 => some []
  | i, n + 1 => match cellAt o off i, cellsAt o off (i + 1) n with
    | some c, some cs => some (c :: cs)
    | _, _ => none
theorem cellsAt_ok {ρ : Rho} {b : Nat} {F : Nat → Prop} {w : World} {o : SO A} (ho : o.ok ρ (.blk b) F w) {off : IE} {sz : Nat} (hr : (rowOk o off sz).val = true) :
    ∀ (n i : Nat) {cs : List SC}, cellsAt o off i n = some cs → i + n ≤ sz → ∃ vs : List Value, vs.length = n ∧ All2 (SC.is ρ) cs vs ∧ ∀ j u, vs[j]? = some u → w.cell? ⟨b, off.val.toNat + (i + j), none⟩ = some u
  | 0, i, cs, h, _ => by cases h; exact ⟨[], rfl, trivial, fun j u hu => by simp at hu⟩
  | n + 1, i, cs, h, hle => by
    simp only [cellsAt] at h
    split at h
    · rename_i c cs' h1 h2
      cases h
      obtain ⟨v, hv, hc⟩ := cellAt_ok ho h1 hr (by omega)
      obtain ⟨vs, hl, hcs, hvs⟩ := cellsAt_ok ho hr n (i + 1) h2 (by omega)
      refine ⟨v :: vs, by simp [hl], ⟨hc, hcs⟩, fun j u hu => ?_⟩
      cases j with
      | zero => simp at hu; subst hu; exact hv
      | succ j => simp at hu; have := hvs j u hu; rw [show i + (j + 1) = i + 1 + j by omega]; exact this
    · cases h
theorem run_loadCellsFrom {P : Program} {w : World} {b o : Nat} : ∀ (vs : List Value) (i : Nat) (acc : Array Value), (∀ j u, vs[j]? = some u → w.cell? ⟨b, o + (i + j), none⟩ = some u) →
    (loadCellsFrom ⟨b, o, none⟩ i vs.length acc).run P w = .ok (acc ++ vs.toArray) w
  | [], i, acc, _ => by simp [loadCellsFrom]
  | v :: vs, i, acc, h => by
    have h0 := h 0 v (by simp)
    simp only [List.length_cons, loadCellsFrom, Sem.run_bind, run_load, addr_add, Nat.add_zero] at h0 ⊢
    rw [h0]
    simp only [Result.andThen_ok]
    rw [run_loadCellsFrom vs (i + 1) (acc.push v) fun j u hu => by
      have := h (j + 1) u (by simpa using hu)
      rw [show i + 1 + j = i + (j + 1) by omega]; exact this]
    simp
theorem run_loadVar {P : Program} {w : World} {b o : Nat} {t : TypeId} {v : Value} (h : aggT P t = some false) (hv : w.cell? ⟨b, o, none⟩ = some v) : (loadVar t ⟨b, o, none⟩).run P w = .ok v w := by
  simp [loadVar, gives_isAgg h w, hv]
theorem run_loadAgg {P : Program} {w : World} {b o : Nat} {t : TypeId} {vs : List Value} (h : aggT P t = some true) (hs : sizeT P t = some vs.length)
    (hv : ∀ j u, vs[j]? = some u → w.cell? ⟨b, o + j, none⟩ = some u) : (loadVar t ⟨b, o, none⟩).run P w = .ok (.agg vs.toArray) w := by
  have := run_loadCellsFrom (P := P) (w := w) (b := b) (o := o) vs 0 #[] (fun j u hu => by rw [Nat.zero_add]; exact hv j u hu)
  simp [loadVar, gives_isAgg h w, gives_sizeOf hs w, loadCells, this]

def loadS (P : Program) (t : TypeId) (x : SV) (h : Heap A) : Tree SV :=
  match x with
  | .w (.one (.b (.ptr n off))) =>
    match look h n, aggT P t, sizeT P t with
    | some o, some false, _ => match cellAt o off 0 with
      | some c => mkBr (rowOk o off 1) (.leaf (.w (.one c))) (.fail 80)
      | none => .fail 81
    | some o, some true, some sz => match cellsAt o off 0 sz with
      | some cs => mkBr (rowOk o off sz) (.leaf (.w (.agg cs))) (.fail 80)
      | none => .fail 82
    | _, _, _ => .fail 83
  | _ => .fail 84
/-- Does a list of protected cells hold all that is loaded? -/
def covered (P : Program) (t : TypeId) (x : SV) (R : Prot) : Bool :=
  match x with
  | .w (.one (.b (.ptr n off))) =>
    R.whole n || (match off, sizeT P t with
      | .lit j, some sz => (List.range sz).all fun i => R.has n (j.toNat + i)
      | _, _ => false)
  | _ => false
theorem covered_spec {P : Program} {t : TypeId} {n : Nat} {off : IE} {R : Prot} (h : covered P t (.w (.one (.b (.ptr n off)))) R = true) {sz : Nat} (hs : sizeT P t = some sz) (i : Nat) (hi : i < sz) :
    R.pr n (off.val.toNat + i) := by
  simp only [covered, Bool.or_eq_true] at h
  rcases h with h | h
  · exact Prot.of_whole h _
  · rw [hs] at h
    split at h
    · rename_i j sz' h1
      cases h1
      exact List.all_eq_true.1 h i (List.mem_range.2 hi)
    · cases h
/-- A load gives the same in every world whose cells are the same. -/
theorem loadS_ok {P : Program} {t : TypeId} {x : SV} {h : Heap A} {ρ : Rho} {F : Nat → Nat → Prop} {w : World} (H : HeapOk ρ F h w) {v : Value} (hx : x.is ρ v) {K : SV → Prop} (hK : (loadS P t x h).holds K) :
    ∃ s u, K s ∧ s.is ρ u ∧ (Instr.loadAt t v).run P w = .ok u w ∧
      ∀ R, covered P t x R = true → (aggT P t = some false → sizeT P t = some 1) → ∀ w', (∀ n k, R.pr n k → ∀ b, ρ n = some (.blk b) → w'.cell? ⟨b, k, none⟩ = w.cell? ⟨b, k, none⟩) → (Instr.loadAt t v).run P w' = .ok u w' := by
  unfold loadS at hK
  split at hK
  · rename_i n off
    obtain ⟨b, hb, rfl⟩ := hx
    split at hK
    · rename_i o hlook ha
      split at hK
      · rename_i c hc
        obtain ⟨h1, h2⟩ := mkBr_holds hK
        cases hr : (rowOk o off 1).val with
        | false => exact (h2 hr).elim
        | true =>
          obtain ⟨u, hu, hcu⟩ := cellAt_ok (H.obj n o _ hlook hb) hc hr (by omega)
          rw [Nat.add_zero] at hu
          refine ⟨_, u, h1 hr, hcu, ?_, fun R hR hsz w' hw' => ?_⟩
          · simp only [Instr.loadAt, Instr.sureAddr, Sem.run_bind, Sem.run_pure, Result.andThen_ok]
            exact run_loadVar ha hu
          · simp only [Instr.loadAt, Instr.sureAddr, Sem.run_bind, Sem.run_pure, Result.andThen_ok]
            refine run_loadVar ha ?_
            have := covered_spec hR (hsz ha) 0 (by omega)
            rw [Nat.add_zero] at this
            rw [hw' n _ this b hb]; exact hu
      · exact hK.elim
    · rename_i o sz hlook ha hsz
      split at hK
      · rename_i cs hc
        obtain ⟨h1, h2⟩ := mkBr_holds hK
        cases hr : (rowOk o off sz).val with
        | false => exact (h2 hr).elim
        | true =>
          obtain ⟨vs, hl, hcs, hvs⟩ := cellsAt_ok (H.obj n o _ hlook hb) hr sz 0 hc (by omega)
          refine ⟨_, .agg vs.toArray, h1 hr, ⟨_, rfl, by simpa using hcs⟩, ?_, fun R hR _ w' hw' => ?_⟩
          · simp only [Instr.loadAt, Instr.sureAddr, Sem.run_bind, Sem.run_pure, Result.andThen_ok]
            exact run_loadAgg ha (by rw [hl]; exact hsz) fun j u hu => by have := hvs j u hu; rwa [Nat.zero_add] at this
          · simp only [Instr.loadAt, Instr.sureAddr, Sem.run_bind, Sem.run_pure, Result.andThen_ok]
            refine run_loadAgg ha (by rw [hl]; exact hsz) fun j u hu => ?_
            have hj : j < sz := by
              rw [← hl]
              rcases Nat.lt_or_ge j vs.length with h1 | h1
              · exact h1
              · rw [List.getElem?_eq_none h1] at hu; cases hu
            have hcov := covered_spec hR hsz j hj
            rw [hw' n _ hcov b hb]
            have := hvs j u hu; rwa [Nat.zero_add] at this
      · exact hK.elim
    · exact hK.elim
  · exact hK.elim

/-! ### stores -/
def noProt (prot : Prot) (n : Nat) : Nat → Nat → Bool
  | _, 0 => true
  | k, m + 1 => !prot.has n k && noProt prot n (k + 1) m
def rowVals (k : IntKind) : List SC → Option IE
  | [] => some .nilL
  | .b (.int k' e) :: l => match rowVals k l with
    | some xs => if k = k' then some (.consL e xs) else none
    | none => none
  | _ => none
def storeS (P : Program) (prot : Prot) (t : TypeId) (x y : SV) (h : Heap A) : Tree (Heap A) :=
  match x, asCs y, sizeT P t with
  | .w (.one (.b (.ptr n off))), some cs, some sz =>
    if cs.length = sz then
      match look h n, off with
      | some (.cells e l t), .lit j =>
        if j.toNat + sz ≤ l.length then
          if noProt prot n j.toNat sz then .leaf (put h n (.cells e (writeL l j.toNat cs) t)) else .fail 90
        else .fail 91
      | some (.row k e l), off =>
        match rowVals k cs with
        | some xs => if prot.names n then .fail 90 else
          mkBr (rowB off sz l) (.leaf (put h n (.row k e (mkPutL l off xs)))) (.fail 92)
        | none => .fail 93
      | _, _ => .fail 94
    else .fail 95
  | _, _, _ => .fail 96

omit [AbsK A] in
theorem put_put (h : Heap A) (n : Nat) (o o' : SO A) : put (put h n o) n o' = put h n o' := by
  induction h with
  | nil => simp [put]
  | cons p h ih =>
    obtain ⟨m, q⟩ := p
    by_cases e : m = n
    · simp [put, e]
    · have : (m == n) = false := by simpa using e
      simp only [put, this, cond_false]
      rw [ih]
omit [AbsK A] in
theorem put_same : ∀ (h : Heap A) (n : Nat) (o : SO A), look h n = some o → put h n o = h
  | [], _, _, hl => by simp [look] at hl
  | (m, q) :: h, n, o, hl => by
    by_cases e : m = n
    · subst e; simp [look] at hl; subst hl; simp [put]
    · have : (m == n) = false := by simpa using e
      simp only [look, this, cond_false] at hl
      simp only [put, this, cond_false, put_same h n o hl]
theorem store_cells {P : Program} {prot : Prot} {ρ : Rho} {F : Nat → Nat → Prop} {n e t b : Nat} (hb : ρ n = some (.blk b)) (o : Nat) :
    ∀ (cs : List SC) (vs : List Value) (i : Nat) (h : Heap A) (w : World) (l : List SC), HeapOk ρ F h w → look h n = some (.cells e l t) → All2 (SC.is ρ) cs vs →
      o + i + cs.length ≤ l.length → noProt prot n (o + i) cs.length = true →
      ∃ w', (storeCells ⟨b, o, none⟩ vs i).run P w = .ok () w' ∧ HeapOk ρ F (put h n (.cells e (writeL l (o + i) cs) t)) w' ∧ Goes prot.pr ρ F w ρ F w'
  | [], [], i, h, w, l, H, hl, _, _, _ => ⟨w, rfl, by simp only [writeL]; rw [put_same _ _ _ hl]; exact H, Goes.refl _ _ _ _⟩
  | c :: cs, v :: vs, i, h, w, l, H, hl, hc, hle, hp => by
    simp only [List.length_cons] at hle
    simp only [List.length_cons, noProt, Bool.and_eq_true, Bool.not_eq_true'] at hp
    obtain ⟨⟨u, hu⟩, hf, H1, G1⟩ := H.store (prot := prot.pr) hl hb (i := o + i) (by omega) hc.1 (by simp [Prot.pr, hp.1])
    obtain ⟨w', hr, H2, G2⟩ := store_cells (P := P) (prot := prot) hb o cs vs (i + 1) _ _ (l.set (o + i) c) H1 (look_put_same _ _ _) hc.2 (by simp; omega) (by rw [← Nat.add_assoc]; exact hp.2)
    refine ⟨w', ?_, ?_, G1.trans G2⟩
    · have ho : v.oneCell' = true := by
        have := SC.is_one hc.1
        cases v <;> simp_all [One, Value.oneCell']
      simp only [storeCells, Sem.run_bind, addr_add, run_store P w _ v .plain ho, hu, hf]
      simpa using hr
    · rw [put_put] at H2; simp only [writeL]; rw [Nat.add_assoc]; exact H2
  | [], _ :: _, _, _, _, _, _, _, hc, _, _ => hc.elim
  | _ :: _, [], _, _, _, _, _, _, hc, _, _ => hc.elim
theorem HeapOk.sameRow {ρ : Rho} {F : Nat → Nat → Prop} {h : Heap A} {w : World} (H : HeapOk ρ F h w) {n e : Nat} {k : IntKind} {l l' : IE} (hn : look h n = some (.row k e l)) (hl : l'.lst = l.lst) : HeapOk ρ F (put h n (.row k e l')) w := by
  refine ⟨fun m => ?_, fun m o r hm hr => ?_, H.disj, fun m o hm hw => ?_, H.size⟩
  · by_cases em : m = n
    · subst em; rw [look_put_same, ← H.dom m, hn]; rfl
    · rw [look_put_ne _ _ _ _ em]; exact H.dom m
  · by_cases em : m = n
    · subst em; rw [look_put_same] at hm; cases hm
      have := H.obj m _ r hn hr
      simp only [SO.ok] at this ⊢
      rw [hl]; exact this
    · rw [look_put_ne _ _ _ _ em] at hm; exact H.obj m o r hm hr
  · by_cases em : m = n
    · subst em; exact H.low m _ hn rfl
    · rw [look_put_ne _ _ _ _ em] at hm; exact H.low m o hm hw
theorem store_row {P : Program} {prot : Prot} {ρ : Rho} {F : Nat → Nat → Prop} {n e b : Nat} {k : IntKind} (hb : ρ n = some (.blk b)) (o : Nat) (hp : prot.names n = false) :
    ∀ (xs : List Int) (vs : List Value) (i : Nat) (h : Heap A) (w : World) (l : IE), HeapOk ρ F h w → look h n = some (.row k e l) → vs = xs.map (Value.int k) →
      o + i + xs.length ≤ l.lst.length →
      ∀ l' : IE, l'.lst = writeL l.lst (o + i) xs → ∃ w', (storeCells ⟨b, o, none⟩ vs i).run P w = .ok () w' ∧ HeapOk ρ F (put h n (.row k e l')) w' ∧ Goes prot.pr ρ F w ρ F w'
  | [], _, i, h, w, l, H, hl, hv, _, l', hl' => by subst hv; exact ⟨w, rfl, H.sameRow hl hl', Goes.refl _ _ _ _⟩
  | x :: xs, _, i, h, w, l, H, hl, hv, hle, l', hl' => by
    subst hv
    simp only [List.length_cons] at hle
    have hput : (IE.putL l (.lit (o + i : Nat)) (.consL (.lit x) .nilL)).lst = l.lst.set (o + i) x := by
      simp only [IE.lst, IE.val, writeL]; rw [Int.toNat_natCast]
    obtain ⟨⟨u, hu⟩, hf, H1, G1⟩ := H.storeRow (prot := prot.pr) hl hb (i := o + i) (x := x) (by omega) hput (Prot.not_of_names hp)
    obtain ⟨w', hr, H2, G2⟩ := store_row (P := P) (prot := prot) hb o hp xs _ (i + 1) _ _ _ H1 (look_put_same _ _ _) rfl (by rw [hput]; simp; omega) l' (by rw [hput, hl']; simp only [writeL]; rw [Nat.add_assoc])
    refine ⟨w', ?_, ?_, G1.trans G2⟩
    · simp only [List.map_cons, storeCells, Sem.run_bind, addr_add, run_store P w _ (Value.int k x) .plain rfl, hu, hf]
      simpa using hr
    · rw [put_put] at H2; exact H2
theorem rowVals_is {ρ : Rho} {k : IntKind} : ∀ {cs : List SC} {xs : IE} {vs : List Value}, rowVals k cs = some xs → All2 (SC.is ρ) cs vs → vs = xs.lst.map (Value.int k)
  | [], xs, [], h, _ => by cases h; simp [IE.lst]
  | c :: cs, xs, v :: vs, h, hc => by
    unfold rowVals at h
    split at h
    · rename_i h0; cases h0
    · rename_i k' e l heq
      cases heq
      split at h
      · rename_i xs' h1
        split at h
        · rename_i hk; subst hk
          cases h
          rw [show (IE.consL e xs').lst = e.val :: xs'.lst by simp [IE.lst], List.map_cons, ← rowVals_is h1 hc.2]
          rw [show v = .int k e.val from hc.1]
        · cases h
      · cases h
    · cases h
  | [], _, _ :: _, _, h => h.elim
  | _ :: _, _, [], _, h => h.elim

theorem storeS_ok {P : Program} {prot : Prot} {t : TypeId} {x y : SV} {h : Heap A} {ρ : Rho} {F : Nat → Nat → Prop} {w : World} (H : HeapOk ρ F h w) {u v : Value} (hx : x.is ρ u) (hy : y.is ρ v)
    {K : Heap A → Prop} (hK : (storeS P prot t x y h).holds K) : ∃ h' w', K h' ∧ (Instr.storeAt t u v).run P w = .ok () w' ∧ HeapOk ρ F h' w' ∧ Goes prot.pr ρ F w ρ F w' := by
  unfold storeS at hK
  split at hK
  · rename_i n off cs sz hcs hsz
    obtain ⟨b, hb, rfl⟩ := hx
    have hc := asCs_is hcs hy
    split at hK
    · rename_i hlen
      have hvl : v.cells.size = sz := by have h3 := hc.length; simp only [Array.length_toList] at h3; omega
      have hrun : ∀ w', (storeCells ⟨b, off.val.toNat, none⟩ v.cells.toList 0).run P w = .ok () w' → (Instr.storeAt t (.pointer (some ⟨b, off.val.toNat, none⟩)) v).run P w = .ok () w' := by
        intro w' hr
        simp [Instr.storeAt, Instr.sureAddr, storeVar, gives_sizeOf hsz w, hvl, hr]
      split at hK
      · rename_i e l t0 j hlook
        split at hK
        · rename_i hle
          split at hK
          · rename_i hp
            obtain ⟨w', hr, H', G⟩ := store_cells (P := P) (prot := prot) hb j.toNat cs v.cells.toList 0 h w l H hlook hc (by omega) (by rw [hlen, Nat.add_zero]; exact hp)
            exact ⟨_, w', hK, hrun w' hr, H', G⟩
          · exact hK.elim
        · exact hK.elim
      · rename_i off o1 o2 k e l hlook
        split at hK
        · rename_i xs hxs
          split at hK
          · exact hK.elim
          · rename_i hp
            obtain ⟨h1, h2⟩ := mkBr_holds hK
            have hlx : xs.lst.length = sz := by have := rowVals_is hxs hc; have h3 := congrArg List.length this; simp at h3; omega
            cases hb1 : (rowB off sz l).val with
            | true =>
              have hbd := rowB_val hb1
              obtain ⟨w', hr, H', G⟩ := store_row (P := P) (prot := prot) hb off.val.toNat (by simpa using hp) xs.lst v.cells.toList 0 h w l H hlook (rowVals_is hxs hc) (by omega) (mkPutL l off xs) (by rw [mkPutL_lst, Nat.add_zero])
              exact ⟨_, w', h1 hb1, hrun w' hr, H', G⟩
            | false => exact (h2 hb1).elim
        · exact hK.elim
      · exact hK.elim
    · exact hK.elim
  · exact hK.elim

end
end Go.Proofs.Ytafemlljemhkhaa.Sx
