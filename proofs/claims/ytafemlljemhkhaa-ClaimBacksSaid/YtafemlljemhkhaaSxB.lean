/-
  THE SYMBOLIC EXECUTOR, part B: symbolic heaps and worlds.
-/
import Derived.Test.YtafemlljemhkhaaSxA
namespace Go.Proofs.Ytafemlljemhkhaa.Sx
open Go
set_option linter.unusedSectionVars false
set_option linter.unusedVariables false
set_option linter.unusedSimpArgs false
variable [Env]

/-- Objects that the executor does not look into (but for the cells that they show). -/
class AbsK (A : Type) where
  ok : A → RV → (Nat → Prop) → World → Prop
  size : ∀ {a r F w}, ok a r F w → ∀ x, F x → x < w.heap.size
  frame : ∀ {a r F w w'}, ok a r F w → w.heap.size ≤ w'.heap.size → (∀ x, F x → w'.heap[x]? = w.heap[x]?) → ok a r F w'
  self : ∀ {a b F w}, ok a (.blk b) F w → F b
  cell : A → Nat → Option SC
  cell_ok : ∀ {a r F w off c}, ok a r F w → cell a off = some c → ∃ b v, r = .blk b ∧ w.cell? ⟨b, off, none⟩ = some v ∧ ∀ ρ, c.is ρ v

/-- What a column of a table holds. -/
inductive Col where
  | int (k : IntKind)
  | bool
def Col.value : Col → Int → Value
  | .int k, x => .int k x
  | .bool, x => .bool (x != 0)

inductive SO (A : Type) where
  | cells (elem : Nat) (l : List SC) (tail : Nat)
  | row (k : IntKind) (elem : Nat) (l : IE)
  | abs (a : A)
  | tab (cols : List Col) (o n : IE) (id : Nat)

/-- May it be written? (What came in is only read; two such rows may lie in one block.) -/
def SO.wr {A : Type} : SO A → Bool
  | .tab _ _ _ _ => false
  | _ => true

section
variable {A : Type} [AbsK A]

def SO.ok (ρ : Rho) (r : RV) (F : Nat → Prop) (w : World) : SO A → Prop
  | .cells e l t => ∃ b vs, r = .blk b ∧ w.heap[b]? = some (.cells vs e (0, 0)) ∧ (∃ us rest, vs.toList = us ++ rest ∧ rest.length = t ∧ All2 (SC.is ρ) l us) ∧ ∀ x, F x ↔ x = b
  | .row k e l => (l.lst = [] ∧ r = .val .nilFunc ∧ ∀ x, ¬ F x) ∨ ∃ b rest, r = .blk b ∧ w.heap[b]? = some (.cells (l.lst.map (Value.int k) ++ rest).toArray e (0, 0)) ∧ ∀ x, F x ↔ x = b
  | .abs a => AbsK.ok a r F w
  | .tab cols o n id => (n.val.toNat = 0 ∧ r = .val .nilFunc ∧ ∀ x, ¬ F x) ∨ ∃ b, r = .blk b ∧ b < w.heap.size ∧ (∀ x, F x ↔ x = b) ∧ ∀ i, i < n.val.toNat → ∀ j c, cols[j]? = some c → w.cell? ⟨b, o.val.toNat + i * cols.length + j, none⟩ = some (c.value (Env.t id i j))

abbrev Heap (A : Type) := List (Nat × SO A)

def look : Heap A → Nat → Option (SO A)
  | [], _ => none
  | (m, o) :: h, n => bif m == n then some o else look h n
def put : Heap A → Nat → SO A → Heap A
  | [], n, o => [(n, o)]
  | (m, p) :: h, n, o => bif m == n then (n, o) :: h else (m, p) :: put h n o
omit [AbsK A] in
theorem look_put_same : ∀ (h : Heap A) (n : Nat) (o : SO A), look (put h n o) n = some o
  | [], n, o => by simp [put, look]
  | (m, p) :: h, n, o => by
    by_cases e : m = n
    · simp [put, look, e]
    · have : (m == n) = false := by simpa using e
      simp only [put, this, cond_false, look]; exact look_put_same h n o
omit [AbsK A] in
theorem look_put_ne : ∀ (h : Heap A) (n m : Nat) (o : SO A), m ≠ n → look (put h n o) m = look h m
  | [], n, m, o, hne => by have : (n == m) = false := by simpa using Ne.symm hne
                           simp [put, look, this]
  | (q, p) :: h, n, m, o, hne => by
    by_cases e : q = n
    · subst e
      have : (q == m) = false := by simpa using Ne.symm hne
      simp [put, look, this]
    · have : (q == n) = false := by simpa using e
      simp only [put, this, cond_false, look]
      rw [look_put_ne h n m o hne]

/-- The names of what may be written; the others stand for what came in. -/
def Hi (n : Nat) : Prop := 100 ≤ n ∧ n % 2 = 0
def nmOf (base i : Nat) : Nat := 2 * (base + i)

structure HeapOk (ρ : Rho) (F : Nat → Nat → Prop) (h : Heap A) (w : World) : Prop where
  dom : ∀ n, (look h n).isSome = (ρ n).isSome
  obj : ∀ n o r, look h n = some o → ρ n = some r → o.ok ρ r (F n) w
  disj : ∀ n m x, n ≠ m → (ρ n).isSome → (ρ m).isSome → (Hi n ∨ Hi m) → F n x → ¬ F m x
  low : ∀ n o, look h n = some o → o.wr = true → Hi n
  size : ∀ n x, (ρ n).isSome → F n x → x < w.heap.size

/-- What a run may have done to a world, of which the names ρ and their blocks F are known: it wrote into these blocks, or new ones. -/
structure Goes (prot : Nat → Nat → Prop) (ρ : Rho) (F : Nat → Nat → Prop) (w : World) (ρ' : Rho) (F' : Nat → Nat → Prop) (w' : World) : Prop where
  ext : Rho.Ext ρ ρ'
  os : w'.os = w.os
  tape : w'.tape = w.tape
  output : w'.output = w.output
  size : w.heap.size ≤ w'.heap.size
  keep : ∀ x, x < w.heap.size → (∀ n, Hi n → (ρ n).isSome → ¬ F n x) → w'.heap[x]? = w.heap[x]?
  foot : ∀ n x, (ρ' n).isSome → F' n x → w.heap.size ≤ x ∨ ∃ m, (ρ m).isSome ∧ F m x ∧ (Hi n → Hi m)
  old : ∀ n, ¬ Hi n → (ρ n).isSome → F' n = F n
  prot : ∀ m k, prot m k → ∀ b, ρ m = some (.blk b) → w'.cell? ⟨b, k, none⟩ = w.cell? ⟨b, k, none⟩

theorem Goes.refl (prot : Nat → Nat → Prop) (ρ : Rho) (F : Nat → Nat → Prop) (w : World) : Goes prot ρ F w ρ F w :=
  ⟨Rho.Ext.refl ρ, rfl, rfl, rfl, Nat.le_refl _, fun _ _ _ => rfl, fun n _ h hf => .inr ⟨n, h, hf, id⟩, fun _ _ _ => rfl, fun _ _ _ _ _ => rfl⟩
theorem Goes.trans {prot : Nat → Nat → Prop} {ρ ρ' ρ'' : Rho} {F F' F'' : Nat → Nat → Prop} {w w' w'' : World}
    (h : Goes prot ρ F w ρ' F' w') (k : Goes prot ρ' F' w' ρ'' F'' w'') : Goes prot ρ F w ρ'' F'' w'' where
  ext := h.ext.trans k.ext
  os := k.os.trans h.os
  tape := k.tape.trans h.tape
  output := k.output.trans h.output
  size := Nat.le_trans h.size k.size
  keep := fun x hx hn => (k.keep x (Nat.lt_of_lt_of_le hx h.size) fun n hh hs hf => by
      rcases h.foot n x hs hf with h1 | ⟨m, hm, hf, hmh⟩
      · omega
      · exact hn m (hmh hh) hm hf).trans (h.keep x hx hn)
  foot := fun n x hs hf => by
    rcases k.foot n x hs hf with h1 | ⟨m, hm, hf, hmh⟩
    · exact .inl (Nat.le_trans h.size h1)
    · rcases h.foot m x hm hf with h1 | ⟨q, hq, hf, hqh⟩
      · exact .inl h1
      · exact .inr ⟨q, hq, hf, fun hh => hqh (hmh hh)⟩
  old := fun n hn hs => (k.old n hn (by
    obtain ⟨r, hr⟩ := Option.isSome_iff_exists.1 hs
    rw [h.ext n r hr]; rfl)).trans (h.old n hn hs)
  prot := fun m i hp b hb => (k.prot m i hp b (h.ext _ _ hb)).trans (h.prot m i hp b hb)
theorem Goes.sub {prot prot' : Nat → Nat → Prop} {ρ ρ' : Rho} {F F' : Nat → Nat → Prop} {w w' : World}
    (h : Goes prot ρ F w ρ' F' w') (hs : ∀ m k, prot' m k → prot m k) : Goes prot' ρ F w ρ' F' w' :=
  ⟨h.ext, h.os, h.tape, h.output, h.size, h.keep, h.foot, h.old, fun m k hp => h.prot m k (hs m k hp)⟩

/-! ### one world's step -/
theorem heap_setCell (w : World) (a : Addr) (u : Value) (k : Nat) (h : k ≠ a.block) : (w.setCell a u).heap[k]? = w.heap[k]? := by
  simp only [World.setCell, Array.getElem?_modify]
  rw [if_neg (fun e => h e.symm)]
theorem heap_setCell_at {w : World} {b : Nat} {vs : Array Value} {e : Nat} (h : w.heap[b]? = some (.cells vs e (0, 0))) (i : Nat) (u : Value) :
    (w.setCell ⟨b, i, none⟩ u).heap[b]? = some (.cells (vs.setIfInBounds i u) e (0, 0)) := by
  simp only [World.setCell, Array.getElem?_modify, if_true, h, Option.map_some]
  simp
theorem size_setCell (w : World) (a : Addr) (u : Value) : (w.setCell a u).heap.size = w.heap.size := by simp [World.setCell]
theorem cell_of_block {w : World} {b : Nat} {vs : Array Value} {e : Nat} {f : Nat × Nat} (h : w.heap[b]? = some (.cells vs e f)) (i : Nat) :
    w.cell? ⟨b, i, none⟩ = vs[i]? := by simp [World.cell?, h]
theorem frozen_of_block {w : World} {b : Nat} {vs : Array Value} {e : Nat} (h : w.heap[b]? = some (.cells vs e (0, 0))) (i : Nat) :
    w.frozen? ⟨b, i, none⟩ = false := by simp [World.frozen?, h]
theorem cell_congr {w w' : World} {b : Nat} (h : w'.heap[b]? = w.heap[b]?) (i : Nat) : w'.cell? ⟨b, i, none⟩ = w.cell? ⟨b, i, none⟩ := by
  simp [World.cell?, h]

theorem SO.ok_frame {ρ ρ' : Rho} (hρ : Rho.Ext ρ ρ') {r : RV} {F : Nat → Prop} {w w' : World} {o : SO A} (h : o.ok ρ r F w)
    (hs : w.heap.size ≤ w'.heap.size) (hw : ∀ x, F x → w'.heap[x]? = w.heap[x]?) : o.ok ρ' r F w' := by
  cases o with
  | cells e l t =>
    obtain ⟨b, vs, hr, hb, ⟨us, rest, h1, h2, hl⟩, hF⟩ := h
    exact ⟨b, vs, hr, (hw b ((hF b).2 rfl)).trans hb, ⟨us, rest, h1, h2, hl.mono (SC.is_mono hρ)⟩, hF⟩
  | row k e l =>
    rcases h with h | ⟨b, rest, hr, hb, hF⟩
    · exact .inl h
    exact .inr ⟨b, rest, hr, (hw b ((hF b).2 rfl)).trans hb, hF⟩
  | abs a => exact AbsK.frame h hs hw
  | tab cols o n id =>
    rcases h with h | ⟨b, hr, hb, hF, hc⟩
    · exact .inl h
    exact .inr ⟨b, hr, Nat.lt_of_lt_of_le hb hs, hF, fun i hi j c hj => (cell_congr (hw b ((hF b).2 rfl)) _).trans (hc i hi j c hj)⟩

theorem SO.ok_self {ρ : Rho} {b : Nat} {F : Nat → Prop} {w : World} {o : SO A} (h : o.ok ρ (.blk b) F w) : F b := by
  cases o with
  | cells e l t => obtain ⟨b2, vs2, hr2, _, _, hF2⟩ := h; cases hr2; exact (hF2 _).2 rfl
  | row k e l =>
    rcases h with ⟨_, h, _⟩ | ⟨b2, rest, hr2, _, hF2⟩
    · cases h
    · cases hr2; exact (hF2 _).2 rfl
  | abs a => exact AbsK.self h
  | tab cols o n id =>
    rcases h with ⟨_, h, _⟩ | ⟨b2, hr2, _, hF2, _⟩
    · cases h
    · cases hr2; exact (hF2 _).2 rfl
theorem SO.ok_size {ρ : Rho} {r : RV} {F : Nat → Prop} {w : World} {o : SO A} (h : o.ok ρ r F w) : ∀ x, F x → x < w.heap.size := by
  have key : ∀ (b : Nat) (o : Obj), w.heap[b]? = some o → b < w.heap.size := fun b o hb => (Array.getElem?_eq_some_iff.1 hb).1
  intro x hx
  cases o with
  | cells e l t => obtain ⟨b2, vs2, _, hb, _, hF2⟩ := h; rw [(hF2 x).1 hx]; exact key _ _ hb
  | row k e l =>
    rcases h with ⟨_, _, h⟩ | ⟨b2, rest, _, hb, hF2⟩
    · exact (h x hx).elim
    · rw [(hF2 x).1 hx]; exact key _ _ hb
  | abs a => exact AbsK.size h x hx
  | tab cols o n id =>
    rcases h with ⟨_, _, h⟩ | ⟨b2, _, hb, hF2, _⟩
    · exact (h x hx).elim
    · rw [(hF2 x).1 hx]; exact hb
theorem HeapOk.look_some {ρ : Rho} {F : Nat → Nat → Prop} {h : Heap A} {w : World} (H : HeapOk ρ F h w) {n : Nat} {r : RV} (hr : ρ n = some r) : ∃ o, look h n = some o := by
  have := H.dom n; rw [hr] at this
  exact Option.isSome_iff_exists.1 (by simpa using this)
theorem HeapOk.rho_some {ρ : Rho} {F : Nat → Nat → Prop} {h : Heap A} {w : World} (H : HeapOk ρ F h w) {n : Nat} {o : SO A} (ho : look h n = some o) : ∃ r, ρ n = some r := by
  have := H.dom n; rw [ho] at this
  exact Option.isSome_iff_exists.1 (by simpa using this.symm)
theorem HeapOk.self {ρ : Rho} {F : Nat → Nat → Prop} {h : Heap A} {w : World} (H : HeapOk ρ F h w) {n b : Nat} (hb : ρ n = some (.blk b)) : F n b := by
  obtain ⟨o, ho⟩ := H.look_some hb
  exact SO.ok_self (H.obj n o _ ho hb)

/-- A cell is stored. -/
theorem HeapOk.store {prot : Nat → Nat → Prop} {ρ : Rho} {F : Nat → Nat → Prop} {h : Heap A} {w : World} (H : HeapOk ρ F h w) {n e t : Nat} {l : List SC}
    (hn : look h n = some (.cells e l t)) {b i : Nat} (hb : ρ n = some (.blk b)) (hi : i < l.length) {c : SC} {v : Value} (hc : c.is ρ v)
    (hp : ¬ prot n i) :
    (∃ u, w.cell? ⟨b, i, none⟩ = some u) ∧ w.frozen? ⟨b, i, none⟩ = false ∧
    HeapOk ρ F (put h n (.cells e (l.set i c) t)) (w.setCell ⟨b, i, none⟩ v) ∧ Goes prot ρ F w ρ F (w.setCell ⟨b, i, none⟩ v) := by
  obtain ⟨b', vs, hr, hblk, ⟨us, rest, hvs, hrest, hl⟩, hF⟩ := H.obj n _ _ hn hb
  obtain rfl : b = b' := by simpa using hr
  have hni : Hi n := H.low n _ hn rfl
  have hlen := hl.length
  refine ⟨?_, frozen_of_block hblk i, ⟨?_, ?_, H.disj, fun m o hm hw => (by
      by_cases e : m = n
      · exact e ▸ hni
      · rw [look_put_ne _ _ _ _ e] at hm; exact H.low m o hm hw), ?_⟩, ⟨Rho.Ext.refl ρ, rfl, rfl, rfl, ?_, ?_, ?_, fun _ _ _ => rfl, ?_⟩⟩
  · have : i < vs.size := by rw [Array.size_eq_length_toList, hvs, List.length_append, ← hlen]; omega
    exact ⟨vs[i], by rw [cell_of_block hblk]; exact Array.getElem?_eq_getElem this⟩
  · intro m
    by_cases e : m = n
    · subst e; rw [look_put_same, hb]; rfl
    · rw [look_put_ne _ _ _ _ e]; exact H.dom m
  · intro m o r hm hr'
    by_cases e : m = n
    · subst e
      rw [look_put_same] at hm
      obtain rfl := Option.some.inj hm
      obtain rfl : RV.blk b = r := by rw [hb] at hr'; exact Option.some.inj hr'
      exact ⟨b, _, rfl, heap_setCell_at hblk i v, ⟨us.set i v, rest, by rw [Array.toList_setIfInBounds, hvs, List.set_append, if_pos (by omega)], hrest, hl.set i c v hc⟩, hF⟩
    · rw [look_put_ne _ _ _ _ e] at hm
      refine SO.ok_frame (Rho.Ext.refl ρ) (H.obj m o r hm hr') (by rw [size_setCell]; exact Nat.le_refl _) fun x hx => ?_
      refine heap_setCell _ _ _ _ fun hxb => ?_
      have hxb' : x = b := hxb
      exact H.disj m n x e (by simp [hr']) (by simp [hb]) (.inr hni) hx ((hF x).2 hxb')
  · intro m x hm hx; rw [size_setCell]; exact H.size m x hm hx
  · rw [size_setCell]; exact Nat.le_refl _
  · intro x _ hx
    refine heap_setCell _ _ _ _ fun hxb => ?_
    have hxb' : x = b := hxb
    exact hx n hni (by simp [hb]) ((hF x).2 hxb')
  · intro m x hm hx; exact .inr ⟨m, hm, hx, id⟩
  · intro q j hpm b' hb'
    by_cases hbb : b' = b
    · subst hbb
      have hpn : q = n := by
        apply Classical.byContradiction; intro hne
        exact H.disj q n b' hne (by simp [hb']) (by simp [hb]) (.inr hni) (H.self hb') ((hF b').2 rfl)
      have hpi : j ≠ i := fun he => hp (hpn ▸ he ▸ hpm)
      rw [cell_of_block (heap_setCell_at hblk i v), cell_of_block hblk]
      exact Array.getElem?_setIfInBounds_ne (Ne.symm hpi)
    · exact cell_congr (heap_setCell _ _ _ _ hbb) _

/-- A cell of a row is stored. -/
theorem HeapOk.storeRow {prot : Nat → Nat → Prop} {ρ : Rho} {F : Nat → Nat → Prop} {h : Heap A} {w : World} (H : HeapOk ρ F h w) {n e : Nat} {k : IntKind} {l l' : IE}
    (hn : look h n = some (.row k e l)) {b i : Nat} (hb : ρ n = some (.blk b)) (hi : i < l.lst.length) {x : Int} (hl' : l'.lst = l.lst.set i x)
    (hp : ∀ k, ¬ prot n k) :
    (∃ u, w.cell? ⟨b, i, none⟩ = some u) ∧ w.frozen? ⟨b, i, none⟩ = false ∧
    HeapOk ρ F (put h n (.row k e l')) (w.setCell ⟨b, i, none⟩ (.int k x)) ∧ Goes prot ρ F w ρ F (w.setCell ⟨b, i, none⟩ (.int k x)) := by
  obtain ⟨b', rest, hr, hblk, hF⟩ := (H.obj n _ _ hn hb).resolve_left (fun h => by cases h.2.1)
  obtain rfl : b = b' := by simpa using hr
  have hni : Hi n := H.low n _ hn rfl
  refine ⟨?_, frozen_of_block hblk i, ⟨?_, ?_, H.disj, fun m o hm hw => (by
      by_cases e : m = n
      · exact e ▸ hni
      · rw [look_put_ne _ _ _ _ e] at hm; exact H.low m o hm hw), ?_⟩, ⟨Rho.Ext.refl ρ, rfl, rfl, rfl, ?_, ?_, ?_, fun _ _ _ => rfl, ?_⟩⟩
  · exact ⟨.int k l.lst[i], by rw [cell_of_block hblk]; rw [List.getElem?_toArray, List.getElem?_append_left (by simpa using hi)]; simp [hi]⟩
  · intro m
    by_cases e : m = n
    · subst e; rw [look_put_same, hb]; rfl
    · rw [look_put_ne _ _ _ _ e]; exact H.dom m
  · intro m o r hm hr'
    by_cases e : m = n
    · subst e
      rw [look_put_same] at hm
      obtain rfl := Option.some.inj hm
      obtain rfl : RV.blk b = r := by rw [hb] at hr'; exact Option.some.inj hr'
      exact .inr ⟨b, rest, rfl, by rw [heap_setCell_at hblk i, hl']; simp [List.map_set, hi], hF⟩
    · rw [look_put_ne _ _ _ _ e] at hm
      refine SO.ok_frame (Rho.Ext.refl ρ) (H.obj m o r hm hr') (by rw [size_setCell]; exact Nat.le_refl _) fun x hx => ?_
      refine heap_setCell _ _ _ _ fun hxb => ?_
      have hxb' : x = b := hxb
      exact H.disj m n x e (by simp [hr']) (by simp [hb]) (.inr hni) hx ((hF x).2 hxb')
  · intro m x hm hx; rw [size_setCell]; exact H.size m x hm hx
  · rw [size_setCell]; exact Nat.le_refl _
  · intro x _ hx
    refine heap_setCell _ _ _ _ fun hxb => ?_
    have hxb' : x = b := hxb
    exact hx n hni (by simp [hb]) ((hF x).2 hxb')
  · intro m x hm hx; exact .inr ⟨m, hm, hx, id⟩
  · intro q j hpm b' hb'
    refine cell_congr (heap_setCell _ _ _ _ fun hbb => ?_) _
    have hbb' : b' = b := hbb
    exact H.disj q n b' (fun e => hp j (e ▸ hpm)) (by simp [hb']) (by simp [hb]) (.inr hni) (H.self hb') ((hF b').2 hbb')

/-- A function, changed at one place. -/
def upd {α : Type} (f : Nat → α) (n : Nat) (a : α) : Nat → α := fun m => if m = n then a else f m
theorem upd_same {α : Type} (f : Nat → α) (n : Nat) (a : α) : upd f n a n = a := by simp [upd]
theorem upd_ne {α : Type} (f : Nat → α) (n m : Nat) (a : α) (h : m ≠ n) : upd f n a m = f m := by simp [upd, h]

/-- A new block. -/
theorem HeapOk.alloc {prot : Nat → Nat → Prop} {ρ : Rho} {F : Nat → Nat → Prop} {h : Heap A} {w : World} (H : HeapOk ρ F h w) {n : Nat}
    (hn : look h n = none) (hni : Hi n) {o : SO A} {obj : Obj}
    (ho : (∃ e l t vs, o = .cells e l t ∧ obj = .cells vs e (0, 0) ∧ ∃ us rest, vs.toList = us ++ rest ∧ rest.length = t ∧ All2 (SC.is ρ) l us) ∨ (∃ k e l rest, o = .row k e l ∧ obj = .cells (l.lst.map (Value.int k) ++ rest).toArray e (0, 0))) :
    HeapOk (upd ρ n (some (.blk w.heap.size))) (upd F n (fun x => x = w.heap.size)) ((n, o) :: h) { w with heap := w.heap.push obj } ∧
    Goes prot ρ F w (upd ρ n (some (.blk w.heap.size))) (upd F n (fun x => x = w.heap.size)) { w with heap := w.heap.push obj } := by
  have hρn : ρ n = none := by
    have := H.dom n; rw [hn] at this
    cases hr : ρ n with
    | none => rfl
    | some r => rw [hr] at this; simp at this
  have hext : Rho.Ext ρ (upd ρ n (some (.blk w.heap.size))) := fun m r hm => by
    rw [upd_ne _ _ _ _ (fun e => by subst e; rw [hρn] at hm; cases hm)]; exact hm
  have hold : ∀ x, x < w.heap.size → (w.heap.push obj)[x]? = w.heap[x]? := fun x hx => by
    rw [Array.getElem?_push, if_neg (by omega)]
  have hnew : (w.heap.push obj)[w.heap.size]? = some obj := by simp
  have hbound : ∀ m, (upd ρ n (some (.blk w.heap.size)) m).isSome → m ≠ n → (ρ m).isSome := fun m hm e => by rwa [upd_ne _ _ _ _ e] at hm
  refine ⟨⟨?_, ?_, ?_, ?_, ?_⟩, ⟨hext, rfl, rfl, rfl, ?_, ?_, ?_, ?_, ?_⟩⟩
  · intro m
    by_cases e : m = n
    · subst e; rw [upd_same]; simp [look]
    · have : (n == m) = false := by simpa using Ne.symm e
      rw [upd_ne _ _ _ _ e]; simp only [look, this, cond_false]; exact H.dom m
  · intro m o' r hm hr
    by_cases e : m = n
    · subst e
      rw [upd_same] at hr ⊢
      have hm' : o = o' := by simpa [look] using hm
      obtain rfl := Option.some.inj hr
      subst hm'
      rcases ho with ⟨e, l, t, vs, rfl, rfl, us, rest, h1, h2, hl⟩ | ⟨k, e, l, rest, rfl, rfl⟩
      · exact ⟨_, vs, rfl, hnew, ⟨us, rest, h1, h2, hl.mono (SC.is_mono hext)⟩, fun x => Iff.rfl⟩
      · exact .inr ⟨_, rest, rfl, hnew, fun x => Iff.rfl⟩
    · have hne : (n == m) = false := by simpa using Ne.symm e
      rw [upd_ne _ _ _ _ e] at hr ⊢
      simp only [look, hne, cond_false] at hm
      refine SO.ok_frame hext (H.obj m o' r hm hr) (by simp) fun x hx => ?_
      exact hold x (H.size m x (by simp [hr]) hx)
  · intro m m' x hne hm hm' hwr hx hx'
    by_cases e : m = n
    · subst e
      rw [upd_same] at hx
      rw [upd_ne _ _ _ _ (Ne.symm hne)] at hx'
      have := H.size m' x (hbound m' hm' (Ne.symm hne)) hx'
      omega
    · rw [upd_ne _ _ _ _ e] at hx
      have h1 := hbound m hm e
      by_cases e' : m' = n
      · subst e'
        rw [upd_same] at hx'
        have := H.size m x h1 hx
        omega
      · rw [upd_ne _ _ _ _ e'] at hx'
        exact H.disj m m' x hne h1 (hbound m' hm' e') hwr hx hx'
  · intro m o' hm hw
    by_cases e : m = n
    · exact e ▸ hni
    · have hne : (n == m) = false := by simpa using Ne.symm e
      simp only [look, hne, cond_false] at hm
      exact H.low m o' hm hw
  · intro m x hm hx
    show x < (w.heap.push obj).size
    rw [Array.size_push]
    by_cases e : m = n
    · subst e; rw [upd_same] at hx; omega
    · rw [upd_ne _ _ _ _ e] at hx
      have := H.size m x (hbound m hm e) hx
      omega
  · simp
  · intro x hx _; exact hold x hx
  · intro m x hm hx
    by_cases e : m = n
    · subst e; rw [upd_same] at hx; exact .inl (by omega)
    · rw [upd_ne _ _ _ _ e] at hx; exact .inr ⟨m, hbound m hm e, hx, id⟩
  · intro m hm _
    have e : m ≠ n := fun e => hm (e ▸ hni)
    exact upd_ne _ _ _ _ e
  · intro q j _ b hb
    exact cell_congr (hold b (H.size q b (by simp [hb]) (H.self hb))) _

/-- A cell behind the known ones is stored: it is known then. -/
theorem HeapOk.storeTail {prot : Nat → Nat → Prop} {ρ : Rho} {F : Nat → Nat → Prop} {h : Heap A} {w : World} (H : HeapOk ρ F h w) {n e t : Nat} {l : List SC}
    (hn : look h n = some (.cells e l (t + 1))) {b : Nat} (hb : ρ n = some (.blk b)) {c : SC} {v : Value} (hc : c.is ρ v)
    (hp : ¬ prot n l.length) :
    (∃ u, w.cell? ⟨b, l.length, none⟩ = some u) ∧ w.frozen? ⟨b, l.length, none⟩ = false ∧
    HeapOk ρ F (put h n (.cells e (l ++ [c]) t)) (w.setCell ⟨b, l.length, none⟩ v) ∧ Goes prot ρ F w ρ F (w.setCell ⟨b, l.length, none⟩ v) := by
  obtain ⟨b', vs, hr, hblk, ⟨us, rest, hvs, hrest, hl⟩, hF⟩ := H.obj n _ _ hn hb
  obtain rfl : b = b' := by simpa using hr
  have hni : Hi n := H.low n _ hn rfl
  have hlen := hl.length
  obtain ⟨r0, rest', rfl⟩ : ∃ r0 rest', rest = r0 :: rest' := by
    cases rest with
    | nil => simp at hrest
    | cons r0 rest' => exact ⟨r0, rest', rfl⟩
  refine ⟨?_, frozen_of_block hblk _, ⟨?_, ?_, H.disj, fun m o hm hw => (by
      by_cases e : m = n
      · exact e ▸ hni
      · rw [look_put_ne _ _ _ _ e] at hm; exact H.low m o hm hw), ?_⟩, ⟨Rho.Ext.refl ρ, rfl, rfl, rfl, ?_, ?_, ?_, fun _ _ _ => rfl, ?_⟩⟩
  · refine ⟨r0, ?_⟩
    rw [cell_of_block hblk, ← Array.getElem?_toList, hvs, hlen, List.getElem?_append_right (Nat.le_refl _)]
    simp
  · intro m
    by_cases e : m = n
    · subst e; rw [look_put_same, hb]; rfl
    · rw [look_put_ne _ _ _ _ e]; exact H.dom m
  · intro m o r hm hr'
    by_cases e : m = n
    · subst e
      rw [look_put_same] at hm
      obtain rfl := Option.some.inj hm
      obtain rfl : RV.blk b = r := by rw [hb] at hr'; exact Option.some.inj hr'
      refine ⟨b, _, rfl, heap_setCell_at hblk l.length v, ⟨us ++ [v], rest', ?_, by simpa using hrest, hl.append ⟨hc, trivial⟩⟩, hF⟩
      rw [Array.toList_setIfInBounds, hvs, hlen, List.set_append_right _ _ (Nat.le_refl _)]
      simp
    · rw [look_put_ne _ _ _ _ e] at hm
      refine SO.ok_frame (Rho.Ext.refl ρ) (H.obj m o r hm hr') (by rw [size_setCell]; exact Nat.le_refl _) fun x hx => ?_
      refine heap_setCell _ _ _ _ fun hxb => ?_
      have hxb' : x = b := hxb
      exact H.disj m n x e (by simp [hr']) (by simp [hb]) (.inr hni) hx ((hF x).2 hxb')
  · intro m x hm hx; rw [size_setCell]; exact H.size m x hm hx
  · rw [size_setCell]; exact Nat.le_refl _
  · intro x _ hx
    refine heap_setCell _ _ _ _ fun hxb => ?_
    have hxb' : x = b := hxb
    exact hx n hni (by simp [hb]) ((hF x).2 hxb')
  · intro m x hm hx; exact .inr ⟨m, hm, hx, id⟩
  · intro q j hpm b' hb'
    by_cases hbb : b' = b
    · subst hbb
      have hpn : q = n := by
        apply Classical.byContradiction; intro hne
        exact H.disj q n b' hne (by simp [hb']) (by simp [hb]) (.inr hni) (H.self hb') ((hF b').2 rfl)
      have hpi : j ≠ l.length := fun he => hp (hpn ▸ he ▸ hpm)
      rw [cell_of_block (heap_setCell_at hblk l.length v), cell_of_block hblk]
      exact Array.getElem?_setIfInBounds_ne (Ne.symm hpi)
    · exact cell_congr (heap_setCell _ _ _ _ hbb) _

/-- A draw turns nothing. -/
theorem HeapOk.drawn {ρ : Rho} {F : Nat → Nat → Prop} {h : Heap A} {w : World} (H : HeapOk ρ F h w) (d : Nat) : HeapOk ρ F h { w with drawn := d } :=
  ⟨H.dom, fun n o r hn hr => SO.ok_frame (w := w) (Rho.Ext.refl ρ) (H.obj n o r hn hr) (Nat.le_refl _) fun _ _ => rfl, H.disj, H.low, H.size⟩
omit [AbsK A] in
theorem Goes.drawn (prot : Nat → Nat → Prop) (ρ : Rho) (F : Nat → Nat → Prop) (w : World) (d : Nat) : Goes prot ρ F w ρ F { w with drawn := d } :=
  ⟨Rho.Ext.refl ρ, rfl, rfl, rfl, Nat.le_refl _, fun _ _ _ => rfl, fun n _ h hf => .inr ⟨n, h, hf, id⟩, fun _ _ _ => rfl, fun _ _ _ _ _ => rfl⟩

end
end Go.Proofs.Ytafemlljemhkhaa.Sx
