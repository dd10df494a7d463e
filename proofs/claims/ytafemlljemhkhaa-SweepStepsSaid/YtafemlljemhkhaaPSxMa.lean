import Derived.OrdersHeld
import Derived.Test.YtafemlljemhkhaaPSxMk
import Derived.Laws.Sem
import Derived.Laws.World
import Derived.Laws.StructEq
namespace Go.Proofs.Ytafemlljemhkhaa.Sx
open Go
set_option linter.unusedSectionVars false
set_option linter.unusedVariables false
set_option linter.unusedSimpArgs false
variable [Env]
section
variable {A : Type} [AbsK A]
def SO.ok (ρ : Rho) (r : RV) (F : Nat → Prop) (w : World) : SO A → Prop
  | .cells e l t => ∃ b vs,r = .blk b ∧ w.heap[b]? = some (.cells vs e (0,0)) ∧ (∃ us rest,vs.toList = us ++ rest ∧ rest.length = t ∧ All2 (SC.is ρ) l us) ∧ ∀ x,F x ↔ x = b
  | .row k e l => (l.lst = [] ∧ r = .val .nilFunc ∧ ∀ x, ¬ F x) ∨ ∃ b rest,r = .blk b ∧ w.heap[b]? = some (.cells (l.lst.map (Value.int k) ++ rest).toArray e (0,0)) ∧ ∀ x,F x ↔ x = b
  | .abs a => AbsK.ok a r F w
  | .tab cols o n id => (n.val.toNat = 0 ∧ r = .val .nilFunc ∧ ∀ x, ¬ F x) ∨ ∃ b,r = .blk b ∧ b < w.heap.size ∧ (∀ x,F x ↔ x = b) ∧ ∀ i,i < n.val.toNat → ∀ j c,cols[j]? = some c → w.cell? ⟨b,o.val.toNat + i * cols.length + j,none⟩ = some (c.value (Env.t id i j))
  | .mach k l => MachOk k l.lst r F w
abbrev Heap (A : Type) := List (Nat × SO A)
def look : Heap A → Nat → Option (SO A)
  | [],_ => none
  | (m,o) :: h,n => bif m == n then some o else look h n
def put : Heap A → Nat → SO A → Heap A
  | [],n,o => [(n,o)]
  | (m,p) :: h,n,o => bif m == n then (n,o) :: h else (m,p) :: put h n o
omit [AbsK A] in
theorem look_put_same : ∀ (h : Heap A) (n : Nat) (o : SO A), look (put h n o) n = some o
  | [],n,o => by simp [put,look]
  | (m, p) :: h, n, o => by
    by_cases e : m = n
    · simp [put,look,e]
    · have : (m == n) = false := by simpa using e
      simp only [put,this,cond_false,look]; exact look_put_same h n o
omit [AbsK A] in
theorem look_put_ne : ∀ (h : Heap A) (n m : Nat) (o : SO A), m ≠ n → look (put h n o) m = look h m
  | [], n, m, o, hne => by have : (n == m) = false := by simpa using Ne.symm hne
                           simp [put,look,this]
  | (q, p) :: h, n, m, o, hne => by
    by_cases e : q = n
    · subst e
      have : (q == m) = false := by simpa using Ne.symm hne
      simp [put,look,this]
    · have : (q == n) = false := by simpa using e
      simp only [put,this,cond_false,look]
      rw [look_put_ne h n m o hne]
def Hi (n : Nat) : Prop := 100 ≤ n ∧ n % 2 = 0
def nmOf (base i : Nat) : Nat := 2 * (base + i)
structure HeapOk (ρ : Rho) (F : Nat → Nat → Prop) (h : Heap A) (w : World) : Prop where
  dom : ∀ n,(look h n).isSome = (ρ n).isSome
  obj : ∀ n o r,look h n = some o → ρ n = some r → o.ok ρ r (F n) w
  disj : ∀ n m x,n ≠ m → (ρ n).isSome → (ρ m).isSome → (Hi n ∨ Hi m) → F n x → ¬ F m x
  low : ∀ n o,look h n = some o → o.wr = true → Hi n
  size : ∀ n x,(ρ n).isSome → F n x → x < w.heap.size
structure Goes (prot : Nat → Nat → Prop) (ρ : Rho) (F : Nat → Nat → Prop) (w : World) (ρ' : Rho) (F' : Nat → Nat → Prop) (w' : World) : Prop where
  ext : Rho.Ext ρ ρ'
  os : w'.os = w.os
  tape : w'.tape = w.tape
  output : w'.output = w.output
  size : w.heap.size ≤ w'.heap.size
  keep : ∀ x,x < w.heap.size → (∀ n,Hi n → (ρ n).isSome → ¬ F n x) → w'.heap[x]? = w.heap[x]?
  foot : ∀ n x,(ρ' n).isSome → F' n x → w.heap.size ≤ x ∨ ∃ m,(ρ m).isSome ∧ F m x ∧ (Hi n → Hi m)
  old : ∀ n, ¬ Hi n → (ρ n).isSome → F' n = F n
  prot : ∀ m k,prot m k → ∀ b, ρ m = some (.blk b) → w'.cell? ⟨b,k,none⟩ = w.cell? ⟨b,k,none⟩
theorem Goes.refl (prot : Nat → Nat → Prop) (ρ : Rho) (F : Nat → Nat → Prop) (w : World) : Goes prot ρ F w ρ F w :=
  ⟨Rho.Ext.refl ρ,rfl,rfl,rfl,Nat.le_refl _,fun _ _ _ => rfl,fun n _ h hf => .inr ⟨n,h,hf,id⟩,fun _ _ _ => rfl,fun _ _ _ _ _ => rfl⟩
theorem Goes.trans {prot : Nat → Nat → Prop} {ρ ρ' ρ'' : Rho} {F F' F'' : Nat → Nat → Prop} {w w' w'' : World}
    (h : Goes prot ρ F w ρ' F' w') (k : Goes prot ρ' F' w' ρ'' F'' w'') : Goes prot ρ F w ρ'' F'' w'' where
  ext := h.ext.trans k.ext
  os := k.os.trans h.os
  tape := k.tape.trans h.tape
  output := k.output.trans h.output
  size := Nat.le_trans h.size k.size
  keep := fun x hx hn => (k.keep x (Nat.lt_of_lt_of_le hx h.size) fun n hh hs hf => by
      rcases h.foot n x hs hf with h1 | ⟨m,hm,hf,hmh⟩
      · omega
      · exact hn m (hmh hh) hm hf).trans (h.keep x hx hn)
  foot := fun n x hs hf => by
    rcases k.foot n x hs hf with h1 | ⟨m,hm,hf,hmh⟩
    · exact .inl (Nat.le_trans h.size h1)
    · rcases h.foot m x hm hf with h1 | ⟨q, hq, hf, hqh⟩
      · exact .inl h1
      · exact .inr ⟨q,hq,hf,fun hh => hqh (hmh hh)⟩
  old := fun n hn hs => (k.old n hn (by
    obtain ⟨r,hr⟩ := Option.isSome_iff_exists.1 hs
    rw [h.ext n r hr]; rfl)).trans (h.old n hn hs)
  prot := fun m i hp b hb => (k.prot m i hp b (h.ext _ _ hb)).trans (h.prot m i hp b hb)
theorem Goes.sub {prot prot' : Nat → Nat → Prop} {ρ ρ' : Rho} {F F' : Nat → Nat → Prop} {w w' : World}
    (h : Goes prot ρ F w ρ' F' w') (hs : ∀ m k,prot' m k → prot m k) : Goes prot' ρ F w ρ' F' w' :=
  ⟨h.ext,h.os,h.tape,h.output,h.size,h.keep,h.foot,h.old,fun m k hp => h.prot m k (hs m k hp)⟩
theorem heap_setCell (w : World) (a : Addr) (u : Value) (k : Nat) (h : k ≠ a.block) : (w.setCell a u).heap[k]? = w.heap[k]? := by
  simp only [World.setCell,Array.getElem?_modify]
  rw [if_neg (fun e => h e.symm)]
theorem heap_setCell_at {w : World} {b : Nat} {vs : Array Value} {e : Nat} (h : w.heap[b]? = some (.cells vs e (0, 0))) (i : Nat) (u : Value) :
    (w.setCell ⟨b,i,none⟩ u).heap[b]? = some (.cells (vs.setIfInBounds i u) e (0,0)) := by
  simp only [World.setCell,Array.getElem?_modify,if_true,h,Option.map_some]
  simp
theorem size_setCell (w : World) (a : Addr) (u : Value) : (w.setCell a u).heap.size = w.heap.size := by simp [World.setCell]
theorem cell_of_block {w : World} {b : Nat} {vs : Array Value} {e : Nat} {f : Nat × Nat} (h : w.heap[b]? = some (.cells vs e f)) (i : Nat) :
    w.cell? ⟨b,i,none⟩ = vs[i]? := by simp [World.cell?,h]
theorem frozen_of_block {w : World} {b : Nat} {vs : Array Value} {e : Nat} (h : w.heap[b]? = some (.cells vs e (0, 0))) (i : Nat) :
    w.frozen? ⟨b,i,none⟩ = false := by simp [World.frozen?,h]
theorem cell_congr {w w' : World} {b : Nat} (h : w'.heap[b]? = w.heap[b]?) (i : Nat) : w'.cell? ⟨b, i, none⟩ = w.cell? ⟨b, i, none⟩ := by
  simp [World.cell?,h]
theorem SO.ok_frame {ρ ρ' : Rho} (hρ : Rho.Ext ρ ρ') {r : RV} {F : Nat → Prop} {w w' : World} {o : SO A} (h : o.ok ρ r F w)
    (hs : w.heap.size ≤ w'.heap.size) (hw : ∀ x,F x → w'.heap[x]? = w.heap[x]?) : o.ok ρ' r F w' := by
  cases o with
  | cells e l t =>
    obtain ⟨b,vs,hr,hb,⟨us,rest,h1,h2,hl⟩,hF⟩ := h
    exact ⟨b,vs,hr,(hw b ((hF b).2 rfl)).trans hb,⟨us,rest,h1,h2,hl.mono (SC.is_mono hρ)⟩,hF⟩
  | row k e l =>
    rcases h with h | ⟨b,rest,hr,hb,hF⟩
    · exact .inl h
    exact .inr ⟨b,rest,hr,(hw b ((hF b).2 rfl)).trans hb,hF⟩
  | abs a => exact AbsK.frame h hs hw
  | tab cols o n id =>
    rcases h with h | ⟨b,hr,hb,hF,hc⟩
    · exact .inl h
    exact .inr ⟨b,hr,Nat.lt_of_lt_of_le hb hs,hF,fun i hi j c hj => (cell_congr (hw b ((hF b).2 rfl)) _).trans (hc i hi j c hj)⟩
  | mach k l => exact MachOk.frame h hs hw
theorem SO.ok_self {ρ : Rho} {b : Nat} {F : Nat → Prop} {w : World} {o : SO A} (h : o.ok ρ (.blk b) F w) : F b := by
  cases o with
  | cells e l t => obtain ⟨b2,vs2,hr2,_,_,hF2⟩ := h; cases hr2; exact (hF2 _).2 rfl
  | row k e l =>
    rcases h with ⟨_,h,_⟩ | ⟨b2,rest,hr2,_,hF2⟩
    · cases h
    · cases hr2; exact (hF2 _).2 rfl
  | abs a => exact AbsK.self h
  | tab cols o n id =>
    rcases h with ⟨_,h,_⟩ | ⟨b2,hr2,_,hF2,_⟩
    · cases h
    · cases hr2; exact (hF2 _).2 rfl
  | mach k l => exact MachOk.self h
theorem HeapOk.look_some {ρ : Rho} {F : Nat → Nat → Prop} {h : Heap A} {w : World} (H : HeapOk ρ F h w) {n : Nat} {r : RV} (hr : ρ n = some r) : ∃ o, look h n = some o := by
  have := H.dom n; rw [hr] at this
  exact Option.isSome_iff_exists.1 (by simpa using this)
theorem HeapOk.rho_some {ρ : Rho} {F : Nat → Nat → Prop} {h : Heap A} {w : World} (H : HeapOk ρ F h w) {n : Nat} {o : SO A} (ho : look h n = some o) : ∃ r, ρ n = some r := by
  have := H.dom n; rw [ho] at this
  exact Option.isSome_iff_exists.1 (by simpa using this.symm)
theorem HeapOk.self {ρ : Rho} {F : Nat → Nat → Prop} {h : Heap A} {w : World} (H : HeapOk ρ F h w) {n b : Nat} (hb : ρ n = some (.blk b)) : F n b := by
  obtain ⟨o,ho⟩ := H.look_some hb
  exact SO.ok_self (H.obj n o _ ho hb)
theorem HeapOk.store {prot : Nat → Nat → Prop} {ρ : Rho} {F : Nat → Nat → Prop} {h : Heap A} {w : World} (H : HeapOk ρ F h w) {n e t : Nat} {l : List SC}
    (hn : look h n = some (.cells e l t)) {b i : Nat} (hb : ρ n = some (.blk b)) (hi : i < l.length) {c : SC} {v : Value} (hc : c.is ρ v)
    (hp : ¬ prot n i) :
    (∃ u,w.cell? ⟨b,i,none⟩ = some u) ∧ w.frozen? ⟨b,i,none⟩ = false ∧
    HeapOk ρ F (put h n (.cells e (l.set i c) t)) (w.setCell ⟨b,i,none⟩ v) ∧ Goes prot ρ F w ρ F (w.setCell ⟨b,i,none⟩ v) := by
  obtain ⟨b',vs,hr,hblk,⟨us,rest,hvs,hrest,hl⟩,hF⟩ := H.obj n _ _ hn hb
  obtain rfl : b = b' := by simpa using hr
  have hni : Hi n := H.low n _ hn rfl
  have hlen := hl.length
  refine ⟨?_, frozen_of_block hblk i, ⟨?_, ?_, H.disj, fun m o hm hw => (by
      by_cases e : m = n
      · exact e ▸ hni
      · rw [look_put_ne _ _ _ _ e] at hm; exact H.low m o hm hw), ?_⟩,⟨Rho.Ext.refl ρ,rfl,rfl,rfl, ?_, ?_, ?_,fun _ _ _ => rfl, ?_⟩⟩
  · have : i < vs.size := by rw [Array.size_eq_length_toList, hvs, List.length_append, ← hlen]; omega
    exact ⟨vs[i],by rw [cell_of_block hblk]; exact Array.getElem?_eq_getElem this⟩
  · intro m
    by_cases e : m = n
    · subst e; rw [look_put_same,hb]; rfl
    · rw [look_put_ne _ _ _ _ e]; exact H.dom m
  · intro m o r hm hr'
    by_cases e : m = n
    · subst e
      rw [look_put_same] at hm
      obtain rfl := Option.some.inj hm
      obtain rfl : RV.blk b = r := by rw [hb] at hr'; exact Option.some.inj hr'
      exact ⟨b,_,rfl,heap_setCell_at hblk i v,⟨us.set i v,rest,by rw [Array.toList_setIfInBounds,hvs,List.set_append,if_pos (by omega)],hrest,hl.set i c v hc⟩,hF⟩
    · rw [look_put_ne _ _ _ _ e] at hm
      refine SO.ok_frame (Rho.Ext.refl ρ) (H.obj m o r hm hr') (by rw [size_setCell]; exact Nat.le_refl _) fun x hx => ?_
      refine heap_setCell _ _ _ _ fun hxb => ?_
      have hxb' : x = b := hxb
      exact H.disj m n x e (by simp [hr']) (by simp [hb]) (.inr hni) hx ((hF x).2 hxb')
  · intro m x hm hx; rw [size_setCell]; exact H.size m x hm hx
  · rw [size_setCell]; exact Nat.le_refl _
  · intro x _ hx
    refine heap_setCell _ _ _ _ fun hxb => ?_
    have hxb' : x = b := hxb
    exact hx n hni (by simp [hb]) ((hF x).2 hxb')
  · intro m x hm hx; exact .inr ⟨m,hm,hx,id⟩
  · intro q j hpm b' hb'
    by_cases hbb : b' = b
    · subst hbb
      have hpn : q = n := by
        apply Classical.byContradiction; intro hne
        exact H.disj q n b' hne (by simp [hb']) (by simp [hb]) (.inr hni) (H.self hb') ((hF b').2 rfl)
      have hpi : j ≠ i := fun he => hp (hpn ▸ he ▸ hpm)
      rw [cell_of_block (heap_setCell_at hblk i v),cell_of_block hblk]
      exact Array.getElem?_setIfInBounds_ne (Ne.symm hpi)
    · exact cell_congr (heap_setCell _ _ _ _ hbb) _
theorem HeapOk.storeRow {prot : Nat → Nat → Prop} {ρ : Rho} {F : Nat → Nat → Prop} {h : Heap A} {w : World} (H : HeapOk ρ F h w) {n e : Nat} {k : IntKind} {l l' : IE}
    (hn : look h n = some (.row k e l)) {b i : Nat} (hb : ρ n = some (.blk b)) (hi : i < l.lst.length) {x : Int} (hl' : l'.lst = l.lst.set i x)
    (hp : ∀ k, ¬ prot n k) :
    (∃ u,w.cell? ⟨b,i,none⟩ = some u) ∧ w.frozen? ⟨b,i,none⟩ = false ∧
    HeapOk ρ F (put h n (.row k e l')) (w.setCell ⟨b,i,none⟩ (.int k x)) ∧ Goes prot ρ F w ρ F (w.setCell ⟨b,i,none⟩ (.int k x)) := by
  obtain ⟨b',rest,hr,hblk,hF⟩ := (H.obj n _ _ hn hb).resolve_left (fun h => by cases h.2.1)
  obtain rfl : b = b' := by simpa using hr
  have hni : Hi n := H.low n _ hn rfl
  refine ⟨?_, frozen_of_block hblk i, ⟨?_, ?_, H.disj, fun m o hm hw => (by
      by_cases e : m = n
      · exact e ▸ hni
      · rw [look_put_ne _ _ _ _ e] at hm; exact H.low m o hm hw), ?_⟩,⟨Rho.Ext.refl ρ,rfl,rfl,rfl, ?_, ?_, ?_,fun _ _ _ => rfl, ?_⟩⟩
  · exact ⟨.int k l.lst[i],by rw [cell_of_block hblk]; rw [List.getElem?_toArray,List.getElem?_append_left (by simpa using hi)]; simp [hi]⟩
  · intro m
    by_cases e : m = n
    · subst e; rw [look_put_same,hb]; rfl
    · rw [look_put_ne _ _ _ _ e]; exact H.dom m
  · intro m o r hm hr'
    by_cases e : m = n
    · subst e
      rw [look_put_same] at hm
      obtain rfl := Option.some.inj hm
      obtain rfl : RV.blk b = r := by rw [hb] at hr'; exact Option.some.inj hr'
      exact .inr ⟨b,rest,rfl,by rw [heap_setCell_at hblk i,hl']; simp [List.map_set,hi],hF⟩
    · rw [look_put_ne _ _ _ _ e] at hm
      refine SO.ok_frame (Rho.Ext.refl ρ) (H.obj m o r hm hr') (by rw [size_setCell]; exact Nat.le_refl _) fun x hx => ?_
      refine heap_setCell _ _ _ _ fun hxb => ?_
      have hxb' : x = b := hxb
      exact H.disj m n x e (by simp [hr']) (by simp [hb]) (.inr hni) hx ((hF x).2 hxb')
  · intro m x hm hx; rw [size_setCell]; exact H.size m x hm hx
  · rw [size_setCell]; exact Nat.le_refl _
  · intro x _ hx
    refine heap_setCell _ _ _ _ fun hxb => ?_
    have hxb' : x = b := hxb
    exact hx n hni (by simp [hb]) ((hF x).2 hxb')
  · intro m x hm hx; exact .inr ⟨m,hm,hx,id⟩
  · intro q j hpm b' hb'
    refine cell_congr (heap_setCell _ _ _ _ fun hbb => ?_) _
    have hbb' : b' = b := hbb
    exact H.disj q n b' (fun e => hp j (e ▸ hpm)) (by simp [hb']) (by simp [hb]) (.inr hni) (H.self hb') ((hF b').2 hbb')
def upd {α : Type} (f : Nat → α) (n : Nat) (a : α) : Nat → α := fun m => if m = n then a else f m
theorem upd_same {α : Type} (f : Nat → α) (n : Nat) (a : α) : upd f n a n = a := by simp [upd]
theorem upd_ne {α : Type} (f : Nat → α) (n m : Nat) (a : α) (h : m ≠ n) : upd f n a m = f m := by simp [upd,h]
theorem HeapOk.alloc {prot : Nat → Nat → Prop} {ρ : Rho} {F : Nat → Nat → Prop} {h : Heap A} {w : World} (H : HeapOk ρ F h w) {n : Nat}
    (hn : look h n = none) (hni : Hi n) {o : SO A} {obj : Obj}
    (ho : (∃ e l t vs,o = .cells e l t ∧ obj = .cells vs e (0,0) ∧ ∃ us rest,vs.toList = us ++ rest ∧ rest.length = t ∧ All2 (SC.is ρ) l us) ∨ (∃ k e l rest,o = .row k e l ∧ obj = .cells (l.lst.map (Value.int k) ++ rest).toArray e (0,0))) :
    HeapOk (upd ρ n (some (.blk w.heap.size))) (upd F n (fun x => x = w.heap.size)) ((n,o) :: h) { w with heap := w.heap.push obj } ∧
    Goes prot ρ F w (upd ρ n (some (.blk w.heap.size))) (upd F n (fun x => x = w.heap.size)) { w with heap := w.heap.push obj } := by
  have hρn : ρ n = none := by
    have := H.dom n; rw [hn] at this
    cases hr : ρ n with
    | none => rfl
    | some r => rw [hr] at this; simp at this
  have hext : Rho.Ext ρ (upd ρ n (some (.blk w.heap.size))) := fun m r hm => by
    rw [upd_ne _ _ _ _ (fun e => by subst e; rw [hρn] at hm; cases hm)]; exact hm
  have hold : ∀ x, x < w.heap.size → (w.heap.push obj)[x]? = w.heap[x]? := fun x hx => by
    rw [Array.getElem?_push,if_neg (by omega)]
  have hnew : (w.heap.push obj)[w.heap.size]? = some obj := by simp
  have hbound : ∀ m,(upd ρ n (some (.blk w.heap.size)) m).isSome → m ≠ n → (ρ m).isSome := fun m hm e => by rwa [upd_ne _ _ _ _ e] at hm
  refine ⟨⟨?_, ?_, ?_, ?_, ?_⟩,⟨hext,rfl,rfl,rfl, ?_, ?_, ?_, ?_, ?_⟩⟩
  · intro m
    by_cases e : m = n
    · subst e; rw [upd_same]; simp [look]
    · have : (n == m) = false := by simpa using Ne.symm e
      rw [upd_ne _ _ _ _ e]; simp only [look,this,cond_false]; exact H.dom m
  · intro m o' r hm hr
    by_cases e : m = n
    · subst e
      rw [upd_same] at hr ⊢
      have hm' : o = o' := by simpa [look] using hm
      obtain rfl := Option.some.inj hr
      subst hm'
      rcases ho with ⟨e,l,t,vs,rfl,rfl,us,rest,h1,h2,hl⟩ | ⟨k,e,l,rest,rfl,rfl⟩
      · exact ⟨_,vs,rfl,hnew,⟨us,rest,h1,h2,hl.mono (SC.is_mono hext)⟩,fun x => Iff.rfl⟩
      · exact .inr ⟨_,rest,rfl,hnew,fun x => Iff.rfl⟩
    · have hne : (n == m) = false := by simpa using Ne.symm e
      rw [upd_ne _ _ _ _ e] at hr ⊢
      simp only [look,hne,cond_false] at hm
      refine SO.ok_frame hext (H.obj m o' r hm hr) (by simp) fun x hx => ?_
      exact hold x (H.size m x (by simp [hr]) hx)
  · intro m m' x hne hm hm' hwr hx hx'
    by_cases e : m = n
    · subst e
      rw [upd_same] at hx
      rw [upd_ne _ _ _ _ (Ne.symm hne)] at hx'
      have := H.size m' x (hbound m' hm' (Ne.symm hne)) hx'
      omega
    · rw [upd_ne _ _ _ _ e] at hx
      have h1 := hbound m hm e
      by_cases e' : m' = n
      · subst e'
        rw [upd_same] at hx'
        have := H.size m x h1 hx
        omega
      · rw [upd_ne _ _ _ _ e'] at hx'
        exact H.disj m m' x hne h1 (hbound m' hm' e') hwr hx hx'
  · intro m o' hm hw
    by_cases e : m = n
    · exact e ▸ hni
    · have hne : (n == m) = false := by simpa using Ne.symm e
      simp only [look,hne,cond_false] at hm
      exact H.low m o' hm hw
  · intro m x hm hx
    show x < (w.heap.push obj).size
    rw [Array.size_push]
    by_cases e : m = n
    · subst e; rw [upd_same] at hx; omega
    · rw [upd_ne _ _ _ _ e] at hx
      have := H.size m x (hbound m hm e) hx
      omega
  · simp
  · intro x hx _; exact hold x hx
  · intro m x hm hx
    by_cases e : m = n
    · subst e; rw [upd_same] at hx; exact .inl (by omega)
    · rw [upd_ne _ _ _ _ e] at hx; exact .inr ⟨m,hbound m hm e,hx,id⟩
  · intro m hm _
    have e : m ≠ n := fun e => hm (e ▸ hni)
    exact upd_ne _ _ _ _ e
  · intro q j _ b hb
    exact cell_congr (hold b (H.size q b (by simp [hb]) (H.self hb))) _
theorem HeapOk.drawn {ρ : Rho} {F : Nat → Nat → Prop} {h : Heap A} {w : World} (H : HeapOk ρ F h w) (d : Nat) : HeapOk ρ F h { w with drawn := d } :=
  ⟨H.dom,fun n o r hn hr => SO.ok_frame (w := w) (Rho.Ext.refl ρ) (H.obj n o r hn hr) (Nat.le_refl _) fun _ _ => rfl,H.disj,H.low,H.size⟩
omit [AbsK A] in
theorem Goes.drawn (prot : Nat → Nat → Prop) (ρ : Rho) (F : Nat → Nat → Prop) (w : World) (d : Nat) : Goes prot ρ F w ρ F { w with drawn := d } :=
  ⟨Rho.Ext.refl ρ,rfl,rfl,rfl,Nat.le_refl _,fun _ _ _ => rfl,fun n _ h hf => .inr ⟨n,h,hf,id⟩,fun _ _ _ => rfl,fun _ _ _ _ _ => rfl⟩
end
end Go.Proofs.Ytafemlljemhkhaa.Sx
namespace Go.Proofs.Ytafemlljemhkhaa.Sx
open Go
set_option linter.unusedSectionVars false
set_option linter.unusedVariables false
set_option linter.unusedSimpArgs false
variable [Env]
inductive Tree (L : Type) where
  | leaf (l : L)
  | fail (why : Nat)
  | br (b : BE) (t f : Tree L)
  | req (p : BE) (t : Tree L)
def Tree.holds {L : Type} (Q : L → Prop) : Tree L → Prop
  | .leaf l => Q l
  | .fail _ => False
  | .br b t f => (b.val = true → t.holds Q) ∧ (b.val = false → f.holds Q)
  | .req p t => p.val = true ∧ t.holds Q
def Tree.bind {L M : Type} (g : L → Tree M) : Tree L → Tree M
  | .leaf l => g l
  | .fail n => .fail n
  | .br b t f => .br b (t.bind g) (f.bind g)
  | .req p t => .req p (t.bind g)
theorem Tree.holds_bind {L M : Type} (g : L → Tree M) (Q : M → Prop) (t : Tree L) : (t.bind g).holds Q ↔ t.holds fun l => (g l).holds Q := by
  induction t with
  | leaf l => exact Iff.rfl
  | fail n => exact Iff.rfl
  | br b t f iht ihf => simp only [Tree.bind,Tree.holds,iht,ihf]
  | req p t ih => simp only [Tree.bind,Tree.holds,ih]
theorem Tree.holds_mono {L : Type} {Q Q' : L → Prop} (h : ∀ l, Q l → Q' l) : ∀ {t : Tree L}, t.holds Q → t.holds Q'
  | .leaf _,ht => h _ ht
  | .fail _,ht => ht
  | .br _ _ _,ht => ⟨fun e => Tree.holds_mono h (ht.1 e),fun e => Tree.holds_mono h (ht.2 e)⟩
  | .req _ _,ht => ⟨ht.1,Tree.holds_mono h ht.2⟩
def mkBr {L : Type} (b : BE) (t f : Tree L) : Tree L :=
  match b with
  | .lit true => t
  | .lit false => f
  | b => .br b t f
theorem mkBr_holds {L : Type} {Q : L → Prop} {b : BE} {t f : Tree L} (h : (mkBr b t f).holds Q) : (b.val = true → t.holds Q) ∧ (b.val = false → f.holds Q) := by
  unfold mkBr at h
  split at h
  · exact ⟨fun _ => h,fun e => by simp [BE.val] at e⟩
  · exact ⟨fun e => by simp [BE.val] at e,fun _ => h⟩
  · exact h
def sizeT (P : Program) (t : TypeId) : Option Nat := (P.info? t).map (·.size)
def aggT (P : Program) (t : TypeId) : Option Bool :=
  match P.underlying t with
  | some (.struct _) => some true
  | some (.array _ _) => some true
  | some _ => some false
  | none => none
def fieldT (P : Program) (s : TypeId) (f : Nat) : Option (Nat × TypeId) :=
  match P.underlying s with
  | some (.struct fs) => (fs[f]?).map fun x => (x.offset,x.type)
  | _ => none
def litSC : Value → Option SC
  | .bool b => some (.b (.bool (.lit b)))
  | .int k n => some (.b (.int k (.lit n)))
  | .pointer none => some (.b .nilp)
  | .slice none 0 0 => some (.b .nils)
  | .nilFunc => some (.b .nilf)
  | _ => none
theorem litSC_is {ρ : Rho} {v : Value} {c : SC} (h : litSC v = some c) : c.is ρ v := by
  unfold litSC at h
  split at h <;> simp only [Option.some.injEq,reduceCtorEq] at h <;> subst h <;> simp [SC.is,SB.is,BE.val,IE.val]
def litSCs : List Value → Option (List SC)
  | [] => some []
  | v :: l => match litSC v, litSCs l with
    | some c,some cs => some (c :: cs)
    | _,_ => none
theorem litSCs_is {ρ : Rho} : ∀ {l : List Value} {cs : List SC}, litSCs l = some cs → All2 (SC.is ρ) cs l
  | [],cs,h => by simp [litSCs] at h; subst h; trivial
  | v :: l, cs, h => by
    simp only [litSCs] at h
    split at h
    · rename_i c cs' h1 h2
      cases h
      exact ⟨litSC_is h1,litSCs_is h2⟩
    · cases h
def litSV (v : Value) : SV :=
  match litSC v with
  | some c => .w (.one c)
  | none => match v with
    | .agg vs => match litSCs vs.toList with
      | some cs => .w (.agg cs)
      | none => .unk
    | _ => .unk
theorem litSV_is (ρ : Rho) (v : Value) : (litSV v).is ρ v := by
  unfold litSV
  split
  · rename_i c h; exact litSC_is h
  · split
    · split
      · rename_i vs _ _ cs h; exact ⟨vs,rfl,litSCs_is h⟩
      · trivial
    · trivial
def zeroT (P : Program) (t : TypeId) : Option (List SC) :=
  match P.info? t with
  | some i => match i.zero with
    | some v => litSCs v.cells.toList
    | none => none
  | none => none
def undefS : SV := .tup []
theorem undefS_is (ρ : Rho) : undefS.is ρ undef := ⟨#[],rfl,trivial⟩
structure TmpsOk (ρ : Rho) (but : List Nat) (l : List SV) (a : Act) : Prop where
  size : a.tmps.size = l.length
  at_ : ∀ i s,i ∉ but → l[i]? = some s → ∃ v,a.tmps[i]? = some v ∧ s.is ρ v
  defers : a.defers = []
def opnds (x : Operand) : List Nat := match x with | .tmp t => [t] | _ => []
def ev (l : List SV) : Operand → SV
  | .tmp t => l.getD t undefS
  | .const v => litSV v
  | .global _ => .unk
  | .func f => .w (.one (.fn (.func f) [] []))
theorem ev_is {ρ : Rho} {but : List Nat} {l : List SV} {a : Act} (h : TmpsOk ρ but l a) (x : Operand) (hx : ∀ t ∈ opnds x, t ∉ but) : (ev l x).is ρ (a.eval x) := by
  cases x with
  | tmp t =>
    simp only [ev,Act.eval]
    cases hl : l[t]? with
    | none =>
      have h1 : l.length ≤ t := List.getElem?_eq_none_iff.1 hl
      have h2 : a.tmps[t]? = none := Array.getElem?_eq_none (by rw [h.size]; exact h1)
      rw [List.getD_eq_getElem?_getD,hl]
      simp only [Array.getD_eq_getD_getElem?,h2,Option.getD_none]
      exact undefS_is ρ
    | some s =>
      obtain ⟨v,hv,hs⟩ := h.at_ t s (hx t (by simp [opnds])) hl
      rw [List.getD_eq_getElem?_getD,hl]
      simp only [Array.getD_eq_getD_getElem?,hv,Option.getD_some]
      exact hs
  | const v => exact litSV_is ρ v
  | global g => trivial
  | func f => exact ⟨#[], #[],rfl,trivial,trivial⟩
def setS (l : List SV) (dst : Option Tmp) (s : SV) : List SV :=
  match dst with
  | some d => l.set d s
  | none => l
theorem TmpsOk.put {ρ : Rho} {but : List Nat} {l : List SV} {a : Act} (h : TmpsOk ρ but l a) (dst : Option Tmp) {s : SV} {v : Value} (hs : s.is ρ v)
    (hd : ∀ d,dst = some d → d ∉ but) : TmpsOk ρ but (setS l dst s) (a.put dst v) := by
  cases dst with
  | none => exact h
  | some d =>
    refine ⟨by simp [Act.put,setS,h.size],fun i s' hi hl => ?_,h.defers⟩
    simp only [setS] at hl
    simp only [Act.put]
    by_cases e : d = i
    · subst e
      have hlt : d < l.length := by
        rcases Nat.lt_or_ge d l.length with h1 | h1
        · exact h1
        · rw [List.getElem?_eq_none (by simpa using h1)] at hl; cases hl
      rw [List.getElem?_set_self hlt] at hl
      cases hl
      exact ⟨v,by rw [Array.getElem?_setIfInBounds_self_of_lt (by rw [h.size]; exact hlt)],hs⟩
    · rw [List.getElem?_set_ne e] at hl
      obtain ⟨u,hu,hs'⟩ := h.at_ i s' hi hl
      exact ⟨u,by rw [Array.getElem?_setIfInBounds_ne e]; exact hu,hs'⟩
theorem TmpsOk.mono {ρ ρ' : Rho} (hρ : Rho.Ext ρ ρ') {but : List Nat} {l : List SV} {a : Act} (h : TmpsOk ρ but l a) : TmpsOk ρ' but l a :=
  ⟨h.size,fun i s hi hl => let ⟨v,hv,hs⟩ := h.at_ i s hi hl; ⟨v,hv,SV.is_mono hρ s v hs⟩,h.defers⟩
end Go.Proofs.Ytafemlljemhkhaa.Sx
namespace Go.Proofs.Ytafemlljemhkhaa.Sx
open Go
set_option linter.unusedSectionVars false
set_option linter.unusedVariables false
set_option linter.unusedSimpArgs false
variable [Env]
def Gives {α : Type} (P : Program) (m : Sem α) (v : α) : Prop := ∀ w,m.run P w = .ok v w
theorem Gives.pure {α : Type} (P : Program) (v : α) : Gives P (Pure.pure v) v := fun _ => rfl
theorem Gives.bind {α β : Type} {P : Program} {m : Sem α} {v : α} {f : α → Sem β} {u : β} (h : Gives P m v) (k : Gives P (f v) u) : Gives P (m >>= f) u := by
  intro w; rw [Sem.run_bind,h w,Result.andThen_ok,k w]
theorem gives_underlying {P : Program} {t : TypeId} {d : TypeDesc} (h : P.underlying t = some d) : Gives P (underlying t) d := by
  intro w; simp [underlying,h]
theorem gives_sizeOf {P : Program} {t : TypeId} {n : Nat} (h : sizeT P t = some n) : Gives P (Go.sizeOf t) n := by
  intro w
  unfold sizeT at h
  obtain ⟨i,hi,rfl⟩ := Option.map_eq_some_iff.1 h
  simp [Go.sizeOf,typeInfo,hi]
theorem gives_isAgg {P : Program} {t : TypeId} {b : Bool} (h : aggT P t = some b) : Gives P (isAgg t) b := by
  intro w
  unfold aggT at h
  split at h <;> simp only [Option.some.injEq,reduceCtorEq] at h <;> subst h
  · rename_i fs hu; simp [isAgg,underlying,hu]
  · rename_i n e hu; simp [isAgg,underlying,hu]
  · rename_i d _ _ hu
    simp only [isAgg,underlying,Sem.run_bind,run_program,Result.andThen_ok,hu,Sem.run_pure]
theorem gives_zero {P : Program} {t : TypeId} {cs : List SC} (h : zeroT P t = some cs) (ρ : Rho) : ∃ v, Gives P (zeroValue t) v ∧ All2 (SC.is ρ) cs v.cells.toList := by
  unfold zeroT at h
  split at h
  · rename_i i hi
    split at h
    · rename_i v hv
      exact ⟨v,fun w => by simp [zeroValue,typeInfo,hi,hv],litSCs_is h⟩
    · cases h
  · cases h
def asI : SV → Option (IntKind × IE)
  | .w (.one (.b (.int k e))) => some (k,e)
  | _ => none
theorem asI_is {ρ : Rho} {s : SV} {v : Value} {k : IntKind} {e : IE} (h : asI s = some (k, e)) (hs : s.is ρ v) : v = .int k e.val := by
  unfold asI at h
  split at h
  · cases h; exact hs
  · cases h
def asBo : SV → Option BE
  | .w (.one (.b (.bool b))) => some b
  | _ => none
theorem asBo_is {ρ : Rho} {s : SV} {v : Value} {b : BE} (h : asBo s = some b) (hs : s.is ρ v) : v = .bool b.val := by
  unfold asBo at h
  split at h
  · cases h; exact hs
  · cases h
def asCs : SV → Option (List SC)
  | .w (.one c) => some [c]
  | .w (.agg l) => some l
  | _ => none
theorem asCs_is {ρ : Rho} {s : SV} {v : Value} {l : List SC} (h : asCs s = some l) (hs : s.is ρ v) : All2 (SC.is ρ) l v.cells.toList := by
  unfold asCs at h
  split at h
  · rename_i c
    cases h
    rw [(SC.is_one (ρ := ρ) (x := c) (v := v) hs).cells]
    exact ⟨hs,trivial⟩
  · rename_i l'
    cases h
    obtain ⟨vs,rfl,h1⟩ := hs
    exact h1
  · cases h
def asAg : SV → Option (List SC)
  | .w (.agg l) => some l
  | _ => none
theorem asAg_is {ρ : Rho} {s : SV} {v : Value} {l : List SC} (h : asAg s = some l) (hs : s.is ρ v) : ∃ vs : Array Value, v = .agg vs ∧ All2 (SC.is ρ) l vs.toList := by
  unfold asAg at h
  split at h
  · cases h; exact hs
  · cases h
def partS (P : Program) (t : TypeId) (l : List SC) (off : Nat) : Tree SV :=
  match aggT P t,sizeT P t with
  | some true,some n => .leaf (.w (.agg ((l.take (off + n)).drop off)))
  | some false, _ => match l[off]? with
    | some c => .leaf (.w (.one c))
    | none => .fail 10
  | _,_ => .fail 11
theorem partS_gives {P : Program} {t : TypeId} {l : List SC} {off : Nat} {ρ : Rho} {vs : Array Value} (hl : All2 (SC.is ρ) l vs.toList) {K : SV → Prop}
    (h : (partS P t l off).holds K) : ∃ s v,K s ∧ s.is ρ v ∧ Gives P (part t vs off) v := by
  unfold partS at h
  split at h
  · rename_i n h1 h2
    refine ⟨_, .agg (vs.extract off (off + n)),h,⟨_,rfl, ?_⟩,fun w => ?_⟩
    · rw [Array.toList_extract, List.extract_eq_take_drop]
      have := (hl.take (off + n)).drop off
      simp only [List.drop_take] at this ⊢
      exact this
    · simp [part,gives_isAgg h1 w,gives_sizeOf h2 w]
  · rename_i h1
    split at h
    · rename_i c hc
      obtain ⟨v,hv,hcv⟩ := hl.get off c hc
      refine ⟨_,v,h,hcv,fun w => ?_⟩
      have hv' : vs[off]? = some v := by simpa using hv
      simp [part,gives_isAgg h1 w,hv']
    · exact h.elim
  · exact h.elim
def eqSC (P : Program) (t : TypeId) (x y : SC) : Option BE :=
  match P.underlying t,x,y with
  | some .bool, .b (.bool a), .b (.bool b) => some (mkEq a b)
  | some (.int _), .b (.int k a), .b (.int k' b) => if k = k' then some (mkCmp .eql a b) else none
  | some (.pointer _), .b .nilp, .b .nilp => some (.lit true)
  | some (.pointer _), .b .nilp, .b (.ptr _ _) => some (.lit false)
  | some (.pointer _), .b (.ptr _ _), .b .nilp => some (.lit false)
  | some (.slice _), .b .nils, .b .nils => some (.lit true)
  | some (.slice _), .b .nils, .b (.sl _ _ _ _) => some (.lit false)
  | some (.slice _), .b (.sl _ _ _ _), .b .nils => some (.lit false)
  | some (.func _ _ _), .b .nilf, .b .nilf => some (.lit true)
  | some (.func _ _ _), .b .nilf, .fn _ _ _ => some (.lit false)
  | some (.func _ _ _), .fn _ _ _, .b .nilf => some (.lit false)
  | _,_,_ => none
theorem eqSC_gives {P : Program} {t : TypeId} {x y : SC} {e : BE} (h : eqSC P t x y = some e) {ρ : Rho} {u v : Value} (hx : x.is ρ u) (hy : y.is ρ v) (d : Nat) :
    Gives P (Op.equalIn (d + 1) t u v) e.val := by
  intro w
  unfold eqSC at h
  split at h
  case h_1 a b hu =>
    cases h; cases hx; cases hy
    simp [Op.equalIn,gives_underlying hu w,mkEq_val]
  case h_2 k0 k a k' b hu =>
    split at h
    · rename_i hk; subst hk
      cases h; cases hx; cases hy
      simp [Op.equalIn,gives_underlying hu w,mkCmp_val,cmpVal]
    · cases h
  case h_3 hu => cases h; cases hx; cases hy; simp [Op.equalIn,gives_underlying hu w,BE.val]
  case h_4 hu => cases h; cases hx; obtain ⟨b,_,rfl⟩ := hy; simp [Op.equalIn,gives_underlying hu w,BE.val]
  case h_5 hu => cases h; cases hy; obtain ⟨b,_,rfl⟩ := hx; simp [Op.equalIn,gives_underlying hu w,BE.val]
  case h_6 hu => cases h; cases hx; cases hy; simp [Op.equalIn,gives_underlying hu w,BE.val]
  case h_7 hu => cases h; cases hx; obtain ⟨b,_,rfl⟩ := hy; simp [Op.equalIn,gives_underlying hu w,BE.val]
  case h_8 hu => cases h; cases hy; obtain ⟨b,_,rfl⟩ := hx; simp [Op.equalIn,gives_underlying hu w,BE.val]
  case h_9 hu => cases h; cases hx; cases hy; simp [Op.equalIn,gives_underlying hu w,BE.val]
  case h_10 hu => cases h; cases hx; obtain ⟨a,b,rfl,_⟩ := hy; simp [Op.equalIn,gives_underlying hu w,BE.val]
  case h_11 hu => cases h; cases hy; obtain ⟨a,b,rfl,_⟩ := hx; simp [Op.equalIn,gives_underlying hu w,BE.val]
  case h_12 => cases h
end Go.Proofs.Ytafemlljemhkhaa.Sx
namespace Go.Proofs.Ytafemlljemhkhaa.Sx
open Go
set_option linter.unusedSectionVars false
set_option linter.unusedVariables false
set_option linter.unusedSimpArgs false
variable [Env]
def eqFieldsS (P : Program) (xs ys : List SC) : List Field → Option BE
  | [] => some (.lit true)
  | f :: fs =>
    if f.name = "_" then none else
    match aggT P f.type,xs[f.offset]?,ys[f.offset]?,eqFieldsS P xs ys fs with
    | some false, some x, some y, some e => match eqSC P f.type x y with
      | some e0 => some (mkAnd e0 e)
      | none => none
    | _,_,_,_ => none
theorem eqFieldsS_gives {P : Program} {ρ : Rho} {xs ys : List SC} {us vs : Array Value} (hx : All2 (SC.is ρ) xs us.toList) (hy : All2 (SC.is ρ) ys vs.toList) (d : Nat) :
    ∀ {fs : List Field} {e : BE},eqFieldsS P xs ys fs = some e → Gives P (Op.eqFields (d + 1) us vs fs) e.val
  | [],e,h => by cases h; exact fun _ => rfl
  | f :: fs, e, h => by
    intro w
    simp only [eqFieldsS] at h
    split at h
    · cases h
    · rename_i hn
      split at h
      · rename_i x y e1 h1 h2 h3 h4
        split at h
        · rename_i e0 h5
          cases h
          obtain ⟨u,hu,hux⟩ := hx.get _ _ h2
          obtain ⟨v,hv,hvy⟩ := hy.get _ _ h3
          have hu' : us[f.offset]? = some u := by simpa using hu
          have hv' : vs[f.offset]? = some v := by simpa using hv
          have ih := eqFieldsS_gives hx hy d h4 w
          have hq := eqSC_gives h5 hux hvy d
          have hpx : Gives P (part f.type us f.offset) u := fun w => by simp [part,gives_isAgg h1 w,hu']
          have hpy : Gives P (part f.type vs f.offset) v := fun w => by simp [part,gives_isAgg h1 w,hv']
          simp only [Op.eqFields,if_pos hn,Sem.run_bind,hpx w,hpy w,hq w,Result.andThen_ok,mkAnd_val,Sem.run_ite,Sem.run_pure,ih]
          cases e0.val <;> simp
        · cases h
      · cases h
def eqArrS (P : Program) (e : TypeId) (sz : Nat) (xs ys : List SC) : Nat → Nat → Option BE
  | 0,_ => some (.lit true)
  | n + 1, i => match xs[i * sz]?, ys[i * sz]?, eqArrS P e sz xs ys n (i + 1) with
    | some x, some y, some r => match eqSC P e x y with
      | some e0 => some (mkAnd e0 r)
      | none => none
    | _,_,_ => none
def eqArrRec (d : Nat) (e : TypeId) (sz : Nat) (xs ys : Array Value) : Nat → Nat → Sem Bool
  | 0,_ => pure true
  | n + 1, i => do
    let a ← part e xs (i * sz)
    let b ← part e ys (i * sz)
    let r ← Op.equalIn d e a b
    if (!r) = true then pure false else eqArrRec d e sz xs ys n (i + 1)
theorem run_equalIn_array {P : Program} (w : World) (d : Nat) (t e : TypeId) (n sz : Nat) (xs ys : Array Value) (ht : P.underlying t = some (.array n e)) (hs : sizeT P e = some sz) :
    (Op.equalIn (d + 1) t (.agg xs) (.agg ys)).run P w = (eqArrRec d e sz xs ys n 0).run P w := by
  simp only [Op.equalIn,Sem.run_bind,gives_underlying ht w,Result.andThen_ok,gives_sizeOf hs w]
  rw [Std.Legacy.Range.forIn_eq_forIn_range']
  have key : ∀ (n i : Nat) (w : World),
      ((forIn (List.range' i n 1) ((none, ()) : Option Bool × Unit) fun i _ => do
          let a ← part e xs (i * sz)
          let b ← part e ys (i * sz)
          let r ← Op.equalIn d e a b
          if (!r) = true then pure (ForInStep.done (some false,())) else pure (ForInStep.yield (none,())) : Sem (Option Bool × Unit)).run P w).andThen
        (fun r w' => (match r.fst with | some b => (pure b : Sem Bool) | none => pure true).run P w') = (eqArrRec d e sz xs ys n i).run P w := by
    intro n
    induction n with
    | zero => intro i w; simp [eqArrRec]
    | succ n ih =>
      intro i w
      simp only [List.range'_succ,List.forIn_cons,eqArrRec,Sem.run_bind]
      generalize (part e xs (i * sz)).run P w = r1
      cases r1 with
      | halt x w1 => simp [Result.andThen]
      | ok a w1 =>
        simp only [Result.andThen_ok]
        generalize (part e ys (i * sz)).run P w1 = r2
        cases r2 with
        | halt x w2 => simp [Result.andThen]
        | ok b w2 =>
          simp only [Result.andThen_ok]
          generalize (Op.equalIn d e a b).run P w2 = r3
          cases r3 with
          | halt x w3 => simp [Result.andThen]
          | ok r w3 =>
            cases r
            · simp only [Result.andThen_ok,Bool.not_false,if_true,Sem.run_pure]
            · simp only [Result.andThen_ok, Bool.not_true, Bool.false_eq_true, if_false, Sem.run_pure]
              exact ih (i + 1) w3
  have := key n 0 w
  simp at this ⊢
  rw [← this]
  refine congrArg _ ?_
  funext r w'
  rcases r with ⟨_ | b,_⟩ <;> rfl
theorem eqArrS_gives {P : Program} {ρ : Rho} {xs ys : List SC} {us vs : Array Value} (hx : All2 (SC.is ρ) xs us.toList) (hy : All2 (SC.is ρ) ys vs.toList) (d : Nat)
    {t : TypeId} {sz : Nat} (h1 : aggT P t = some false) :
    ∀ {n i : Nat} {e : BE},eqArrS P t sz xs ys n i = some e → Gives P (eqArrRec (d + 1) t sz us vs n i) e.val
  | 0,i,e,h => by cases h; exact fun _ => rfl
  | n + 1, i, e, h => by
    intro w
    simp only [eqArrS] at h
    split at h
    · rename_i x y e1 h2 h3 h4
      split at h
      · rename_i e0 h5
        cases h
        obtain ⟨u,hu,hux⟩ := hx.get _ _ h2
        obtain ⟨v,hv,hvy⟩ := hy.get _ _ h3
        have hu' : us[i * sz]? = some u := by simpa using hu
        have hv' : vs[i * sz]? = some v := by simpa using hv
        have ih := eqArrS_gives hx hy d h1 h4 w
        have hq := eqSC_gives h5 hux hvy d
        have hpx : Gives P (part t us (i * sz)) u := fun w => by simp [part,gives_isAgg h1 w,hu']
        have hpy : Gives P (part t vs (i * sz)) v := fun w => by simp [part,gives_isAgg h1 w,hv']
        simp only [eqArrRec,Sem.run_bind,hpx w,hpy w,hq w,Result.andThen_ok,mkAnd_val,Sem.run_ite,Sem.run_pure,ih]
        cases e0.val <;> simp
      · cases h
    · cases h
def eqS (P : Program) (t : TypeId) (x y : SV) : Option BE :=
  match x,y with
  | .w (.one c), .w (.one d) => eqSC P t c d
  | .w (.agg xs), .w (.agg ys) =>
    if P.eqGuardType P.depth t then none else
    match P.underlying t with
    | some (.struct fs) => if P.stoodInHeld t then none else eqFieldsS P xs ys fs.toList
    | some (.array n e) => match aggT P e, sizeT P e with
      | some false,some sz => eqArrS P e sz xs ys n 0
      | _,_ => none
    | _ => none
  | _,_ => none
theorem eqS_gives {P : Program} {t : TypeId} {x y : SV} {e : BE} (h : eqS P t x y = some e) {ρ : Rho} {u v : Value} (hx : x.is ρ u) (hy : y.is ρ v) :
    Gives P (Op.equal t u v) e.val ∧ ∀ op a b,Gives P (eqGuard op t a b u v) () := by
  unfold eqS at h
  split at h
  · rename_i c d
    refine ⟨eqSC_gives h hx hy 9999,fun op a b w => ?_⟩
    have h1 := SC.is_one (ρ := ρ) (x := c) hx
    unfold eqSC at h
    unfold eqGuard
    split at h <;> first
      | (cases h; done)
      | (rename_i p q hu; have hx' : u = .bool p.val := hx; subst hx'; cases op <;> simp; done)
      | (rename_i k p k' q hu; have hx' : u = .int k p.val := hx; subst hx'; cases op <;> simp; done)
      | (have hx' : u = .pointer none := hx; subst hx'; cases op <;> simp; done)
      | (have hx' : u = .slice none 0 0 := hx; subst hx'; cases op <;> simp; done)
      | (have hx' : u = .nilFunc := hx; subst hx'; cases op <;> simp; done)
      | (obtain ⟨b',_,rfl⟩ := hx; cases op <;> simp; done)
      | (obtain ⟨b',c',rfl,_⟩ := hx; cases op <;> simp; done)
      | skip
  · rename_i xs ys
    obtain ⟨us,rfl,hx'⟩ := hx
    obtain ⟨vs,rfl,hy'⟩ := hy
    split at h
    · cases h
    · rename_i hg
      refine ⟨?_,fun op a b w => run_eqGuard_agg w op t a b us vs (by simpa using hg)⟩
      split at h
      · rename_i fs hu
        split at h
        · cases h
        · rename_i hst
          intro w
          have hf : P.fieldsOf t = fs := by simp [Program.fieldsOf,hu]
          show (Op.equalIn (9999 + 1) t (.agg us) (.agg vs)).run P w = _
          rw [run_equalIn_struct w 9999 t us vs (by rw [hf]; exact hu) (by simpa using hst),hf]
          exact eqFieldsS_gives hx' hy' 9998 h w
      · rename_i n e' hu
        split at h
        · rename_i sz h1 h2
          intro w
          show (Op.equalIn (9999 + 1) t (.agg us) (.agg vs)).run P w = _
          rw [run_equalIn_array w 9999 t e' n sz us vs hu h2]
          exact eqArrS_gives hx' hy' 9998 h1 h w
        · cases h
      · cases h
  · cases h
end Go.Proofs.Ytafemlljemhkhaa.Sx
namespace Go.Proofs.Ytafemlljemhkhaa.Sx
open Go
set_option linter.unusedSectionVars false
set_option linter.unusedVariables false
set_option linter.unusedSimpArgs false
variable [Env]
def binS (P : Program) (op : BinOp) (t : TypeId) (x y : SV) : Tree SV :=
  match asI x,asI y with
  | some (k, a), some (k', b) =>
    match op with
    | .shl | .shr => mkBr (mkCmp .geq b (.lit 0)) (.leaf (.w (.one (.b (.int k (mkOp op k a b)))))) (.fail 20)
    | .add | .sub | .mul | .and | .or | .xor | .andNot => if k = k' then .leaf (.w (.one (.b (.int k (mkOp op k a b))))) else .fail 21
    | .quo | .rem => if k = k' then mkBr (mkCmp .neq b (.lit 0)) (.leaf (.w (.one (.b (.int k (mkOp op k a b)))))) (.fail 22) else .fail 21
    | _ => if k = k' then .leaf (.w (.one (.b (.bool (mkCmp op a b))))) else .fail 21
  | none, none =>
    match op,eqS P t x y with
    | .eql,some e => .leaf (.w (.one (.b (.bool e))))
    | .neq,some e => .leaf (.w (.one (.b (.bool (mkNot e)))))
    | _,_ => .fail 23
  | _,_ => .fail 24
theorem eqGuard_int {P : Program} (op : BinOp) (t : TypeId) (x y : Operand) (k k' : IntKind) (a b : Int) : Gives P (eqGuard op t x y (.int k a) (.int k' b)) () := by
  intro w; cases op <;> simp [eqGuard]
theorem eqS_binOp {P : Program} {t : TypeId} {x y : SV} {e : BE} (h : eqS P t x y = some e) (hx0 : asI x = none) {ρ : Rho} {u v : Value} (hx : x.is ρ u) (hy : y.is ρ v) :
    Gives P (Go.binOp .eql t u v) (.bool e.val) ∧ Gives P (Go.binOp .neq t u v) (.bool (!e.val)) := by
  have hq := (eqS_gives h hx hy).1
  have key : (∀ k n, u ≠ .int k n) ∧ (∀ k n, u ≠ .float k n) ∧ (∀ k n m, u ≠ .complex k n m) ∧ (∀ s, u ≠ .string s) := by
    unfold eqS at h
    split at h
    · unfold eqSC at h
      split at h
      case h_1 => cases hx; exact ⟨by simp,by simp,by simp,by simp⟩
      case h_2 => simp [asI] at hx0
      case h_3 => cases hx; exact ⟨by simp,by simp,by simp,by simp⟩
      case h_4 => cases hx; exact ⟨by simp,by simp,by simp,by simp⟩
      case h_5 => obtain ⟨b,_,rfl⟩ := hx; exact ⟨by simp,by simp,by simp,by simp⟩
      case h_6 => cases hx; exact ⟨by simp,by simp,by simp,by simp⟩
      case h_7 => cases hx; exact ⟨by simp,by simp,by simp,by simp⟩
      case h_8 => obtain ⟨b,_,rfl⟩ := hx; exact ⟨by simp,by simp,by simp,by simp⟩
      case h_9 => cases hx; exact ⟨by simp,by simp,by simp,by simp⟩
      case h_10 => cases hx; exact ⟨by simp,by simp,by simp,by simp⟩
      case h_11 => obtain ⟨b,c,rfl,_⟩ := hx; exact ⟨by simp,by simp,by simp,by simp⟩
      case h_12 => cases h
    · obtain ⟨us,rfl,_⟩ := hx; exact ⟨by simp,by simp,by simp,by simp⟩
    · cases h
  obtain ⟨k1,k2,k3,k4⟩ := key
  constructor
  · intro w
    have : Go.binOp .eql t u v = (do pure (.bool (← Op.equal t u v))) := by
      unfold Go.binOp
      split <;> first | rfl | (exact absurd rfl (k1 _ _)) | (exact absurd rfl (k2 _ _)) | (exact absurd rfl (k3 _ _ _)) | (exact absurd rfl (k4 _)) | simp_all
    rw [this]; simp [hq w]
  · intro w
    have : Go.binOp .neq t u v = (do pure (.bool (!(← Op.equal t u v)))) := by
      unfold Go.binOp
      split <;> first | rfl | (exact absurd rfl (k1 _ _)) | (exact absurd rfl (k2 _ _)) | (exact absurd rfl (k3 _ _ _)) | (exact absurd rfl (k4 _)) | simp_all
    rw [this]; simp [hq w]
theorem binS_gives {P : Program} {op : BinOp} {t : TypeId} {x y : SV} {ρ : Rho} {u v : Value} (hx : x.is ρ u) (hy : y.is ρ v) {K : SV → Prop} (h : (binS P op t x y).holds K) (a b : Operand) :
    ∃ s r,K s ∧ s.is ρ r ∧ Gives P (do eqGuard op t a b u v; Go.binOp op t u v) r := by
  unfold binS at h
  split at h
  · rename_i k e k' e' h1 h2
    obtain rfl := asI_is h1 hx
    obtain rfl := asI_is h2 hy
    have G := eqGuard_int (P := P) op t a b k k' e.val e'.val
    cases op <;> dsimp only at h
    case shl =>
      obtain ⟨ht,hf⟩ := mkBr_holds h
      simp only [mkCmp_val,cmpVal,IE.val] at ht hf
      by_cases hy0 : e'.val ≥ 0
      · refine ⟨_, .int k (binVal .shl k e.val e'.val), ht (by simpa using hy0), ?_, G.bind fun w => ?_⟩
        · show _ = _; rw [mkOp_val]
        · have : ¬ e'.val < 0 := by omega
          simp [Go.binOp,Op.shift,this,binVal]
      · exact (hf (by simpa using hy0)).elim
    case shr =>
      obtain ⟨ht,hf⟩ := mkBr_holds h
      simp only [mkCmp_val,cmpVal,IE.val] at ht hf
      by_cases hy0 : e'.val ≥ 0
      · refine ⟨_, .int k (binVal .shr k e.val e'.val), ht (by simpa using hy0), ?_, G.bind fun w => ?_⟩
        · show _ = _; rw [mkOp_val]
        · have : ¬ e'.val < 0 := by omega
          simp [Go.binOp,Op.shift,this,binVal]
      · exact (hf (by simpa using hy0)).elim
    case quo =>
      split at h
      · rename_i hk; subst hk
        obtain ⟨ht,hf⟩ := mkBr_holds h
        simp only [mkCmp_val,cmpVal,IE.val] at ht hf
        by_cases hy0 : e'.val = 0
        · exact (hf (by simp [hy0])).elim
        · refine ⟨_, .int k (binVal .quo k e.val e'.val), ht (by simpa using hy0), ?_, G.bind fun w => ?_⟩
          · show _ = _; rw [mkOp_val]
          · simp [Go.binOp,Op.intDiv,hy0,binVal]
      · exact h.elim
    case rem =>
      split at h
      · rename_i hk; subst hk
        obtain ⟨ht,hf⟩ := mkBr_holds h
        simp only [mkCmp_val,cmpVal,IE.val] at ht hf
        by_cases hy0 : e'.val = 0
        · exact (hf (by simp [hy0])).elim
        · refine ⟨_, .int k (binVal .rem k e.val e'.val), ht (by simpa using hy0), ?_, G.bind fun w => ?_⟩
          · show _ = _; rw [mkOp_val]
          · simp [Go.binOp,Op.intDiv,hy0,binVal]
      · exact h.elim
    case add =>
      split at h
      · rename_i hk; subst hk
        refine ⟨_, .int k (binVal .add k e.val e'.val),h, ?_,G.bind fun w => ?_⟩
        · show _ = _; rw [mkOp_val]
        · simp [Go.binOp,Op.intArith,binVal]
      · exact h.elim
    case sub =>
      split at h
      · rename_i hk; subst hk
        refine ⟨_, .int k (binVal .sub k e.val e'.val),h, ?_,G.bind fun w => ?_⟩
        · show _ = _; rw [mkOp_val]
        · simp [Go.binOp,Op.intArith,binVal]
      · exact h.elim
    case mul =>
      split at h
      · rename_i hk; subst hk
        refine ⟨_, .int k (binVal .mul k e.val e'.val),h, ?_,G.bind fun w => ?_⟩
        · show _ = _; rw [mkOp_val]
        · simp [Go.binOp,Op.intArith,binVal]
      · exact h.elim
    case and =>
      split at h
      · rename_i hk; subst hk
        refine ⟨_, .int k (binVal .and k e.val e'.val),h, ?_,G.bind fun w => ?_⟩
        · show _ = _; rw [mkOp_val]
        · simp [Go.binOp,Op.intBits,binVal]
      · exact h.elim
    case or =>
      split at h
      · rename_i hk; subst hk
        refine ⟨_, .int k (binVal .or k e.val e'.val),h, ?_,G.bind fun w => ?_⟩
        · show _ = _; rw [mkOp_val]
        · simp [Go.binOp,Op.intBits,binVal]
      · exact h.elim
    case xor =>
      split at h
      · rename_i hk; subst hk
        refine ⟨_, .int k (binVal .xor k e.val e'.val),h, ?_,G.bind fun w => ?_⟩
        · show _ = _; rw [mkOp_val]
        · simp [Go.binOp,Op.intBits,binVal]
      · exact h.elim
    case andNot =>
      split at h
      · rename_i hk; subst hk
        refine ⟨_, .int k (binVal .andNot k e.val e'.val),h, ?_,G.bind fun w => ?_⟩
        · show _ = _; rw [mkOp_val]
        · simp [Go.binOp,Op.intBits,binVal]
      · exact h.elim
    case eql =>
      split at h
      · rename_i hk; subst hk
        refine ⟨_, .bool (cmpVal .eql e.val e'.val),h, ?_,G.bind fun w => ?_⟩
        · show _ = _; rw [mkCmp_val]
        · simp [Go.binOp,Op.intCmp,cmpVal]
      · exact h.elim
    case neq =>
      split at h
      · rename_i hk; subst hk
        refine ⟨_, .bool (cmpVal .neq e.val e'.val),h, ?_,G.bind fun w => ?_⟩
        · show _ = _; rw [mkCmp_val]
        · simp [Go.binOp,Op.intCmp,cmpVal]
      · exact h.elim
    case lss =>
      split at h
      · rename_i hk; subst hk
        refine ⟨_, .bool (cmpVal .lss e.val e'.val),h, ?_,G.bind fun w => ?_⟩
        · show _ = _; rw [mkCmp_val]
        · simp [Go.binOp,Op.intCmp,cmpVal]
      · exact h.elim
    case leq =>
      split at h
      · rename_i hk; subst hk
        refine ⟨_, .bool (cmpVal .leq e.val e'.val),h, ?_,G.bind fun w => ?_⟩
        · show _ = _; rw [mkCmp_val]
        · simp [Go.binOp,Op.intCmp,cmpVal]
      · exact h.elim
    case gtr =>
      split at h
      · rename_i hk; subst hk
        refine ⟨_, .bool (cmpVal .gtr e.val e'.val),h, ?_,G.bind fun w => ?_⟩
        · show _ = _; rw [mkCmp_val]
        · simp [Go.binOp,Op.intCmp,cmpVal]
      · exact h.elim
    case geq =>
      split at h
      · rename_i hk; subst hk
        refine ⟨_, .bool (cmpVal .geq e.val e'.val),h, ?_,G.bind fun w => ?_⟩
        · show _ = _; rw [mkCmp_val]
        · simp [Go.binOp,Op.intCmp,cmpVal]
      · exact h.elim
  · rename_i h1 h2
    split at h
    · rename_i e he
      obtain ⟨g1,g2⟩ := eqS_gives he hx hy
      exact ⟨_,_,h,rfl,(g2 _ a b).bind (eqS_binOp he h1 hx hy).1⟩
    · rename_i e he
      obtain ⟨g1,g2⟩ := eqS_gives he hx hy
      refine ⟨_, .bool (!e.val),h, ?_,(g2 _ a b).bind (eqS_binOp he h1 hx hy).2⟩
      show _ = _; rw [mkNot_val]
    · exact h.elim
  · exact h.elim
end Go.Proofs.Ytafemlljemhkhaa.Sx
