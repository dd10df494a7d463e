import Derived.Test.YtafemlljemhkhaaPSxMd
import Derived.Laws.Append
namespace Go.Proofs.Ytafemlljemhkhaa.Sx
open Go
set_option linter.unusedSectionVars false
set_option linter.unusedVariables false
set_option linter.unusedSimpArgs false
variable [Env]
section
variable {A : Type} [AbsK A]
theorem HeapOk.moveM {prot : Nat → Nat → Prop} {ρ : Rho} {F : Nat → Nat → Prop} {h h1 : Heap A} {w w' : World} (H : HeapOk ρ F h w) {old : Option Nat} {own : Nat → Prop} {nm k : Nat} {L : IE} {v : Value} {Fn : Nat → Prop}
    (ho : (old = none ∧ h1 = h ∧ ∀ x, ¬ own x) ∨ ∃ n0 k0 L0 v0,old = some n0 ∧ look h n0 = some (.mach k0 L0) ∧ ρ n0 = some (.val v0) ∧ h1 = put h n0 (.mach 0 .nilL) ∧ ∀ x,own x ↔ F n0 x)
    (hn : look h nm = none) (hni : Hi nm) (hF : ∀ x,Fn x → own x ∨ w.heap.size ≤ x) (hm : MachOk k L.lst (.val v) Fn w')
    (hsame : ∀ x,x < w.heap.size → ¬ own x → w'.heap[x]? = w.heap[x]?) (hsize : w.heap.size ≤ w'.heap.size) (hos : w'.os = w.os) (htape : w'.tape = w.tape) (hout : w'.output = w.output) :
    ∃ F',HeapOk (upd ρ nm (some (.val v))) F' ((nm, .mach k L) :: h1) w' ∧ Goes prot ρ F w (upd ρ nm (some (.val v))) F' w' := by
  have hρn : ρ nm = none := by
    have := H.dom nm; rw [hn] at this
    cases hr : ρ nm with
    | none => rfl
    | some r => rw [hr] at this; simp at this
  have hne0 : ∀ n0, old = some n0 → n0 ≠ nm ∧ Hi n0 := fun n0 h0 => by
    rcases ho with ⟨e,_⟩ | ⟨n1,k0,L0,v0,e,hl,hr,_⟩
    · rw [e] at h0; cases h0
    · rw [e] at h0; cases h0
      exact ⟨(fun e => by rw [e,hn] at hl; cases hl),H.low n0 _ hl rfl⟩
  have hext : Rho.Ext ρ (upd ρ nm (some (.val v))) := fun m r hm => by
    rw [upd_ne _ _ _ _ (fun e => by subst e; rw [hρn] at hm; cases hm)]; exact hm
  have hbound : ∀ m,(upd ρ nm (some (.val v)) m).isSome → m ≠ nm → (ρ m).isSome := fun m hm e => by rwa [upd_ne _ _ _ _ e] at hm
  have hown : ∀ x, own x → ∃ n0, old = some n0 ∧ (ρ n0).isSome ∧ F n0 x := fun x hx => by
    rcases ho with ⟨_,_,e⟩ | ⟨n1,k0,L0,v0,e,hl,hr,_,e2⟩
    · exact (e x hx).elim
    · exact ⟨n1,e,by rw [hr]; rfl,(e2 x).1 hx⟩
  have hownF : ∀ n0, old = some n0 → ∀ x, F n0 x → own x := fun n0 h0 x hx => by
    rcases ho with ⟨e,_⟩ | ⟨n1,k0,L0,v0,e,hl,hr,_,e2⟩
    · rw [e] at h0; cases h0
    · rw [e] at h0; cases h0; exact (e2 x).2 hx
  have hnot : ∀ m x, (ρ m).isSome → old ≠ some m → F m x → ¬ own x := fun m x hm hne hx ho' => by
    obtain ⟨n0,e0,hs0,hx0⟩ := hown x ho'
    exact H.disj m n0 x (fun e => hne (e ▸ e0)) hm hs0 (.inr (hne0 n0 e0).2) hx hx0
  have hlook1 : ∀ m, old ≠ some m → look h1 m = look h m := fun m hm => by
    rcases ho with ⟨_,e,_⟩ | ⟨n1,k0,L0,v0,e,hl,hr,e1,_⟩
    · rw [e]
    · rw [e1]; exact look_put_ne _ _ _ _ (fun e' => hm (e' ▸ e))
  have hlook0 : ∀ m, old = some m → look h1 m = some (.mach 0 .nilL) ∧ ∃ v0, ρ m = some (.val v0) := fun m hm => by
    rcases ho with ⟨e,_⟩ | ⟨n1,k0,L0,v0,e,hl,hr,e1,_⟩
    · rw [e] at hm; cases hm
    · rw [e] at hm; cases hm
      exact ⟨by rw [e1]; exact look_put_same _ _ _,v0,hr⟩
  let F' : Nat → Nat → Prop := fun m => if m = nm then Fn else if old = some m then (fun _ => False) else F m
  have Fnm : F' nm = Fn := if_pos rfl
  have Fold : ∀ m,m ≠ nm → old = some m → F' m = fun _ => False := fun m e1 e2 => by simp only [F',if_neg e1,if_pos e2]
  have Fne : ∀ m,m ≠ nm → old ≠ some m → F' m = F m := fun m e1 e2 => by simp only [F',if_neg e1,if_neg e2]
  have hsz : ∀ x,Fn x → x < w'.heap.size := fun x hx => MachOk.size hm x hx
  refine ⟨F',⟨fun m => ?_,fun m o r hlm hr => ?_,fun m m' x hne hm hm' hh hx hx' => ?_,fun m o hlm hw => ?_,fun m x hm' hx => ?_⟩,⟨hext,hos,htape,hout,hsize,fun x hx hno => ?_,fun m x hm' hx => ?_,fun m hm' hs => ?_,fun q j _ b hb => ?_⟩⟩
  · by_cases em : m = nm
    · subst em; rw [upd_same]; simp [look]
    · have : (nm == m) = false := by simpa using Ne.symm em
      rw [upd_ne _ _ _ _ em]; simp only [look,this,cond_false]
      by_cases e0 : old = some m
      · obtain ⟨h1,v0,h2⟩ := hlook0 m e0; rw [h1,h2]; rfl
      · rw [hlook1 m e0]; exact H.dom m
  · by_cases em : m = nm
    · subst em
      rw [upd_same] at hr
      simp [look] at hlm; subst hlm; cases hr
      rw [Fnm]; exact hm
    · have hne : (nm == m) = false := by simpa using Ne.symm em
      rw [upd_ne _ _ _ _ em] at hr
      simp only [look,hne,cond_false] at hlm
      by_cases e0 : old = some m
      · obtain ⟨q1, v0, q2⟩ := hlook0 m e0
        rw [q1] at hlm; cases hlm
        rw [q2] at hr; cases hr
        rw [Fold m em e0]
        exact ⟨⟨v0,rfl⟩,fun x hx => hx⟩
      · rw [hlook1 m e0] at hlm
        rw [Fne m em e0]
        refine SO.ok_frame hext (H.obj m o r hlm hr) hsize fun x hx => ?_
        have hs : (ρ m).isSome := by rw [hr]; rfl
        exact hsame x (H.size m x hs hx) (hnot m x hs e0 hx)
  · have key : ∀ m x, m ≠ nm → (upd ρ nm (some (.val v)) m).isSome → F' m x → ¬ Fn x := fun m x em hm hx hf => by
      have hs := hbound m hm em
      by_cases e0 : old = some m
      · rw [Fold m em e0] at hx; exact hx
      · rw [Fne m em e0] at hx
        rcases hF x hf with h1 | h1
        · exact hnot m x hs e0 hx h1
        · have := H.size m x hs hx; omega
    by_cases em : m = nm
    · subst em
      rw [Fnm] at hx
      exact key m' x (Ne.symm hne) hm' hx' hx
    · by_cases em' : m' = nm
      · subst em'
        rw [Fnm] at hx'
        exact key m x hne hm hx hx'
      · by_cases e0 : old = some m
        · rw [Fold m em e0] at hx; exact hx
        · by_cases e1 : old = some m'
          · rw [Fold m' em' e1] at hx'; exact hx'
          · rw [Fne m em e0] at hx; rw [Fne m' em' e1] at hx'
            exact H.disj m m' x hne (hbound m hm em) (hbound m' hm' em') hh hx hx'
  · by_cases em : m = nm
    · exact em ▸ hni
    · have hne : (nm == m) = false := by simpa using Ne.symm em
      simp only [look,hne,cond_false] at hlm
      by_cases e0 : old = some m
      · exact (hne0 m e0).2
      · rw [hlook1 m e0] at hlm; exact H.low m o hlm hw
  · by_cases em : m = nm
    · subst em; rw [Fnm] at hx; exact hsz x hx
    · by_cases e0 : old = some m
      · rw [Fold m em e0] at hx; exact hx.elim
      · rw [Fne m em e0] at hx
        exact Nat.lt_of_lt_of_le (H.size m x (hbound m hm' em) hx) hsize
  · refine hsame x hx fun ho' => ?_
    obtain ⟨n0,e0,hs0,hx0⟩ := hown x ho'
    exact hno n0 (hne0 n0 e0).2 hs0 hx0
  · by_cases em : m = nm
    · subst em
      rw [Fnm] at hx
      rcases hF x hx with h1 | h1
      · obtain ⟨n0, e0, hs0, hx0⟩ := hown x h1
        exact .inr ⟨n0,hs0,hx0,fun _ => (hne0 n0 e0).2⟩
      · exact .inl h1
    · by_cases e0 : old = some m
      · rw [Fold m em e0] at hx; exact hx.elim
      · rw [Fne m em e0] at hx
        exact .inr ⟨m,hbound m hm' em,hx,id⟩
  · have em : m ≠ nm := fun e => hm' (e ▸ hni)
    have e0 : old ≠ some m := fun e => hm' (hne0 m e).2
    exact Fne m em e0
  · have hs : (ρ q).isSome := by rw [hb]; rfl
    have hFb := H.self hb
    have e0 : old ≠ some q := fun e => by
      obtain ⟨_,v0,hv⟩ := hlook0 q e
      rw [hv] at hb; cases hb
    exact cell_congr (hsame b (H.size q b hs hFb) (hnot q b hs e0 hFb)) _
theorem raw_store {P : Program} {b o e : Nat} : ∀ (xs : List Int) (i : Nat) (w : World) (p l r : List Value), w.heap[b]? = some (.cells (p ++ (l ++ r)).toArray e (0, 0)) → p.length = o + i → l.length = xs.length →
    ∃ w',(storeCells ⟨b,o,none⟩ (xs.map (Value.int .u64)) i).run P w = .ok () w' ∧ w'.heap[b]? = some (.cells (p ++ (xs.map (Value.int .u64) ++ r)).toArray e (0,0)) ∧ w'.heap.size = w.heap.size ∧ (∀ x,x ≠ b → w'.heap[x]? = w.heap[x]?) ∧ w'.os = w.os ∧ w'.tape = w.tape ∧ w'.output = w.output
  | [], i, w, p, l, r, hb, hp, hl => by
    obtain rfl : l = [] := List.length_eq_zero_iff.1 (by simpa using hl)
    exact ⟨w,rfl,hb,rfl,fun _ _ => rfl,rfl,rfl,rfl⟩
  | x :: xs,i,w,p, [],r,hb,hp,hl => by simp at hl
  | x :: xs, i, w, p, y :: l, r, hb, hp, hl => by
    have hb1 : (w.setCell ⟨b, o + i, none⟩ (.int .u64 x)).heap[b]? = some (.cells ((p ++ [Value.int .u64 x]) ++ (l ++ r)).toArray e (0, 0)) := by
      rw [heap_setCell_at hb]
      congr 2
      apply Array.ext'
      simp only [Array.toList_setIfInBounds,List.toList_toArray]
      rw [← hp,List.set_append_right _ _ (Nat.le_refl _),Nat.sub_self]
      simp
    obtain ⟨w',g1,g2,g3,g4,g5,g6,g7⟩ := raw_store (P := P) (o := o) xs (i + 1) _ (p ++ [Value.int .u64 x]) l r hb1 (by simp [hp]; omega) (by simpa using hl)
    refine ⟨w', ?_,by rw [g2]; simp,by rw [g3,size_setCell],fun k hk => (g4 k hk).trans (heap_setCell _ _ _ _ hk),g5,g6,g7⟩
    have hu : w.cell? ⟨b, o + i, none⟩ = some y := by
      rw [cell_of_block hb, ← hp,List.getElem?_toArray,List.getElem?_append_right (Nat.le_refl _),Nat.sub_self]
      rfl
    have hf := frozen_of_block hb (o + i)
    simp only [List.map_cons,storeCells,Sem.run_bind,addr_add,run_store P w _ (Value.int .u64 x) .plain rfl,hu,hf]
    simpa using g1
def u64s : List SC → Option IE
  | [] => some .nilL
  | .b (.int .u64 e) :: l => (u64s l).map (.consL e)
  | _ => none
theorem u64s_is {ρ : Rho} : ∀ {l : List SC} {vs : List Value} {L : IE}, u64s l = some L → All2 (SC.is ρ) l vs → vs = L.lst.map (Value.int .u64)
  | [], [],L,h,_ => by cases h; rfl
  | .b (.int .u64 e) :: l, v :: vs, L, h, ha => by
    simp only [u64s] at h
    obtain ⟨M,hM,rfl⟩ := Option.map_eq_some_iff.1 h
    have h1 : v = .int .u64 e.val := ha.1
    simp only [IE.lst,List.map_cons,h1,u64s_is hM ha.2]
  | [],_ :: _,_,_,ha => ha.elim
  | _ :: _, [],_,_,ha => ha.elim
def srcG (k : Nat) (y : SV) (h : Heap A) : Option (BE × IE × IE) :=
  match y with
  | .w (.one (.b (.ref n))) => (match look h n with
    | some (.mach (k' + 2) L) => if k' + 1 = k then some (.lit true,L,lenK k L) else none
    | some (.mach 1 _) => some (.lit true, .nilL, .lit 0)
    | _ => none)
  | .w (.one (.b .nils)) => some (.lit true, .nilL, .lit 0)
  | y => match sliceOf y with
    | some (ns, os, ls) => (match look h ns with
      | some (.cells _ l _) => (match os, ls with
        | .lit o, .lit n => if o.toNat + n.toNat * k ≤ l.length then (u64s ((l.drop o.toNat).take (n.toNat * k))).map fun L => (.lit true,L, .lit n) else none
        | _,_ => none)
      | some so => (match srcI so os ls k with
        | some (.u64,c,L) => some (c,L,ls)
        | _ => none)
      | none => none)
    | none => none
theorem srcG_ok {P : Program} {h : Heap A} {ρ : Rho} {F : Nat → Nat → Prop} {w : World} (H : HeapOk ρ F h w) {y : SV} {k : Nat} (hk : k ≠ 0) {c : BE} {L n : IE} (hs : srcG k y h = some (c, L, n)) (hc : c.val = true) {v : Value} (hy : y.is ρ v) :
    L.lst.length = n.val.toNat * k ∧ 0 ≤ (n.val.toNat : Int) ∧ ∃ a cp,v = .slice a n.val.toNat cp ∧ (Builtin.firstCells k n.val.toNat (.slice a n.val.toNat cp)).run P w = .ok (L.lst.map (Value.int .u64)).toArray w := by
  have none_run : ∀ cp,(Builtin.firstCells k 0 (.slice none 0 cp)).run P w = .ok (([] : List Int).map (Value.int .u64)).toArray w := fun cp => by simp [Builtin.firstCells]
  unfold srcG at hs
  split at hs
  · rename_i nn
    split at hs
    · rename_i k' L' hl
      split at hs
      · rename_i hkk
        subst hkk
        cases hs
        obtain ⟨a,len,cap,hr,rfl,h2,h3,h4⟩ := gref_of H (x := .w (.one (.b (.ref nn)))) rfl hl hk hy
        have hn : (lenK (k' + 1) L).val.toNat = len := by rw [len_of hk h2]; rfl
        rw [hn]
        refine ⟨h2.symm,Int.natCast_nonneg _,a,cap,rfl, ?_⟩
        cases a with
        | none =>
          have h0 : len = 0 := by
            rcases h4 with ⟨h4,_⟩ | ⟨b,e,pre,rest,h5,_⟩
            · omega
            · cases h5
          subst h0
          have hL : L.lst = [] := List.length_eq_zero_iff.1 (by rw [← h2,Nat.zero_mul])
          rw [hL]; exact none_run cap
        | some ad =>
          by_cases h0 : len = 0
          · subst h0
            have hL : L.lst = [] := List.length_eq_zero_iff.1 (by rw [← h2,Nat.zero_mul])
            rw [hL]
            simp [Builtin.firstCells,loadCells,loadCellsFrom]
          · rcases h4 with ⟨h4, _⟩ | ⟨b, e, pre, rest, h5, h6, _⟩
            · omega
            · cases h5
              have := loadCells_list (P := P) (w := w) (b := b) (o := pre.length) (vs := L.lst.map (Value.int .u64)) fun j u hu => by
                rw [List.getElem?_map] at hu
                obtain ⟨q,hq,rfl⟩ := Option.map_eq_some_iff.1 hu
                obtain ⟨hlt,rfl⟩ := List.getElem?_eq_some_iff.1 hq
                rw [cell_of_block h6,List.getElem?_toArray,List.getElem?_append_right (by omega),Nat.add_sub_cancel_left,List.getElem?_append_left (by simpa using hlt),List.getElem?_map,hq]
                rfl
              rw [List.length_map, ← h2] at this
              simpa [Builtin.firstCells] using this
      · cases hs
    · rename_i L' hl
      cases hs
      obtain ⟨r,hr,rfl⟩ := gval_is (x := .w (.one (.b (.ref nn)))) rfl hy
      obtain ⟨rfl,_,_⟩ := H.obj nn _ r hl hr
      refine ⟨by simp [IE.lst,IE.val],Int.natCast_nonneg _,none,0,rfl, ?_⟩
      exact none_run 0
    · cases hs
  · cases hs
    cases hy
    refine ⟨by simp [IE.lst,IE.val],Int.natCast_nonneg _,none,0,rfl, ?_⟩
    exact none_run 0
  · split at hs
    · rename_i ns os ls hsl
      split at hs
      · rename_i e l t hl
        split at hs
        · rename_i o nn
          split at hs
          · rename_i hle
            obtain ⟨L',hL',he⟩ := Option.map_eq_some_iff.1 hs
            cases he
            obtain ⟨a,cp,rfl,ha⟩ := sliceOf_is hsl hy
            obtain ⟨r,hr⟩ := H.rho_some hl
            have hlen : L.lst.length = nn.toNat * k := by
              obtain ⟨b,vs,hb,hblk,⟨us,rest,q1,q2,q3⟩,_⟩ := H.obj ns _ r hl hr
              have q4 := ((q3.drop o.toNat).take (nn.toNat * k))
              have q5 := u64s_is hL' q4
              have q6 := congrArg List.length q5
              rw [List.length_map] at q6
              have q7 := q3.length
              rw [List.length_take,List.length_drop] at q6
              omega
            refine ⟨hlen,Int.natCast_nonneg _,a,cp,rfl, ?_⟩
            show (Builtin.firstCells k nn.toNat (.slice a nn.toNat cp)).run P w = _
            rcases ha with h0 | ⟨b,hb,rfl⟩
            · have h0' : nn.toNat = 0 := h0
              have hL : L.lst = [] := List.length_eq_zero_iff.1 (by rw [hlen,h0',Nat.zero_mul])
              rw [hL,h0']
              cases a with
              | none => simp [Builtin.firstCells]
              | some a => simp [Builtin.firstCells,loadCells,loadCellsFrom]
            · rw [hb] at hr; cases hr
              obtain ⟨vs,v1,v2,v3⟩ := cells_at (H.obj ns _ _ hl hb) (o := o.toNat) (n := nn.toNat * k) hle
              have v4 := u64s_is hL' v2
              have := loadCells_list (P := P) v3
              rw [v1] at this
              rw [v4] at this
              simpa [Builtin.firstCells,IE.val] using this
          · cases hs
        · cases hs
      · rename_i so hso hlook
        split at hs
        · rename_i c' L' hsrc
          cases hs
          obtain ⟨g1,a,cp,rfl,g2⟩ := firstCells_I (P := P) H hsl hy hlook hsrc hc (Nat.le_refl _)
          exact ⟨g1,Int.natCast_nonneg _,a,cp,rfl,g2⟩
        · cases hs
      · cases hs
    · cases hs
def ontoG (k : Nat) (x : SV) (h : Heap A) : Option (Option Nat × IE) :=
  match x with
  | .w (.one (.b .nils)) => some (none, .nilL)
  | .w (.one (.b (.sl _ _ (.lit l) (.lit c)))) => if Nat.beq l.toNat 0 && Nat.beq c.toNat 0 then some (none, .nilL) else none
  | .w (.one (.b (.ref n))) => (match look h n with
    | some (.mach (k' + 2) L) => if k' + 1 = k then some (some n,L) else none
    | some (.mach 1 _) => some (none, .nilL)
    | _ => none)
  | _ => none
def killO (old : Option Nat) (h : Heap A) : Heap A := match old with
  | some n0 => put h n0 (.mach 0 .nilL)
  | none => h
def limG (by_ : Nat) : Nat := if Nat.ble by_ 24 then 8796093022208 else 1073741824
theorem limG_le (by_ : Nat) : limG by_ ≤ 8796093022208 := by
  unfold limG
  split <;> omega
theorem growBy_le (nl : Nat) : ∀ (r c : Nat), c ≤ nl + (nl + 768) / 4 → Builtin.growBy nl r c ≤ nl + (nl + 768) / 4
  | 0,c,h => h
  | r + 1, c, h => by
    unfold Builtin.growBy
    split
    · exact h
    · rename_i hc
      refine growBy_le nl r _ ?_
      have q : (c + 768) / 4 ≤ (nl + 768) / 4 := Nat.div_le_div_right (by omega)
      omega
theorem nextslicecap_le2 {need cap : Nat} (h : cap < need) : Builtin.nextslicecap need cap ≤ need + (need + 768) / 4 + 512 := by
  unfold Builtin.nextslicecap
  split
  · omega
  · split
    · omega
    · have := growBy_le need 4 cap (by omega)
      omega
theorem fit_limG {need cap by_ : Nat} (h : cap < need) (hl : need ≤ limG by_) (hb : by_ ≤ 65536) : Builtin.nextslicecap need cap * by_ ≤ 281474976710656 := by
  have q1 := nextslicecap_le2 h
  unfold limG at hl
  split at hl
  · rename_i h24
    have h24 := Nat.le_of_ble_eq_true h24
    have q2 : Builtin.nextslicecap need cap * by_ ≤ 11000000000000 * 24 := Nat.mul_le_mul (by omega) h24
    omega
  · have q2 : Builtin.nextslicecap need cap * by_ ≤ 2147483648 * 65536 := Nat.mul_le_mul (by omega) hb
    omega
def appendG (P : Program) (ts : Array TypeId) (x y : SV) (h : Heap A) (nm : Nat) : Tree (SV × Heap A) :=
  match ts.toList with
  | [t0, t1] =>
    match P.underlying t0,P.underlying t1 with
    | some (.slice e), some (.slice _) =>
      match sizeT P e,zeroT P e,bytesT P e with
      | some (sz + 1), some z, some by_ =>
        match ontoG (sz + 1) x h,srcG (sz + 1) y h with
        | some (old, L), some (c, M, n) =>
          if freeN h nm && (Nat.beq z.length (sz + 1) && Nat.ble by_ 65536) then
            mkBr c (mkBr (mkCmp .leq (.at_ (lenK (sz + 1) L) n 1 0) (.lit (limG by_)))
              (.leaf (.w (.one (.b (.ref nm))),(nm, .mach (sz + 2) (mkCat L M)) :: killO old h)) (.fail 320)) (.fail 320)
          else .fail 321
        | _,_ => .fail 322
      | _,_,_ => .fail 323
    | _,_ => .fail 324
  | _ => .fail 325
theorem zeroCells_len (z : Array Value) (n : Nat) : (Builtin.zeroCells z n).size = n * z.size := by simp [Builtin.zeroCells]
theorem grown_ge (w : World) (need old : Nat) (e : TypeId) : need ≤ grownCap w need old e := Nat.le_add_right _ _
theorem run_append_in {P : Program} {t0 t1 ty e e' : TypeId} {sz : Nat} (ht : P.underlying t0 = some (.slice e)) (ht1 : P.underlying t1 = some (.slice e')) (hsz : sizeT P e = some sz) {a : Option Addr} {b : Addr} {sLen sCap n c : Nat} {news : List Value} {w w' : World}
    (hln : (Builtin.firstCells sz n (.slice a n c)).run P w = .ok news.toArray w) (hg : sLen + n ≤ sCap) (hst : (storeCells (b.add (sLen * sz)) news 0).run P w = .ok () w') :
    (Builtin.append_ #[t0,t1] ty #[.slice (some b) sLen sCap, .slice a n c]).run P w = .ok (.slice (some b) (sLen + n) sCap) w' := by
  simp [Builtin.append_,run_underlying ht,run_underlying ht1,gives_sizeOf hsz w,Builtin.lenOf,hg,hln,hst]
theorem appendG_ok {P : Program} {prot : Prot} {ts : Array TypeId} {ty : TypeId} {x y : SV} {h : Heap A} {nm : Nat} {ρ : Rho} {F : Nat → Nat → Prop} {w : World} (H : HeapOk ρ F h w) {u v : Value} (hx : x.is ρ u) (hy : y.is ρ v) {K : SV × Heap A → Prop}
    (hK : (appendG P ts x y h nm).holds K) : Ran P prot ρ F w (Builtin.append_ ts ty #[u,v]) K := by
  unfold appendG at hK
  split at hK
  · rename_i t0 t1 hts
    obtain rfl : ts = #[t0,t1] := by cases ts; simp at hts; subst hts; rfl
    split at hK
    · rename_i e e' hu hu1
      split at hK
      · rename_i sz z by_ hsz hz hby
        split at hK
        · rename_i old L c M n hon hsrc
          split at hK
          · rename_i hst
            simp only [Bool.and_eq_true,Nat.beq_eq,Nat.ble_eq] at hst
            obtain ⟨hfn,hzl,hbl⟩ := hst
            obtain ⟨hnone,hni⟩ := freeN_spec hfn
            obtain ⟨c1,c2⟩ := mkBr_holds hK
            cases hc : c.val with
            | false => exact (c2 hc).elim
            | true =>
              obtain ⟨c3,c4⟩ := mkBr_holds (c1 hc)
              cases hlim : (mkCmp .leq (.at_ (lenK (sz + 1) L) n 1 0) (.lit (limG by_))).val with
              | false => exact (c4 hlim).elim
              | true =>
                have hK' := c3 hlim
                obtain ⟨s1,_,a,cp,rfl,s2⟩ := srcG_ok (P := P) H (by omega) hsrc hc hy
                obtain ⟨_,_,a',cp',hsame,s3⟩ := srcG_ok (P := P) (H.drawn (w.drawn + 1)) (by omega) hsrc hc hy
                cases hsame
                have main : ∃ base len cap, u = .slice base len cap ∧ len * (sz + 1) = L.lst.length ∧ len ≤ cap ∧
                    (∀ w0 : World,w0.heap = w.heap → (Builtin.firstCells (sz + 1) len (.slice base len cap)).run P w0 = .ok (L.lst.map (Value.int .u64)).toArray w0) ∧
                    ∃ own : Nat → Prop, (((old = none ∧ killO old h = h ∧ ∀ x, ¬ own x) ∨ ∃ n0 k0 L0 v0, old = some n0 ∧ look h n0 = some (.mach k0 L0) ∧ ρ n0 = some (.val v0) ∧ killO old h = put h n0 (.mach 0 .nilL) ∧ ∀ x, own x ↔ F n0 x)) ∧
                      ((cap = 0 ∧ ∀ x, ¬ own x) ∨ ∃ b e pre rest,base = some ⟨b,pre.length,none⟩ ∧ w.heap[b]? = some (.cells (pre ++ (L.lst.map (Value.int .u64) ++ rest)).toArray e (0,0)) ∧ cap * (sz + 1) ≤ L.lst.length + rest.length ∧ ∀ x,own x ↔ x = b) := by
                  unfold ontoG at hon
                  split at hon
                  · cases hon; cases hx
                    exact ⟨none,0,0,rfl,by simp [IE.lst],Nat.le_refl _,fun w0 _ => by simp [Builtin.firstCells,IE.lst],fun _ => False, .inl ⟨rfl,rfl,fun _ h => h⟩, .inl ⟨rfl,fun _ h => h⟩⟩
                  · rename_i nn oo l cc
                    split at hon
                    · rename_i hz0
                      simp only [Bool.and_eq_true,Nat.beq_eq] at hz0
                      cases hon
                      obtain ⟨b,_,rfl⟩ := hx
                      refine ⟨some ⟨b,oo.val.toNat,none⟩,0,0, ?_,by simp [IE.lst],Nat.le_refl _,fun w0 _ => by simp [Builtin.firstCells,IE.lst,loadCells,loadCellsFrom],fun _ => False, .inl ⟨rfl,rfl,fun _ h => h⟩, .inl ⟨rfl,fun _ h => h⟩⟩
                      show Value.slice _ l.toNat cc.toNat = _
                      rw [hz0.1,hz0.2]
                    · cases hon
                  · rename_i n0
                    split at hon
                    · rename_i k' L' hl
                      split at hon
                      · rename_i hkk
                        cases hon
                        obtain rfl : k' = sz := by omega
                        obtain ⟨base,len,cap,hr,rfl,h2,h3,h4⟩ := gref_of H (x := .w (.one (.b (.ref n0)))) rfl hl (by omega) hx
                        refine ⟨base,len,cap,rfl,h2,h3,fun w0 hw0 => ?_,F n0, .inr ⟨n0,_,_,_,rfl,hl,hr,rfl,fun _ => Iff.rfl⟩,h4⟩
                        have h0 : len = 0 → L.lst = [] := fun e => List.length_eq_zero_iff.1 (by rw [← h2,e,Nat.zero_mul])
                        rcases h4 with ⟨h4,_⟩ | ⟨b,e0,pre,rest,h5,h6,_⟩
                        · have e1 : len = 0 := by omega
                          rw [h0 e1,e1]
                          cases base with
                          | none => simp [Builtin.firstCells]
                          | some a => simp [Builtin.firstCells,loadCells,loadCellsFrom]
                        · cases h5
                          rw [← hw0] at h6
                          have := loadCells_list (P := P) (w := w0) (b := b) (o := pre.length) (vs := L.lst.map (Value.int .u64)) fun j u hu => by
                            rw [List.getElem?_map] at hu
                            obtain ⟨q,hq,rfl⟩ := Option.map_eq_some_iff.1 hu
                            obtain ⟨hlt,rfl⟩ := List.getElem?_eq_some_iff.1 hq
                            rw [cell_of_block h6,List.getElem?_toArray,List.getElem?_append_right (by omega),Nat.add_sub_cancel_left,List.getElem?_append_left (by simpa using hlt),List.getElem?_map,hq]
                            rfl
                          rw [List.length_map, ← h2] at this
                          simpa [Builtin.firstCells] using this
                      · cases hon
                    · rename_i L' hl
                      cases hon
                      obtain ⟨r,hr,rfl⟩ := gval_is (x := .w (.one (.b (.ref n0)))) rfl hx
                      obtain ⟨rfl,_,_⟩ := H.obj n0 _ r hl hr
                      exact ⟨none,0,0,rfl,by simp [IE.lst],Nat.le_refl _,fun w0 _ => by simp [Builtin.firstCells,IE.lst],fun _ => False, .inl ⟨rfl,rfl,fun _ h => h⟩, .inl ⟨rfl,fun _ h => h⟩⟩
                    · cases hon
                  · cases hon
                obtain ⟨base,len,cap,rfl,m1,m2,m3,own,m4,m5⟩ := main
                have hcat : (mkCat L M).lst = L.lst ++ M.lst := mkCat_lst L M
                have hlen' : (len + n.val.toNat) * (sz + 1) = (mkCat L M).lst.length := by rw [hcat,List.length_append,s1, ← m1,Nat.add_mul]
                have hneed : len + n.val.toNat ≤ limG by_ := by
                  simp only [mkCmp_val,cmpVal,IE.val,decide_eq_true_eq,len_of (Nat.succ_ne_zero sz) m1] at hlim
                  omega
                by_cases hroom : len + n.val.toNat ≤ cap
                · -- there is room
                  rcases m5 with ⟨m5,m6⟩ | ⟨b,e0,pre,rest,rfl,m6,m7,m8⟩
                  · -- nothing at all
                    have e1 : len = 0 := by omega
                    have e2 : n.val.toNat = 0 := by omega
                    have e3 : cap = 0 := m5
                    subst e3
                    have hL0 : (mkCat L M).lst = [] := List.length_eq_zero_iff.1 (by rw [← hlen',e1,e2,Nat.zero_mul])
                    obtain ⟨F', H', G⟩ := H.moveM (prot := prot.pr) (k := sz + 2) (L := mkCat L M) (v := .slice base (len + n.val.toNat) 0) (Fn := fun _ => False) (w' := w) m4 hnone hni (fun x hx => hx.elim)
                      (by show growOk _ _ _ _ _; exact ⟨base,_,0,rfl,hlen',by omega, .inl ⟨rfl,fun _ h => h⟩⟩) (fun _ _ _ => rfl) (Nat.le_refl _) rfl rfl rfl
                    refine ⟨_,_, .slice base (len + n.val.toNat) 0,_,F',w,hK',⟨_,upd_same _ _ _,rfl,trivial⟩, ?_,H',G⟩
                    have hrun := run_append0 (ty := ty) hu hu1 hsz (base := base) (a := a) (c := cp) (w := w)
                    rw [e1,e2]; exact hrun
                  · have hM : M.lst.length ≤ rest.length := by
                      have q1 := Nat.mul_le_mul_right (sz + 1) hroom
                      rw [hlen',hcat,List.length_append] at q1
                      omega
                    obtain ⟨w', g1, g2, g3, g4, g5, g6, g7⟩ := raw_store (P := P) (b := b) (o := pre.length + len * (sz + 1)) (e := e0) M.lst 0 w (pre ++ L.lst.map (Value.int .u64)) (rest.take M.lst.length) (rest.drop M.lst.length)
                      (by rw [m6]; simp) (by simp [m1]) (by simp; omega)
                    obtain ⟨F', H', G⟩ := H.moveM (prot := prot.pr) (k := sz + 2) (L := mkCat L M) (v := .slice (some ⟨b, pre.length, none⟩) (len + n.val.toNat) cap) (Fn := fun x => x = b) (w' := w') m4 hnone hni (fun x hx => .inl ((m8 x).2 hx))
                      (by
                        show growOk _ _ _ _ _
                        refine ⟨_,_,cap,rfl,hlen',hroom, .inr ⟨b,e0,pre,rest.drop M.lst.length,rfl, ?_, ?_,fun x => Iff.rfl⟩⟩
                        · rw [g2,hcat]; simp
                        · rw [hcat,List.length_append,List.length_drop]; omega)
                      (fun x _ hx => g4 x (fun e => hx ((m8 x).2 e))) (by rw [g3]; exact Nat.le_refl _) g5 g6 g7
                    refine ⟨_,_, .slice (some ⟨b,pre.length,none⟩) (len + n.val.toNat) cap,_,F',w',hK',⟨_,upd_same _ _ _,rfl,trivial⟩, ?_,H',G⟩
                    exact run_append_in hu hu1 hsz s2 hroom (by rw [addr_add]; exact g1)
                · -- a new block
                  unfold bytesT at hby
                  obtain ⟨i,hi,rfl⟩ := Option.map_eq_some_iff.1 hby
                  unfold zeroT at hz
                  rw [hi] at hz
                  simp only at hz
                  split at hz
                  · rename_i zv hzv
                    have hzs : zv.cells.size = sz + 1 := by
                      have := (litSCs_is (ρ := ρ) hz).length
                      rw [hzl] at this
                      simpa using this.symm
                    have hsi : i.size = sz + 1 := by unfold sizeT at hsz; rw [hi] at hsz; simpa using hsz
                    have hcaplt : cap < len + n.val.toNat := by omega
                    have hfit : Builtin.nextslicecap (len + n.val.toNat) cap * i.bytes ≤ 281474976710656 := fit_limG hcaplt hneed hbl
                    have hrun := run_append (ty := ty) hu hu1 hi hzv hsi (olds := L.lst.map (Value.int .u64)) (news := M.lst.map (Value.int .u64)) (sLen := len) (sCap := cap) (n := n.val.toNat) (m3 w.drew rfl) s3 hcaplt (by have q := limG_le i.bytes; omega) hfit
                    have hge := grown_ge w (len + n.val.toNat) cap e
                    have hob : ((L.lst.map (Value.int .u64)).toArray ++ (M.lst.map (Value.int .u64)).toArray ++ Builtin.zeroCells zv.cells (grownCap w (len + n.val.toNat) cap e - (len + n.val.toNat))) = (([] : List Value) ++ ((mkCat L M).lst.map (Value.int .u64) ++ (Builtin.zeroCells zv.cells (grownCap w (len + n.val.toNat) cap e - (len + n.val.toNat))).toList)).toArray := by
                      apply Array.ext'; simp [hcat]
                    rw [hob] at hrun
                    obtain ⟨F', H', G⟩ := H.moveM (prot := prot.pr) (k := sz + 2) (L := mkCat L M) (v := .slice (some ⟨w.heap.size, 0, none⟩) (len + n.val.toNat) (grownCap w (len + n.val.toNat) cap e)) (Fn := fun x => x = w.heap.size)
                      (w' := w.drew.alloc (.cells (([] : List Value) ++ ((mkCat L M).lst.map (Value.int .u64) ++ (Builtin.zeroCells zv.cells (grownCap w (len + n.val.toNat) cap e - (len + n.val.toNat))).toList)).toArray e)) m4 hnone hni (fun x hx => .inr (by rw [hx]; exact Nat.le_refl _))
                      (by
                        show growOk _ _ _ _ _
                        refine ⟨_,_,_,rfl,hlen',hge, .inr ⟨w.heap.size,e,([] : List Value),(Builtin.zeroCells zv.cells (grownCap w (len + n.val.toNat) cap e - (len + n.val.toNat))).toList,rfl, ?_, ?_,fun x => Iff.rfl⟩⟩
                        · show (w.heap.push _)[w.heap.size]? = _
                          rw [Array.getElem?_push,if_pos rfl]
                        · have hzc : (Builtin.zeroCells zv.cells (grownCap w (len + n.val.toNat) cap e - (len + n.val.toNat))).toList.length = (grownCap w (len + n.val.toNat) cap e - (len + n.val.toNat)) * (sz + 1) := by rw [Array.length_toList, zeroCells_len, hzs]
                          rw [hzc, ← hlen', ← Nat.add_mul]
                          exact Nat.mul_le_mul_right _ (by omega))
                      (fun x hx _ => by show (w.heap.push _)[x]? = _; rw [Array.getElem?_push,if_neg (by omega)]) (by show _ ≤ (w.heap.push _).size; rw [Array.size_push]; omega) rfl rfl rfl
                    exact ⟨_,_, .slice (some ⟨w.heap.size,0,none⟩) (len + n.val.toNat) (grownCap w (len + n.val.toNat) cap e),_,F',_,hK',⟨_,upd_same _ _ _,rfl,trivial⟩,hrun,H',G⟩
                  · cases hz
          · exact hK.elim
        · exact hK.elim
      · exact hK.elim
    · exact hK.elim
  · exact hK.elim
def litZ : Option SV → Bool
  | some (.w (.one (.b (.int _ (.lit 0))))) => true
  | _ => false
def okG (x : SV) (h : Heap A) : Bool := match x with
  | .w (.one (.b (.ref n))) => (match look h n with
    | some (.mach (_ + 2) _) => true
    | some (.mach 1 _) => true
    | _ => false)
  | .w (.one (.b .nils)) => true
  | .w (.one (.b (.sl _ _ _ _))) => true
  | .w (.one (.b (.isl _ _ _))) => true
  | _ => false
theorem okG_is {ρ : Rho} {F : Nat → Nat → Prop} {h : Heap A} {w : World} (H : HeapOk ρ F h w) {x : SV} (ho : okG x h = true) {v : Value} (hx : x.is ρ v) : ∃ a len cap, v = .slice a len cap := by
  unfold okG at ho
  split at ho
  · rename_i n
    split at ho
    · rename_i k L hl
      obtain ⟨a,len,cap,_,e0,_⟩ := gref_of H (x := .w (.one (.b (.ref n)))) rfl hl (by omega) hx
      exact ⟨a,len,cap,e0⟩
    · rename_i L hl
      obtain ⟨r,hr,rfl⟩ := gval_is (x := .w (.one (.b (.ref n)))) rfl hx
      obtain ⟨rfl,_,_⟩ := H.obj n _ r hl hr
      exact ⟨none,0,0,rfl⟩
    · cases ho
  · exact ⟨none,0,0,hx⟩
  · obtain ⟨b,_,e0⟩ := hx; exact ⟨_,_,_,e0⟩
  · obtain ⟨a,c,e0,_⟩ := hx; exact ⟨_,_,_,e0⟩
  · cases ho
def emptyG (P : Program) (t : TypeId) (x : SV) (h : Heap A) (nm : Nat) : Tree (SV × Heap A) :=
  match P.underlying t with
  | some (.slice e) => (match sizeT P e with
    | some (k + 1) => if freeN h nm && okG x h then .leaf (.w (.one (.b (.ref nm))),(nm, .mach (k + 2) .nilL) :: h) else .fail 330
    | _ => .fail 332)
  | _ => .fail 333
theorem litZ_is {ρ : Rho} {x : Option SV} (h : litZ x = true) {v : Option Value} (hx : OptIs ρ x v) : ∃ k, v = some (.int k 0) := by
  unfold litZ at h
  split at h
  · cases v with
    | none => exact hx.elim
    | some u => exact ⟨_,congrArg some hx⟩
  · cases h
theorem emptyG_ok {P : Program} {prot : Prot} {t : TypeId} {x : SV} {hi mx : Option SV} {h : Heap A} {nm : Nat} {ρ : Rho} {F : Nat → Nat → Prop} {w : World} (H : HeapOk ρ F h w) {v : Value} {h' m' : Option Value} (hx : x.is ρ v)
    (hhi : litZ hi = true) (hmx : litZ mx = true) (hh : OptIs ρ hi h') (hm : OptIs ρ mx m') {K : SV × Heap A → Prop}
    (hK : (emptyG P t x h nm).holds K) : Ran P prot ρ F w (Instr.sliceAt t v none h' m') K := by
  obtain ⟨k1,rfl⟩ := litZ_is hhi hh
  obtain ⟨k2,rfl⟩ := litZ_is hmx hm
  unfold emptyG at hK
  split at hK
  · rename_i e hu
    split at hK
    · rename_i k hsz
      have run : ∀ a len cap, (Instr.sliceAt t (.slice a len cap) none (some (.int k1 0)) (some (.int k2 0))).run P w = .ok (.slice (if 0 = 0 then a else a.map (·.add (0 * (k + 1)))) (0 - 0) (0 - 0)) w := fun a len cap => by
        simp [Instr.sliceAt,Instr.slice,Instr.sliceBounds,Instr.sliceBound,asIntOf,gives_underlying hu w,gives_sizeOf hsz w]
      split at hK
      · rename_i hf
        simp only [Bool.and_eq_true] at hf
        obtain ⟨hnone,hni⟩ := freeN_spec hf.1
        obtain ⟨a,len,cap,rfl⟩ := okG_is H hf.2 hx
        obtain ⟨F', H', G⟩ := H.moveM (prot := prot.pr) (old := none) (own := fun _ => False) (h1 := h) (k := k + 2) (L := .nilL) (v := .slice a 0 0) (Fn := fun _ => False) (w' := w) (.inl ⟨rfl, rfl, fun _ h => h⟩) hnone hni (fun x hx => hx.elim)
          (by show growOk _ _ _ _ _; exact ⟨a,0,0,rfl,by simp [IE.lst],Nat.le_refl _, .inl ⟨rfl,fun _ h => h⟩⟩) (fun _ _ _ => rfl) (Nat.le_refl _) rfl rfl rfl
        exact ⟨_,_, .slice a 0 0,_,F',w,hK,⟨_,upd_same _ _ _,rfl,trivial⟩,run a len cap,H',G⟩
      · exact hK.elim
    · exact hK.elim
  · exact hK.elim
def restG (P : Program) (t : TypeId) (x lo : SV) (h : Heap A) (nm : Nat) : Tree (SV × Heap A) :=
  match P.underlying t,gval x,asI lo with
  | some (.slice e), some n, some (_, j) => (match look h n, sizeT P e with
    | some (.mach (k + 2) L), some sz => if sz = k + 1 then
        (if freeN h nm then
          mkBr (mkCmp .geq j (.lit 0)) (mkBr (mkCmp .leq j (lenK (k + 1) L)) (.leaf (.w (.one (.b (.ref nm))),(nm, .mach (k + 2) (dropK (k + 1) L j)) :: put h n (.mach 0 .nilL))) (.fail 334)) (.fail 334)
        else .fail 335)
      else .fail 336
    | _,_ => .fail 337)
  | _,_,_ => .fail 338
theorem restG_ok {P : Program} {prot : Prot} {t : TypeId} {x lo : SV} {h : Heap A} {nm : Nat} {ρ : Rho} {F : Nat → Nat → Prop} {w : World} (H : HeapOk ρ F h w) {v l' : Value} (hx : x.is ρ v) (hlo : lo.is ρ l') {K : SV × Heap A → Prop}
    (hK : (restG P t x lo h nm).holds K) : Ran P prot ρ F w (Instr.sliceAt t v (some l') none none) K := by
  unfold restG at hK
  split at hK
  · rename_i e n ki j hu hg hj
    obtain rfl := asI_is hj hlo
    split at hK
    · rename_i k L sz hl hsz
      split at hK
      · rename_i hk
        subst hk
        split at hK
        · rename_i hf
          obtain ⟨hnone,hni⟩ := freeN_spec hf
          obtain ⟨a,len,cap,hr,rfl,h2,h3,h4⟩ := gref_of H hg hl (by omega) hx
          obtain ⟨q1,q2⟩ := mkBr_holds hK
          simp only [mkCmp_val,cmpVal,IE.val] at q1 q2
          by_cases hj0 : j.val ≥ 0
          · obtain ⟨q3, q4⟩ := mkBr_holds (q1 (by simpa using hj0))
            simp only [mkCmp_val,cmpVal,len_of (Nat.succ_ne_zero k) h2] at q3 q4
            by_cases hj1 : j.val ≤ (len : Int)
            · have hK' := q3 (decide_eq_true hj1)
              have hjn : j.val.toNat ≤ len := by omega
              have hdl : (dropK (k + 1) L j).lst = L.lst.drop (j.val.toNat * (k + 1)) := dropK_lst (by omega) (by rw [← h2,Nat.mul_div_cancel _ (by omega)])
              have hlen' : (len - j.val.toNat) * (k + 1) = (dropK (k + 1) L j).lst.length := by rw [hdl,List.length_drop,Nat.sub_mul,h2]
              have run : (Instr.sliceAt t (.slice a len cap) (some (.int ki j.val)) none none).run P w = .ok (.slice (if cap = j.val.toNat then a else a.map (·.add (j.val.toNat * (k + 1)))) (len - j.val.toNat) (cap - j.val.toNat)) w := by
                have hc : 0 ≤ j.val ∧ j.val ≤ (len : Int) := ⟨hj0,hj1⟩
                simp [Instr.sliceAt,Instr.slice,Instr.sliceBounds,Instr.sliceBound,asIntOf,gives_underlying hu w,gives_sizeOf hsz w,hc]
              have hold := (show ((some n = none ∧ put h n (.mach 0 .nilL) = h ∧ ∀ x, ¬ F n x) ∨ ∃ n0 k0 L0 v0,some n = some n0 ∧ look h n0 = some (.mach k0 L0) ∧ ρ n0 = some (.val v0) ∧ put h n (.mach 0 .nilL) = put h n0 (.mach 0 .nilL) ∧ ∀ x,F n x ↔ F n0 x) from .inr ⟨n,_,_,_,rfl,hl,hr,rfl,fun _ => Iff.rfl⟩)
              rcases h4 with ⟨h4,h5⟩ | ⟨b,e0,pre,rest,rfl,h6,h7,h8⟩
              · have e1 : j.val.toNat = 0 := by omega
                obtain ⟨F', H', G⟩ := H.moveM (prot := prot.pr) (k := k + 2) (L := dropK (k + 1) L j) (v := .slice (if cap = j.val.toNat then a else a.map (·.add (j.val.toNat * (k + 1)))) (len - j.val.toNat) (cap - j.val.toNat)) (Fn := fun _ => False) (w' := w) hold hnone hni (fun x hx => hx.elim)
                  (by show growOk _ _ _ _ _; exact ⟨_,_,_,rfl,hlen',by omega, .inl ⟨by omega,fun _ h => h⟩⟩) (fun _ _ _ => rfl) (Nat.le_refl _) rfl rfl rfl
                exact ⟨_,_, .slice (if cap = j.val.toNat then a else a.map (·.add (j.val.toNat * (k + 1)))) (len - j.val.toNat) (cap - j.val.toNat),_,F',w,hK',⟨_,upd_same _ _ _,rfl,trivial⟩,run,H',G⟩
              · by_cases hcap : cap = j.val.toNat
                · obtain ⟨F', H', G⟩ := H.moveM (prot := prot.pr) (k := k + 2) (L := dropK (k + 1) L j) (v := .slice (if cap = j.val.toNat then some ⟨b, pre.length, none⟩ else (some (⟨b, pre.length, none⟩ : Addr)).map (·.add (j.val.toNat * (k + 1)))) (len - j.val.toNat) (cap - j.val.toNat)) (Fn := fun _ => False) (w' := w) hold hnone hni (fun x hx => hx.elim)
                    (by show growOk _ _ _ _ _; exact ⟨_,_,_,rfl,hlen',by omega, .inl ⟨by omega,fun _ h => h⟩⟩) (fun _ _ _ => rfl) (Nat.le_refl _) rfl rfl rfl
                  exact ⟨_,_, .slice (if cap = j.val.toNat then some ⟨b,pre.length,none⟩ else (some (⟨b,pre.length,none⟩ : Addr)).map (·.add (j.val.toNat * (k + 1)))) (len - j.val.toNat) (cap - j.val.toNat),_,F',w,hK',⟨_,upd_same _ _ _,rfl,trivial⟩,run,H',G⟩
                · rw [if_neg hcap] at run
                  have hdd : j.val.toNat * (k + 1) ≤ L.lst.length := by rw [← h2]; exact Nat.mul_le_mul_right _ hjn
                  obtain ⟨F', H', G⟩ := H.moveM (prot := prot.pr) (k := k + 2) (L := dropK (k + 1) L j) (v := .slice (some ⟨b, pre.length + j.val.toNat * (k + 1), none⟩) (len - j.val.toNat) (cap - j.val.toNat)) (Fn := fun x => x = b) (w' := w) hold hnone hni (fun x hx => .inl ((h8 x).2 hx))
                    (by
                      show growOk _ _ _ _ _
                      refine ⟨_,_,_,rfl,hlen',by omega, .inr ⟨b,e0,pre ++ (L.lst.take (j.val.toNat * (k + 1))).map (Value.int .u64),rest, ?_, ?_, ?_,fun _ => Iff.rfl⟩⟩
                      · rw [List.length_append,List.length_map,List.length_take,Nat.min_eq_left hdd]
                      · rw [h6, hdl]
                        congr 2
                        apply Array.ext'
                        simp only [List.toList_toArray,List.append_assoc]
                        congr 1
                        rw [← List.append_assoc, ← List.map_append,List.take_append_drop]
                      · have h7' : cap * (k + 1) ≤ L.lst.length + rest.length := h7
                        rw [hdl,List.length_drop,Nat.sub_mul]; omega)
                    (fun _ _ _ => rfl) (Nat.le_refl _) rfl rfl rfl
                  refine ⟨_,_, .slice (some ⟨b,pre.length + j.val.toNat * (k + 1),none⟩) (len - j.val.toNat) (cap - j.val.toNat),_,F',w,hK',⟨_,upd_same _ _ _,rfl,trivial⟩, ?_,H',G⟩
                  rw [run]; simp [addr_add]
            · exact (q4 (decide_eq_false hj1)).elim
          · exact (q2 (by simpa using hj0)).elim
        · exact hK.elim
      · exact hK.elim
    · exact hK.elim
  · exact hK.elim
def nilG (h : Heap A) (nm : Nat) : Tree (SV × Heap A) := if freeN h nm then .leaf (.w (.one (.b (.ref nm))),(nm, .mach 1 .nilL) :: h) else .fail 340
theorem nilG_ok {prot : Prot} {h : Heap A} {nm : Nat} {ρ : Rho} {F : Nat → Nat → Prop} {w : World} (H : HeapOk ρ F h w) {K : SV × Heap A → Prop} (hK : (nilG h nm).holds K) :
    ∃ s h' ρ' F',K (s,h') ∧ s.is ρ' (.slice none 0 0) ∧ HeapOk ρ' F' h' w ∧ Goes prot.pr ρ F w ρ' F' w := by
  unfold nilG at hK
  split at hK
  · rename_i hf
    obtain ⟨hnone,hni⟩ := freeN_spec hf
    obtain ⟨F', H', G⟩ := H.moveM (prot := prot.pr) (old := none) (own := fun _ => False) (h1 := h) (k := 1) (L := .nilL) (v := .slice none 0 0) (Fn := fun _ => False) (w' := w) (.inl ⟨rfl, rfl, fun _ h => h⟩) hnone hni (fun x hx => hx.elim)
      ⟨rfl,rfl,fun _ h => h⟩ (fun _ _ _ => rfl) (Nat.le_refl _) rfl rfl rfl
    exact ⟨_,_,_,F',hK,⟨_,upd_same _ _ _,rfl,trivial⟩,H',G⟩
  · exact hK.elim
def effG (P : Program) : Extra A := fun op l prot h nm =>
  match op with
  | .call { callee := .builtin .append, args, argTypes } =>
    (match evArgs l args with
    | [x,y] => some (appendG P argTypes x y h nm)
    | _ => none)
  | .slice t x none hi mx => if litZ (hi.map (ev l)) && litZ (mx.map (ev l)) then some (emptyG P t (ev l x) h nm) else none
  | .slice t x (some lo) none none => if refV (ev l x) then some (restG P t (ev l x) (ev l lo) h nm) else none
  | .assign x => if isNilS (ev l x) then some (nilG h nm) else none
  | .move x => if isNilS (ev l x) then some (nilG h nm) else none
  | _ => none
theorem isNilS_is {ρ : Rho} {x : SV} (h : isNilS x = true) {v : Value} (hx : x.is ρ v) : v = .slice none 0 0 := by
  unfold isNilS at h
  split at h
  · exact hx
  · cases h
def growS (P : Program) : Extra A := fun op l prot h nm =>
  match readG P op l h with
  | some t => some t
  | none => effG P op l prot h nm
def extraG (P : Program) : Extra A := fun op l prot h nm => match growS P op l prot h nm with
  | some t => some t
  | none => extraS P op l prot h nm
theorem effG_ok (P : Program) : ExtraOk P (effG (A := A) P) := by
  intro o l prot h nm t ρ but F a w K ht H hT hb hK
  obtain ⟨dst,op,type,pos,after,guard⟩ := o
  simp only at ht hb
  unfold effG at ht
  split at ht
  · rename_i args ts
    have hargs := evArgs_is hT args fun x hx => hb x (by simp [Op.operands,Call.operands,hx])
    split at ht
    · rename_i x y hxy
      cases ht
      rw [hxy] at hargs
      obtain ⟨u,v,huv,hx,hy⟩ := two_of hargs
      obtain ⟨s,h',v', ρ',F',w',k1,k2,k3,k4,k5⟩ := appendG_ok (ty := type) (prot := prot) H hx hy hK
      refine ⟨s,h',v', ρ',F',w',k1,k2, ?_,k4,k5⟩
      simp only [execOp,resolve,Sem.run_bind,Sem.run_pure,Result.andThen_ok,Go.invoke,Go.builtin,huv,k3]
    · cases ht
  · rename_i t0 x hi mx
    split at ht
    · rename_i hz
      cases ht
      simp only [Bool.and_eq_true] at hz
      have hx := ev_is hT x (hb x (by simp [Op.operands]))
      have hh := optOp_is hT hi (fun y hy => hb y (by simp [Op.operands,hy]))
      have hm := optOp_is hT mx (fun y hy => hb y (by simp [Op.operands,hy]))
      obtain ⟨s,h',v', ρ',F',w',k1,k2,k3,k4,k5⟩ := emptyG_ok (prot := prot) H hx hz.1 hz.2 hh hm hK
      refine ⟨s,h',v', ρ',F',w',k1,k2, ?_,k4,k5⟩
      simp only [execOp,Sem.run_bind,Sem.run_pure,Result.andThen_ok,Option.map_none,k3]
    · cases ht
  · rename_i t0 x lo
    split at ht
    · cases ht
      have hx := ev_is hT x (hb x (by simp [Op.operands]))
      have hl := ev_is hT lo (hb lo (by simp [Op.operands]))
      obtain ⟨s,h',v', ρ',F',w',k1,k2,k3,k4,k5⟩ := restG_ok (prot := prot) H hx hl hK
      refine ⟨s,h',v', ρ',F',w',k1,k2, ?_,k4,k5⟩
      simp only [execOp,Sem.run_bind,Sem.run_pure,Result.andThen_ok,Option.map_none,Option.map_some,k3]
    · cases ht
  · rename_i x
    split at ht
    · rename_i hz
      cases ht
      have hx := ev_is hT x (hb x (by simp [Op.operands]))
      have hv := isNilS_is hz hx
      obtain ⟨s,h', ρ',F',k1,k2,k4,k5⟩ := nilG_ok (prot := prot) H hK
      refine ⟨s,h',_, ρ',F',w,k1,k2, ?_,k4,k5⟩
      rw [← hv]; rfl
    · cases ht
  · rename_i x
    split at ht
    · rename_i hz
      cases ht
      have hx := ev_is hT x (hb x (by simp [Op.operands]))
      have hv := isNilS_is hz hx
      obtain ⟨s,h', ρ',F',k1,k2,k4,k5⟩ := nilG_ok (prot := prot) H hK
      refine ⟨s,h',_, ρ',F',w,k1,k2, ?_,k4,k5⟩
      rw [← hv]; rfl
    · cases ht
  · cases ht
theorem growS_ok (P : Program) : ExtraOk P (growS (A := A) P) := by
  intro o l prot h nm t ρ but F a w K ht H hT hb hK
  unfold growS at ht
  split at ht
  · rename_i t' ht'
    cases ht
    obtain ⟨s,v,k1,k2,k3⟩ := readG_ok (S := fun w' => w' = w) ht' (H.grows (fun _ => True)) trivial (fun _ w' hw' => by subst hw'; exact H.grows _) hT hb hK
    exact ⟨s,h,v, ρ,F,w,k1,k2,k3 w rfl,H,Goes.refl _ _ _ _⟩
  · exact effG_ok P o l prot h nm t ρ but F a w K ht H hT hb hK
theorem extraG_ok (P : Program) : ExtraOk P (extraG (A := A) P) := by
  intro o l prot h nm t ρ but F a w K ht H hT hb hK
  unfold extraG at ht
  split at ht
  · rename_i t' ht'
    cases ht
    exact growS_ok P o l prot h nm t ρ but F a w K ht' H hT hb hK
  · exact extraS_ok P o l prot h nm t ρ but F a w K ht H hT hb hK
end
end Go.Proofs.Ytafemlljemhkhaa.Sx
