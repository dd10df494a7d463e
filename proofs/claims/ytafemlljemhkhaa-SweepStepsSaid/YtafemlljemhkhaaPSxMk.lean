import Derived.Test.YtafemlljemhkhaaPSxLay
namespace Go.Proofs.Ytafemlljemhkhaa.Sx
open Go
set_option linter.unusedVariables false
def growOk (sz : Nat) (l : List Int) (r : RV) (F : Nat → Prop) (w : World) : Prop :=
  ∃ a len cap, r = .val (.slice a len cap) ∧ len * sz = l.length ∧ len ≤ cap ∧
    ((cap = 0 ∧ ∀ x, ¬ F x) ∨ ∃ b e pre rest,a = some ⟨b,pre.length,none⟩ ∧ w.heap[b]? = some (.cells (pre ++ (l.map (Value.int .u64) ++ rest)).toArray e (0,0)) ∧ cap * sz ≤ l.length + rest.length ∧ ∀ x,F x ↔ x = b)
abbrev MachT := Nat → List Int → RV → (Nat → Prop) → World → Prop
def MachB (C : MachT) : MachT
  | 0, [],r,F,_ => (∃ v,r = .val v) ∧ ∀ x, ¬ F x
  | 0,K :: l,r,F,w => C K.toNat l r F w
  | 1,l,r,F,w => r = .val (.slice none 0 0) ∧ l = [] ∧ ∀ x, ¬ F x
  | k + 2,l,r,F,w => growOk (k + 1) l r F w
def SO.okM (E : Env) (M : MachT) (ρ : Rho) (r : RV) (F : Nat → Prop) (w : World) : SO Empty → Prop
  | .cells e l t => ∃ b vs,r = .blk b ∧ w.heap[b]? = some (.cells vs e (0,0)) ∧ (∃ us rest,vs.toList = us ++ rest ∧ rest.length = t ∧ All2 (@SC.is E ρ) l us) ∧ ∀ x,F x ↔ x = b
  | .row k e l => (@IE.lst E l = [] ∧ r = .val .nilFunc ∧ ∀ x, ¬ F x) ∨ ∃ b rest,r = .blk b ∧ w.heap[b]? = some (.cells ((@IE.lst E l).map (Value.int k) ++ rest).toArray e (0,0)) ∧ ∀ x,F x ↔ x = b
  | .abs a => a.elim
  | .tab _ _ _ _ => False
  | .mach k l => M k (@IE.lst E l) r F w
def look0 : List (Nat × SO Empty) → Nat → Option (SO Empty)
  | [],_ => none
  | (m,o) :: h,n => bif m == n then some o else look0 h n
structure HeapM (E : Env) (M : MachT) (ρ : Rho) (F : Nat → Nat → Prop) (h : List (Nat × SO Empty)) (w : World) : Prop where
  dom : ∀ n,(look0 h n).isSome = (ρ n).isSome
  obj : ∀ n o r,look0 h n = some o → ρ n = some r → o.okM E M ρ r (F n) w
  disj : ∀ n m x,n ≠ m → (ρ n).isSome → (ρ m).isSome → F n x → ¬ F m x
def machComp (M : MachT) (shs : List MShape) (l : List Int) (r : RV) (F : Nat → Prop) (w : World) : Prop :=
  ∃ sh ∈ shs, ∃ (E : Env) (ρ : Rho) (G : Nat → Nat → Prop), @IE.lst E sh.row = l ∧ (∀ b ∈ sh.inv, @BE.val E b = true) ∧ ρ sh.main = some r ∧ HeapM E M ρ G sh.hp w ∧ ∀ x,F x ↔ ∃ n,(ρ n).isSome ∧ G n x
def Comp : Nat → MachT
  | 0 => fun K l r F w => (900 < K ∧ K < 1000) ∧ growOk (K - 900) l r F w ∧ ∃ a len cap,r = .val (.slice (some a) len cap)
  | n + 1 => fun K l r F w => if K < 1000 * (n + 1) then Comp n K l r F w else K < 1000 * (n + 2) ∧ machComp (MachB (Comp n)) (shapes K) l r F w
def CompOk : MachT := fun K => Comp (K / 1000) K
def MachOk : MachT := MachB CompOk
theorem MachOk.nil {k : Nat} {l : List Int} {r : RV} {F : Nat → Prop} {w : World} (h : MachOk 1 l r F w) : MachOk (k + 2) l r F w :=
  ⟨none,0,0,h.1,by rw [h.2.1]; simp,Nat.le_refl _, .inl ⟨rfl,h.2.2⟩⟩
theorem MachOk.conv {k k' : Nat} {l : List Int} {r : RV} {F : Nat → Prop} {w : World} (h : Nat.beq k k' = true ∨ (Nat.beq k' 1 = true ∧ Nat.ble 2 k = true)) (hx : MachOk k' l r F w) : MachOk k l r F w := by
  rcases h with h | ⟨h1,h2⟩
  · rw [Nat.eq_of_beq_eq_true h]; exact hx
  · obtain rfl := Nat.eq_of_beq_eq_true h1
    obtain ⟨q,rfl⟩ : ∃ q,k = q + 2 := ⟨k - 2,by have := Nat.le_of_ble_eq_true h2; omega⟩
    exact MachOk.nil hx
structure MachGood (M : MachT) : Prop where
  frame : ∀ {k l r F w w'},M k l r F w → w.heap.size ≤ w'.heap.size → (∀ x,F x → w'.heap[x]? = w.heap[x]?) → M k l r F w'
  self : ∀ {k l b F w},M k l (.blk b) F w → F b
  size : ∀ {k l r F w},M k l r F w → ∀ x,F x → x < w.heap.size
theorem growOk.frame {sz : Nat} {l : List Int} {r : RV} {F : Nat → Prop} {w w' : World} (h : growOk sz l r F w) (hw : ∀ x, F x → w'.heap[x]? = w.heap[x]?) : growOk sz l r F w' := by
  obtain ⟨a,len,cap,h1,h2,h3,h4⟩ := h
  refine ⟨a,len,cap,h1,h2,h3, ?_⟩
  rcases h4 with h4 | ⟨b,e,pre,rest,g1,g2,g3,g4⟩
  · exact .inl h4
  · exact .inr ⟨b,e,pre,rest,g1,(hw b ((g4 b).2 rfl)).trans g2,g3,g4⟩
theorem growOk.size {sz : Nat} {l : List Int} {r : RV} {F : Nat → Prop} {w : World} (h : growOk sz l r F w) : ∀ x, F x → x < w.heap.size := by
  intro x hx
  obtain ⟨a,len,cap,h1,h2,h3,h4⟩ := h
  rcases h4 with h4 | ⟨b,e,pre,rest,g1,g2,g3,g4⟩
  · exact (h4.2 x hx).elim
  · rw [(g4 x).1 hx]; exact (Array.getElem?_eq_some_iff.1 g2).1
theorem MachB.good {C : MachT} (hC : MachGood C) : MachGood (MachB C) := by
  refine ⟨fun {k l r F w w'} h hs hw => ?_,fun {k l b F w} h => ?_,fun {k l r F w} h x hx => ?_⟩
  · match k, l, h with
    | 0, [],h => exact h
    | 0,K :: l,h => exact hC.frame h hs hw
    | 1,l,h => exact h
    | k + 2, l, h =>
      obtain ⟨a,len,cap,h1,h2,h3,h4⟩ := h
      refine ⟨a,len,cap,h1,h2,h3, ?_⟩
      rcases h4 with h4 | ⟨b,e,pre,rest,g1,g2,g3,g4⟩
      · exact .inl h4
      · exact .inr ⟨b,e,pre,rest,g1,(hw b ((g4 b).2 rfl)).trans g2,g3,g4⟩
  · match k, l, h with
    | 0, [],h => obtain ⟨⟨v,hv⟩,_⟩ := h; cases hv
    | 0,K :: l,h => exact hC.self h
    | 1,l,h => cases h.1
    | k + 2,l,h => obtain ⟨_,_,_,h,_⟩ := h; cases h
  · match k, l, h with
    | 0, [],h => exact (h.2 x hx).elim
    | 0,K :: l,h => exact hC.size h x hx
    | 1,l,h => exact (h.2.2 x hx).elim
    | k + 2, l, h =>
      obtain ⟨a,len,cap,h1,h2,h3,h4⟩ := h
      rcases h4 with h4 | ⟨b,e,pre,rest,g1,g2,g3,g4⟩
      · exact (h4.2 x hx).elim
      · rw [(g4 x).1 hx]; exact (Array.getElem?_eq_some_iff.1 g2).1
theorem SO.okM_good {E : Env} {M : MachT} (hM : MachGood M) {ρ : Rho} {r : RV} {F : Nat → Prop} {w : World} {o : SO Empty} (h : o.okM E M ρ r F w) :
    (∀ w' : World,w.heap.size ≤ w'.heap.size → (∀ x,F x → w'.heap[x]? = w.heap[x]?) → o.okM E M ρ r F w') ∧ (∀ b,r = .blk b → F b) ∧ ∀ x,F x → x < w.heap.size := by
  cases o with
  | cells e l t =>
    obtain ⟨b,vs,hr,hb,h3,hF⟩ := h
    refine ⟨fun w' _ hw => ⟨b,vs,hr,(hw b ((hF b).2 rfl)).trans hb,h3,hF⟩,fun c hc => ?_,fun x hx => ?_⟩
    · rw [hr] at hc; cases hc; exact (hF _).2 rfl
    · rw [(hF x).1 hx]; exact (Array.getElem?_eq_some_iff.1 hb).1
  | row k e l =>
    rcases h with h | ⟨b,rest,hr,hb,hF⟩
    · refine ⟨fun w' _ hw => .inl h, fun c hc => ?_, fun x hx => (h.2.2 x hx).elim⟩
      rw [h.2.1] at hc; cases hc
    · refine ⟨fun w' _ hw => .inr ⟨b, rest, hr, (hw b ((hF b).2 rfl)).trans hb, hF⟩, fun c hc => ?_, fun x hx => ?_⟩
      · rw [hr] at hc; cases hc; exact (hF _).2 rfl
      · rw [(hF x).1 hx]; exact (Array.getElem?_eq_some_iff.1 hb).1
  | abs a => exact a.elim
  | tab _ _ _ _ => exact h.elim
  | mach k l => exact ⟨fun w' hs hw => hM.frame h hs hw,fun b hb => by subst hb; exact hM.self h,fun x hx => hM.size h x hx⟩
theorem HeapM.rho {E : Env} {M : MachT} {ρ : Rho} {G : Nat → Nat → Prop} {h : List (Nat × SO Empty)} {w : World} (H : HeapM E M ρ G h w) {n : Nat} (hn : (ρ n).isSome = true) : ∃ o r, look0 h n = some o ∧ ρ n = some r := by
  obtain ⟨r,hr⟩ := Option.isSome_iff_exists.1 hn
  have := H.dom n
  rw [hn] at this
  obtain ⟨o,ho⟩ := Option.isSome_iff_exists.1 this
  exact ⟨o,r,ho,hr⟩
theorem machComp.good {M : MachT} (hM : MachGood M) (shs : List MShape) : MachGood (fun _ => machComp M shs) := by
  refine ⟨fun {k l r F w w'} h hs hw => ?_,fun {k l b F w} h => ?_,fun {k l r F w} h x hx => ?_⟩
  · obtain ⟨sh, h1, E, ρ, G, h2, h3, h4, H, h6⟩ := h
    refine ⟨sh,h1,E, ρ,G,h2,h3,h4,⟨H.dom,fun n o r' hn hr => ?_,H.disj⟩,h6⟩
    exact (SO.okM_good hM (H.obj n o r' hn hr)).1 w' hs fun x hx => hw x ((h6 x).2 ⟨n,by rw [hr]; rfl,hx⟩)
  · obtain ⟨sh, h1, E, ρ, G, h2, h3, h4, H, h6⟩ := h
    obtain ⟨o,r,ho,hr⟩ := H.rho (n := sh.main) (by rw [h4]; rfl)
    rw [h4] at hr; cases hr
    exact (h6 b).2 ⟨sh.main,by rw [h4]; rfl,(SO.okM_good hM (H.obj _ o _ ho h4)).2.1 b rfl⟩
  · obtain ⟨sh, h1, E, ρ, G, h2, h3, h4, H, h6⟩ := h
    obtain ⟨n,hn,hg⟩ := (h6 x).1 hx
    obtain ⟨o,r',ho,hr⟩ := H.rho hn
    exact (SO.okM_good hM (H.obj n o r' ho hr)).2.2 x hg
theorem Comp.good : ∀ n, MachGood (Comp n)
  | 0 => ⟨fun {k l r F w w'} h hs hw => ⟨h.1,growOk.frame h.2.1 hw,h.2.2⟩,fun {k l b F w} h => (by obtain ⟨_,_,_,_,_,h⟩ := h; cases h),fun {k l r F w} h x hx => growOk.size h.2.1 x hx⟩
  | n + 1 => by
    have ih := Comp.good n
    have hc := fun K => machComp.good (MachB.good ih) (shapes K)
    refine ⟨fun {k l r F w w'} h hs hw => ?_,fun {k l b F w} h => ?_,fun {k l r F w} h x hx => ?_⟩
    · unfold Comp at h ⊢
      split at h
      · rename_i hk; rw [if_pos hk]; exact ih.frame h hs hw
      · rename_i hk; rw [if_neg hk]; exact ⟨h.1,(hc k).frame (k := 0) h.2 hs hw⟩
    · unfold Comp at h
      split at h
      · exact ih.self h
      · exact (hc k).self (k := 0) h.2
    · unfold Comp at h
      split at h
      · exact ih.size h x hx
      · exact (hc k).size (k := 0) h.2 x hx
theorem CompOk.good : MachGood CompOk :=
  ⟨fun {k l r F w w'} h hs hw => (Comp.good (k / 1000)).frame h hs hw,fun {k l b F w} h => (Comp.good (k / 1000)).self h,fun {k l r F w} h => (Comp.good (k / 1000)).size h⟩
theorem MachOk.good : MachGood MachOk := MachB.good CompOk.good
theorem MachOk.frame {k : Nat} {l : List Int} {r : RV} {F : Nat → Prop} {w w' : World} (h : MachOk k l r F w) (hs : w.heap.size ≤ w'.heap.size) (hw : ∀ x,F x → w'.heap[x]? = w.heap[x]?) : MachOk k l r F w' := MachOk.good.frame h hs hw
theorem MachOk.self {k : Nat} {l : List Int} {b : Nat} {F : Nat → Prop} {w : World} (h : MachOk k l (.blk b) F w) : F b := MachOk.good.self h
theorem MachOk.size {k : Nat} {l : List Int} {r : RV} {F : Nat → Prop} {w : World} (h : MachOk k l r F w) : ∀ x,F x → x < w.heap.size := MachOk.good.size h
theorem Comp.low : ∀ {n K : Nat} {l : List Int} {r : RV} {F : Nat → Prop} {w : World}, Comp n K l r F w → K < 1000 * (n + 1)
  | 0,_,_,_,_,_,h => by have := h.1.2; omega
  | n + 1, K, l, r, F, w, h => by
    unfold Comp at h
    split at h
    · rename_i hk; omega
    · exact h.1
theorem Comp.eq : ∀ {n K : Nat}, K < 1000 * (n + 1) → Comp n K = CompOk K
  | 0,K,h => by unfold CompOk; rw [show K / 1000 = 0 by omega]
  | n + 1, K, h => by
    by_cases hk : K < 1000 * (n + 1)
    · rw [← Comp.eq hk]; funext l r F w; show (if K < 1000 * (n + 1) then Comp n K l r F w else _) = _; rw [if_pos hk]
    · unfold CompOk; rw [show K / 1000 = n + 1 by omega]
theorem CompOk.iff {K : Nat} (hK : 1000 ≤ K) {l : List Int} {r : RV} {F : Nat → Prop} {w : World} : CompOk K l r F w ↔ machComp (MachB (Comp (K / 1000 - 1))) (shapes K) l r F w := by
  obtain ⟨n,hn⟩ : ∃ n,K / 1000 = n + 1 := ⟨K / 1000 - 1,by omega⟩
  unfold CompOk
  rw [hn]
  show (if K < 1000 * (n + 1) then Comp n K l r F w else _) ↔ _
  rw [if_neg (by omega),Nat.add_sub_cancel]
  exact ⟨fun h => h.2,fun h => ⟨by omega,h⟩⟩
def headK : IE → Option Int
  | .consL (.lit n) _ => some n
  | .nilL => some 0
  | _ => none
def lowO (m : Nat) : SO Empty → Bool
  | .mach 0 l => match headK l with
    | some n => Nat.blt n.toNat m
    | none => false
  | .tab _ _ _ _ => false
  | _ => true
theorem MachB.mono {n k : Nat} {l : List Int} {r : RV} {F : Nat → Prop} {w : World} (h : MachB (Comp n) k l r F w) : MachOk k l r F w := by
  match k,l,h with
  | 0, [],h => exact h
  | 0, K :: l, h =>
    show CompOk K.toNat l r F w
    rw [← Comp.eq (Comp.low h)]; exact h
  | 1,l,h => exact h
  | k + 2,l,h => exact h
end Go.Proofs.Ytafemlljemhkhaa.Sx
