import Derived.Test.YtafemlljemhkhaaPSxMb
namespace Go.Proofs.Ytafemlljemhkhaa.Sx
open Go
set_option linter.unusedSectionVars false
set_option linter.unusedVariables false
set_option linter.unusedSimpArgs false
variable [Env]
def cntL : IE → Option Nat
  | .nilL => some 0
  | .consL _ l => (cntL l).map (· + 1)
  | .catL a b => match cntL a, cntL b with
    | some x,some y => some (x + y)
    | _,_ => none
  | _ => none
theorem cntL_len : ∀ {l : IE} {n : Nat}, cntL l = some n → l.lst.length = n
  | .nilL,n,h => by cases h; rfl
  | .consL x l, n, h => by
    simp only [cntL] at h
    obtain ⟨m,hm,rfl⟩ := Option.map_eq_some_iff.1 h
    simp only [IE.lst,List.length_cons,cntL_len hm]
  | .catL a b, n, h => by
    simp only [cntL] at h
    split at h
    · rename_i x y hx hy
      cases h
      simp only [IE.lst,List.length_append,cntL_len hx,cntL_len hy]
    · cases h
  | .lit _,_,h | .atom _,_,h | .op _ _ _ _,_,h | .conv _ _,_,h | .mn _ _,_,h | .mx _ _,_,h | .at_ _ _ _ _,_,h | .dif _ _,_,h | .nat _,_,h | .cmpI _ _ _,_,h | .notI _,_,h | .andI _ _,_,h | .eqI _ _,_,h | .eqL _ _,_,h
  | .ite _ _ _,_,h | .get _ _ _,_,h | .len _,_,h | .tab _ _ _,_,h | .fn _ _,_,h | .latom _,_,h | .rep _ _,_,h | .putL _ _ _,_,h | .subL _ _ _ _,_,h | .ofTab _ _,_,h | .fnL _ _,_,h | .tabL _ _ _,_,h => by cases h
def lenB (k : Nat) (L : IE) : IE := if k = 1 then mkLen L else .fn 50 (.consL (mkLen L) (.consL (.lit k) .nilL))
theorem lenB_val {k : Nat} (hk : k ≠ 0) (L : IE) : (lenB k L).val = ((L.lst.length / k : Nat) : Int) := by
  unfold lenB
  split
  · rename_i h; subst h; rw [mkLen_val,Nat.div_one]
  · show (mkLen L).val / (k : Int) = _
    rw [mkLen_val]; exact (Int.natCast_ediv _ _).symm
def lenK (k : Nat) : IE → IE
  | .catL a b => match cntL (.catL a b) with
    | some c => .lit (c / k : Nat)
    | none => match cntL b with
      | some c => if c % k = 0 then .at_ (lenK k a) (.lit (c / k : Nat)) 1 0 else lenB k (.catL a b)
      | none => lenB k (.catL a b)
  | l => match cntL l with
    | some c => .lit (c / k : Nat)
    | none => lenB k l
theorem lenK_val {k : Nat} (hk : k ≠ 0) : ∀ (l : IE), (lenK k l).val = ((l.lst.length / k : Nat) : Int)
  | .catL a b => by
    simp only [lenK]
    split
    · rename_i c hc; simp only [IE.val]; rw [cntL_len hc]
    · split
      · rename_i c hc
        split
        · rename_i hm
          simp only [IE.val,lenK_val hk a,IE.lst,List.length_append,cntL_len hc,Int.toNat_natCast,Nat.mul_one,Nat.add_zero]
          obtain ⟨q,rfl⟩ := Nat.dvd_of_mod_eq_zero hm
          rw [Nat.mul_div_cancel_left _ (by omega),Nat.add_mul_div_left _ _ (by omega)]
        · exact lenB_val hk _
      · exact lenB_val hk _
  | .lit _ | .atom _ | .op _ _ _ _ | .conv _ _ | .mn _ _ | .mx _ _ | .at_ _ _ _ _ | .dif _ _ | .nat _ | .cmpI _ _ _ | .notI _ | .andI _ _ | .eqI _ _ | .eqL _ _ | .get _ _ _ | .len _ | .tab _ _ _ | .fn _ _
  | .latom _ | .nilL | .consL _ _ | .subL _ _ _ _ | .fnL _ _ | .ite _ _ _ | .rep _ _ | .putL _ _ _ | .ofTab _ _ | .tabL _ _ _ => by
    simp only [lenK]
    split
    · rename_i c hc; simp only [IE.val]; rw [cntL_len hc]
    · exact lenB_val hk _
def mkCat : IE → IE → IE
  | .nilL,b => b
  | .consL x l,b => .consL x (mkCat l b)
  | a, .nilL => a
  | a,b => .catL a b
theorem mkCat_lst : ∀ (a b : IE), (mkCat a b).lst = a.lst ++ b.lst
  | .nilL,b => by simp only [mkCat,IE.lst,List.nil_append]
  | .consL x l,b => by simp only [mkCat,IE.lst,mkCat_lst l b,List.cons_append]
  | .lit _,b | .atom _,b | .op _ _ _ _,b | .conv _ _,b | .mn _ _,b | .mx _ _,b | .at_ _ _ _ _,b | .dif _ _,b | .nat _,b | .cmpI _ _ _,b | .notI _,b | .andI _ _,b | .eqI _ _,b | .eqL _ _,b | .get _ _ _,b | .len _,b | .tab _ _ _,b | .fn _ _,b
  | .latom _, b | .subL _ _ _ _, b | .fnL _ _, b | .ite _ _ _, b | .rep _ _, b | .putL _ _ _, b | .ofTab _ _, b | .tabL _ _ _, b | .catL _ _, b => by
    cases b <;> simp only [mkCat,IE.lst,List.append_nil]
def nthL : IE → Nat → Option IE
  | .consL x _,0 => some x
  | .consL _ l,n + 1 => nthL l n
  | _,_ => none
theorem nthL_val : ∀ {l : IE} {n : Nat} {x : IE}, nthL l n = some x → l.lst.getD n 0 = x.val
  | .consL y l,0,x,h => by cases h; rfl
  | .consL y l, n + 1, x, h => by
    simp only [nthL] at h
    simp only [IE.lst]
    exact nthL_val h
  | .nilL,_,_,h | .catL _ _,_,_,h | .lit _,_,_,h | .atom _,_,_,h | .op _ _ _ _,_,_,h | .conv _ _,_,_,h | .mn _ _,_,_,h | .mx _ _,_,_,h | .at_ _ _ _ _,_,_,h | .dif _ _,_,_,h | .nat _,_,_,h | .cmpI _ _ _,_,_,h | .notI _,_,_,h | .andI _ _,_,_,h | .eqI _ _,_,_,h | .eqL _ _,_,_,h
  | .ite _ _ _,_,_,h | .get _ _ _,_,_,h | .len _,_,_,h | .tab _ _ _,_,_,h | .fn _ _,_,_,h | .latom _,_,_,h | .rep _ _,_,_,h | .putL _ _ _,_,_,h | .subL _ _ _ _,_,_,h | .ofTab _ _,_,_,h | .fnL _ _,_,_,h | .tabL _ _ _,_,_,h => by cases h
def dropN : IE → Nat → Option IE
  | l,0 => some l
  | .consL _ l,n + 1 => dropN l n
  | _,_ => none
theorem dropN_lst : ∀ {l : IE} {n : Nat} {x : IE}, dropN l n = some x → x.lst = l.lst.drop n
  | l,0,x,h => by simp only [dropN,Option.some.injEq] at h; subst h; rfl
  | .consL y l, n + 1, x, h => by
    simp only [dropN] at h
    simp only [IE.lst,List.drop_succ_cons]
    exact dropN_lst h
  | .nilL,_ + 1,_,h | .catL _ _,_ + 1,_,h | .lit _,_ + 1,_,h | .atom _,_ + 1,_,h | .op _ _ _ _,_ + 1,_,h | .conv _ _,_ + 1,_,h | .mn _ _,_ + 1,_,h | .mx _ _,_ + 1,_,h | .at_ _ _ _ _,_ + 1,_,h | .dif _ _,_ + 1,_,h | .nat _,_ + 1,_,h | .cmpI _ _ _,_ + 1,_,h | .notI _,_ + 1,_,h | .andI _ _,_ + 1,_,h | .eqI _ _,_ + 1,_,h | .eqL _ _,_ + 1,_,h
  | .ite _ _ _,_ + 1,_,h | .get _ _ _,_ + 1,_,h | .len _,_ + 1,_,h | .tab _ _ _,_ + 1,_,h | .fn _ _,_ + 1,_,h | .latom _,_ + 1,_,h | .rep _ _,_ + 1,_,h | .putL _ _ _,_ + 1,_,h | .subL _ _ _ _,_ + 1,_,h | .ofTab _ _,_ + 1,_,h | .fnL _ _,_ + 1,_,h | .tabL _ _ _,_ + 1,_,h => by cases h
def dropK (k : Nat) (L j : IE) : IE :=
  match j with
  | .lit n => match dropN L (n.toNat * k) with
    | some r => r
    | none => .subL L (.at_ (.lit 0) (.lit n) k 0) (.dif (lenK k L) (.lit n)) k
  | j => .subL L (.at_ (.lit 0) j k 0) (.dif (lenK k L) j) k
theorem dropK_lst {k : Nat} (hk : k ≠ 0) {L j : IE} (hd : L.lst.length = (L.lst.length / k) * k) : (dropK k L j).lst = L.lst.drop (j.val.toNat * k) := by
  have key : ∀ j : IE, (IE.subL L (.at_ (.lit 0) j k 0) (.dif (lenK k L) j) k).lst = L.lst.drop (j.val.toNat * k) := fun j => by
    simp only [IE.lst,IE.val,lenK_val hk,Int.toNat_natCast,Int.toNat_zero,Nat.zero_add,Nat.add_zero]
    refine List.take_of_length_le ?_
    rw [List.length_drop,Nat.sub_mul, ← hd]
    exact Nat.le_refl _
  unfold dropK
  split
  · rename_i n
    split
    · rename_i r hr; rw [dropN_lst hr]; rfl
    · exact key _
  · exact key _
def getG (L off : IE) (i : Nat) : IE :=
  match off with
  | .lit a => match nthL L (a.toNat + i) with
    | some x => x
    | none => mkGet L (.lit a) i
  | off => mkGet L off i
theorem getG_val {L off : IE} {i : Nat} (h : off.val.toNat + i < L.lst.length) : (getG L off i).val = L.lst.getD (off.val.toNat + i) 0 := by
  unfold getG
  split
  · rename_i a
    split
    · rename_i x hx; exact (nthL_val hx).symm
    · exact mkGet_val _ _ _ h
  · exact mkGet_val _ _ _ h
def gB (k : Nat) (L off : IE) (sz : Nat) : BE :=
  match off with
  | .lit a => match cntL L with
    | some c => .lit (decide (a.toNat + sz ≤ c))
    | none => rowB (.lit a) sz L
  | .at_ (.lit 0) j k' m => if k' = k ∧ m + sz ≤ k then .and (mkCmp .geq j (.lit 0)) (mkCmp .lss j (lenK k L)) else rowB (.at_ (.lit 0) j k' m) sz L
  | off => rowB off sz L
theorem gB_val {k : Nat} (hk : k ≠ 0) {L off : IE} {sz : Nat} (h : (gB k L off sz).val = true) : off.val.toNat + sz ≤ L.lst.length := by
  unfold gB at h
  split at h
  · rename_i a
    split at h
    · rename_i c hc
      simp only [BE.val,decide_eq_true_eq] at h
      simp only [IE.val]; rw [cntL_len hc]; exact h
    · exact rowB_val h
  · rename_i j k' m
    split at h
    · rename_i hh
      obtain ⟨rfl,hm⟩ := hh
      simp only [BE.val,Bool.and_eq_true,mkCmp_val,cmpVal,decide_eq_true_eq,lenK_val hk,IE.val] at h
      simp only [IE.val,Int.toNat_natCast,Int.toNat_zero,Nat.zero_add]
      have h2 : j.val.toNat + 1 ≤ L.lst.length / k' := by
        obtain ⟨q1,q2⟩ := h
        generalize L.lst.length / k' = q at q2 ⊢
        have q3 : 0 ≤ j.val := by simpa using q1
        omega
      have h3 := Nat.mul_le_mul_right k' h2
      have h4 := Nat.div_mul_le_self L.lst.length k'
      rw [Nat.add_mul,Nat.one_mul] at h3
      omega
    · exact rowB_val h
  · exact rowB_val h
def addOff (e : IE) (m : Nat) : IE := match e with
  | .lit a => .lit ((a.toNat + m : Nat) : Int)
  | .at_ a j k o => .at_ a j k (o + m)
  | e => .at_ e (.lit 0) 0 m
theorem addOff_val (e : IE) (m : Nat) : (addOff e m).val.toNat = e.val.toNat + m := by
  unfold addOff; split <;> simp only [IE.val,Int.toNat_natCast,Int.toNat_zero,Nat.zero_mul,Nat.add_zero,Nat.add_assoc]
section
variable {A : Type} [AbsK A]
def gval : SV → Option Nat
  | .w (.one (.b (.ref n))) => some n
  | _ => none
def gptrOf : SV → Option (Nat × IE)
  | .w (.one (.b (.gptr n e))) => some (n,e)
  | _ => none
theorem gval_is {x : SV} {n : Nat} (h : gval x = some n) {ρ : Rho} {v : Value} (hx : x.is ρ v) : ∃ r, ρ n = some r ∧ v = r.value := by
  unfold gval at h
  split at h
  · cases h; obtain ⟨r,h1,h2,_⟩ := hx; exact ⟨r,h1,h2⟩
  · cases h
theorem gptrOf_is {x : SV} {n : Nat} {e : IE} (h : gptrOf x = some (n, e)) {ρ : Rho} {v : Value} (hx : x.is ρ v) :
    ∃ b o len cap, ρ n = some (.val (.slice (some ⟨b,o,none⟩) len cap)) ∧ v = .pointer (some ⟨b,o + e.val.toNat,none⟩) := by
  unfold gptrOf at h
  split at h
  · cases h; exact hx
  · cases h
def GrowsOk (p : Nat → Prop) (ρ : Rho) (h : Heap A) (w : World) : Prop := ∀ n k L r,p n → look h n = some (.mach k L) → ρ n = some r → ∃ F,MachOk k L.lst r F w
theorem HeapOk.grows {ρ : Rho} {F : Nat → Nat → Prop} {h : Heap A} {w : World} (H : HeapOk ρ F h w) (p : Nat → Prop) : GrowsOk p ρ h w := fun n k L r _ hl hr => ⟨F n,H.obj n _ r hl hr⟩
theorem gref_on {p : Nat → Prop} {ρ : Rho} {h : Heap A} {w : World} (H : GrowsOk p ρ h w) {x : SV} {n k : Nat} {L : IE} {v : Value} (hp : p n) (hg : gval x = some n) (hl : look h n = some (.mach (k + 1) L)) (hk : k ≠ 0) (hx : x.is ρ v) :
    ∃ (F : Nat → Prop) (a : Option Addr) (len cap : Nat), ρ n = some (.val (.slice a len cap)) ∧ v = .slice a len cap ∧ len * k = L.lst.length ∧ len ≤ cap ∧
      ((cap = 0 ∧ ∀ x, ¬ F x) ∨ ∃ b e pre rest,a = some ⟨b,pre.length,none⟩ ∧ w.heap[b]? = some (.cells (pre ++ (L.lst.map (Value.int .u64) ++ rest)).toArray e (0,0)) ∧ cap * k ≤ L.lst.length + rest.length ∧ ∀ x,F x ↔ x = b) := by
  obtain ⟨r,hr,rfl⟩ := gval_is hg hx
  obtain ⟨q,rfl⟩ : ∃ q,k = q + 1 := ⟨k - 1,by omega⟩
  obtain ⟨F,a,len,cap,rfl,h2,h3,h4⟩ := H n _ L r hp hl hr
  exact ⟨F,a,len,cap,hr,rfl,h2,h3,h4⟩
theorem grow_of {ρ : Rho} {F : Nat → Nat → Prop} {h : Heap A} {w : World} (H : HeapOk ρ F h w) {n k : Nat} {L : IE} (hl : look h n = some (.mach (k + 1) L)) (hk : k ≠ 0) {r : RV} (hr : ρ n = some r) : growOk k L.lst r (F n) w := by
  have := H.obj n _ r hl hr
  obtain ⟨q,rfl⟩ : ∃ q,k = q + 1 := ⟨k - 1,by omega⟩
  exact this
theorem gref_of {ρ : Rho} {F : Nat → Nat → Prop} {h : Heap A} {w : World} (H : HeapOk ρ F h w) {x : SV} {n k : Nat} {L : IE} {v : Value} (hg : gval x = some n) (hl : look h n = some (.mach (k + 1) L)) (hk : k ≠ 0) (hx : x.is ρ v) :
    ∃ a len cap, ρ n = some (.val (.slice a len cap)) ∧ v = .slice a len cap ∧ len * k = L.lst.length ∧ len ≤ cap ∧
      ((cap = 0 ∧ ∀ x, ¬ F n x) ∨ ∃ b e pre rest,a = some ⟨b,pre.length,none⟩ ∧ w.heap[b]? = some (.cells (pre ++ (L.lst.map (Value.int .u64) ++ rest)).toArray e (0,0)) ∧ cap * k ≤ L.lst.length + rest.length ∧ ∀ x,F n x ↔ x = b) := by
  obtain ⟨r,hr,rfl⟩ := gval_is hg hx
  obtain ⟨a,len,cap,rfl,h2,h3,h4⟩ := grow_of H hl hk hr
  exact ⟨a,len,cap,hr,rfl,h2,h3,h4⟩
theorem len_of {k len : Nat} (hk : k ≠ 0) {L : IE} (h : len * k = L.lst.length) : (lenK k L).val = (len : Int) := by
  rw [lenK_val hk, ← h,Nat.mul_div_cancel _ (by omega)]
theorem grow_cell {k len cap : Nat} {L : List Int} {a : Option Addr} {F : Nat → Prop} {w : World} (h2 : len * k = L.length) (h3 : len ≤ cap)
    (h4 : (cap = 0 ∧ ∀ x, ¬ F x) ∨ ∃ b e pre rest,a = some ⟨b,pre.length,none⟩ ∧ w.heap[b]? = some (.cells (pre ++ (L.map (Value.int .u64) ++ rest)).toArray e (0,0)) ∧ cap * k ≤ L.length + rest.length ∧ ∀ x,F x ↔ x = b)
    {b o : Nat} (ha : a = some ⟨b,o,none⟩) {j : Nat} (hj : j < L.length) : w.cell? ⟨b,o + j,none⟩ = some (.int .u64 (L.getD j 0)) := by
  rcases h4 with ⟨h4,_⟩ | ⟨b',e,pre,rest,g1,g2,_,_⟩
  · exfalso
    have : len = 0 := by omega
    subst this
    rw [Nat.zero_mul] at h2; omega
  · rw [ha] at g1
    cases g1
    rw [cell_of_block g2,List.getElem?_toArray,List.getElem?_append_right (by omega),Nat.add_sub_cancel_left,List.getElem?_append_left (by simpa using hj),List.getElem?_map,List.getElem?_eq_getElem hj,List.getD_eq_getElem?_getD,List.getElem?_eq_getElem hj]
    rfl
def Rd (P : Program) (ρ : Rho) (S : World → Prop) (m : Sem Value) (h : Heap A) (K : SV × Heap A → Prop) : Prop := ∃ s u,K (s,h) ∧ s.is ρ u ∧ ∀ w,S w → m.run P w = .ok u w
def lenG (P : Program) (t : TypeId) (x : SV) (h : Heap A) : Tree (SV × Heap A) :=
  match gval x,P.underlying t with
  | some n, some (.slice _) => (match look h n with
    | some (.mach (k + 2) L) => .leaf (.w (.one (.b (.int .i64 (lenK (k + 1) L)))),h)
    | some (.mach 1 _) => .leaf (.w (.one (.b (.int .i64 (.lit 0)))),h)
    | _ => .fail 301)
  | _,_ => .fail 302
theorem lenG_ok {P : Program} {t ty : TypeId} {x : SV} {h : Heap A} {p : Nat → Prop} {ρ : Rho} {w1 : World} {S : World → Prop} (H : GrowsOk p ρ h w1) (hp : ∀ n, gval x = some n → p n) {u : Value} (hx : x.is ρ u) {K : SV × Heap A → Prop}
    (hK : (lenG P t x h).holds K) : Rd P ρ S (Builtin.len_ #[t] ty #[u]) h K := by
  unfold lenG at hK
  split at hK
  · rename_i n e hg hu
    split at hK
    · rename_i k L hl
      obtain ⟨Fn,a,len,cap,hr,rfl,h2,h3,h4⟩ := gref_on H (hp n hg) hg hl (by omega) hx
      refine ⟨_,goInt len,hK, ?_,fun w _ => ?_⟩
      · show _ = _; rw [len_of (by omega) h2]; rfl
      · simp [Builtin.len_,gives_underlying hu w]
    · rename_i L hl
      obtain ⟨r,hr,rfl⟩ := gval_is hg hx
      obtain ⟨Fn,rfl,_,_⟩ := H n 1 L r (hp n hg) hl hr
      refine ⟨_,goInt 0,hK,rfl,fun w _ => ?_⟩
      simp [RV.value,Builtin.len_,gives_underlying hu w]
    · exact hK.elim
  · exact hK.elim
def indexG (P : Program) (t : TypeId) (x i : SV) (h : Heap A) : Tree (SV × Heap A) :=
  match gval x,asI i,P.underlying t with
  | some n, some (_, j), some (.slice e) => (match look h n, sizeT P e with
    | some (.mach (k + 2) L), some sz => if sz = k + 1 then
        mkBr (mkCmp .geq j (.lit 0)) (mkBr (mkCmp .lss j (lenK (k + 1) L)) (.leaf (.w (.one (.b (.gptr n (mkAt (.lit 0) j (k + 1) 0)))),h)) (.fail 303)) (.fail 303)
      else .fail 304
    | _,_ => .fail 305)
  | _,_,_ => .fail 306
theorem indexG_ok {P : Program} {t : TypeId} {x i : SV} {h : Heap A} {p : Nat → Prop} {ρ : Rho} {w1 : World} {S : World → Prop} (H : GrowsOk p ρ h w1) (hp : ∀ n, gval x = some n → p n) {v u : Value} (hx : x.is ρ v) (hi : i.is ρ u) {K : SV × Heap A → Prop}
    (hK : (indexG P t x i h).holds K) : Rd P ρ S (Instr.indexAt t v u) h K := by
  unfold indexG at hK
  split at hK
  · rename_i n k0 j e hg hj hu
    obtain rfl := asI_is hj hi
    split at hK
    · rename_i k L sz hl hsz
      split at hK
      · rename_i hk
        subst hk
        obtain ⟨Fn,a,len,cap,hr,rfl,h2,h3,h4⟩ := gref_on H (hp n hg) hg hl (by omega) hx
        obtain ⟨q1,q2⟩ := mkBr_holds hK
        simp only [mkCmp_val,cmpVal,IE.val] at q1 q2
        by_cases hj0 : j.val ≥ 0
        · obtain ⟨q3, q4⟩ := mkBr_holds (q1 (by simpa using hj0))
          simp only [mkCmp_val,cmpVal,len_of (Nat.succ_ne_zero k) h2] at q3 q4
          by_cases hj1 : j.val < (len : Int)
          · rcases h4 with ⟨h4, _⟩ | ⟨b, e', pre, rest, rfl, g2, _, _⟩
            · omega
            · refine ⟨_, .pointer (some ⟨b, pre.length + j.val.toNat * (k + 1), none⟩), q3 (by simpa using hj1), ⟨b, _, _, _, hr, by rw [mkAt_val]; simp [IE.val]⟩, fun w _ => ?_⟩
              have hc : 0 ≤ j.val ∧ j.val < (len : Int) := by omega
              simp [Instr.indexAt,asIntOf,gives_underlying hu w,hc,gives_sizeOf hsz w,addr_add]
          · exact (q4 (decide_eq_false hj1)).elim
        · exact (q2 (by simpa using hj0)).elim
      · exact hK.elim
    · exact hK.elim
  · exact hK.elim
def fieldG (P : Program) (s : TypeId) (x : SV) (f : Nat) (h : Heap A) : Tree (SV × Heap A) :=
  match fieldT P s f,gptrOf x with
  | some (off, ty), some (n, o) =>
    (match sizeT P ty with
    | some (_ + 1) => .leaf (.w (.one (.b (.gptr n (addOff o off)))),h)
    | _ => .fail 307)
  | _,_ => .fail 308
theorem fieldG_ok {P : Program} {s : TypeId} {x : SV} {f : Nat} {h : Heap A} {ρ : Rho} {S : World → Prop} {v : Value} (hx : x.is ρ v) {K : SV × Heap A → Prop}
    (hK : (fieldG P s x f h).holds K) : Rd P ρ S (Instr.fieldAt s v f) h K := by
  unfold fieldG at hK
  split at hK
  · rename_i off ty n o hf hg
    split at hK
    · rename_i m hm
      obtain ⟨b,o',len,cap,hr,rfl⟩ := gptrOf_is hg hx
      refine ⟨_, .pointer (some ⟨b,o' + o.val.toNat + off,none⟩),hK,⟨b,_,_,_,hr,by rw [addOff_val,Nat.add_assoc]⟩,fun w _ => ?_⟩
      unfold fieldT at hf
      split at hf
      · rename_i fs hu
        obtain ⟨fd,hfd,he⟩ := Option.map_eq_some_iff.1 hf
        cases he
        simp [Instr.fieldAt,gives_underlying hu w,hfd,Instr.sureAddr,fieldPlace,gives_sizeOf hm w,addr_add]
      · cases hf
    · exact hK.elim
  · exact hK.elim
def loadG (P : Program) (t : TypeId) (x : SV) (h : Heap A) : Tree (SV × Heap A) :=
  match gptrOf x with
  | some (n, off) => (match look h n, aggT P t, sizeT P t with
    | some (.mach (k + 2) L),some false,_ => mkBr (gB (k + 1) L off 1) (.leaf (.w (.one (.b (.int .u64 (getG L off 0)))),h)) (.fail 309)
    | some (.mach (k + 2) L),some true,some sz => mkBr (gB (k + 1) L off sz) (.leaf (.w (.agg ((List.range sz).map fun i => .b (.int .u64 (getG L off i)))),h)) (.fail 309)
    | _,_,_ => .fail 310)
  | none => .fail 311
theorem loadG_ok {P : Program} {t : TypeId} {x : SV} {h : Heap A} {p : Nat → Prop} {ρ : Rho} {S : World → Prop} (H : ∀ w, S w → GrowsOk p ρ h w) (hp : ∀ n e, gptrOf x = some (n, e) → p n) {v : Value} (hx : x.is ρ v) {K : SV × Heap A → Prop}
    (hK : (loadG P t x h).holds K) : Rd P ρ S (Instr.loadAt t v) h K := by
  unfold loadG at hK
  split at hK
  · rename_i n off hg
    obtain ⟨b,o',len,cap,hr,rfl⟩ := gptrOf_is hg hx
    have main : ∀ (w : World), S w → ∀ {k : Nat} {L : IE}, look h n = some (.mach (k + 2) L) → ∀ {sz : Nat}, (gB (k + 1) L off sz).val = true → ∀ j, j < sz → w.cell? ⟨b, o' + off.val.toNat + j, none⟩ = some (.int .u64 (getG L off j).val) := by
      intro w hw k L hl sz hb j hj
      obtain ⟨Fn,a,len',cap',e,h2,h3,h4⟩ := H w hw n _ L _ (hp n off hg) hl hr
      cases e
      have hlt := gB_val (by omega) hb
      have := grow_cell h2 h3 h4 rfl (j := off.val.toNat + j) (by omega)
      rw [getG_val (by omega),Nat.add_assoc]
      exact this
    split at hK
    · rename_i k L hl ha
      obtain ⟨h1,h2⟩ := mkBr_holds hK
      cases hb : (gB (k + 1) L off 1).val with
      | false => exact (h2 hb).elim
      | true =>
        refine ⟨_, .int .u64 (getG L off 0).val,h1 hb,rfl,fun w hw => ?_⟩
        simp only [Instr.loadAt,Instr.sureAddr,Sem.run_bind,Sem.run_pure,Result.andThen_ok]
        exact run_loadVar ha (main w hw hl hb 0 (by omega))
    · rename_i k L sz hl ha hsz
      obtain ⟨h1,h2⟩ := mkBr_holds hK
      cases hb : (gB (k + 1) L off sz).val with
      | false => exact (h2 hb).elim
      | true =>
        refine ⟨_, .agg ((List.range sz).map fun i => Value.int .u64 (getG L off i).val).toArray,h1 hb,⟨_,rfl,All2.map _ _ _ fun i _ => rfl⟩,fun w hw => ?_⟩
        simp only [Instr.loadAt,Instr.sureAddr,Sem.run_bind,Sem.run_pure,Result.andThen_ok]
        refine run_loadAgg ha (by simpa using hsz) fun j u hu => ?_
        rw [List.getElem?_map] at hu
        obtain ⟨i,hi,rfl⟩ := Option.map_eq_some_iff.1 hu
        obtain ⟨hlt,rfl⟩ := List.getElem?_eq_some_iff.1 hi
        simp only [List.length_range] at hlt
        simp only [List.getElem_range]
        exact main w hw hl hb j hlt
    · exact hK.elim
  · exact hK.elim
def readG (P : Program) (op : Op) (l : List SV) (h : Heap A) : Option (Tree (SV × Heap A)) :=
  match op with
  | .call { callee := .builtin .len, args, argTypes } =>
    (match evArgs l args,argTypes.toList with
    | [x], [t] => if refV x then some (lenG P t x h) else none
    | _,_ => none)
  | .indexAddr t x i => if refV (ev l x) then some (indexG P t (ev l x) (ev l i) h) else none
  | .fieldAddr s x f => if refV (ev l x) then some (fieldG P s (ev l x) f h) else none
  | .load t x => if refV (ev l x) then some (loadG P t (ev l x) h) else none
  | _ => none
theorem one_of {ρ : Rho} {x : SV} {vs : Array Value} (h : All2 (SV.is ρ) [x] vs.toList) : ∃ u, vs = #[u] ∧ x.is ρ u := by
  obtain ⟨l⟩ := vs
  simp only at h
  match l,h with
  | [u],h => exact ⟨u,rfl,h.1⟩
  | [],h => exact h.elim
  | _ :: _ :: _,h => exact h.2.elim
def growNm (op : Op) (l : List SV) : Nat :=
  match op with
  | .call { callee := .builtin .len, args, .. } => (match evArgs l args with
    | [x] => (gval x).getD 0
    | _ => 0)
  | .indexAddr _ x _ => (gval (ev l x)).getD 0
  | .load _ x => ((gptrOf (ev l x)).map (·.1)).getD 0
  | _ => 0
theorem readG_ok {P : Program} {o : Oper} {l : List SV} {h : Heap A} {t : Tree (SV × Heap A)} (ht : readG P o.op l h = some t) {p : Nat → Prop} {ρ : Rho} {but : List Nat} {a : Act} {w1 : World} {S : World → Prop} (H : GrowsOk p ρ h w1) (hp : p (growNm o.op l)) (hw1 : (∃ t y, o.op = .load t y) → ∀ w, S w → GrowsOk p ρ h w) (hT : TmpsOk ρ but l a)
    (hb : ∀ x ∈ o.op.operands, ∀ t ∈ opnds x,t ∉ but) {K : SV × Heap A → Prop} (hK : t.holds K) : ∃ s v,K (s,h) ∧ s.is ρ v ∧ ∀ w,S w → (execOp a.eval o).run P w = .ok (.value v) w := by
  obtain ⟨dst,op,type,pos,after,guard⟩ := o
  simp only at ht hb hp hw1
  unfold readG at ht
  split at ht
  · rename_i args ts
    have hargs := evArgs_is hT args fun x hx => hb x (by simp [Op.operands,Call.operands,hx])
    split at ht
    · rename_i x t0 hxy hts
      split at ht
      · cases ht
        obtain rfl : ts = #[t0] := by cases ts; simp at hts; subst hts; rfl
        rw [hxy] at hargs
        obtain ⟨u,hu,hx⟩ := one_of hargs
        obtain ⟨s,v',k1,k2,k3⟩ := lenG_ok (ty := type) (S := S) H (fun n hn => by simp only [growNm,hxy,hn,Option.getD_some] at hp; exact hp) hx hK
        refine ⟨s,v',k1,k2,fun w hw => ?_⟩
        simp only [execOp,resolve,Sem.run_bind,Sem.run_pure,Result.andThen_ok,Go.invoke,Go.builtin,hu,k3 w hw]
      · cases ht
    · cases ht
  · rename_i t0 x i
    split at ht
    · cases ht
      have hx := ev_is hT x (hb x (by simp [Op.operands]))
      have hi := ev_is hT i (hb i (by simp [Op.operands]))
      obtain ⟨s,v',k1,k2,k3⟩ := indexG_ok (S := S) H (fun n hn => by simp only [growNm,hn,Option.getD_some] at hp; exact hp) hx hi hK
      refine ⟨s,v',k1,k2,fun w hw => ?_⟩
      simp only [execOp,Sem.run_bind,Sem.run_pure,Result.andThen_ok,k3 w hw]
    · cases ht
  · rename_i s0 x f
    split at ht
    · cases ht
      have hx := ev_is hT x (hb x (by simp [Op.operands]))
      obtain ⟨s,v',k1,k2,k3⟩ := fieldG_ok (S := S) hx hK
      refine ⟨s,v',k1,k2,fun w hw => ?_⟩
      simp only [execOp,Sem.run_bind,Sem.run_pure,Result.andThen_ok,k3 w hw]
    · cases ht
  · rename_i t0 x
    split at ht
    · cases ht
      have hx := ev_is hT x (hb x (by simp [Op.operands]))
      obtain ⟨s,v',k1,k2,k3⟩ := loadG_ok (hw1 ⟨_,_,rfl⟩) (fun n e hn => by simp only [growNm,hn,Option.map_some,Option.getD_some] at hp; exact hp) hx hK
      refine ⟨s,v',k1,k2,fun w hw => ?_⟩
      simp only [execOp,Sem.run_bind,Sem.run_pure,Result.andThen_ok,k3 w hw]
    · cases ht
  · cases ht
def takeG (P : Program) (op : Op) (l : List SV) (h : Heap A) : Tree SV :=
  match pureOp P op l with
  | some t => t
  | none => match readG P op l h with
    | some t => t.bind fun r => .leaf r.1
    | none => match op with
      | .load t a => loadS P t (ev l a) h
      | _ => .fail 144
theorem takeG_ok {P : Program} {o : Oper} {l : List SV} {h : Heap A} {ρ : Rho} {but : List Nat} {F : Nat → Nat → Prop} {a : Act} {w : World} (H : HeapOk ρ F h w) (hT : TmpsOk ρ but l a)
    (hb : ∀ x ∈ o.op.operands, ∀ t ∈ opnds x,t ∉ but) {K : SV → Prop} (hK : (takeG P o.op l h).holds K) : ∃ s v,K s ∧ s.is ρ v ∧ (execOp a.eval o).run P w = .ok (.value v) w := by
  unfold takeG at hK
  split at hK
  · rename_i t ht
    obtain ⟨s,v,k1,k2,k3⟩ := pureOp_gives ht hT hb hK
    exact ⟨s,v,k1,k2,k3 w⟩
  · split at hK
    · rename_i t ht
      rw [Tree.holds_bind] at hK
      obtain ⟨s,v,k1,k2,k3⟩ := readG_ok (S := fun w' => w' = w) ht (H.grows (fun _ => True)) trivial (fun _ w' hw' => by subst hw'; exact H.grows _) hT hb hK
      exact ⟨s,v,k1,k2,k3 w rfl⟩
    · split at hK
      · rename_i t y hop
        have hyv := ev_is hT y (hb y (by rw [hop]; simp [Op.operands]))
        obtain ⟨s,u,g1,g2,g3,_⟩ := loadS_ok H hyv hK
        refine ⟨s,u,g1,g2, ?_⟩
        obtain ⟨dst,op,type,pos,after,guard⟩ := o
        simp only at hop
        subst hop
        simp [execOp,g3]
      · exact hK.elim
end
end Go.Proofs.Ytafemlljemhkhaa.Sx
