/-
  THE SYMBOLIC EXECUTOR, part Gr: slices that grow: append, length, elements, what is left behind a place.
-/
import Derived.Test.YtalobhgefmhboaaSxMd
import Derived.Laws.Append
namespace Go.Proofs.Ytalobhgefmhboaa.Sx
open Go
set_option linter.unusedSectionVars false
set_option linter.unusedVariables false
set_option linter.unusedSimpArgs false
variable [Env]

/-! ### lengths -/
def cntL : IE → Option Nat
  | .nilL => some 0
  | .consL _ l => (cntL l).map (· + 1)
  | .catL a b => match cntL a, cntL b with
    | some x, some y => some (x + y)
    | _, _ => none
  | _ => none
theorem cntL_len : ∀ {l : IE} {n : Nat}, cntL l = some n → l.lst.length = n
  | .nilL, n, h => by cases h; rfl
  | .consL x l, n, h => by
    simp only [cntL] at h
    obtain ⟨m, hm, rfl⟩ := Option.map_eq_some_iff.1 h
    simp only [IE.lst, List.length_cons, cntL_len hm]
  | .catL a b, n, h => by
    simp only [cntL] at h
    split at h
    · rename_i x y hx hy
      cases h
      simp only [IE.lst, List.length_append, cntL_len hx, cntL_len hy]
    · cases h
  | .lit _, _, h | .atom _, _, h | .op _ _ _ _, _, h | .conv _ _, _, h | .mn _ _, _, h | .mx _ _, _, h | .at_ _ _ _ _, _, h | .dif _ _, _, h | .nat _, _, h | .cmpI _ _ _, _, h | .notI _, _, h | .andI _ _, _, h | .eqI _ _, _, h | .eqL _ _, _, h
  | .ite _ _ _, _, h | .get _ _ _, _, h | .len _, _, h | .tab _ _ _, _, h | .fn _ _, _, h | .latom _, _, h | .rep _ _, _, h | .putL _ _ _, _, h | .subL _ _ _ _, _, h | .ofTab _ _, _, h | .fnL _ _, _, h | .tabL _ _ _, _, h => by cases h
def lenB (k : Nat) (L : IE) : IE := if k = 1 then mkLen L else .fn 50 (.consL (mkLen L) (.consL (.lit k) .nilL))
theorem lenB_val {k : Nat} (hk : k ≠ 0) (L : IE) : (lenB k L).val = ((L.lst.length / k : Nat) : Int) := by
  unfold lenB
  split
  · rename_i h; subst h; rw [mkLen_val, Nat.div_one]
  · show (mkLen L).val / (k : Int) = _
    rw [mkLen_val]; exact (Int.natCast_ediv _ _).symm
def lenK (k : Nat) : IE → IE
  | .catL a b => match cntL (.catL a b) with
    | some c => .lit (c / k : Nat)
    | none => match cntL b with
      | some c => if c % k = 0 then .at_ (lenK k a) (.lit (c / k : Nat)) 1 0 else lenB k (.catL a b)
      | none => lenB k (.catL a b)
  | l => match cntL l with
    | some c => .lit (c / k : Nat)
    | none => lenB k l
theorem lenK_val {k : Nat} (hk : k ≠ 0) : ∀ (l : IE), (lenK k l).val = ((l.lst.length / k : Nat) : Int)
  | .catL a b => by
    simp only [lenK]
    split
    · rename_i c hc; simp only [IE.val]; rw [cntL_len hc]
    · split
      · rename_i c hc
        split
        · rename_i hm
          simp only [IE.val, lenK_val hk a, IE.lst, List.length_append, cntL_len hc, Int.toNat_natCast, Nat.mul_one, Nat.add_zero]
          obtain ⟨q, rfl⟩ := Nat.dvd_of_mod_eq_zero hm
          rw [Nat.mul_div_cancel_left _ (by omega), Nat.add_mul_div_left _ _ (by omega)]
        · exact lenB_val hk _
      · exact lenB_val hk _
  | .lit _ | .atom _ | .op _ _ _ _ | .conv _ _ | .mn _ _ | .mx _ _ | .at_ _ _ _ _ | .dif _ _ | .nat _ | .cmpI _ _ _ | .notI _ | .andI _ _ | .eqI _ _ | .eqL _ _ | .get _ _ _ | .len _ | .tab _ _ _ | .fn _ _
  | .latom _ | .nilL | .consL _ _ | .subL _ _ _ _ | .fnL _ _ | .ite _ _ _ | .rep _ _ | .putL _ _ _ | .ofTab _ _ | .tabL _ _ _ => by
    simp only [lenK]
    split
    · rename_i c hc; simp only [IE.val]; rw [cntL_len hc]
    · exact lenB_val hk _
def mkCat : IE → IE → IE
  | .nilL, b => b
  | .consL x l, b => .consL x (mkCat l b)
  | a, .nilL => a
  | a, b => .catL a b
theorem mkCat_lst : ∀ (a b : IE), (mkCat a b).lst = a.lst ++ b.lst
  | .nilL, b => by simp only [mkCat, IE.lst, List.nil_append]
  | .consL x l, b => by simp only [mkCat, IE.lst, mkCat_lst l b, List.cons_append]
  | .lit _, b | .atom _, b | .op _ _ _ _, b | .conv _ _, b | .mn _ _, b | .mx _ _, b | .at_ _ _ _ _, b | .dif _ _, b | .nat _, b | .cmpI _ _ _, b | .notI _, b | .andI _ _, b | .eqI _ _, b | .eqL _ _, b | .get _ _ _, b | .len _, b | .tab _ _ _, b | .fn _ _, b
  | .latom _, b | .subL _ _ _ _, b | .fnL _ _, b | .ite _ _ _, b | .rep _ _, b | .putL _ _ _, b | .ofTab _ _, b | .tabL _ _ _, b | .catL _ _, b => by
    cases b <;> simp only [mkCat, IE.lst, List.append_nil]
def nthL : IE → Nat → Option IE
  | .consL x _, 0 => some x
  | .consL _ l, n + 1 => nthL l n
  | _, _ => none
theorem nthL_val : ∀ {l : IE} {n : Nat} {x : IE}, nthL l n = some x → l.lst.getD n 0 = x.val
  | .consL y l, 0, x, h => by cases h; rfl
  | .consL y l, n + 1, x, h => by
    simp only [nthL] at h
    simp only [IE.lst]
    exact nthL_val h
  | .nilL, _, _, h | .catL _ _, _, _, h | .lit _, _, _, h | .atom _, _, _, h | .op _ _ _ _, _, _, h | .conv _ _, _, _, h | .mn _ _, _, _, h | .mx _ _, _, _, h | .at_ _ _ _ _, _, _, h | .dif _ _, _, _, h | .nat _, _, _, h | .cmpI _ _ _, _, _, h | .notI _, _, _, h | .andI _ _, _, _, h | .eqI _ _, _, _, h | .eqL _ _, _, _, h
  | .ite _ _ _, _, _, h | .get _ _ _, _, _, h | .len _, _, _, h | .tab _ _ _, _, _, h | .fn _ _, _, _, h | .latom _, _, _, h | .rep _ _, _, _, h | .putL _ _ _, _, _, h | .subL _ _ _ _, _, _, h | .ofTab _ _, _, _, h | .fnL _ _, _, _, h | .tabL _ _ _, _, _, h => by cases h
def dropN : IE → Nat → Option IE
  | l, 0 => some l
  | .consL _ l, n + 1 => dropN l n
  | _, _ => none
theorem dropN_lst : ∀ {l : IE} {n : Nat} {x : IE}, dropN l n = some x → x.lst = l.lst.drop n
  | l, 0, x, h => by simp only [dropN, Option.some.injEq] at h; subst h; rfl
  | .consL y l, n + 1, x, h => by
    simp only [dropN] at h
    simp only [IE.lst, List.drop_succ_cons]
    exact dropN_lst h
  | .nilL, _ + 1, _, h | .catL _ _, _ + 1, _, h | .lit _, _ + 1, _, h | .atom _, _ + 1, _, h | .op _ _ _ _, _ + 1, _, h | .conv _ _, _ + 1, _, h | .mn _ _, _ + 1, _, h | .mx _ _, _ + 1, _, h | .at_ _ _ _ _, _ + 1, _, h | .dif _ _, _ + 1, _, h | .nat _, _ + 1, _, h | .cmpI _ _ _, _ + 1, _, h | .notI _, _ + 1, _, h | .andI _ _, _ + 1, _, h | .eqI _ _, _ + 1, _, h | .eqL _ _, _ + 1, _, h
  | .ite _ _ _, _ + 1, _, h | .get _ _ _, _ + 1, _, h | .len _, _ + 1, _, h | .tab _ _ _, _ + 1, _, h | .fn _ _, _ + 1, _, h | .latom _, _ + 1, _, h | .rep _ _, _ + 1, _, h | .putL _ _ _, _ + 1, _, h | .subL _ _ _ _, _ + 1, _, h | .ofTab _ _, _ + 1, _, h | .fnL _ _, _ + 1, _, h | .tabL _ _ _, _ + 1, _, h => by cases h
/-- A row of elements of k words behind element j. -/
def dropK (k : Nat) (L j : IE) : IE :=
  match j with
  | .lit n => match dropN L (n.toNat * k) with
    | some r => r
    | none => .subL L (.at_ (.lit 0) (.lit n) k 0) (.dif (lenK k L) (.lit n)) k
  | j => .subL L (.at_ (.lit 0) j k 0) (.dif (lenK k L) j) k
theorem dropK_lst {k : Nat} (hk : k ≠ 0) {L j : IE} (hd : L.lst.length = (L.lst.length / k) * k) : (dropK k L j).lst = L.lst.drop (j.val.toNat * k) := by
  have key : ∀ j : IE, (IE.subL L (.at_ (.lit 0) j k 0) (.dif (lenK k L) j) k).lst = L.lst.drop (j.val.toNat * k) := fun j => by
    simp only [IE.lst, IE.val, lenK_val hk, Int.toNat_natCast, Int.toNat_zero, Nat.zero_add, Nat.add_zero]
    refine List.take_of_length_le ?_
    rw [List.length_drop, Nat.sub_mul, ← hd]
    exact Nat.le_refl _
  unfold dropK
  split
  · rename_i n
    split
    · rename_i r hr; rw [dropN_lst hr]; rfl
    · exact key _
  · exact key _
def getG (L off : IE) (i : Nat) : IE :=
  match off with
  | .lit a => match nthL L (a.toNat + i) with
    | some x => x
    | none => mkGet L (.lit a) i
  | off => mkGet L off i
theorem getG_val {L off : IE} {i : Nat} (h : off.val.toNat + i < L.lst.length) : (getG L off i).val = L.lst.getD (off.val.toNat + i) 0 := by
  unfold getG
  split
  · rename_i a
    split
    · rename_i x hx; exact (nthL_val hx).symm
    · exact mkGet_val _ _ _ h
  · exact mkGet_val _ _ _ h
/-- Do so many words from a place on lie within? -/
def gB (k : Nat) (L off : IE) (sz : Nat) : BE :=
  match off with
  | .lit a => match cntL L with
    | some c => .lit (decide (a.toNat + sz ≤ c))
    | none => rowB (.lit a) sz L
  | .at_ (.lit 0) j k' m => if k' = k ∧ m + sz ≤ k then .and (mkCmp .geq j (.lit 0)) (mkCmp .lss j (lenK k L)) else rowB (.at_ (.lit 0) j k' m) sz L
  | off => rowB off sz L
theorem gB_val {k : Nat} (hk : k ≠ 0) {L off : IE} {sz : Nat} (h : (gB k L off sz).val = true) : off.val.toNat + sz ≤ L.lst.length := by
  unfold gB at h
  split at h
  · rename_i a
    split at h
    · rename_i c hc
      simp only [BE.val, decide_eq_true_eq] at h
      simp only [IE.val]; rw [cntL_len hc]; exact h
    · exact rowB_val h
  · rename_i j k' m
    split at h
    · rename_i hh
      obtain ⟨rfl, hm⟩ := hh
      simp only [BE.val, Bool.and_eq_true, mkCmp_val, cmpVal, decide_eq_true_eq, lenK_val hk, IE.val] at h
      simp only [IE.val, Int.toNat_natCast, Int.toNat_zero, Nat.zero_add]
      have h2 : j.val.toNat + 1 ≤ L.lst.length / k' := by
        obtain ⟨q1, q2⟩ := h
        generalize L.lst.length / k' = q at q2 ⊢
        have q3 : 0 ≤ j.val := by simpa using q1
        omega
      have h3 := Nat.mul_le_mul_right k' h2
      have h4 := Nat.div_mul_le_self L.lst.length k'
      rw [Nat.add_mul, Nat.one_mul] at h3
      omega
    · exact rowB_val h
  · exact rowB_val h
def addOff (e : IE) (m : Nat) : IE := match e with
  | .lit a => .lit ((a.toNat + m : Nat) : Int)
  | .at_ a j k o => .at_ a j k (o + m)
  | e => .at_ e (.lit 0) 0 m
theorem addOff_val (e : IE) (m : Nat) : (addOff e m).val.toNat = e.val.toNat + m := by
  unfold addOff; split <;> simp only [IE.val, Int.toNat_natCast, Int.toNat_zero, Nat.zero_mul, Nat.add_zero, Nat.add_assoc]

section
variable {A : Type} [AbsK A]
def gval : SV → Option Nat
  | .w (.one (.b (.ref n))) => some n
  | _ => none
def gptrOf : SV → Option (Nat × IE)
  | .w (.one (.b (.gptr n e))) => some (n, e)
  | _ => none
theorem gval_is {x : SV} {n : Nat} (h : gval x = some n) {ρ : Rho} {v : Value} (hx : x.is ρ v) : ∃ r, ρ n = some r ∧ v = r.value := by
  unfold gval at h
  split at h
  · cases h; obtain ⟨r, h1, h2, _⟩ := hx; exact ⟨r, h1, h2⟩
  · cases h
theorem gptrOf_is {x : SV} {n : Nat} {e : IE} (h : gptrOf x = some (n, e)) {ρ : Rho} {v : Value} (hx : x.is ρ v) :
    ∃ b o len cap, ρ n = some (.val (.slice (some ⟨b, o, none⟩) len cap)) ∧ v = .pointer (some ⟨b, o + e.val.toNat, none⟩) := by
  unfold gptrOf at h
  split at h
  · cases h; exact hx
  · cases h
/-- What is known of a slice that grows. -/
theorem grow_of {ρ : Rho} {F : Nat → Nat → Prop} {h : Heap A} {w : World} (H : HeapOk ρ F h w) {n k : Nat} {L : IE} (hl : look h n = some (.mach k L)) (hk : k ≠ 0) {r : RV} (hr : ρ n = some r) : growOk k L.lst r (F n) w := by
  have := H.obj n _ r hl hr
  simp only [SO.ok, MachOk, if_neg hk] at this
  exact this
theorem gref_of {ρ : Rho} {F : Nat → Nat → Prop} {h : Heap A} {w : World} (H : HeapOk ρ F h w) {x : SV} {n k : Nat} {L : IE} {v : Value} (hg : gval x = some n) (hl : look h n = some (.mach k L)) (hk : k ≠ 0) (hx : x.is ρ v) :
    ∃ a len cap, ρ n = some (.val (.slice a len cap)) ∧ v = .slice a len cap ∧ len * k = L.lst.length ∧ len ≤ cap ∧
      ((cap = 0 ∧ ∀ x, ¬ F n x) ∨ ∃ b e pre rest, a = some ⟨b, pre.length, none⟩ ∧ w.heap[b]? = some (.cells (pre ++ (L.lst.map (Value.int .u64) ++ rest)).toArray e (0, 0)) ∧ cap * k ≤ L.lst.length + rest.length ∧ ∀ x, F n x ↔ x = b) := by
  obtain ⟨r, hr, rfl⟩ := gval_is hg hx
  obtain ⟨a, len, cap, rfl, h2, h3, h4⟩ := grow_of H hl hk hr
  exact ⟨a, len, cap, hr, rfl, h2, h3, h4⟩
theorem len_of {k len : Nat} (hk : k ≠ 0) {L : IE} (h : len * k = L.lst.length) : (lenK k L).val = (len : Int) := by
  rw [lenK_val hk, ← h, Nat.mul_div_cancel _ (by omega)]
/-- The elements of one, as they stand. -/
theorem grow_cell {k len cap : Nat} {L : List Int} {a : Option Addr} {F : Nat → Prop} {w : World} (h2 : len * k = L.length) (h3 : len ≤ cap)
    (h4 : (cap = 0 ∧ ∀ x, ¬ F x) ∨ ∃ b e pre rest, a = some ⟨b, pre.length, none⟩ ∧ w.heap[b]? = some (.cells (pre ++ (L.map (Value.int .u64) ++ rest)).toArray e (0, 0)) ∧ cap * k ≤ L.length + rest.length ∧ ∀ x, F x ↔ x = b)
    {b o : Nat} (ha : a = some ⟨b, o, none⟩) {j : Nat} (hj : j < L.length) : w.cell? ⟨b, o + j, none⟩ = some (.int .u64 (L.getD j 0)) := by
  rcases h4 with ⟨h4, _⟩ | ⟨b', e, pre, rest, g1, g2, _, _⟩
  · exfalso
    have : len = 0 := by omega
    subst this
    rw [Nat.zero_mul] at h2; omega
  · rw [ha] at g1
    cases g1
    rw [cell_of_block g2, List.getElem?_toArray, List.getElem?_append_right (by omega), Nat.add_sub_cancel_left, List.getElem?_append_left (by simpa using hj), List.getElem?_map, List.getElem?_eq_getElem hj, List.getD_eq_getElem?_getD, List.getElem?_eq_getElem hj]
    rfl

/-! ### length -/
def lenG (P : Program) (t : TypeId) (x : SV) (h : Heap A) : Tree (SV × Heap A) :=
  match gval x, P.underlying t with
  | some n, some (.slice _) => (match look h n with
    | some (.mach (k + 1) L) => .leaf (.w (.one (.b (.int .i64 (lenK (k + 1) L)))), h)
    | _ => .fail 301)
  | _, _ => .fail 302
theorem lenG_ok {P : Program} {prot : Prot} {t ty : TypeId} {x : SV} {h : Heap A} {ρ : Rho} {F : Nat → Nat → Prop} {w : World} (H : HeapOk ρ F h w) {u : Value} (hx : x.is ρ u) {K : SV × Heap A → Prop}
    (hK : (lenG P t x h).holds K) : Ran P prot ρ F w (Builtin.len_ #[t] ty #[u]) K := by
  unfold lenG at hK
  split at hK
  · rename_i n e hg hu
    split at hK
    · rename_i k L hl
      obtain ⟨a, len, cap, hr, rfl, h2, h3, h4⟩ := gref_of H hg hl (by omega) hx
      refine ⟨_, _, goInt len, ρ, F, w, hK, ?_, ?_, H, Goes.refl _ _ _ _⟩
      · show _ = _; rw [len_of (by omega) h2]; rfl
      · simp [Builtin.len_, gives_underlying hu w]
    · exact hK.elim
  · exact hK.elim

/-! ### an element's place -/
def indexG (P : Program) (t : TypeId) (x i : SV) (h : Heap A) : Tree (SV × Heap A) :=
  match gval x, asI i, P.underlying t with
  | some n, some (_, j), some (.slice e) => (match look h n, sizeT P e with
    | some (.mach (k + 1) L), some sz => if sz = k + 1 then
        mkBr (mkCmp .geq j (.lit 0)) (mkBr (mkCmp .lss j (lenK (k + 1) L)) (.leaf (.w (.one (.b (.gptr n (mkAt (.lit 0) j (k + 1) 0)))), h)) (.fail 303)) (.fail 303)
      else .fail 304
    | _, _ => .fail 305)
  | _, _, _ => .fail 306
theorem indexG_ok {P : Program} {prot : Prot} {t : TypeId} {x i : SV} {h : Heap A} {ρ : Rho} {F : Nat → Nat → Prop} {w : World} (H : HeapOk ρ F h w) {v u : Value} (hx : x.is ρ v) (hi : i.is ρ u) {K : SV × Heap A → Prop}
    (hK : (indexG P t x i h).holds K) : Ran P prot ρ F w (Instr.indexAt t v u) K := by
  unfold indexG at hK
  split at hK
  · rename_i n k0 j e hg hj hu
    obtain rfl := asI_is hj hi
    split at hK
    · rename_i k L sz hl hsz
      split at hK
      · rename_i hk
        subst hk
        obtain ⟨a, len, cap, hr, rfl, h2, h3, h4⟩ := gref_of H hg hl (by omega) hx
        obtain ⟨q1, q2⟩ := mkBr_holds hK
        simp only [mkCmp_val, cmpVal, IE.val] at q1 q2
        by_cases hj0 : j.val ≥ 0
        · obtain ⟨q3, q4⟩ := mkBr_holds (q1 (by simpa using hj0))
          simp only [mkCmp_val, cmpVal, len_of (Nat.succ_ne_zero k) h2] at q3 q4
          by_cases hj1 : j.val < (len : Int)
          · rcases h4 with ⟨h4, _⟩ | ⟨b, e', pre, rest, rfl, g2, _, _⟩
            · omega
            · refine ⟨_, _, .pointer (some ⟨b, pre.length + j.val.toNat * (k + 1), none⟩), ρ, F, w, q3 (by simpa using hj1), ⟨b, _, _, _, hr, by rw [mkAt_val]; simp [IE.val]⟩, ?_, H, Goes.refl _ _ _ _⟩
              have hc : 0 ≤ j.val ∧ j.val < (len : Int) := by omega
              simp [Instr.indexAt, asIntOf, gives_underlying hu w, hc, gives_sizeOf hsz w, addr_add]
          · exact (q4 (decide_eq_false hj1)).elim
        · exact (q2 (by simpa using hj0)).elim
      · exact hK.elim
    · exact hK.elim
  · exact hK.elim

/-! ### a field's place -/
def fieldG (P : Program) (s : TypeId) (x : SV) (f : Nat) (h : Heap A) : Tree (SV × Heap A) :=
  match fieldT P s f, gptrOf x with
  | some (off, ty), some (n, o) =>
    (match sizeT P ty with
    | some (_ + 1) => .leaf (.w (.one (.b (.gptr n (addOff o off)))), h)
    | _ => .fail 307)
  | _, _ => .fail 308
theorem fieldG_ok {P : Program} {prot : Prot} {s : TypeId} {x : SV} {f : Nat} {h : Heap A} {ρ : Rho} {F : Nat → Nat → Prop} {w : World} (H : HeapOk ρ F h w) {v : Value} (hx : x.is ρ v) {K : SV × Heap A → Prop}
    (hK : (fieldG P s x f h).holds K) : Ran P prot ρ F w (Instr.fieldAt s v f) K := by
  unfold fieldG at hK
  split at hK
  · rename_i off ty n o hf hg
    split at hK
    · rename_i m hm
      obtain ⟨b, o', len, cap, hr, rfl⟩ := gptrOf_is hg hx
      refine ⟨_, _, .pointer (some ⟨b, o' + o.val.toNat + off, none⟩), ρ, F, w, hK, ⟨b, _, _, _, hr, by rw [addOff_val, Nat.add_assoc]⟩, ?_, H, Goes.refl _ _ _ _⟩
      unfold fieldT at hf
      split at hf
      · rename_i fs hu
        obtain ⟨fd, hfd, he⟩ := Option.map_eq_some_iff.1 hf
        cases he
        simp [Instr.fieldAt, gives_underlying hu w, hfd, Instr.sureAddr, fieldPlace, gives_sizeOf hm w, addr_add]
      · cases hf
    · exact hK.elim
  · exact hK.elim

/-! ### loads -/
def loadG (P : Program) (t : TypeId) (x : SV) (h : Heap A) : Tree (SV × Heap A) :=
  match gptrOf x with
  | some (n, off) => (match look h n, aggT P t, sizeT P t with
    | some (.mach (k + 1) L), some false, _ => mkBr (gB (k + 1) L off 1) (.leaf (.w (.one (.b (.int .u64 (getG L off 0)))), h)) (.fail 309)
    | some (.mach (k + 1) L), some true, some sz => mkBr (gB (k + 1) L off sz) (.leaf (.w (.agg ((List.range sz).map fun i => .b (.int .u64 (getG L off i)))), h)) (.fail 309)
    | _, _, _ => .fail 310)
  | none => .fail 311
theorem loadG_ok {P : Program} {prot : Prot} {t : TypeId} {x : SV} {h : Heap A} {ρ : Rho} {F : Nat → Nat → Prop} {w : World} (H : HeapOk ρ F h w) {v : Value} (hx : x.is ρ v) {K : SV × Heap A → Prop}
    (hK : (loadG P t x h).holds K) : Ran P prot ρ F w (Instr.loadAt t v) K := by
  unfold loadG at hK
  split at hK
  · rename_i n off hg
    obtain ⟨b, o', len, cap, hr, rfl⟩ := gptrOf_is hg hx
    have main : ∀ {k : Nat} {L : IE}, look h n = some (.mach (k + 1) L) → ∀ {sz : Nat}, (gB (k + 1) L off sz).val = true → ∀ j, j < sz → w.cell? ⟨b, o' + off.val.toNat + j, none⟩ = some (.int .u64 (getG L off j).val) := by
      intro k L hl sz hb j hj
      obtain ⟨a, len', cap', e, h2, h3, h4⟩ := grow_of H hl (by omega) hr
      cases e
      have hlt := gB_val (by omega) hb
      have := grow_cell h2 h3 h4 rfl (j := off.val.toNat + j) (by omega)
      rw [getG_val (by omega), Nat.add_assoc]
      exact this
    split at hK
    · rename_i k L hl ha
      obtain ⟨h1, h2⟩ := mkBr_holds hK
      cases hb : (gB (k + 1) L off 1).val with
      | false => exact (h2 hb).elim
      | true =>
        refine ⟨_, _, .int .u64 (getG L off 0).val, ρ, F, w, h1 hb, rfl, ?_, H, Goes.refl _ _ _ _⟩
        simp only [Instr.loadAt, Instr.sureAddr, Sem.run_bind, Sem.run_pure, Result.andThen_ok]
        exact run_loadVar ha (main hl hb 0 (by omega))
    · rename_i k L sz hl ha hsz
      obtain ⟨h1, h2⟩ := mkBr_holds hK
      cases hb : (gB (k + 1) L off sz).val with
      | false => exact (h2 hb).elim
      | true =>
        refine ⟨_, _, .agg ((List.range sz).map fun i => Value.int .u64 (getG L off i).val).toArray, ρ, F, w, h1 hb, ⟨_, rfl, All2.map _ _ _ fun i _ => rfl⟩, ?_, H, Goes.refl _ _ _ _⟩
        simp only [Instr.loadAt, Instr.sureAddr, Sem.run_bind, Sem.run_pure, Result.andThen_ok]
        refine run_loadAgg ha (by simpa using hsz) fun j u hu => ?_
        rw [List.getElem?_map] at hu
        obtain ⟨i, hi, rfl⟩ := Option.map_eq_some_iff.1 hu
        obtain ⟨hlt, rfl⟩ := List.getElem?_eq_some_iff.1 hi
        simp only [List.length_range] at hlt
        simp only [List.getElem_range]
        exact main hl hb j hlt
    · exact hK.elim
  · exact hK.elim

/-! ### one comes in the place of another one -/
theorem HeapOk.moveM {prot : Nat → Nat → Prop} {ρ : Rho} {F : Nat → Nat → Prop} {h h1 : Heap A} {w w' : World} (H : HeapOk ρ F h w) {old : Option Nat} {own : Nat → Prop} {nm k : Nat} {L : IE} {v : Value} {Fn : Nat → Prop}
    (ho : (old = none ∧ h1 = h ∧ ∀ x, ¬ own x) ∨ ∃ n0 k0 L0 v0, old = some n0 ∧ look h n0 = some (.mach k0 L0) ∧ ρ n0 = some (.val v0) ∧ h1 = put h n0 (.mach 0 .nilL) ∧ ∀ x, own x ↔ F n0 x)
    (hn : look h nm = none) (hni : Hi nm) (hF : ∀ x, Fn x → own x ∨ w.heap.size ≤ x) (hm : MachOk k L.lst (.val v) Fn w')
    (hsame : ∀ x, x < w.heap.size → ¬ own x → w'.heap[x]? = w.heap[x]?) (hsize : w.heap.size ≤ w'.heap.size) (hos : w'.os = w.os) (htape : w'.tape = w.tape) (hout : w'.output = w.output) :
    ∃ F', HeapOk (upd ρ nm (some (.val v))) F' ((nm, .mach k L) :: h1) w' ∧ Goes prot ρ F w (upd ρ nm (some (.val v))) F' w' := by
  have hρn : ρ nm = none := by
    have := H.dom nm; rw [hn] at this
    cases hr : ρ nm with
    | none => rfl
    | some r => rw [hr] at this; simp at this
  have hne0 : ∀ n0, old = some n0 → n0 ≠ nm ∧ Hi n0 := fun n0 h0 => by
    rcases ho with ⟨e, _⟩ | ⟨n1, k0, L0, v0, e, hl, hr, _⟩
    · rw [e] at h0; cases h0
    · rw [e] at h0; cases h0
      exact ⟨(fun e => by rw [e, hn] at hl; cases hl), H.low n0 _ hl rfl⟩
  have hext : Rho.Ext ρ (upd ρ nm (some (.val v))) := fun m r hm => by
    rw [upd_ne _ _ _ _ (fun e => by subst e; rw [hρn] at hm; cases hm)]; exact hm
  have hbound : ∀ m, (upd ρ nm (some (.val v)) m).isSome → m ≠ nm → (ρ m).isSome := fun m hm e => by rwa [upd_ne _ _ _ _ e] at hm
  have hown : ∀ x, own x → ∃ n0, old = some n0 ∧ (ρ n0).isSome ∧ F n0 x := fun x hx => by
    rcases ho with ⟨_, _, e⟩ | ⟨n1, k0, L0, v0, e, hl, hr, _, e2⟩
    · exact (e x hx).elim
    · exact ⟨n1, e, by rw [hr]; rfl, (e2 x).1 hx⟩
  have hownF : ∀ n0, old = some n0 → ∀ x, F n0 x → own x := fun n0 h0 x hx => by
    rcases ho with ⟨e, _⟩ | ⟨n1, k0, L0, v0, e, hl, hr, _, e2⟩
    · rw [e] at h0; cases h0
    · rw [e] at h0; cases h0; exact (e2 x).2 hx
  have hnot : ∀ m x, (ρ m).isSome → old ≠ some m → F m x → ¬ own x := fun m x hm hne hx ho' => by
    obtain ⟨n0, e0, hs0, hx0⟩ := hown x ho'
    exact H.disj m n0 x (fun e => hne (e ▸ e0)) hm hs0 (.inr (hne0 n0 e0).2) hx hx0
  have hlook1 : ∀ m, old ≠ some m → look h1 m = look h m := fun m hm => by
    rcases ho with ⟨_, e, _⟩ | ⟨n1, k0, L0, v0, e, hl, hr, e1, _⟩
    · rw [e]
    · rw [e1]; exact look_put_ne _ _ _ _ (fun e' => hm (e' ▸ e))
  have hlook0 : ∀ m, old = some m → look h1 m = some (.mach 0 .nilL) ∧ ∃ v0, ρ m = some (.val v0) := fun m hm => by
    rcases ho with ⟨e, _⟩ | ⟨n1, k0, L0, v0, e, hl, hr, e1, _⟩
    · rw [e] at hm; cases hm
    · rw [e] at hm; cases hm
      exact ⟨by rw [e1]; exact look_put_same _ _ _, v0, hr⟩
  let F' : Nat → Nat → Prop := fun m => if m = nm then Fn else if old = some m then (fun _ => False) else F m
  have Fnm : F' nm = Fn := if_pos rfl
  have Fold : ∀ m, m ≠ nm → old = some m → F' m = fun _ => False := fun m e1 e2 => by simp only [F', if_neg e1, if_pos e2]
  have Fne : ∀ m, m ≠ nm → old ≠ some m → F' m = F m := fun m e1 e2 => by simp only [F', if_neg e1, if_neg e2]
  have hsz : ∀ x, Fn x → x < w'.heap.size := fun x hx => MachOk.size hm x hx
  refine ⟨F', ⟨fun m => ?_, fun m o r hlm hr => ?_, fun m m' x hne hm hm' hh hx hx' => ?_, fun m o hlm hw => ?_, fun m x hm' hx => ?_⟩, ⟨hext, hos, htape, hout, hsize, fun x hx hno => ?_, fun m x hm' hx => ?_, fun m hm' hs => ?_, fun q j _ b hb => ?_⟩⟩
  · by_cases em : m = nm
    · subst em; rw [upd_same]; simp [look]
    · have : (nm == m) = false := by simpa using Ne.symm em
      rw [upd_ne _ _ _ _ em]; simp only [look, this, cond_false]
      by_cases e0 : old = some m
      · obtain ⟨h1, v0, h2⟩ := hlook0 m e0; rw [h1, h2]; rfl
      · rw [hlook1 m e0]; exact H.dom m
  · by_cases em : m = nm
    · subst em
      rw [upd_same] at hr
      simp [look] at hlm; subst hlm; cases hr
      rw [Fnm]; exact hm
    · have hne : (nm == m) = false := by simpa using Ne.symm em
      rw [upd_ne _ _ _ _ em] at hr
      simp only [look, hne, cond_false] at hlm
      by_cases e0 : old = some m
      · obtain ⟨q1, v0, q2⟩ := hlook0 m e0
        rw [q1] at hlm; cases hlm
        rw [q2] at hr; cases hr
        rw [Fold m em e0]
        exact ⟨⟨v0, rfl⟩, fun x hx => hx⟩
      · rw [hlook1 m e0] at hlm
        rw [Fne m em e0]
        refine SO.ok_frame hext (H.obj m o r hlm hr) hsize fun x hx => ?_
        have hs : (ρ m).isSome := by rw [hr]; rfl
        exact hsame x (H.size m x hs hx) (hnot m x hs e0 hx)
  · have key : ∀ m x, m ≠ nm → (upd ρ nm (some (.val v)) m).isSome → F' m x → ¬ Fn x := fun m x em hm hx hf => by
      have hs := hbound m hm em
      by_cases e0 : old = some m
      · rw [Fold m em e0] at hx; exact hx
      · rw [Fne m em e0] at hx
        rcases hF x hf with h1 | h1
        · exact hnot m x hs e0 hx h1
        · have := H.size m x hs hx; omega
    by_cases em : m = nm
    · subst em
      rw [Fnm] at hx
      exact key m' x (Ne.symm hne) hm' hx' hx
    · by_cases em' : m' = nm
      · subst em'
        rw [Fnm] at hx'
        exact key m x hne hm hx hx'
      · by_cases e0 : old = some m
        · rw [Fold m em e0] at hx; exact hx
        · by_cases e1 : old = some m'
          · rw [Fold m' em' e1] at hx'; exact hx'
          · rw [Fne m em e0] at hx; rw [Fne m' em' e1] at hx'
            exact H.disj m m' x hne (hbound m hm em) (hbound m' hm' em') hh hx hx'
  · by_cases em : m = nm
    · exact em ▸ hni
    · have hne : (nm == m) = false := by simpa using Ne.symm em
      simp only [look, hne, cond_false] at hlm
      by_cases e0 : old = some m
      · exact (hne0 m e0).2
      · rw [hlook1 m e0] at hlm; exact H.low m o hlm hw
  · by_cases em : m = nm
    · subst em; rw [Fnm] at hx; exact hsz x hx
    · by_cases e0 : old = some m
      · rw [Fold m em e0] at hx; exact hx.elim
      · rw [Fne m em e0] at hx
        exact Nat.lt_of_lt_of_le (H.size m x (hbound m hm' em) hx) hsize
  · refine hsame x hx fun ho' => ?_
    obtain ⟨n0, e0, hs0, hx0⟩ := hown x ho'
    exact hno n0 (hne0 n0 e0).2 hs0 hx0
  · by_cases em : m = nm
    · subst em
      rw [Fnm] at hx
      rcases hF x hx with h1 | h1
      · obtain ⟨n0, e0, hs0, hx0⟩ := hown x h1
        exact .inr ⟨n0, hs0, hx0, fun _ => (hne0 n0 e0).2⟩
      · exact .inl h1
    · by_cases e0 : old = some m
      · rw [Fold m em e0] at hx; exact hx.elim
      · rw [Fne m em e0] at hx
        exact .inr ⟨m, hbound m hm' em, hx, id⟩
  · have em : m ≠ nm := fun e => hm' (e ▸ hni)
    have e0 : old ≠ some m := fun e => hm' (hne0 m e).2
    exact Fne m em e0
  · have hs : (ρ q).isSome := by rw [hb]; rfl
    have hFb := H.self hb
    have e0 : old ≠ some q := fun e => by
      obtain ⟨_, v0, hv⟩ := hlook0 q e
      rw [hv] at hb; cases hb
    exact cell_congr (hsame b (H.size q b hs hFb) (hnot q b hs e0 hFb)) _

/-! ### words written -/
theorem raw_store {P : Program} {b o e : Nat} : ∀ (xs : List Int) (i : Nat) (w : World) (p l r : List Value), w.heap[b]? = some (.cells (p ++ (l ++ r)).toArray e (0, 0)) → p.length = o + i → l.length = xs.length →
    ∃ w', (storeCells ⟨b, o, none⟩ (xs.map (Value.int .u64)) i).run P w = .ok () w' ∧ w'.heap[b]? = some (.cells (p ++ (xs.map (Value.int .u64) ++ r)).toArray e (0, 0)) ∧ w'.heap.size = w.heap.size ∧ (∀ x, x ≠ b → w'.heap[x]? = w.heap[x]?) ∧ w'.os = w.os ∧ w'.tape = w.tape ∧ w'.output = w.output
  | [], i, w, p, l, r, hb, hp, hl => by
    obtain rfl : l = [] := List.length_eq_zero_iff.1 (by simpa using hl)
    exact ⟨w, rfl, hb, rfl, fun _ _ => rfl, rfl, rfl, rfl⟩
  | x :: xs, i, w, p, [], r, hb, hp, hl => by simp at hl
  | x :: xs, i, w, p, y :: l, r, hb, hp, hl => by
    have hb1 : (w.setCell ⟨b, o + i, none⟩ (.int .u64 x)).heap[b]? = some (.cells ((p ++ [Value.int .u64 x]) ++ (l ++ r)).toArray e (0, 0)) := by
      rw [heap_setCell_at hb]
      congr 2
      apply Array.ext'
      simp only [Array.toList_setIfInBounds, List.toList_toArray]
      rw [← hp, List.set_append_right _ _ (Nat.le_refl _), Nat.sub_self]
      simp
    obtain ⟨w', g1, g2, g3, g4, g5, g6, g7⟩ := raw_store (P := P) (o := o) xs (i + 1) _ (p ++ [Value.int .u64 x]) l r hb1 (by simp [hp]; omega) (by simpa using hl)
    refine ⟨w', ?_, by rw [g2]; simp, by rw [g3, size_setCell], fun k hk => (g4 k hk).trans (heap_setCell _ _ _ _ hk), g5, g6, g7⟩
    have hu : w.cell? ⟨b, o + i, none⟩ = some y := by
      rw [cell_of_block hb, ← hp, List.getElem?_toArray, List.getElem?_append_right (Nat.le_refl _), Nat.sub_self]
      rfl
    have hf := frozen_of_block hb (o + i)
    simp only [List.map_cons, storeCells, Sem.run_bind, addr_add, run_store P w _ (Value.int .u64 x) .plain rfl, hu, hf]
    simpa using g1

/-! ### what is appended -/
/-- Words of cells. -/
def u64s : List SC → Option IE
  | [] => some .nilL
  | .b (.int .u64 e) :: l => (u64s l).map (.consL e)
  | _ => none
theorem u64s_is {ρ : Rho} : ∀ {l : List SC} {vs : List Value} {L : IE}, u64s l = some L → All2 (SC.is ρ) l vs → vs = L.lst.map (Value.int .u64)
  | [], [], L, h, _ => by cases h; rfl
  | .b (.int .u64 e) :: l, v :: vs, L, h, ha => by
    simp only [u64s] at h
    obtain ⟨M, hM, rfl⟩ := Option.map_eq_some_iff.1 h
    have h1 : v = .int .u64 e.val := ha.1
    simp only [IE.lst, List.map_cons, h1, u64s_is hM ha.2]
  | [], _ :: _, _, _, ha => ha.elim
  | _ :: _, [], _, _, ha => ha.elim
/-- The words of a slice, of elements of k words; how many elements there are; what is asked. -/
def srcG (k : Nat) (y : SV) (h : Heap A) : Option (BE × IE × IE) :=
  match y with
  | .w (.one (.b (.ref n))) => (match look h n with
    | some (.mach (k' + 1) L) => if k' + 1 = k then some (.lit true, L, lenK k L) else none
    | _ => none)
  | .w (.one (.b .nils)) => some (.lit true, .nilL, .lit 0)
  | y => match sliceOf y with
    | some (ns, os, ls) => (match look h ns with
      | some (.cells _ l _) => (match os, ls with
        | .lit o, .lit n => if o.toNat + n.toNat * k ≤ l.length then (u64s ((l.drop o.toNat).take (n.toNat * k))).map fun L => (.lit true, L, .lit n) else none
        | _, _ => none)
      | some so => (match srcI so os ls k with
        | some (.u64, c, L) => some (c, L, ls)
        | _ => none)
      | none => none)
    | none => none
theorem srcG_ok {P : Program} {h : Heap A} {ρ : Rho} {F : Nat → Nat → Prop} {w : World} (H : HeapOk ρ F h w) {y : SV} {k : Nat} (hk : k ≠ 0) {c : BE} {L n : IE} (hs : srcG k y h = some (c, L, n)) (hc : c.val = true) {v : Value} (hy : y.is ρ v) :
    L.lst.length = n.val.toNat * k ∧ 0 ≤ (n.val.toNat : Int) ∧ ∃ a cp, v = .slice a n.val.toNat cp ∧ (Builtin.firstCells k n.val.toNat (.slice a n.val.toNat cp)).run P w = .ok (L.lst.map (Value.int .u64)).toArray w := by
  have none_run : ∀ cp, (Builtin.firstCells k 0 (.slice none 0 cp)).run P w = .ok (([] : List Int).map (Value.int .u64)).toArray w := fun cp => by simp [Builtin.firstCells]
  unfold srcG at hs
  split at hs
  · rename_i nn
    split at hs
    · rename_i k' L' hl
      split at hs
      · rename_i hkk
        subst hkk
        cases hs
        obtain ⟨a, len, cap, hr, rfl, h2, h3, h4⟩ := gref_of H (x := .w (.one (.b (.ref nn)))) rfl hl hk hy
        have hn : (lenK (k' + 1) L).val.toNat = len := by rw [len_of hk h2]; rfl
        rw [hn]
        refine ⟨h2.symm, Int.natCast_nonneg _, a, cap, rfl, ?_⟩
        cases a with
        | none =>
          have h0 : len = 0 := by
            rcases h4 with ⟨h4, _⟩ | ⟨b, e, pre, rest, h5, _⟩
            · omega
            · cases h5
          subst h0
          have hL : L.lst = [] := List.length_eq_zero_iff.1 (by rw [← h2, Nat.zero_mul])
          rw [hL]; exact none_run cap
        | some ad =>
          by_cases h0 : len = 0
          · subst h0
            have hL : L.lst = [] := List.length_eq_zero_iff.1 (by rw [← h2, Nat.zero_mul])
            rw [hL]
            simp [Builtin.firstCells, loadCells, loadCellsFrom]
          · rcases h4 with ⟨h4, _⟩ | ⟨b, e, pre, rest, h5, h6, _⟩
            · omega
            · cases h5
              have := loadCells_list (P := P) (w := w) (b := b) (o := pre.length) (vs := L.lst.map (Value.int .u64)) fun j u hu => by
                rw [List.getElem?_map] at hu
                obtain ⟨q, hq, rfl⟩ := Option.map_eq_some_iff.1 hu
                obtain ⟨hlt, rfl⟩ := List.getElem?_eq_some_iff.1 hq
                rw [cell_of_block h6, List.getElem?_toArray, List.getElem?_append_right (by omega), Nat.add_sub_cancel_left, List.getElem?_append_left (by simpa using hlt), List.getElem?_map, hq]
                rfl
              rw [List.length_map, ← h2] at this
              simpa [Builtin.firstCells] using this
      · cases hs
    · cases hs
  · cases hs
    cases hy
    refine ⟨by simp [IE.lst, IE.val], Int.natCast_nonneg _, none, 0, rfl, ?_⟩
    exact none_run 0
  · split at hs
    · rename_i ns os ls hsl
      split at hs
      · rename_i e l t hl
        split at hs
        · rename_i o nn
          split at hs
          · rename_i hle
            obtain ⟨L', hL', he⟩ := Option.map_eq_some_iff.1 hs
            cases he
            obtain ⟨a, cp, rfl, ha⟩ := sliceOf_is hsl hy
            obtain ⟨r, hr⟩ := H.rho_some hl
            have hlen : L.lst.length = nn.toNat * k := by
              obtain ⟨b, vs, hb, hblk, ⟨us, rest, q1, q2, q3⟩, _⟩ := H.obj ns _ r hl hr
              have q4 := ((q3.drop o.toNat).take (nn.toNat * k))
              have q5 := u64s_is hL' q4
              have q6 := congrArg List.length q5
              rw [List.length_map] at q6
              have q7 := q3.length
              rw [List.length_take, List.length_drop] at q6
              omega
            refine ⟨hlen, Int.natCast_nonneg _, a, cp, rfl, ?_⟩
            show (Builtin.firstCells k nn.toNat (.slice a nn.toNat cp)).run P w = _
            rcases ha with h0 | ⟨b, hb, rfl⟩
            · have h0' : nn.toNat = 0 := h0
              have hL : L.lst = [] := List.length_eq_zero_iff.1 (by rw [hlen, h0', Nat.zero_mul])
              rw [hL, h0']
              cases a with
              | none => simp [Builtin.firstCells]
              | some a => simp [Builtin.firstCells, loadCells, loadCellsFrom]
            · rw [hb] at hr; cases hr
              obtain ⟨vs, v1, v2, v3⟩ := cells_at (H.obj ns _ _ hl hb) (o := o.toNat) (n := nn.toNat * k) hle
              have v4 := u64s_is hL' v2
              have := loadCells_list (P := P) v3
              rw [v1] at this
              rw [v4] at this
              simpa [Builtin.firstCells, IE.val] using this
          · cases hs
        · cases hs
      · rename_i so hso hlook
        split at hs
        · rename_i c' L' hsrc
          cases hs
          obtain ⟨g1, a, cp, rfl, g2⟩ := firstCells_I (P := P) H hsl hy hlook hsrc hc (Nat.le_refl _)
          exact ⟨g1, Int.natCast_nonneg _, a, cp, rfl, g2⟩
        · cases hs
      · cases hs
    · cases hs

/-! ### append -/
/-- onto what: nothing (none), or a slice that grows (its name, its words). -/
def ontoG (k : Nat) (x : SV) (h : Heap A) : Option (Option Nat × IE) :=
  match x with
  | .w (.one (.b .nils)) => some (none, .nilL)
  | .w (.one (.b (.sl _ _ (.lit l) (.lit c)))) => if Nat.beq l.toNat 0 && Nat.beq c.toNat 0 then some (none, .nilL) else none
  | .w (.one (.b (.ref n))) => (match look h n with
    | some (.mach (k' + 1) L) => if k' + 1 = k then some (some n, L) else none
    | _ => none)
  | _ => none
def killO (old : Option Nat) (h : Heap A) : Heap A := match old with
  | some n0 => put h n0 (.mach 0 .nilL)
  | none => h
def appendG (P : Program) (ts : Array TypeId) (x y : SV) (h : Heap A) (nm : Nat) : Tree (SV × Heap A) :=
  match ts.toList with
  | [t0, t1] =>
    match P.underlying t0, P.underlying t1 with
    | some (.slice e), some (.slice _) =>
      match sizeT P e, zeroT P e, bytesT P e with
      | some (sz + 1), some z, some by_ =>
        match ontoG (sz + 1) x h, srcG (sz + 1) y h with
        | some (old, L), some (c, M, n) =>
          if freeN h nm && (Nat.beq z.length (sz + 1) && Nat.ble by_ 65536) then
            mkBr c (mkBr (mkCmp .leq (.at_ (lenK (sz + 1) L) n 1 0) (.lit 1073741824))
              (.leaf (.w (.one (.b (.ref nm))), (nm, .mach (sz + 1) (mkCat L M)) :: killO old h)) (.fail 320)) (.fail 320)
          else .fail 321
        | _, _ => .fail 322
      | _, _, _ => .fail 323
    | _, _ => .fail 324
  | _ => .fail 325
theorem zeroCells_len (z : Array Value) (n : Nat) : (Builtin.zeroCells z n).size = n * z.size := by simp [Builtin.zeroCells]
theorem grown_ge (w : World) (need old : Nat) (e : TypeId) : need ≤ grownCap w need old e := Nat.le_add_right _ _
/-- append where there is room. -/
theorem run_append_in {P : Program} {t0 t1 ty e e' : TypeId} {sz : Nat} (ht : P.underlying t0 = some (.slice e)) (ht1 : P.underlying t1 = some (.slice e')) (hsz : sizeT P e = some sz) {a : Option Addr} {b : Addr} {sLen sCap n c : Nat} {news : List Value} {w w' : World}
    (hln : (Builtin.firstCells sz n (.slice a n c)).run P w = .ok news.toArray w) (hg : sLen + n ≤ sCap) (hst : (storeCells (b.add (sLen * sz)) news 0).run P w = .ok () w') :
    (Builtin.append_ #[t0, t1] ty #[.slice (some b) sLen sCap, .slice a n c]).run P w = .ok (.slice (some b) (sLen + n) sCap) w' := by
  simp [Builtin.append_, run_underlying ht, run_underlying ht1, gives_sizeOf hsz w, Builtin.lenOf, hg, hln, hst]
theorem appendG_ok {P : Program} {prot : Prot} {ts : Array TypeId} {ty : TypeId} {x y : SV} {h : Heap A} {nm : Nat} {ρ : Rho} {F : Nat → Nat → Prop} {w : World} (H : HeapOk ρ F h w) {u v : Value} (hx : x.is ρ u) (hy : y.is ρ v) {K : SV × Heap A → Prop}
    (hK : (appendG P ts x y h nm).holds K) : Ran P prot ρ F w (Builtin.append_ ts ty #[u, v]) K := by
  unfold appendG at hK
  split at hK
  · rename_i t0 t1 hts
    obtain rfl : ts = #[t0, t1] := by cases ts; simp at hts; subst hts; rfl
    split at hK
    · rename_i e e' hu hu1
      split at hK
      · rename_i sz z by_ hsz hz hby
        split at hK
        · rename_i old L c M n hon hsrc
          split at hK
          · rename_i hst
            simp only [Bool.and_eq_true, Nat.beq_eq, Nat.ble_eq] at hst
            obtain ⟨hfn, hzl, hbl⟩ := hst
            obtain ⟨hnone, hni⟩ := freeN_spec hfn
            obtain ⟨c1, c2⟩ := mkBr_holds hK
            cases hc : c.val with
            | false => exact (c2 hc).elim
            | true =>
              obtain ⟨c3, c4⟩ := mkBr_holds (c1 hc)
              cases hlim : (mkCmp .leq (.at_ (lenK (sz + 1) L) n 1 0) (.lit 1073741824)).val with
              | false => exact (c4 hlim).elim
              | true =>
                have hK' := c3 hlim
                obtain ⟨s1, _, a, cp, rfl, s2⟩ := srcG_ok (P := P) H (by omega) hsrc hc hy
                obtain ⟨_, _, a', cp', hsame, s3⟩ := srcG_ok (P := P) (H.drawn (w.drawn + 1)) (by omega) hsrc hc hy
                cases hsame
                -- what stands there: a base, its length and room
                have main : ∃ base len cap, u = .slice base len cap ∧ len * (sz + 1) = L.lst.length ∧ len ≤ cap ∧
                    (∀ w0 : World, w0.heap = w.heap → (Builtin.firstCells (sz + 1) len (.slice base len cap)).run P w0 = .ok (L.lst.map (Value.int .u64)).toArray w0) ∧
                    ∃ own : Nat → Prop, (((old = none ∧ killO old h = h ∧ ∀ x, ¬ own x) ∨ ∃ n0 k0 L0 v0, old = some n0 ∧ look h n0 = some (.mach k0 L0) ∧ ρ n0 = some (.val v0) ∧ killO old h = put h n0 (.mach 0 .nilL) ∧ ∀ x, own x ↔ F n0 x)) ∧
                      ((cap = 0 ∧ ∀ x, ¬ own x) ∨ ∃ b e pre rest, base = some ⟨b, pre.length, none⟩ ∧ w.heap[b]? = some (.cells (pre ++ (L.lst.map (Value.int .u64) ++ rest)).toArray e (0, 0)) ∧ cap * (sz + 1) ≤ L.lst.length + rest.length ∧ ∀ x, own x ↔ x = b) := by
                  unfold ontoG at hon
                  split at hon
                  · cases hon; cases hx
                    exact ⟨none, 0, 0, rfl, by simp [IE.lst], Nat.le_refl _, fun w0 _ => by simp [Builtin.firstCells, IE.lst], fun _ => False, .inl ⟨rfl, rfl, fun _ h => h⟩, .inl ⟨rfl, fun _ h => h⟩⟩
                  · rename_i nn oo l cc
                    split at hon
                    · rename_i hz0
                      simp only [Bool.and_eq_true, Nat.beq_eq] at hz0
                      cases hon
                      obtain ⟨b, _, rfl⟩ := hx
                      refine ⟨some ⟨b, oo.val.toNat, none⟩, 0, 0, ?_, by simp [IE.lst], Nat.le_refl _, fun w0 _ => by simp [Builtin.firstCells, IE.lst, loadCells, loadCellsFrom], fun _ => False, .inl ⟨rfl, rfl, fun _ h => h⟩, .inl ⟨rfl, fun _ h => h⟩⟩
                      show Value.slice _ l.toNat cc.toNat = _
                      rw [hz0.1, hz0.2]
                    · cases hon
                  · rename_i n0
                    split at hon
                    · rename_i k' L' hl
                      split at hon
                      · rename_i hkk
                        cases hon
                        obtain rfl : k' = sz := by omega
                        obtain ⟨base, len, cap, hr, rfl, h2, h3, h4⟩ := gref_of H (x := .w (.one (.b (.ref n0)))) rfl hl (by omega) hx
                        refine ⟨base, len, cap, rfl, h2, h3, fun w0 hw0 => ?_, F n0, .inr ⟨n0, _, _, _, rfl, hl, hr, rfl, fun _ => Iff.rfl⟩, h4⟩
                        have h0 : len = 0 → L.lst = [] := fun e => List.length_eq_zero_iff.1 (by rw [← h2, e, Nat.zero_mul])
                        rcases h4 with ⟨h4, _⟩ | ⟨b, e0, pre, rest, h5, h6, _⟩
                        · have e1 : len = 0 := by omega
                          rw [h0 e1, e1]
                          cases base with
                          | none => simp [Builtin.firstCells]
                          | some a => simp [Builtin.firstCells, loadCells, loadCellsFrom]
                        · cases h5
                          rw [← hw0] at h6
                          have := loadCells_list (P := P) (w := w0) (b := b) (o := pre.length) (vs := L.lst.map (Value.int .u64)) fun j u hu => by
                            rw [List.getElem?_map] at hu
                            obtain ⟨q, hq, rfl⟩ := Option.map_eq_some_iff.1 hu
                            obtain ⟨hlt, rfl⟩ := List.getElem?_eq_some_iff.1 hq
                            rw [cell_of_block h6, List.getElem?_toArray, List.getElem?_append_right (by omega), Nat.add_sub_cancel_left, List.getElem?_append_left (by simpa using hlt), List.getElem?_map, hq]
                            rfl
                          rw [List.length_map, ← h2] at this
                          simpa [Builtin.firstCells] using this
                      · cases hon
                    · cases hon
                  · cases hon
                obtain ⟨base, len, cap, rfl, m1, m2, m3, own, m4, m5⟩ := main
                have hcat : (mkCat L M).lst = L.lst ++ M.lst := mkCat_lst L M
                have hlen' : (len + n.val.toNat) * (sz + 1) = (mkCat L M).lst.length := by rw [hcat, List.length_append, s1, ← m1, Nat.add_mul]
                have hneed : len + n.val.toNat ≤ 1073741824 := by
                  simp only [mkCmp_val, cmpVal, IE.val, decide_eq_true_eq, len_of (Nat.succ_ne_zero sz) m1] at hlim
                  omega
                by_cases hroom : len + n.val.toNat ≤ cap
                · -- there is room
                  rcases m5 with ⟨m5, m6⟩ | ⟨b, e0, pre, rest, rfl, m6, m7, m8⟩
                  · -- nothing at all
                    have e1 : len = 0 := by omega
                    have e2 : n.val.toNat = 0 := by omega
                    have e3 : cap = 0 := m5
                    subst e3
                    have hL0 : (mkCat L M).lst = [] := List.length_eq_zero_iff.1 (by rw [← hlen', e1, e2, Nat.zero_mul])
                    obtain ⟨F', H', G⟩ := H.moveM (prot := prot.pr) (k := sz + 1) (L := mkCat L M) (v := .slice base (len + n.val.toNat) 0) (Fn := fun _ => False) (w' := w) m4 hnone hni (fun x hx => hx.elim)
                      (by unfold MachOk; rw [if_neg (by omega)]; exact ⟨base, _, 0, rfl, hlen', by omega, .inl ⟨rfl, fun _ h => h⟩⟩) (fun _ _ _ => rfl) (Nat.le_refl _) rfl rfl rfl
                    refine ⟨_, _, .slice base (len + n.val.toNat) 0, _, F', w, hK', ⟨_, upd_same _ _ _, rfl, trivial⟩, ?_, H', G⟩
                    have hrun := run_append0 (ty := ty) hu hu1 hsz (base := base) (a := a) (c := cp) (w := w)
                    rw [e1, e2]; exact hrun
                  · have hM : M.lst.length ≤ rest.length := by
                      have q1 := Nat.mul_le_mul_right (sz + 1) hroom
                      rw [hlen', hcat, List.length_append] at q1
                      omega
                    obtain ⟨w', g1, g2, g3, g4, g5, g6, g7⟩ := raw_store (P := P) (b := b) (o := pre.length + len * (sz + 1)) (e := e0) M.lst 0 w (pre ++ L.lst.map (Value.int .u64)) (rest.take M.lst.length) (rest.drop M.lst.length)
                      (by rw [m6]; simp) (by simp [m1]) (by simp; omega)
                    obtain ⟨F', H', G⟩ := H.moveM (prot := prot.pr) (k := sz + 1) (L := mkCat L M) (v := .slice (some ⟨b, pre.length, none⟩) (len + n.val.toNat) cap) (Fn := fun x => x = b) (w' := w') m4 hnone hni (fun x hx => .inl ((m8 x).2 hx))
                      (by
                        unfold MachOk; rw [if_neg (by omega)]
                        refine ⟨_, _, cap, rfl, hlen', hroom, .inr ⟨b, e0, pre, rest.drop M.lst.length, rfl, ?_, ?_, fun x => Iff.rfl⟩⟩
                        · rw [g2, hcat]; simp
                        · rw [hcat, List.length_append, List.length_drop]; omega)
                      (fun x _ hx => g4 x (fun e => hx ((m8 x).2 e))) (by rw [g3]; exact Nat.le_refl _) g5 g6 g7
                    refine ⟨_, _, .slice (some ⟨b, pre.length, none⟩) (len + n.val.toNat) cap, _, F', w', hK', ⟨_, upd_same _ _ _, rfl, trivial⟩, ?_, H', G⟩
                    exact run_append_in hu hu1 hsz s2 hroom (by rw [addr_add]; exact g1)
                · -- a new block
                  unfold bytesT at hby
                  obtain ⟨i, hi, rfl⟩ := Option.map_eq_some_iff.1 hby
                  unfold zeroT at hz
                  rw [hi] at hz
                  simp only at hz
                  split at hz
                  · rename_i zv hzv
                    have hzs : zv.cells.size = sz + 1 := by
                      have := (litSCs_is (ρ := ρ) hz).length
                      rw [hzl] at this
                      simpa using this.symm
                    have hsi : i.size = sz + 1 := by unfold sizeT at hsz; rw [hi] at hsz; simpa using hsz
                    have hcaplt : cap < len + n.val.toNat := by omega
                    have hfit : Builtin.nextslicecap (len + n.val.toNat) cap * i.bytes ≤ 281474976710656 := by
                      have q1 := nextslicecap_le hcaplt
                      have q2 : Builtin.nextslicecap (len + n.val.toNat) cap * i.bytes ≤ 2147483648 * 65536 := Nat.mul_le_mul (by omega) hbl
                      omega
                    have hrun := run_append (ty := ty) hu hu1 hi hzv hsi (olds := L.lst.map (Value.int .u64)) (news := M.lst.map (Value.int .u64)) (sLen := len) (sCap := cap) (n := n.val.toNat) (m3 w.drew rfl) s3 hcaplt (by omega) hfit
                    have hge := grown_ge w (len + n.val.toNat) cap e
                    have hob : ((L.lst.map (Value.int .u64)).toArray ++ (M.lst.map (Value.int .u64)).toArray ++ Builtin.zeroCells zv.cells (grownCap w (len + n.val.toNat) cap e - (len + n.val.toNat))) = (([] : List Value) ++ ((mkCat L M).lst.map (Value.int .u64) ++ (Builtin.zeroCells zv.cells (grownCap w (len + n.val.toNat) cap e - (len + n.val.toNat))).toList)).toArray := by
                      apply Array.ext'; simp [hcat]
                    rw [hob] at hrun
                    obtain ⟨F', H', G⟩ := H.moveM (prot := prot.pr) (k := sz + 1) (L := mkCat L M) (v := .slice (some ⟨w.heap.size, 0, none⟩) (len + n.val.toNat) (grownCap w (len + n.val.toNat) cap e)) (Fn := fun x => x = w.heap.size)
                      (w' := w.drew.alloc (.cells (([] : List Value) ++ ((mkCat L M).lst.map (Value.int .u64) ++ (Builtin.zeroCells zv.cells (grownCap w (len + n.val.toNat) cap e - (len + n.val.toNat))).toList)).toArray e)) m4 hnone hni (fun x hx => .inr (by rw [hx]; exact Nat.le_refl _))
                      (by
                        unfold MachOk; rw [if_neg (by omega)]
                        refine ⟨_, _, _, rfl, hlen', hge, .inr ⟨w.heap.size, e, ([] : List Value), (Builtin.zeroCells zv.cells (grownCap w (len + n.val.toNat) cap e - (len + n.val.toNat))).toList, rfl, ?_, ?_, fun x => Iff.rfl⟩⟩
                        · show (w.heap.push _)[w.heap.size]? = _
                          rw [Array.getElem?_push, if_pos rfl]
                        · have hzc : (Builtin.zeroCells zv.cells (grownCap w (len + n.val.toNat) cap e - (len + n.val.toNat))).toList.length = (grownCap w (len + n.val.toNat) cap e - (len + n.val.toNat)) * (sz + 1) := by rw [Array.length_toList, zeroCells_len, hzs]
                          rw [hzc, ← hlen', ← Nat.add_mul]
                          exact Nat.mul_le_mul_right _ (by omega))
                      (fun x hx _ => by show (w.heap.push _)[x]? = _; rw [Array.getElem?_push, if_neg (by omega)]) (by show _ ≤ (w.heap.push _).size; rw [Array.size_push]; omega) rfl rfl rfl
                    exact ⟨_, _, .slice (some ⟨w.heap.size, 0, none⟩) (len + n.val.toNat) (grownCap w (len + n.val.toNat) cap e), _, F', _, hK', ⟨_, upd_same _ _ _, rfl, trivial⟩, hrun, H', G⟩
                  · cases hz
          · exact hK.elim
        · exact hK.elim
      · exact hK.elim
    · exact hK.elim
  · exact hK.elim

/-! ### parts -/
def litZ : Option SV → Bool
  | some (.w (.one (.b (.int _ (.lit 0))))) => true
  | _ => false
def okG (x : SV) (h : Heap A) : Bool := match x with
  | .w (.one (.b (.ref n))) => (match look h n with
    | some (.mach (_ + 1) _) => true
    | _ => false)
  | .w (.one (.b .nils)) => true
  | .w (.one (.b (.sl _ _ _ _))) => true
  | .w (.one (.b (.isl _ _ _))) => true
  | _ => false
theorem okG_is {ρ : Rho} {F : Nat → Nat → Prop} {h : Heap A} {w : World} (H : HeapOk ρ F h w) {x : SV} (ho : okG x h = true) {v : Value} (hx : x.is ρ v) : ∃ a len cap, v = .slice a len cap := by
  unfold okG at ho
  split at ho
  · rename_i n
    split at ho
    · rename_i k L hl
      obtain ⟨a, len, cap, _, e0, _⟩ := gref_of H (x := .w (.one (.b (.ref n)))) rfl hl (by omega) hx
      exact ⟨a, len, cap, e0⟩
    · cases ho
  · exact ⟨none, 0, 0, hx⟩
  · obtain ⟨b, _, e0⟩ := hx; exact ⟨_, _, _, e0⟩
  · obtain ⟨a, c, e0, _⟩ := hx; exact ⟨_, _, _, e0⟩
  · cases ho
/-- s[:0:0] -/
def emptyG (P : Program) (t : TypeId) (x : SV) (h : Heap A) (nm : Nat) : Tree (SV × Heap A) :=
  match P.underlying t with
  | some (.slice e) => (match sizeT P e with
    | some (k + 1) => if freeN h nm && okG x h then .leaf (.w (.one (.b (.ref nm))), (nm, .mach (k + 1) .nilL) :: h) else .fail 330
    | _ => .fail 332)
  | _ => .fail 333
theorem litZ_is {ρ : Rho} {x : Option SV} (h : litZ x = true) {v : Option Value} (hx : OptIs ρ x v) : ∃ k, v = some (.int k 0) := by
  unfold litZ at h
  split at h
  · cases v with
    | none => exact hx.elim
    | some u => exact ⟨_, congrArg some hx⟩
  · cases h
theorem emptyG_ok {P : Program} {prot : Prot} {t : TypeId} {x : SV} {hi mx : Option SV} {h : Heap A} {nm : Nat} {ρ : Rho} {F : Nat → Nat → Prop} {w : World} (H : HeapOk ρ F h w) {v : Value} {h' m' : Option Value} (hx : x.is ρ v)
    (hhi : litZ hi = true) (hmx : litZ mx = true) (hh : OptIs ρ hi h') (hm : OptIs ρ mx m') {K : SV × Heap A → Prop}
    (hK : (emptyG P t x h nm).holds K) : Ran P prot ρ F w (Instr.sliceAt t v none h' m') K := by
  obtain ⟨k1, rfl⟩ := litZ_is hhi hh
  obtain ⟨k2, rfl⟩ := litZ_is hmx hm
  unfold emptyG at hK
  split at hK
  · rename_i e hu
    split at hK
    · rename_i k hsz
      have run : ∀ a len cap, (Instr.sliceAt t (.slice a len cap) none (some (.int k1 0)) (some (.int k2 0))).run P w = .ok (.slice (if 0 = 0 then a else a.map (·.add (0 * (k + 1)))) (0 - 0) (0 - 0)) w := fun a len cap => by
        simp [Instr.sliceAt, Instr.slice, Instr.sliceBounds, Instr.sliceBound, asIntOf, gives_underlying hu w, gives_sizeOf hsz w]
      split at hK
      · rename_i hf
        simp only [Bool.and_eq_true] at hf
        obtain ⟨hnone, hni⟩ := freeN_spec hf.1
        obtain ⟨a, len, cap, rfl⟩ := okG_is H hf.2 hx
        obtain ⟨F', H', G⟩ := H.moveM (prot := prot.pr) (old := none) (own := fun _ => False) (h1 := h) (k := k + 1) (L := .nilL) (v := .slice a 0 0) (Fn := fun _ => False) (w' := w) (.inl ⟨rfl, rfl, fun _ h => h⟩) hnone hni (fun x hx => hx.elim)
          (by unfold MachOk; rw [if_neg (by omega)]; exact ⟨a, 0, 0, rfl, by simp [IE.lst], Nat.le_refl _, .inl ⟨rfl, fun _ h => h⟩⟩) (fun _ _ _ => rfl) (Nat.le_refl _) rfl rfl rfl
        exact ⟨_, _, .slice a 0 0, _, F', w, hK, ⟨_, upd_same _ _ _, rfl, trivial⟩, run a len cap, H', G⟩
      · exact hK.elim
    · exact hK.elim
  · exact hK.elim
/-- s[j:] of a slice that grows: it takes that one's place. -/
def restG (P : Program) (t : TypeId) (x lo : SV) (h : Heap A) (nm : Nat) : Tree (SV × Heap A) :=
  match P.underlying t, gval x, asI lo with
  | some (.slice e), some n, some (_, j) => (match look h n, sizeT P e with
    | some (.mach (k + 1) L), some sz => if sz = k + 1 then
        (if freeN h nm then
          mkBr (mkCmp .geq j (.lit 0)) (mkBr (mkCmp .leq j (lenK (k + 1) L)) (.leaf (.w (.one (.b (.ref nm))), (nm, .mach (k + 1) (dropK (k + 1) L j)) :: put h n (.mach 0 .nilL))) (.fail 334)) (.fail 334)
        else .fail 335)
      else .fail 336
    | _, _ => .fail 337)
  | _, _, _ => .fail 338
theorem restG_ok {P : Program} {prot : Prot} {t : TypeId} {x lo : SV} {h : Heap A} {nm : Nat} {ρ : Rho} {F : Nat → Nat → Prop} {w : World} (H : HeapOk ρ F h w) {v l' : Value} (hx : x.is ρ v) (hlo : lo.is ρ l') {K : SV × Heap A → Prop}
    (hK : (restG P t x lo h nm).holds K) : Ran P prot ρ F w (Instr.sliceAt t v (some l') none none) K := by
  unfold restG at hK
  split at hK
  · rename_i e n ki j hu hg hj
    obtain rfl := asI_is hj hlo
    split at hK
    · rename_i k L sz hl hsz
      split at hK
      · rename_i hk
        subst hk
        split at hK
        · rename_i hf
          obtain ⟨hnone, hni⟩ := freeN_spec hf
          obtain ⟨a, len, cap, hr, rfl, h2, h3, h4⟩ := gref_of H hg hl (by omega) hx
          obtain ⟨q1, q2⟩ := mkBr_holds hK
          simp only [mkCmp_val, cmpVal, IE.val] at q1 q2
          by_cases hj0 : j.val ≥ 0
          · obtain ⟨q3, q4⟩ := mkBr_holds (q1 (by simpa using hj0))
            simp only [mkCmp_val, cmpVal, len_of (Nat.succ_ne_zero k) h2] at q3 q4
            by_cases hj1 : j.val ≤ (len : Int)
            · have hK' := q3 (decide_eq_true hj1)
              have hjn : j.val.toNat ≤ len := by omega
              have hdl : (dropK (k + 1) L j).lst = L.lst.drop (j.val.toNat * (k + 1)) := dropK_lst (by omega) (by rw [← h2, Nat.mul_div_cancel _ (by omega)])
              have hlen' : (len - j.val.toNat) * (k + 1) = (dropK (k + 1) L j).lst.length := by rw [hdl, List.length_drop, Nat.sub_mul, h2]
              have run : (Instr.sliceAt t (.slice a len cap) (some (.int ki j.val)) none none).run P w = .ok (.slice (if cap = j.val.toNat then a else a.map (·.add (j.val.toNat * (k + 1)))) (len - j.val.toNat) (cap - j.val.toNat)) w := by
                have hc : 0 ≤ j.val ∧ j.val ≤ (len : Int) := ⟨hj0, hj1⟩
                simp [Instr.sliceAt, Instr.slice, Instr.sliceBounds, Instr.sliceBound, asIntOf, gives_underlying hu w, gives_sizeOf hsz w, hc]
              have hold := (show ((some n = none ∧ put h n (.mach 0 .nilL) = h ∧ ∀ x, ¬ F n x) ∨ ∃ n0 k0 L0 v0, some n = some n0 ∧ look h n0 = some (.mach k0 L0) ∧ ρ n0 = some (.val v0) ∧ put h n (.mach 0 .nilL) = put h n0 (.mach 0 .nilL) ∧ ∀ x, F n x ↔ F n0 x) from .inr ⟨n, _, _, _, rfl, hl, hr, rfl, fun _ => Iff.rfl⟩)
              rcases h4 with ⟨h4, h5⟩ | ⟨b, e0, pre, rest, rfl, h6, h7, h8⟩
              · have e1 : j.val.toNat = 0 := by omega
                obtain ⟨F', H', G⟩ := H.moveM (prot := prot.pr) (k := k + 1) (L := dropK (k + 1) L j) (v := .slice (if cap = j.val.toNat then a else a.map (·.add (j.val.toNat * (k + 1)))) (len - j.val.toNat) (cap - j.val.toNat)) (Fn := fun _ => False) (w' := w) hold hnone hni (fun x hx => hx.elim)
                  (by unfold MachOk; rw [if_neg (by omega)]; exact ⟨_, _, _, rfl, hlen', by omega, .inl ⟨by omega, fun _ h => h⟩⟩) (fun _ _ _ => rfl) (Nat.le_refl _) rfl rfl rfl
                exact ⟨_, _, .slice (if cap = j.val.toNat then a else a.map (·.add (j.val.toNat * (k + 1)))) (len - j.val.toNat) (cap - j.val.toNat), _, F', w, hK', ⟨_, upd_same _ _ _, rfl, trivial⟩, run, H', G⟩
              · by_cases hcap : cap = j.val.toNat
                · obtain ⟨F', H', G⟩ := H.moveM (prot := prot.pr) (k := k + 1) (L := dropK (k + 1) L j) (v := .slice (if cap = j.val.toNat then some ⟨b, pre.length, none⟩ else (some (⟨b, pre.length, none⟩ : Addr)).map (·.add (j.val.toNat * (k + 1)))) (len - j.val.toNat) (cap - j.val.toNat)) (Fn := fun _ => False) (w' := w) hold hnone hni (fun x hx => hx.elim)
                    (by unfold MachOk; rw [if_neg (by omega)]; exact ⟨_, _, _, rfl, hlen', by omega, .inl ⟨by omega, fun _ h => h⟩⟩) (fun _ _ _ => rfl) (Nat.le_refl _) rfl rfl rfl
                  exact ⟨_, _, .slice (if cap = j.val.toNat then some ⟨b, pre.length, none⟩ else (some (⟨b, pre.length, none⟩ : Addr)).map (·.add (j.val.toNat * (k + 1)))) (len - j.val.toNat) (cap - j.val.toNat), _, F', w, hK', ⟨_, upd_same _ _ _, rfl, trivial⟩, run, H', G⟩
                · rw [if_neg hcap] at run
                  have hdd : j.val.toNat * (k + 1) ≤ L.lst.length := by rw [← h2]; exact Nat.mul_le_mul_right _ hjn
                  obtain ⟨F', H', G⟩ := H.moveM (prot := prot.pr) (k := k + 1) (L := dropK (k + 1) L j) (v := .slice (some ⟨b, pre.length + j.val.toNat * (k + 1), none⟩) (len - j.val.toNat) (cap - j.val.toNat)) (Fn := fun x => x = b) (w' := w) hold hnone hni (fun x hx => .inl ((h8 x).2 hx))
                    (by
                      unfold MachOk; rw [if_neg (by omega)]
                      refine ⟨_, _, _, rfl, hlen', by omega, .inr ⟨b, e0, pre ++ (L.lst.take (j.val.toNat * (k + 1))).map (Value.int .u64), rest, ?_, ?_, ?_, fun _ => Iff.rfl⟩⟩
                      · rw [List.length_append, List.length_map, List.length_take, Nat.min_eq_left hdd]
                      · rw [h6, hdl]
                        congr 2
                        apply Array.ext'
                        simp only [List.toList_toArray, List.append_assoc]
                        congr 1
                        rw [← List.append_assoc, ← List.map_append, List.take_append_drop]
                      · have h7' : cap * (k + 1) ≤ L.lst.length + rest.length := h7
                        rw [hdl, List.length_drop, Nat.sub_mul]; omega)
                    (fun _ _ _ => rfl) (Nat.le_refl _) rfl rfl rfl
                  refine ⟨_, _, .slice (some ⟨b, pre.length + j.val.toNat * (k + 1), none⟩) (len - j.val.toNat) (cap - j.val.toNat), _, F', w, hK', ⟨_, upd_same _ _ _, rfl, trivial⟩, ?_, H', G⟩
                  rw [run]; simp [addr_add]
            · exact (q4 (decide_eq_false hj1)).elim
          · exact (q2 (by simpa using hj0)).elim
        · exact hK.elim
      · exact hK.elim
    · exact hK.elim
  · exact hK.elim

/-! ### all of them -/
def growS (P : Program) : Extra A := fun op l prot h nm =>
  match op with
  | .call { callee := .builtin .len, args, argTypes } =>
    (match evArgs l args, argTypes.toList with
    | [x], [t] => if refV x then some (lenG P t x h) else none
    | _, _ => none)
  | .call { callee := .builtin .append, args, argTypes } =>
    (match evArgs l args with
    | [x, y] => some (appendG P argTypes x y h nm)
    | _ => none)
  | .indexAddr t x i => if refV (ev l x) then some (indexG P t (ev l x) (ev l i) h) else none
  | .fieldAddr s x f => if refV (ev l x) then some (fieldG P s (ev l x) f h) else none
  | .load t x => if refV (ev l x) then some (loadG P t (ev l x) h) else none
  | .slice t x none hi mx => if litZ (hi.map (ev l)) && litZ (mx.map (ev l)) then some (emptyG P t (ev l x) h nm) else none
  | .slice t x (some lo) none none => if refV (ev l x) then some (restG P t (ev l x) (ev l lo) h nm) else none
  | _ => none
def extraG (P : Program) : Extra A := fun op l prot h nm => match growS P op l prot h nm with
  | some t => some t
  | none => extraS P op l prot h nm
theorem one_of {ρ : Rho} {x : SV} {vs : Array Value} (h : All2 (SV.is ρ) [x] vs.toList) : ∃ u, vs = #[u] ∧ x.is ρ u := by
  obtain ⟨l⟩ := vs
  simp only at h
  match l, h with
  | [u], h => exact ⟨u, rfl, h.1⟩
  | [], h => exact h.elim
  | _ :: _ :: _, h => exact h.2.elim
theorem growS_ok (P : Program) : ExtraOk P (growS (A := A) P) := by
  intro o l prot h nm t ρ but F a w K ht H hT hb hK
  obtain ⟨dst, op, type, pos, after, guard⟩ := o
  simp only at ht hb
  unfold growS at ht
  split at ht
  · rename_i args ts
    have hargs := evArgs_is hT args fun x hx => hb x (by simp [Op.operands, Call.operands, hx])
    split at ht
    · rename_i x t0 hxy hts
      split at ht
      · cases ht
        obtain rfl : ts = #[t0] := by cases ts; simp at hts; subst hts; rfl
        rw [hxy] at hargs
        obtain ⟨u, hu, hx⟩ := one_of hargs
        obtain ⟨s, h', v', ρ', F', w', k1, k2, k3, k4, k5⟩ := lenG_ok (ty := type) (prot := prot) H hx hK
        refine ⟨s, h', v', ρ', F', w', k1, k2, ?_, k4, k5⟩
        simp only [execOp, resolve, Sem.run_bind, Sem.run_pure, Result.andThen_ok, Go.invoke, Go.builtin, hu, k3]
      · cases ht
    · cases ht
  · rename_i args ts
    have hargs := evArgs_is hT args fun x hx => hb x (by simp [Op.operands, Call.operands, hx])
    split at ht
    · rename_i x y hxy
      cases ht
      rw [hxy] at hargs
      obtain ⟨u, v, huv, hx, hy⟩ := two_of hargs
      obtain ⟨s, h', v', ρ', F', w', k1, k2, k3, k4, k5⟩ := appendG_ok (ty := type) (prot := prot) H hx hy hK
      refine ⟨s, h', v', ρ', F', w', k1, k2, ?_, k4, k5⟩
      simp only [execOp, resolve, Sem.run_bind, Sem.run_pure, Result.andThen_ok, Go.invoke, Go.builtin, huv, k3]
    · cases ht
  · rename_i t0 x i
    split at ht
    · cases ht
      have hx := ev_is hT x (hb x (by simp [Op.operands]))
      have hi := ev_is hT i (hb i (by simp [Op.operands]))
      obtain ⟨s, h', v', ρ', F', w', k1, k2, k3, k4, k5⟩ := indexG_ok (prot := prot) H hx hi hK
      refine ⟨s, h', v', ρ', F', w', k1, k2, ?_, k4, k5⟩
      simp only [execOp, Sem.run_bind, Sem.run_pure, Result.andThen_ok, k3]
    · cases ht
  · rename_i s0 x f
    split at ht
    · cases ht
      have hx := ev_is hT x (hb x (by simp [Op.operands]))
      obtain ⟨s, h', v', ρ', F', w', k1, k2, k3, k4, k5⟩ := fieldG_ok (prot := prot) H hx hK
      refine ⟨s, h', v', ρ', F', w', k1, k2, ?_, k4, k5⟩
      simp only [execOp, Sem.run_bind, Sem.run_pure, Result.andThen_ok, k3]
    · cases ht
  · rename_i t0 x
    split at ht
    · cases ht
      have hx := ev_is hT x (hb x (by simp [Op.operands]))
      obtain ⟨s, h', v', ρ', F', w', k1, k2, k3, k4, k5⟩ := loadG_ok (prot := prot) H hx hK
      refine ⟨s, h', v', ρ', F', w', k1, k2, ?_, k4, k5⟩
      simp only [execOp, Sem.run_bind, Sem.run_pure, Result.andThen_ok, k3]
    · cases ht
  · rename_i t0 x hi mx
    split at ht
    · rename_i hz
      cases ht
      simp only [Bool.and_eq_true] at hz
      have hx := ev_is hT x (hb x (by simp [Op.operands]))
      have hh := optOp_is hT hi (fun y hy => hb y (by simp [Op.operands, hy]))
      have hm := optOp_is hT mx (fun y hy => hb y (by simp [Op.operands, hy]))
      obtain ⟨s, h', v', ρ', F', w', k1, k2, k3, k4, k5⟩ := emptyG_ok (prot := prot) H hx hz.1 hz.2 hh hm hK
      refine ⟨s, h', v', ρ', F', w', k1, k2, ?_, k4, k5⟩
      simp only [execOp, Sem.run_bind, Sem.run_pure, Result.andThen_ok, Option.map_none, k3]
    · cases ht
  · rename_i t0 x lo
    split at ht
    · cases ht
      have hx := ev_is hT x (hb x (by simp [Op.operands]))
      have hl := ev_is hT lo (hb lo (by simp [Op.operands]))
      obtain ⟨s, h', v', ρ', F', w', k1, k2, k3, k4, k5⟩ := restG_ok (prot := prot) H hx hl hK
      refine ⟨s, h', v', ρ', F', w', k1, k2, ?_, k4, k5⟩
      simp only [execOp, Sem.run_bind, Sem.run_pure, Result.andThen_ok, Option.map_none, Option.map_some, k3]
    · cases ht
  · cases ht
theorem extraG_ok (P : Program) : ExtraOk P (extraG (A := A) P) := by
  intro o l prot h nm t ρ but F a w K ht H hT hb hK
  unfold extraG at ht
  split at ht
  · rename_i t' ht'
    cases ht
    exact growS_ok P o l prot h nm t ρ but F a w K ht' H hT hb hK
  · exact extraS_ok P o l prot h nm t ρ but F a w K ht H hT hb hK
end
end Go.Proofs.Ytalobhgefmhboaa.Sx
