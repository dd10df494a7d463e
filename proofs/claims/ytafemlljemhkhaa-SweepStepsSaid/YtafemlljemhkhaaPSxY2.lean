import Derived.Test.YtafemlljemhkhaaPSxY
import Derived.Test.YtafemlljemhkhaaPSxUw
namespace Go.Proofs.Ytafemlljemhkhaa.Sx
open Go Go.ChangeShapes Go.WideShapes Go.ChangeAt Go.RowKit
set_option linter.unusedSectionVars false
set_option linter.unusedVariables false
set_option linter.unusedSimpArgs false
inductive PK where
  | one (c : Col)
  | agg (cs : List Col)
  | sl (cs : List Col)
def PK.size : PK → Nat
  | .one _ => 1
  | .agg cs => cs.length
  | .sl _ => 2
def PK.rows : PK → Nat
  | .sl _ => 1
  | _ => 0
def kindT (P : Program) (d : Nat) (t : TypeId) : Option PK :=
  match P.underlying t with
  | some .bool => some (.one .bool)
  | some (.int k) => some (.one (.int k))
  | some (.slice e) => match colsT P d e with
    | some c => if c.length = P.cellsOf e ∧ 0 < c.length then some (.sl c) else none
    | none => none
  | some (.struct _) | some (.array _ _) => (colsT P d t).map .agg
  | _ => none
def colB (c : Col) (n : Nat) : SB := match c with
  | .int k => .int k (.atom n)
  | .bool => .bool (.atom n)
def colsC : List Col → Nat → List SC
  | [],_ => []
  | c :: l,n => .b (colB c n) :: colsC l (n + 1)
def PK.sym (p : PK) (n k : Nat) : SV := match p with
  | .one c => .w (.one (.b (colB c n)))
  | .agg cs => .w (.agg (colsC cs n))
  | .sl _ => .w (.one (.b (.isl (2 * k + 1) (.atom n) (.atom (n + 1)))))
def symArgs : List PK → Nat → Nat → List SV
  | [],_,_ => []
  | p :: l,n,k => p.sym n k :: symArgs l (n + p.size) (k + p.rows)
def symHeap : List PK → Nat → Nat → Heap Empty
  | [],_,_ => []
  | .sl cs :: l,n,k => (2 * k + 1, .tab cs (.atom n) (.atom (n + 1)) k) :: symHeap l (n + 2) (k + 1)
  | p :: l,n,k => symHeap l (n + p.size) (k + p.rows)
def colsRng (E : Env) : List Col → Nat → Prop
  | [],_ => True
  | c :: l,n => c.wf (E.i n) ∧ colsRng E l (n + 1)
def PK.rng (E : Env) (p : PK) (n k : Nat) : Prop := match p with
  | .one c => c.wf (E.i n)
  | .agg cs => colsRng E cs n
  | .sl cs => 0 ≤ E.i n ∧ 0 ≤ E.i (n + 1) ∧ E.i (n + 1) ≤ maxLen ∧ ∀ (i j : Nat) (c : Col),cs[j]? = some c → c.wf (E.t k i j)
def symRng (E : Env) : List PK → Nat → Nat → Prop
  | [],_,_ => True
  | p :: l,n,k => p.rng E n k ∧ symRng E l (n + p.size) (k + p.rows)
section
variable {H : Type} {enc : TypeId × Value → H} {P : Program} {W : World} {b0 : Nat} {sp : Nat → Bool} {held : Bool}
def rvO : Option Nat → RV
  | some b => .blk b
  | none => .val .nilFunc
structure Told (W : World) (p : PK) (v : Value) (ns : List Int) (tb : Nat → Nat → Int) (bo : Option Nat) : Prop where
  len : ns.length = p.size
  blk : ∀ x,bo = some x → x < W.heap.size
  is : ∀ (E : Env) (n k : Nat) (ρ : Rho),(∀ i,i < p.size → E.i (n + i) = ns.getD i 0) → (p.rows = 1 → ρ (2 * k + 1) = some (rvO bo)) → @SV.is E ρ (p.sym n k) v
  rng : ∀ (E : Env) (n k : Nat),(∀ i,i < p.size → E.i (n + i) = ns.getD i 0) → (∀ i j,E.t k i j = tb i j) → p.rng E n k
  ob : ∀ (E : Env) (n k : Nat) (ρ : Rho) (cs : List Col), p = .sl cs → (∀ i, i < p.size → E.i (n + i) = ns.getD i 0) → (∀ i j, E.t k i j = tb i j) →
    @SO.ok E Empty _ ρ (rvO bo) (fun x => bo = some x) W (.tab cs (.atom n) (.atom (n + 1)) k)
theorem colB_is (E : Env) {c : Col} {v : Value} {z : Int} {n : Nat} {ρ : Rho} (h : v = c.value z) (hz : c.wf z) (hn : E.i n = z) : @SB.is E ρ (colB c n) v := by
  cases c with
  | int k => show v = .int k (E.i n); rw [hn]; exact h
  | bool => show v = .bool (E.i n != 0); rw [hn]; exact h
theorem colsC_is (E : Env) {ρ : Rho} : ∀ {cs : List Col} {vs : List Value} (_ : All2 Fits cs vs) (n : Nat) (_ : ∀ i, i < cs.length → E.i (n + i) = (vs.map zOf).getD i 0), All2 (@SC.is E ρ) (colsC cs n) vs ∧ colsRng E cs n
  | [], [],_,n,_ => ⟨trivial,trivial⟩
  | c :: cs, v :: vs, h, n, hn => by
    obtain ⟨g1,g2⟩ := fits_z h.1
    have e0 : E.i n = zOf v := by have := hn 0 (by simp); simpa using this
    obtain ⟨k1,k2⟩ := colsC_is E h.2 (n + 1) (fun i hi => by have := hn (i + 1) (by simpa using hi); rw [show n + 1 + i = n + (i + 1) by omega,this]; simp)
    exact ⟨⟨colB_is E g1 g2 e0,k1⟩,by rw [← e0] at g2; exact ⟨g2,k2⟩⟩
  | [],_ :: _,h,_,_ => h.elim
  | _ :: _, [],h,_,_ => h.elim
structure Shape (P : Program) (t : TypeId) (v : Value) : Prop where
  b : P.underlying t = some .bool → ∃ b,v = .bool b
  i : ∀ k,P.underlying t = some (.int k) → ∃ z,v = .int k z
  s : ∀ e,P.underlying t = some (.slice e) → ∃ a len cap,v = .slice a len cap
  g : (∃ fs,P.underlying t = some (.struct fs)) ∨ (∃ n e,P.underlying t = some (.array n e)) → ∃ vs,v = .agg vs
theorem Shape.of {t : TypeId} {v : Value} (hv : Value.okWide P W .any b0 t v) : Shape P t v :=
  ⟨fun hu => okWide_bool hu hv, fun k hu => okWide_int hu hv, fun e hu => okWide_slice hu hv, fun h => by
    rcases h with ⟨fs,hu⟩ | ⟨n,e,hu⟩ <;> (simp only [Value.okWide,hu] at hv; obtain ⟨cs,h1,_⟩ := hv; exact ⟨cs,h1⟩)⟩
theorem told_of {d : Nat} {t : TypeId} {p : PK} (hp : kindT P d t = some p) {v : Value} {x : DataW H} {ps : List MemPlace} (hv : Shape P t v) (h : DataW.Trod enc P W 0 sp held t v x ps) :
    ∃ ns tb bo,Told W p v ns tb bo := by
  letI := env0
  unfold kindT at hp
  split at hp
  · rename_i hu
    cases hp
    obtain ⟨b,rfl⟩ := hv.b hu
    refine ⟨[if b then 1 else 0],fun _ _ => 0,none,⟨rfl,fun x hx => (by cases hx),fun E n k ρ hn _ => ?_,fun E n k hn _ => ?_,fun E n k ρ cs hcs => by cases hcs⟩⟩
    · exact colB_is E (ρ := ρ) (c := .bool) (z := if b then 1 else 0) (by cases b <;> rfl) (by cases b; exact .inl rfl; exact .inr rfl) (hn 0 Nat.zero_lt_one)
    · have := hn 0 Nat.zero_lt_one
      show E.i n = 0 ∨ E.i n = 1
      rw [show n = n + 0 from rfl,this]
      cases b
      · exact .inl rfl
      · exact .inr rfl
  · rename_i k hu
    cases hp
    obtain ⟨z,rfl⟩ := hv.i _ hu
    obtain ⟨fuel,hf⟩ := h
    have hw : (Lit.int k z).wf = true := by
      cases fuel with
      | zero => simp [DataW.trod] at hf
      | succ fuel =>
        unfold DataW.trod at hf
        rw [hu] at hf
        simp only [Value.cells] at hf
        split at hf <;> simp_all
    refine ⟨[z],fun _ _ => 0,none,⟨rfl,fun x hx => (by cases hx),fun E n q ρ hn _ => ?_,fun E n q hn _ => ?_,fun E n k ρ cs hcs => by cases hcs⟩⟩
    · exact colB_is E (ρ := ρ) (c := .int k) (z := z) rfl hw (hn 0 Nat.zero_lt_one)
    · have := hn 0 Nat.zero_lt_one
      show (Lit.int k (E.i n)).wf = true
      rw [show n = n + 0 from rfl,this]
      exact hw
  · rename_i e hu
    split at hp
    · rename_i c hc
      split at hp
      · rename_i hlen
        cases hp
        obtain ⟨a,len,cap,rfl⟩ := hv.s _ hu
        obtain ⟨hm,h1⟩ := slice_tab hu hc hlen.1 hlen.2 h
        rcases h1 with rfl | ⟨b,o,rfl,hb,hcell⟩
        · refine ⟨[0, 0], fun _ _ => 0, none, ⟨rfl, fun x hx => (by cases hx), fun E n k ρ hn _ => ?_, fun E n k hn ht => ?_, fun E n k ρ cs hcs hn ht => ?_⟩⟩
          · have e1 := hn 1 Nat.one_lt_two
            refine ⟨a,cap, ?_, .inl ?_⟩
            · show Value.slice a 0 cap = Value.slice a (E.i (n + 1)).toNat cap
              rw [e1]; rfl
            · show (E.i (n + 1)).toNat = 0
              rw [e1]; rfl
          · have e0 := hn 0 Nat.zero_lt_two
            have e1 := hn 1 Nat.one_lt_two
            refine ⟨?_, ?_, ?_,fun i j c hj => by rw [ht]; exact c.wf_zero⟩
            · rw [show n = n + 0 from rfl,e0]; exact Int.le_refl _
            · rw [e1]; exact Int.le_refl _
            · rw [e1]; exact Int.natCast_nonneg _
          · have e1 := hn 1 Nat.one_lt_two
            refine .inl ⟨?_,rfl,fun x hx => by cases hx⟩
            show (E.i (n + 1)).toNat = 0
            rw [e1]; rfl
        · rcases Nat.eq_zero_or_pos len with h0 | h0
          · subst h0
            refine ⟨[0,0],fun _ _ => 0,none,⟨rfl,fun x hx => (by cases hx),fun E n k ρ hn _ => ?_,fun E n k hn ht => ?_,fun E n k ρ cs hcs hn ht => ?_⟩⟩
            · have e1 := hn 1 Nat.one_lt_two
              refine ⟨some ⟨b,o,none⟩,cap, ?_, .inl ?_⟩
              · show Value.slice (some ⟨b, o, none⟩) 0 cap = Value.slice (some ⟨b, o, none⟩) (E.i (n + 1)).toNat cap
                rw [e1]; rfl
              · show (E.i (n + 1)).toNat = 0
                rw [e1]; rfl
            · have e0 := hn 0 Nat.zero_lt_two
              have e1 := hn 1 Nat.one_lt_two
              refine ⟨?_, ?_, ?_,fun i j c hj => by rw [ht]; exact c.wf_zero⟩
              · rw [show n = n + 0 from rfl,e0]; exact Int.le_refl _
              · rw [e1]; exact Int.le_refl _
              · rw [e1]; exact Int.natCast_nonneg _
            · have e1 := hn 1 Nat.one_lt_two
              refine .inl ⟨?_,rfl,fun x hx => by cases hx⟩
              show (E.i (n + 1)).toNat = 0
              rw [e1]; rfl
          · refine ⟨[(o : Int), (len : Int)], fun i j => if i < len ∧ j < c.length then zOf ((W.cell? ⟨b, o + i * c.length + j, none⟩).getD .nilFunc) else 0, some b, ⟨rfl, fun x hx => (by cases hx; exact hb), fun E n k ρ hn hr => ?_, fun E n k hn ht => ?_, fun E n k ρ cs hcs hn ht => ?_⟩⟩
            · have e0 := hn 0 Nat.zero_lt_two
              have e1 := hn 1 Nat.one_lt_two
              refine ⟨some ⟨b,o,none⟩,cap, ?_, .inr ⟨b,hr rfl, ?_⟩⟩
              · show Value.slice _ len cap = Value.slice _ (E.i (n + 1)).toNat cap
                rw [e1]; rfl
              · show some _ = some (Addr.mk b (E.i n).toNat none)
                rw [show n = n + 0 from rfl,e0]; rfl
            · have e0 := hn 0 Nat.zero_lt_two
              have e1 := hn 1 Nat.one_lt_two
              refine ⟨?_, ?_, ?_,fun i j q hj => ?_⟩
              · rw [show n = n + 0 from rfl,e0]; exact Int.natCast_nonneg _
              · rw [e1]; exact Int.natCast_nonneg _
              · rw [e1]; exact Int.ofNat_le.2 hm
              · rw [ht]
                show Col.wf q (if i < len ∧ j < c.length then _ else 0)
                split
                · rename_i hij
                  obtain ⟨v,hv,hfit⟩ := hcell i hij.1 j q hj
                  rw [hv]; exact (fits_z hfit).2
                · exact q.wf_zero
            · cases hcs
              have e0 := hn 0 Nat.zero_lt_two
              have e1 := hn 1 Nat.one_lt_two
              refine .inr ⟨b,rfl,hb,fun x => ⟨fun h => (by cases h; rfl),fun h => (by rw [h])⟩,fun i hi j q hj => ?_⟩
              have hi' : i < len := by
                have hi2 : i < (E.i (n + 1)).toNat := hi
                rw [e1] at hi2
                simpa using hi2
              obtain ⟨v,hv,hfit⟩ := hcell i hi' j q hj
              show W.cell? ⟨b,(E.i n).toNat + i * c.length + j,none⟩ = some (q.value (E.t k i j))
              rw [ht,show n = n + 0 from rfl,e0]
              simp only [List.getD_cons_zero,Int.toNat_natCast]
              rw [if_pos ⟨hi',(List.getElem?_eq_some_iff.1 hj).1⟩,hv]
              exact congrArg some (fits_z hfit).1
      · cases hp
    · cases hp
  all_goals
    first
    | cases hp
      done
    | rename_i hu
      obtain ⟨cs,hcs,rfl⟩ := Option.map_eq_some_iff.1 hp
      obtain ⟨vs,rfl⟩ : ∃ vs,v = .agg vs := hv.g (by first | exact .inl ⟨_,hu⟩ | exact .inr ⟨_,_,hu⟩)
      obtain ⟨fuel,hf⟩ := h
      have hfit : All2 Fits cs vs.toList := trod_flat d hcs hf
      refine ⟨vs.toList.map zOf,fun _ _ => 0,none,⟨by rw [List.length_map]; exact hfit.length.symm,fun x hx => (by cases hx),fun E n k ρ hn _ => ⟨vs,rfl,(colsC_is E hfit n hn).1⟩,fun E n k hn _ => (colsC_is E (ρ := fun _ => none) hfit n hn).2,fun E n k ρ cs hcs => by cases hcs⟩⟩
end
section
variable {H : Type} {enc : TypeId × Value → H} {P : Program} {W : World} {b0 : Nat} {sp : Nat → Bool} {held : Bool}
def totS : List PK → Nat
  | [] => 0
  | p :: l => p.size + totS l
def totR : List PK → Nat
  | [] => 0
  | p :: l => p.rows + totR l
structure Tolds (W : World) (pks : List PK) (vs : List Value) (ns : List Int) (tb : Nat → Nat → Nat → Int) (bo : Nat → Option Nat) : Prop where
  len : ns.length = totS pks
  blk : ∀ i x,i < totR pks → bo i = some x → x < W.heap.size
  all : ∀ (E : Env) (n k : Nat) (ρ : Rho), (∀ i, i < ns.length → E.i (n + i) = ns.getD i 0) → (∀ r i j, E.t (k + r) i j = tb r i j) → (∀ r, r < totR pks → ρ (2 * (k + r) + 1) = some (rvO (bo r))) →
    All2 (@SV.is E ρ) (symArgs pks n k) vs ∧ symRng E pks n k ∧
    (∀ m o,look (symHeap pks n k) m = some o → ∃ r,r < totR pks ∧ m = 2 * (k + r) + 1 ∧ o.wr = false ∧ @SO.ok E Empty _ ρ (rvO (bo r)) (fun x => bo r = some x) W o) ∧
    ∀ r,r < totR pks → (look (symHeap pks n k) (2 * (k + r) + 1)).isSome = true
theorem Tolds.cons {p : PK} {pks : List PK} {v : Value} {vs : List Value} {ns1 ns2 : List Int} {tb1 : Nat → Nat → Int} {tb2 : Nat → Nat → Nat → Int} {bo1 : Option Nat} {bo2 : Nat → Option Nat} (h1 : Told W p v ns1 tb1 bo1) (h2 : Tolds W pks vs ns2 tb2 bo2) :
    ∃ tb bo,Tolds W (p :: pks) (v :: vs) (ns1 ++ ns2) tb bo := by
  have hrows : p.rows = 0 ∨ p.rows = 1 := by cases p <;> simp [PK.rows]
  refine ⟨fun r => if r < p.rows then tb1 else tb2 (r - p.rows),fun r => if r < p.rows then bo1 else bo2 (r - p.rows),⟨by rw [List.length_append,h1.len,h2.len]; rfl,fun i x hi hx => ?_,fun E n k ρ hE ht hρ => ?_⟩⟩
  · split at hx
    · exact h1.blk x hx
    · exact h2.blk _ x (by simp only [totR] at hi; omega) hx
  · have e1 : ∀ i, i < p.size → E.i (n + i) = ns1.getD i 0 := fun i hi => by
      rw [← h1.len] at hi
      rw [hE i (by rw [List.length_append]; omega),List.getD_eq_getElem?_getD,List.getElem?_append_left hi,List.getD_eq_getElem?_getD]
    obtain ⟨g1, g2, g3, g4⟩ := h2.all E (n + p.size) (k + p.rows) ρ (fun i hi => by
        rw [← h1.len,Nat.add_assoc,hE _ (by rw [List.length_append]; omega),List.getD_eq_getElem?_getD,List.getElem?_append_right (by omega),List.getD_eq_getElem?_getD]
        congr 2; omega)
      (fun r i j => by
        rw [Nat.add_assoc,ht]
        rw [if_neg (by omega),show p.rows + r - p.rows = r by omega])
      (fun r hr => by
        rw [Nat.add_assoc,hρ _ (by simp only [totR]; omega),if_neg (by omega),show p.rows + r - p.rows = r by omega])
    have hr1 : p.rows = 1 → ρ (2 * k + 1) = some (rvO bo1) := fun hp => by
      have := hρ 0 (by simp only [totR]; omega)
      rw [if_pos (by omega)] at this
      exact this
    have ht1 : p.rows = 1 → ∀ i j, E.t k i j = tb1 i j := fun hp i j => by
      have := ht 0 i j
      rw [if_pos (by omega)] at this
      exact this
    have hrng : p.rng E n k := by
      cases p with
      | one c => exact h1.rng { E with t := fun _ i j => tb1 i j } n k e1 (fun i j => rfl)
      | agg cs =>
        have := h1.rng { E with t := fun _ i j => tb1 i j } n k e1 (fun i j => rfl)
        have key : ∀ (E E' : Env) (h : E.i = E'.i) (cs : List Col) (n : Nat), colsRng E cs n → colsRng E' cs n := by
          intro E E' h cs
          induction cs with
          | nil => exact fun _ _ => trivial
          | cons c cs ih => exact fun n hn => ⟨by rw [← h]; exact hn.1,ih _ hn.2⟩
        exact key { E with t := fun _ i j => tb1 i j } E rfl cs n this
      | sl cs => exact h1.rng E n k e1 (ht1 rfl)
    refine ⟨⟨h1.is E n k ρ e1 hr1,g1⟩,⟨hrng,g2⟩,fun m o hm => ?_,fun r hr => ?_⟩
    · have tail : look (symHeap pks (n + p.size) (k + p.rows)) m = some o → ∃ r, r < totR (p :: pks) ∧ m = 2 * (k + r) + 1 ∧ o.wr = false ∧ @SO.ok E Empty _ ρ (rvO (if r < p.rows then bo1 else bo2 (r - p.rows))) (fun x => (if r < p.rows then bo1 else bo2 (r - p.rows)) = some x) W o := fun hm => by
        obtain ⟨r,a1,a2,a3,a4⟩ := g3 m o hm
        refine ⟨p.rows + r,by simp only [totR]; omega,by rw [a2]; omega,a3, ?_⟩
        rw [if_neg (by omega),show p.rows + r - p.rows = r by omega]
        exact a4
      cases p with
      | one c => exact tail hm
      | agg cs => exact tail hm
      | sl cs =>
        simp only [symHeap,look] at hm
        by_cases e : 2 * k + 1 = m
        · subst e
          simp at hm
          subst hm
          refine ⟨0,by simp only [totR,PK.rows]; omega,rfl,rfl, ?_⟩
          exact h1.ob E n k ρ cs rfl e1 (ht1 rfl)
        · have e' : (2 * k + 1 == m) = false := by simpa using e
          rw [e',cond_false] at hm
          exact tail hm
    · cases p with
      | one c =>
        have := g4 r (by simpa [totR,PK.rows] using hr)
        simp only [symHeap]
        exact this
      | agg cs =>
        have := g4 r (by simpa [totR,PK.rows] using hr)
        simp only [symHeap]
        exact this
      | sl cs =>
        simp only [symHeap,look]
        by_cases e : 2 * k + 1 = 2 * (k + r) + 1
        · rw [show (2 * k + 1 == 2 * (k + r) + 1) = true by simpa using e]; rfl
        · rw [show (2 * k + 1 == 2 * (k + r) + 1) = false by simpa using e, cond_false]
          have := g4 (r - 1) (by simp only [totR,PK.rows] at hr; omega)
          rw [show k + (PK.sl cs).rows + (r - 1) = k + r by simp only [PK.rows]; omega] at this
          exact this
theorem start {pks : List PK} {vs : List Value} {ns : List Int} {tb : Nat → Nat → Nat → Int} {bo : Nat → Option Nat} (h : Tolds W pks vs ns tb bo) :
    ∃ (E : Env) (ρ : Rho) (F : Nat → Nat → Prop),symRng E pks 0 0 ∧ @HeapOk E Empty _ ρ F (symHeap pks 0 0) W ∧ All2 (@SV.is E ρ) (symArgs pks 0 0) vs ∧ ∀ n,Hi n → ρ n = none := by
  let E : Env := ⟨fun i => ns.getD i 0,fun _ => [],tb⟩
  let ρ : Rho := fun m => if m % 2 = 1 ∧ m / 2 < totR pks then some (rvO (bo (m / 2))) else none
  obtain ⟨g1, g2, g3, g4⟩ := h.all E 0 0 ρ (fun i _ => by show ns.getD (0 + i) 0 = _; rw [Nat.zero_add]) (fun r i j => by show tb (0 + r) i j = _; rw [Nat.zero_add]) (fun r hr => by
    simp only [ρ]
    rw [if_pos ⟨by omega,by omega⟩,show (2 * (0 + r) + 1) / 2 = r by omega])
  have hρ : ∀ m, (ρ m).isSome → ∃ r, r < totR pks ∧ m = 2 * r + 1 := fun m hm => by
    simp only [ρ] at hm
    split at hm
    · rename_i hc; exact ⟨m / 2,hc.2,by omega⟩
    · cases hm
  refine ⟨E, ρ,fun m x => bo (m / 2) = some x,g2,⟨fun n => ?_,fun n o r hn hr => ?_,fun n m x _ hn hm hh => ?_,fun n o hn hw => ?_,fun n x hn hx => ?_⟩,g1,fun n hn => ?_⟩
  · cases hl : (ρ n).isSome with
    | true =>
      obtain ⟨r,hr,rfl⟩ := hρ n hl
      have := g4 r hr
      rwa [Nat.zero_add] at this
    | false =>
      cases hk : look (symHeap pks 0 0) n with
      | none => rfl
      | some o =>
        obtain ⟨r,hr,rfl,_⟩ := g3 n o hk
        have : (ρ (2 * (0 + r) + 1)).isSome = true := by
          simp only [ρ]
          rw [if_pos ⟨by omega,by omega⟩]; rfl
        rw [hl] at this; cases this
  · obtain ⟨q, hq, rfl, _, hok⟩ := g3 n o hn
    have e : ρ (2 * (0 + q) + 1) = some (rvO (bo q)) := by
      simp only [ρ]
      rw [if_pos ⟨by omega,by omega⟩,show (2 * (0 + q) + 1) / 2 = q by omega]
    rw [e] at hr
    cases hr
    have e2 : (fun x => bo ((2 * (0 + q) + 1) / 2) = some x) = fun x => bo q = some x := by rw [show (2 * (0 + q) + 1) / 2 = q by omega]
    show @SO.ok E Empty _ ρ (rvO (bo q)) (fun x => bo ((2 * (0 + q) + 1) / 2) = some x) W o
    rw [e2]
    exact hok
  · obtain ⟨r, _, rfl⟩ := hρ n hn
    obtain ⟨r',_,rfl⟩ := hρ m hm
    rcases hh with ⟨_,h⟩ | ⟨_,h⟩ <;> omega
  · obtain ⟨r, _, _, h, _⟩ := g3 n o hn
    rw [h] at hw; cases hw
  · obtain ⟨r, hr, rfl⟩ := hρ n hn
    exact h.blk r x hr (by rw [show (2 * r + 1) / 2 = r by omega] at hx; exact hx)
  · cases hl : ρ n with
    | none => rfl
    | some r =>
      obtain ⟨q,_,rfl⟩ := hρ n (by rw [hl]; rfl)
      obtain ⟨_,h⟩ := hn
      omega
theorem backs (hl : laidOutB P = true) {W' : World} (hb : Below W.heap.size W W') : ∀ {ts : List TypeId} {vs : List Value} {ds : List (DataW H)} {ps : List MemPlace}, (ts.all fun t => P.readableRec t && decide (t < P.types.size)) = true →
    DataW.TrodAll enc P W 0 (fun _ => true) true ts vs ds ps → DataW.TrodAll enc P W' 0 (fun b => decide (b < W.heap.size)) true ts vs ds ps
  | [], vs, ds, ps, _, h => by
    cases vs with
    | nil => cases ds with
      | nil => exact h
      | cons _ _ => exact h.elim
    | cons v vs => cases ds <;> exact h.elim
  | t :: ts, vs, ds, ps, hr, h => by
    obtain ⟨v,vs',d',ds',p',q',rfl,rfl,rfl,hd,hrest⟩ := trodAll_cons h
    simp only [List.all_cons,Bool.and_eq_true,decide_eq_true_eq] at hr
    have k := hd
    have lt : ∀ x ∈ p',x.block < W.heap.size := by obtain ⟨m,hm⟩ := k; exact DataW.trod_lt m _ _ _ hm
    exact ⟨p',q',Below.trod hl hr.1.1 hr.1.2 hd hb lt,backs hl hb hr.2 hrest,rfl⟩
end
def colFacts (c : Col) (n : Nat) : List BE := match c with
  | .int k => [.cmp .leq (.lit k.min) (.atom n), .cmp .leq (.atom n) (.lit k.max)]
  | .bool => [.cmp .leq (.lit 0) (.atom n), .cmp .leq (.atom n) (.lit 1)]
def colsFacts : List Col → Nat → List BE
  | [],_ => []
  | c :: l,n => colFacts c n ++ colsFacts l (n + 1)
def rngFacts : List PK → Nat → List BE
  | [],_ => []
  | .one c :: l,n => colFacts c n ++ rngFacts l (n + 1)
  | .agg cs :: l,n => colsFacts cs n ++ rngFacts l (n + cs.length)
  | .sl _ :: l,n => [.cmp .leq (.lit 0) (.atom n), .cmp .leq (.lit 0) (.atom (n + 1)), .cmp .leq (.atom (n + 1)) (.lit maxLen)] ++ rngFacts l (n + 2)
theorem colFacts_ok (E : Env) {c : Col} {n : Nat} (h : c.wf (E.i n)) : ∀ b ∈ colFacts c n, @BE.val E b = true := by
  intro b hb
  cases c with
  | int k =>
    have hw : (Lit.int k (E.i n)).wf = true := h
    simp only [Lit.wf,Bool.and_eq_true] at hw
    simp only [colFacts,List.mem_cons,List.not_mem_nil,or_false] at hb
    rcases hb with rfl | rfl
    · exact hw.1
    · exact hw.2
  | bool =>
    have hw : E.i n = 0 ∨ E.i n = 1 := h
    simp only [colFacts,List.mem_cons,List.not_mem_nil,or_false] at hb
    rcases hb with rfl | rfl
    · exact decide_eq_true (show (0 : Int) ≤ E.i n by omega)
    · exact decide_eq_true (show E.i n ≤ (1 : Int) by omega)
theorem colsFacts_ok (E : Env) : ∀ {cs : List Col} {n : Nat}, colsRng E cs n → ∀ b ∈ colsFacts cs n, @BE.val E b = true
  | [],n,_,b,hb => by cases hb
  | c :: cs, n, h, b, hb => by
    rcases List.mem_append.1 hb with hb | hb
    · exact colFacts_ok E h.1 b hb
    · exact colsFacts_ok E h.2 b hb
theorem rngFacts_ok (E : Env) : ∀ {pks : List PK} {n k : Nat}, symRng E pks n k → ∀ b ∈ rngFacts pks n, @BE.val E b = true
  | [],n,k,_,b,hb => by cases hb
  | .one c :: l, n, k, h, b, hb => by
    rcases List.mem_append.1 hb with hb | hb
    · exact colFacts_ok E h.1 b hb
    · exact rngFacts_ok E h.2 b hb
  | .agg c :: l, n, k, h, b, hb => by
    rcases List.mem_append.1 hb with hb | hb
    · exact colsFacts_ok E h.1 b hb
    · exact rngFacts_ok E h.2 b hb
  | .sl c :: l, n, k, h, b, hb => by
    obtain ⟨⟨h1,h2,h3,_⟩,h4⟩ := h
    rcases List.mem_append.1 hb with hb | hb
    · simp only [List.mem_cons, List.not_mem_nil, or_false] at hb
      rcases hb with rfl | rfl | rfl
      · exact decide_eq_true h1
      · exact decide_eq_true h2
      · exact decide_eq_true h3
    · exact rngFacts_ok E h4 b hb
end Go.Proofs.Ytafemlljemhkhaa.Sx
