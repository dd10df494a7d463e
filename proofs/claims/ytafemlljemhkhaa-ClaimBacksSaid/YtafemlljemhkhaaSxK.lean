/-
  THE SYMBOLIC EXECUTOR, part K: new blocks, append, copy.
-/
import Derived.Test.YtafemlljemhkhaaSxJ
import Derived.Laws.Append
namespace Go.Proofs.Ytafemlljemhkhaa.Sx
open Go
set_option linter.unusedSectionVars false
set_option linter.unusedVariables false
set_option linter.unusedSimpArgs false
variable [Env]

section
variable {A : Type} [AbsK A]

def freeN (h : Heap A) (n : Nat) : Bool := (look h n).isNone && (Nat.ble 100 n && Nat.beq (n % 2) 0)
omit [AbsK A] in
theorem freeN_spec {h : Heap A} {n : Nat} (hf : freeN h n = true) : look h n = none ∧ Hi n := by
  simp only [freeN, Bool.and_eq_true, Option.isNone_iff_eq_none, Nat.ble_eq, Nat.beq_eq] at hf
  exact hf
def allocS (P : Program) (elem : TypeId) (h : Heap A) (nm : Nat) : Tree (SV × Heap A) :=
  match zeroT P elem, freeN h nm with
  | some cs, true => .leaf (.w (.one (.b (.ptr nm (.lit 0)))), (nm, .cells elem cs 0) :: h)
  | _, _ => .fail 100
/-- What a run of one operation has come to. -/
def Ran (P : Program) (prot : Prot) (ρ : Rho) (F : Nat → Nat → Prop) (w : World) (m : Sem Value) (K : SV × Heap A → Prop) : Prop :=
  ∃ s h' v ρ' F' w', K (s, h') ∧ s.is ρ' v ∧ m.run P w = .ok v w' ∧ HeapOk ρ' F' h' w' ∧ Goes prot.pr ρ F w ρ' F' w'
theorem allocS_ok {P : Program} {prot : Prot} {elem : TypeId} {h : Heap A} {nm : Nat} {ρ : Rho} {F : Nat → Nat → Prop} {w : World} (H : HeapOk ρ F h w) {K : SV × Heap A → Prop}
    (hK : (allocS P elem h nm).holds K) : Ran P prot ρ F w (Instr.alloc elem true (.tuple #[])) K := by
  unfold allocS at hK
  split at hK
  · rename_i cs hz hfn
    obtain ⟨hn, hni⟩ := freeN_spec hfn
    obtain ⟨v, hv, hc⟩ := gives_zero hz ρ
    obtain ⟨H', G⟩ := H.alloc (prot := prot.pr) hn hni (o := .cells elem cs 0) (obj := .cells v.cells elem (0, 0)) (.inl ⟨elem, cs, 0, v.cells, rfl, rfl, v.cells.toList, [], by simp, rfl, hc⟩)
    refine ⟨_, _, .pointer (some ⟨w.heap.size, 0, none⟩), _, _, _, hK, ⟨w.heap.size, upd_same _ _ _, by simp [IE.val]⟩, ?_, H', G⟩
    simp [Instr.alloc, hv w, newVar, newRow]
  · exact hK.elim
def boxS (P : Program) (elem : TypeId) (x : SV) (h : Heap A) (nm : Nat) : Tree (SV × Heap A) :=
  match asCs x, freeN h nm with
  | some cs, true => .leaf (.w (.one (.b (.ptr nm (.lit 0)))), (nm, .cells elem cs 0) :: h)
  | _, _ => .fail 101
theorem boxS_ok {P : Program} {prot : Prot} {elem : TypeId} {x : SV} {h : Heap A} {nm : Nat} {ρ : Rho} {F : Nat → Nat → Prop} {w : World} (H : HeapOk ρ F h w) {v : Value} (hx : x.is ρ v) {K : SV × Heap A → Prop}
    (hK : (boxS P elem x h nm).holds K) : Ran P prot ρ F w (Instr.box elem v) K := by
  unfold boxS at hK
  split at hK
  · rename_i cs hcs hfn
    obtain ⟨hn, hni⟩ := freeN_spec hfn
    have hc := asCs_is hcs hx
    obtain ⟨H', G⟩ := H.alloc (prot := prot.pr) hn hni (o := .cells elem cs 0) (obj := .cells v.cells elem (0, 0)) (.inl ⟨elem, cs, 0, v.cells, rfl, rfl, v.cells.toList, [], by simp, rfl, hc⟩)
    refine ⟨_, _, .pointer (some ⟨w.heap.size, 0, none⟩), _, _, _, hK, ⟨w.heap.size, upd_same _ _ _, by simp [IE.val]⟩, ?_, H', G⟩
    simp [Instr.box, newVar, newRow]
  · exact hK.elim

/-! ### zeros -/
def repS (z : List SC) (n : Nat) : List SC := (List.range n).map fun i => z.getD (i % z.length) (.b .unk)
theorem repS_is {ρ : Rho} {z : List SC} {zv : Array Value} (hz : All2 (SC.is ρ) z zv.toList) (n : Nat) (h0 : n = 0 ∨ 0 < z.length) :
    All2 (SC.is ρ) (repS z n) ((Array.range n).map (zv[· % zv.size]!)).toList := by
  have hlen : z.length = zv.size := by have := hz.length; simpa using this
  rw [Array.toList_map, Array.toList_range]
  refine All2.map _ _ _ fun i hi => ?_
  have hn : 0 < z.length := by
    rcases h0 with h | h
    · subst h; simp at hi
    · exact h
  have hlt : i % z.length < z.length := Nat.mod_lt _ hn
  obtain ⟨v, hv, hc⟩ := hz.get (i % z.length) (z[i % z.length]) (List.getElem?_eq_getElem hlt)
  have hv' : zv[i % zv.size]? = some v := by rw [← hlen]; simpa using hv
  rw [List.getD_eq_getElem?_getD, List.getElem?_eq_getElem hlt, Option.getD_some]
  rw [getElem!_def, hv']
  exact hc

def buildSliceS (P : Program) (t : TypeId) (len : Nat) (parts : List (Nat × SV)) (h : Heap A) (nm : Nat) : Tree (SV × Heap A) :=
  match P.underlying t, freeN h nm with
  | some (.slice e), true =>
    match sizeT P e, zeroT P e with
    | some sz, some z =>
      if len * sz ≤ 16777216 ∧ 0 < z.length then
        match fillS (fun i => some (i * sz, sz)) (repS z (len * sz)) parts with
        | some cs => .leaf (.w (.one (.b (.sl nm (.lit 0) (.lit len) (.lit len)))), (nm, .cells e cs 0) :: h)
        | none => .fail 102
      else .fail 103
    | _, _ => .fail 104
  | _, _ => .fail 105
theorem buildSliceS_ok {P : Program} {prot : Prot} {t : TypeId} {len : Nat} {ps : List (Nat × SV)} {qs : Array (Nat × Value)} {h : Heap A} {nm : Nat} {ρ : Rho} {F : Nat → Nat → Prop} {w : World} (H : HeapOk ρ F h w)
    (hp : All2 (fun (p : Nat × SV) (q : Nat × Value) => p.1 = q.1 ∧ p.2.is ρ q.2) ps qs.toList) {K : SV × Heap A → Prop}
    (hK : (buildSliceS P t len ps h nm).holds K) : Ran P prot ρ F w (Instr.buildSlice t len qs) K := by
  unfold buildSliceS at hK
  split at hK
  · rename_i e hu hfn
    obtain ⟨hn, hni⟩ := freeN_spec hfn
    split at hK
    · rename_i sz z hsz hz
      obtain ⟨zv, hzg, hzi⟩ := gives_zero hz ρ
      split at hK
      · rename_i hlim
        split at hK
        · rename_i cs hf
          have hno : ¬ len * sz > 2 ^ 24 := by omega
          by_cases h0 : len * sz = 0
          · have hrep' : All2 (SC.is ρ) (repS z (len * sz)) (#[] : Array Value).toList := by rw [h0]; trivial
            obtain ⟨us, h1, h2⟩ := fillS_is hp hrep' hf
            obtain ⟨H', G⟩ := H.alloc (prot := prot.pr) hn hni (o := .cells e cs 0) (obj := .cells us e (0, 0)) (.inl ⟨e, cs, 0, us, rfl, rfl, us.toList, [], (List.append_nil _).symm, rfl, h2⟩)
            refine ⟨_, _, .slice (some ⟨w.heap.size, 0, none⟩) len len, _, _, _, hK, ⟨w.heap.size, upd_same _ _ _, rfl⟩, ?_, H', G⟩
            have hm : (Array.range (len * sz)).map ((#[] : Array Value)[· % (#[] : Array Value).size]!) = #[] := by rw [h0]; simp
            simp only [Instr.buildSlice, Sem.run_bind, gives_underlying hu w, gives_sizeOf hsz w, Result.andThen_ok, if_neg hno, if_pos h0, Sem.run_pure, hm, h1]
            rfl
          · have hrep := repS_is hzi (len * sz) (.inr hlim.2)
            obtain ⟨us, h1, h2⟩ := fillS_is hp hrep hf
            obtain ⟨H', G⟩ := H.alloc (prot := prot.pr) hn hni (o := .cells e cs 0) (obj := .cells us e (0, 0)) (.inl ⟨e, cs, 0, us, rfl, rfl, us.toList, [], (List.append_nil _).symm, rfl, h2⟩)
            refine ⟨_, _, .slice (some ⟨w.heap.size, 0, none⟩) len len, _, _, _, hK, ⟨w.heap.size, upd_same _ _ _, rfl⟩, ?_, H', G⟩
            simp only [Instr.buildSlice, Sem.run_bind, gives_underlying hu w, gives_sizeOf hsz w, Result.andThen_ok, if_neg hno, if_neg h0, hzg w, Sem.run_pure, h1]
            rfl
        · exact hK.elim
      · exact hK.elim
    · exact hK.elim
  · exact hK.elim

/-! ### make -/
/-- Zeros of one kind of integer. -/
def zeroKind : List SC → Option IntKind
  | [.b (.int k (.lit 0))] => some k
  | .b (.int k (.lit 0)) :: l => match zeroKind l with
    | some k' => if k = k' then some k else none
    | none => none
  | _ => none
theorem zeroKind_spec : ∀ {z : List SC} {k : IntKind}, zeroKind z = some k → 0 < z.length ∧ ∀ c ∈ z, c = .b (.int k (.lit 0))
  | [], k, h => by simp [zeroKind] at h
  | c :: l, k, h => by
    unfold zeroKind at h
    split at h
    · rename_i heq; cases heq; cases h; exact ⟨by simp, by simp⟩
    · rename_i k0 l' hne heq
      cases heq
      split at h
      · rename_i k' h1
        split at h
        · rename_i hk; subst hk; cases h
          have ih := zeroKind_spec h1
          exact ⟨by simp, fun c hc => by rcases List.mem_cons.1 hc with rfl | hc; rfl; exact ih.2 c hc⟩
        · cases h
      · cases h
    · cases h
def bytesT (P : Program) (t : TypeId) : Option Nat := (P.info? t).map (·.bytes)
def makeSliceS (P : Program) (t : TypeId) (x y : SV) (h : Heap A) (nm : Nat) : Tree (SV × Heap A) :=
  match P.underlying t, freeN h nm, asI x, asI y with
  | some (.slice e), true, some (_, l), some (_, c) =>
    match sizeT P e, zeroT P e, bytesT P e with
    | some sz, some z, some by_ =>
      match l, c with
      | .lit a, .lit b =>
        if 0 ≤ a ∧ a ≤ b ∧ by_ * b ≤ 281474976710656 ∧ b ≤ 9223372036854775807 ∧ 0 < z.length then
          .leaf (.w (.one (.b (.sl nm (.lit 0) (.lit a) (.lit b)))), (nm, .cells e (repS z (b.toNat * sz)) 0) :: h)
        else .fail 106
      | l, c =>
        match zeroKind z with
        | some k =>
          mkBr (mkCmp .geq l (.lit 0)) (mkBr (mkCmp .leq l c) (mkBr (mkCmp .leq c (.lit (281474976710656 / (by_ + 1) : Nat)))
            (.leaf (.w (.one (.b (.sl nm (.lit 0) l c))), (nm, .row k e (.rep c sz)) :: h))
            (.fail 107)) (.fail 107)) (.fail 107)
        | none => .fail 108
    | _, _, _ => .fail 109
  | _, _, _, _ => .fail 110
theorem wrap_i64 {x : Int} (h0 : 0 ≤ x) (h1 : x ≤ 9223372036854775807) : IntKind.i64.wrap x = x := by
  unfold IntKind.wrap
  simp only [IntKind.bits, IntKind.signed]
  have h2 : x % (2 ^ 64 : Int) = x := Int.emod_eq_of_lt h0 (by omega)
  simp only [h2]
  rw [if_neg]
  simp
  omega
theorem run_makeSlice {P : Program} {t e : TypeId} {sz by_ : Nat} {zv : Value} (hu : P.underlying t = some (.slice e)) (hsz : sizeT P e = some sz) (hby : bytesT P e = some by_) (hzg : Gives P (zeroValue e) zv)
    {k k' : IntKind} {l c : Int} (h0 : 0 ≤ l) (h1 : l ≤ c) (h2 : (by_ : Int) * c ≤ 281474976710656) (h3 : c ≤ 9223372036854775807) (w : World) :
    (Instr.makeSlice t (.int k l) (.int k' c)).run P w = .ok (.slice (some ⟨w.heap.size, 0, none⟩) l.toNat c.toNat)
      { w with heap := w.heap.push (.cells (if c.toNat * sz = 0 then #[] else (Array.range (c.toNat * sz)).map (zv.cells[· % zv.cells.size]!)) e (0, 0)) } := by
  unfold bytesT at hby
  obtain ⟨i, hi, rfl⟩ := Option.map_eq_some_iff.1 hby
  have w1 := wrap_i64 h0 (by omega)
  have w2 := wrap_i64 (x := c) (by omega) h3
  have hc0 : ¬ c < 0 := by omega
  have hl0 : ¬ l < 0 := by omega
  have hlc : ¬ l > c := by omega
  have hbc : ¬ ((i.bytes : Int) * c > 2 ^ 48) := by omega
  have hcond : (decide (c < 0) || decide ((i.bytes : Int) * c > 2 ^ 48) || decide (l < 0) || decide (l > c)) = false := by
    simp [hc0, hl0, hlc, hbc]; omega
  simp only [Instr.makeSlice, Sem.run_bind, gives_underlying hu w, Result.andThen_ok, asInt, asIntOf, Sem.run_pure, w1, w2]
  rw [show (typeInfo e).run P w = .ok i w from by simp [typeInfo, hi]]
  simp only [Result.andThen_ok, Sem.run_ite]
  rw [if_neg (by simpa using hcond)]
  simp only [Sem.run_bind, run_askRoom, Result.andThen_ok, gives_sizeOf hsz w]
  by_cases hz0 : c.toNat * sz = 0
  · have hm : (Array.range (c.toNat * sz)).map ((#[] : Array Value)[· % (#[] : Array Value).size]!) = #[] := by rw [hz0]; simp
    simp only [if_pos hz0, Sem.run_bind, Sem.run_pure, Result.andThen_ok, hm]
    rfl
  · simp only [if_neg hz0, Sem.run_bind, hzg w, Sem.run_pure, Result.andThen_ok]
    rfl

theorem rep_zero {ρ : Rho} {z : List SC} {k : IntKind} (hk : zeroKind z = some k) {zv : Array Value} (hz : All2 (SC.is ρ) z zv.toList) (n : Nat) :
    ((Array.range n).map (zv[· % zv.size]!)) = ((List.replicate n (0 : Int)).map (Value.int k)).toArray := by
  obtain ⟨hpos, hall⟩ := zeroKind_spec hk
  have hlen : z.length = zv.size := by have := hz.length; simpa using this
  apply Array.toList_inj.1
  apply List.ext_getElem?
  intro i
  simp only [Array.toList_map, Array.toList_range, List.getElem?_map, List.map_replicate, List.getElem?_replicate]
  by_cases hi : i < n
  · rw [List.getElem?_range hi, Option.map_some, if_pos hi]
    have hlt : i % z.length < z.length := Nat.mod_lt _ hpos
    obtain ⟨v, hv, hc⟩ := hz.get (i % z.length) (z[i % z.length]) (List.getElem?_eq_getElem hlt)
    have hv' : zv[i % zv.size]? = some v := by rw [← hlen]; simpa using hv
    rw [getElem!_def, hv']
    rw [hall _ (List.getElem_mem hlt)] at hc
    have : v = .int k 0 := hc
    rw [this]
  · rw [if_neg hi, List.getElem?_eq_none (by simpa using hi)]; rfl
theorem makeSliceS_ok {P : Program} {prot : Prot} {t : TypeId} {x y : SV} {h : Heap A} {nm : Nat} {ρ : Rho} {F : Nat → Nat → Prop} {w : World} (H : HeapOk ρ F h w) {u v : Value} (hx : x.is ρ u) (hy : y.is ρ v) {K : SV × Heap A → Prop}
    (hK : (makeSliceS P t x y h nm).holds K) : Ran P prot ρ F w (Instr.makeSlice t u v) K := by
  unfold makeSliceS at hK
  split at hK
  · rename_i e k l k' c hu hfn hl hc
    obtain ⟨hn, hni⟩ := freeN_spec hfn
    obtain rfl := asI_is hl hx
    obtain rfl := asI_is hc hy
    split at hK
    · rename_i sz z by_ hsz hz hby
      obtain ⟨zv, hzg, hzi⟩ := gives_zero hz ρ
      split at hK
      · rename_i a b
        split at hK
        · rename_i hlim
          have hrun := run_makeSlice (k := k) (k' := k') hu hsz hby hzg hlim.1 hlim.2.1 hlim.2.2.1 hlim.2.2.2.1 w
          have hrep' : All2 (SC.is ρ) (repS z (b.toNat * sz)) (if b.toNat * sz = 0 then #[] else (Array.range (b.toNat * sz)).map (zv.cells[· % zv.cells.size]!)).toList := by
            split
            · rename_i h0; rw [h0]; trivial
            · exact repS_is hzi _ (.inr hlim.2.2.2.2)
          obtain ⟨H', G⟩ := H.alloc (prot := prot.pr) hn hni (o := .cells e (repS z (b.toNat * sz)) 0) (obj := .cells (if b.toNat * sz = 0 then #[] else (Array.range (b.toNat * sz)).map (zv.cells[· % zv.cells.size]!)) e (0, 0))
            (.inl ⟨e, _, 0, _, rfl, rfl, _, [], (List.append_nil _).symm, rfl, hrep'⟩)
          exact ⟨_, _, _, _, _, _, hK, ⟨w.heap.size, upd_same _ _ _, rfl⟩, hrun, H', G⟩
        · exact hK.elim
      · split at hK
        · rename_i k2 hk2
          obtain ⟨h1, h2⟩ := mkBr_holds hK
          simp only [mkCmp_val, cmpVal, IE.val] at h1 h2
          by_cases c1 : l.val ≥ 0
          · obtain ⟨h3, h4⟩ := mkBr_holds (h1 (decide_eq_true c1))
            simp only [mkCmp_val, cmpVal, IE.val] at h3 h4
            by_cases c2 : l.val ≤ c.val
            · obtain ⟨h5, h6⟩ := mkBr_holds (h3 (decide_eq_true c2))
              simp only [mkCmp_val, cmpVal, IE.val] at h5 h6
              by_cases c3 : c.val ≤ ((281474976710656 / (by_ + 1) : Nat) : Int)
              · have hb0 : (by_ + 1) * (281474976710656 / (by_ + 1)) ≤ 281474976710656 := Nat.mul_div_le _ _
                have hle1 : c.val ≤ 281474976710656 := by
                  have : 281474976710656 / (by_ + 1) ≤ 281474976710656 := Nat.div_le_self _ _
                  omega
                have hb1 : (by_ : Int) * c.val ≤ 281474976710656 := by
                  have e1 : (by_ : Int) * c.val ≤ (by_ : Int) * ((281474976710656 / (by_ + 1) : Nat) : Int) := Int.mul_le_mul_of_nonneg_left c3 (by omega)
                  have e2 : (by_ * (281474976710656 / (by_ + 1)) : Nat) ≤ 281474976710656 := Nat.le_trans (Nat.mul_le_mul_right _ (Nat.le_succ _)) hb0
                  have e3 : ((by_ * (281474976710656 / (by_ + 1)) : Nat) : Int) ≤ ((281474976710656 : Nat) : Int) := Int.ofNat_le.2 e2
                  rw [Int.natCast_mul] at e3
                  omega
                have hrun := run_makeSlice (k := k) (k' := k') hu hsz hby hzg c1 c2 hb1 (by omega) w
                have hobj : (if c.val.toNat * sz = 0 then #[] else (Array.range (c.val.toNat * sz)).map (zv.cells[· % zv.cells.size]!)) = ((List.replicate (c.val.toNat * sz) (0 : Int)).map (Value.int k2)).toArray := by
                  split
                  · rename_i h0; rw [h0]; rfl
                  · exact rep_zero hk2 hzi _
                rw [hobj] at hrun
                obtain ⟨H', G⟩ := H.alloc (prot := prot.pr) hn hni (o := .row k2 e (.rep c sz)) (obj := .cells ((List.replicate (c.val.toNat * sz) (0 : Int)).map (Value.int k2)).toArray e (0, 0)) (.inr ⟨k2, e, _, [], rfl, by rw [List.append_nil]; simp only [IE.lst]⟩)
                exact ⟨_, _, _, _, _, _, h5 (decide_eq_true c3), ⟨w.heap.size, upd_same _ _ _, rfl⟩, hrun, H', G⟩
              · exact (h6 (decide_eq_false c3)).elim
            · exact (h4 (decide_eq_false c2)).elim
          · exact (h2 (decide_eq_false c1)).elim
        · exact hK.elim
    · exact hK.elim
  · exact hK.elim

end
end Go.Proofs.Ytafemlljemhkhaa.Sx
