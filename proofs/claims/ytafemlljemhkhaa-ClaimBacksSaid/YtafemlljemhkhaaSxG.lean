/-
  THE SYMBOLIC EXECUTOR, part G: all operations that neither read nor write memory.
-/
import Derived.Test.YtafemlljemhkhaaSxF
namespace Go.Proofs.Ytafemlljemhkhaa.Sx
open Go
set_option linter.unusedSectionVars false
set_option linter.unusedVariables false
set_option linter.unusedSimpArgs false
variable [Env]

/-! ### structs and arrays, built -/
def fillS (place : Nat → Option (Nat × Nat)) (cells : List SC) : List (Nat × SV) → Option (List SC)
  | [] => some cells
  | (i, x) :: rest =>
    match place i, asCs x with
    | some (off, size), some cs => if cs.length ≠ size || off + cs.length > cells.length then none else fillS place (writeL cells off cs) rest
    | _, _ => none
theorem All2.writeL {α β : Type} {R : α → β → Prop} : ∀ {cs : List α} {vs : List β}, All2 R cs vs → ∀ {l : List α} {m : List β} (off : Nat), All2 R l m → All2 R (Sx.writeL l off cs) (Sx.writeL m off vs)
  | [], [], _, _, _, _, h => h
  | _ :: _, _ :: _, hc, _, _, off, h => All2.writeL hc.2 (off + 1) (h.set off _ _ hc.1)
  | [], _ :: _, h, _, _, _, _ => h.elim
  | _ :: _, [], h, _, _, _, _ => h.elim
theorem fill_fold : ∀ (vs : List Value) (cells : Array Value) (off k : Nat),
    ((vs.zipIdx k).foldl (fun (cs : Array Value) (x : Value × Nat) => cs.setIfInBounds (off + x.2) x.1) cells).toList = writeL cells.toList (off + k) vs
  | [], cells, off, k => rfl
  | v :: vs, cells, off, k => by
    simp only [List.zipIdx_cons, List.foldl_cons, writeL]
    rw [fill_fold vs _ off (k + 1), Array.toList_setIfInBounds]; rfl
theorem fillS_is {ρ : Rho} {place : Nat → Option (Nat × Nat)} : ∀ {ps : List (Nat × SV)} {qs : List (Nat × Value)} {cells : List SC} {vs : Array Value} {r : List SC},
    All2 (fun p q => p.1 = q.1 ∧ p.2.is ρ q.2) ps qs → All2 (SC.is ρ) cells vs.toList → fillS place cells ps = some r →
    ∃ us, Instr.fill place vs qs = some us ∧ All2 (SC.is ρ) r us.toList
  | [], [], cells, vs, r, _, hc, h => by cases h; exact ⟨vs, rfl, hc⟩
  | (i, x) :: ps, (j, v) :: qs, cells, vs, r, hp, hc, h => by
    obtain ⟨⟨hij, hxv⟩, hps⟩ := hp
    simp only at hij hxv
    subst hij
    simp only [fillS] at h
    split at h
    · rename_i off size cs hpl hcs
      have hcv := asCs_is hcs hxv
      have hl1 := hcv.length
      have hl2 := hc.length
      simp only [Array.length_toList] at hl1 hl2
      split at h
      · cases h
      · rename_i hn
        simp only [Instr.fill, hpl]
        rw [hl1, hl2] at hn
        rw [if_neg hn]
        refine fillS_is hps ?_ h
        have e : (v.cells.zipIdx.foldl (fun cs x => cs.setIfInBounds (off + x.2) x.1) vs).toList = writeL vs.toList off v.cells.toList := by
          rw [← Array.foldl_toList, Array.toList_zipIdx, fill_fold]; rfl
        rw [show (v.cells.zipIdx.foldl (fun cs x => match x with | (c, j) => cs.setIfInBounds (off + j) c) vs) = (v.cells.zipIdx.foldl (fun cs x => cs.setIfInBounds (off + x.2) x.1) vs) from rfl, e]
        exact hcv.writeL off hc
    · cases h
  | [], _ :: _, _, _, _, hp, _, _ => hp.elim
  | _ :: _, [], _, _, _, hp, _, _ => hp.elim
theorem gives_listMapM {α β : Type} {P : Program} {f : α → Sem β} {g : α → β} : ∀ {l : List α}, (∀ x ∈ l, Gives P (f x) (g x)) → Gives P (l.mapM f) (l.map g)
  | [], _ => fun w => by simp
  | x :: l, h => fun w => by
    have h1 := h x (by simp) w
    have h2 := gives_listMapM (l := l) (fun y hy => h y (by simp [hy])) w
    simp [List.mapM_cons, h1, h2]
theorem gives_arrMapM {α β : Type} {P : Program} {f : α → Sem β} {g : α → β} {xs : Array α} (h : ∀ x ∈ xs, Gives P (f x) (g x)) : Gives P (xs.mapM f) (xs.map g) := by
  intro w
  rw [Array.mapM_eq_mapM_toList]
  have := gives_listMapM (P := P) (f := f) (g := g) (l := xs.toList) (fun x hx => h x (by simpa using hx)) w
  simp only [Sem.run_map, this, Result.andThen_ok]
  congr 1
  apply Array.toList_inj.1
  simp
def allSized (P : Program) : List Field → Bool
  | [] => true
  | f :: fs => (sizeT P f.type).isSome && allSized P fs
theorem allSized_spec {P : Program} : ∀ {fs : List Field}, allSized P fs = true → ∀ f ∈ fs, (sizeT P f.type).isSome = true
  | [], _, f, hf => by simp at hf
  | g :: fs, h, f, hf => by
    simp only [allSized, Bool.and_eq_true] at h
    rcases List.mem_cons.1 hf with rfl | hf
    · exact h.1
    · exact allSized_spec h.2 f hf
def buildS (P : Program) (t : TypeId) (parts : List (Nat × SV)) : Tree SV :=
  match zeroT P t, P.underlying t with
  | some z, some (.struct fs) =>
    if allSized P fs.toList then
      match fillS (fun i => (fs[i]?).map fun (f : Field) => (f.offset, (sizeT P f.type).getD 0)) z parts with
      | some cs => .leaf (.w (.agg cs))
      | none => .fail 31
    else .fail 32
  | some z, some (.array _ e) =>
    match sizeT P e with
    | some sz => match fillS (fun i => some (i * sz, sz)) z parts with
      | some cs => .leaf (.w (.agg cs))
      | none => .fail 33
    | none => .fail 34
  | _, _ => .fail 35
theorem buildS_gives {P : Program} {t : TypeId} {ps : List (Nat × SV)} {qs : Array (Nat × Value)} {ρ : Rho} (hp : All2 (fun p q => p.1 = q.1 ∧ p.2.is ρ q.2) ps qs.toList) {K : SV → Prop}
    (h : (buildS P t ps).holds K) : ∃ s v, K s ∧ s.is ρ v ∧ Gives P (Instr.build t qs) v := by
  unfold buildS at h
  split at h
  · rename_i z fs hz hu
    obtain ⟨zv, hzg, hzi⟩ := gives_zero hz ρ
    split at h
    · rename_i hall
      split at h
      · rename_i cs hf
        obtain ⟨us, h1, h2⟩ := fillS_is hp hzi hf
        refine ⟨_, .agg us, h, ⟨us, rfl, h2⟩, fun w => ?_⟩
        have hm : Gives P (fs.mapM fun (f : Field) => do pure (f.offset, ← Go.sizeOf f.type)) (fs.map fun (f : Field) => (f.offset, (sizeT P f.type).getD 0)) := by
          refine gives_arrMapM fun f hf w => ?_
          obtain ⟨n, hn⟩ := Option.isSome_iff_exists.1 (allSized_spec hall f (by simpa using hf))
          simp [gives_sizeOf hn w, hn]
        have hpl : ((fs.map fun (f : Field) => (f.offset, (sizeT P f.type).getD 0))[·]?) = (fun (i : Nat) => (fs[i]?).map fun (f : Field) => (f.offset, (sizeT P f.type).getD 0)) := by
          funext i; simp
        simp only [Instr.build, Sem.run_bind, hzg w, Result.andThen_ok, gives_underlying hu w, hm w, hpl, h1]
        rfl
      · exact h.elim
    · exact h.elim
  · rename_i z n e hz hu
    obtain ⟨zv, hzg, hzi⟩ := gives_zero hz ρ
    split at h
    · rename_i sz hsz
      split at h
      · rename_i cs hf
        obtain ⟨us, h1, h2⟩ := fillS_is hp hzi hf
        refine ⟨_, .agg us, h, ⟨us, rfl, h2⟩, fun w => ?_⟩
        simp only [Instr.build, Sem.run_bind, hzg w, Result.andThen_ok, gives_underlying hu w, gives_sizeOf hsz w, h1]
        rfl
      · exact h.elim
    · exact h.elim
  · exact h.elim

/-! ### functions -/
def asSB : SV → Option SB
  | .w (.one (.b x)) => some x
  | _ => none
theorem asSB_is {ρ : Rho} {s : SV} {v : Value} {x : SB} (h : asSB s = some x) (hs : s.is ρ v) : x.is ρ v := by
  unfold asSB at h
  split at h
  · cases h; exact hs
  · cases h
def asSBs : List SV → Option (List SB)
  | [] => some []
  | s :: l => match asSB s, asSBs l with
    | some x, some xs => some (x :: xs)
    | _, _ => none
theorem asSBs_is {ρ : Rho} : ∀ {l : List SV} {vs : List Value} {xs : List SB}, asSBs l = some xs → All2 (SV.is ρ) l vs → All2 (SB.is ρ) xs vs
  | [], [], xs, h, _ => by cases h; trivial
  | s :: l, v :: vs, xs, h, hl => by
    simp only [asSBs] at h
    split at h
    · rename_i x xs' h1 h2
      cases h
      exact ⟨asSB_is h1 hl.1, asSBs_is h2 hl.2⟩
    · cases h
  | [], _ :: _, _, _, h => h.elim
  | _ :: _, [], _, _, h => h.elim

/-! ### addresses -/
theorem addr_add (b o n : Nat) : (⟨b, o, none⟩ : Addr).add n = ⟨b, o + n, none⟩ := by
  unfold Addr.add; split <;> simp_all
def fieldAddrS (P : Program) (s : TypeId) (x : SV) (f : Nat) : Tree SV :=
  match fieldT P s f, x with
  | some (off, ty), .w (.one (.b (.ptr n o))) =>
    match sizeT P ty with
    | some (_ + 1) => .leaf (.w (.one (.b (.ptr n (mkAt o (.lit 0) 0 off)))))
    | _ => .fail 40
  | _, _ => .fail 41
theorem fieldAddrS_gives {P : Program} {s : TypeId} {x : SV} {f : Nat} {ρ : Rho} {v : Value} (hx : x.is ρ v) {K : SV → Prop} (h : (fieldAddrS P s x f).holds K) :
    ∃ r u, K r ∧ r.is ρ u ∧ Gives P (Instr.fieldAt s v f) u := by
  unfold fieldAddrS at h
  split at h
  · rename_i off ty n o hf
    split at h
    · rename_i m hm
      obtain ⟨b, hb, rfl⟩ := hx
      refine ⟨_, .pointer (some ⟨b, o.val.toNat + off, none⟩), h, ⟨b, hb, by rw [mkAt_val]; simp⟩, fun w => ?_⟩
      unfold fieldT at hf
      split at hf
      · rename_i fs hu
        obtain ⟨fd, hfd, he⟩ := Option.map_eq_some_iff.1 hf
        cases he
        simp [Instr.fieldAt, gives_underlying hu w, hfd, Instr.sureAddr, fieldPlace, gives_sizeOf hm w, addr_add]
      · cases hf
    · exact h.elim
  · exact h.elim
def indexAddrS (P : Program) (t : TypeId) (x i : SV) : Tree SV :=
  match P.underlying t, asI i with
  | some (.slice e), some (_, j) =>
    match sizeT P e, x with
    | some sz, .w (.one (.b (.sl n o len _))) =>
      mkBr (mkCmp .geq j (.lit 0)) (mkBr (mkCmp .lss j (mkNat len)) (.leaf (.w (.one (.b (.ptr n (mkAt o j sz 0)))))) (.fail 42)) (.fail 42)
    | some sz, .w (.one (.b (.isl n o len))) =>
      mkBr (mkCmp .geq j (.lit 0)) (mkBr (mkCmp .lss j (mkNat len)) (.leaf (.w (.one (.b (.ptr n (mkAt o j sz 0)))))) (.fail 42)) (.fail 42)
    | _, _ => .fail 43
  | some (.array m e), some (_, j) =>
    match sizeT P e, x with
    | some sz, .w (.one (.b (.ptr n o))) =>
      mkBr (mkCmp .geq j (.lit 0)) (mkBr (mkCmp .lss j (.lit m)) (.leaf (.w (.one (.b (.ptr n (mkAt o j sz 0)))))) (.fail 42)) (.fail 42)
    | _, _ => .fail 43
  | _, _ => .fail 44
theorem indexAddrS_gives {P : Program} {t : TypeId} {x i : SV} {ρ : Rho} {v u : Value} (hx : x.is ρ v) (hi : i.is ρ u) {K : SV → Prop} (h : (indexAddrS P t x i).holds K) :
    ∃ r q, K r ∧ r.is ρ q ∧ Gives P (Instr.indexAt t v u) q := by
  unfold indexAddrS at h
  split at h
  · rename_i e k j hu hj
    obtain rfl := asI_is hj hi
    split at h
    · rename_i sz n o len cap hsz
      obtain ⟨b, hb, rfl⟩ := hx
      obtain ⟨h1, h2⟩ := mkBr_holds h
      simp only [mkCmp_val, cmpVal, IE.val] at h1 h2
      by_cases hj0 : j.val ≥ 0
      · obtain ⟨h3, h4⟩ := mkBr_holds (h1 (by simpa using hj0))
        simp only [mkCmp_val, cmpVal, mkNat_val] at h3 h4
        by_cases hj1 : j.val < (len.val.toNat : Int)
        · refine ⟨_, .pointer (some ⟨b, o.val.toNat + j.val.toNat * sz, none⟩), h3 (by simpa using hj1), ⟨b, hb, by rw [mkAt_val]; simp⟩, fun w => ?_⟩
          have hc : 0 ≤ j.val ∧ j.val < (len.val.toNat : Int) := by omega
          simp [Instr.indexAt, asIntOf, gives_underlying hu w, hc, gives_sizeOf hsz w, addr_add]
          intro hh; omega
        · exact (h4 (decide_eq_false hj1)).elim
      · exact (h2 (by simpa using hj0)).elim
    · rename_i sz n o len hsz
      obtain ⟨a, c, rfl, ha⟩ := hx
      obtain ⟨h1, h2⟩ := mkBr_holds h
      simp only [mkCmp_val, cmpVal, IE.val] at h1 h2
      by_cases hj0 : j.val ≥ 0
      · obtain ⟨h3, h4⟩ := mkBr_holds (h1 (by simpa using hj0))
        simp only [mkCmp_val, cmpVal, mkNat_val] at h3 h4
        by_cases hj1 : j.val < (len.val.toNat : Int)
        · obtain ⟨b, hb, rfl⟩ := ha.resolve_left (by omega)
          refine ⟨_, .pointer (some ⟨b, o.val.toNat + j.val.toNat * sz, none⟩), h3 (by simpa using hj1), ⟨b, hb, by rw [mkAt_val]; simp⟩, fun w => ?_⟩
          have hc : 0 ≤ j.val ∧ j.val < (len.val.toNat : Int) := by omega
          simp [Instr.indexAt, asIntOf, gives_underlying hu w, hc, gives_sizeOf hsz w, addr_add]
          intro hh; omega
        · exact (h4 (decide_eq_false hj1)).elim
      · exact (h2 (by simpa using hj0)).elim
    · exact h.elim
  · rename_i m e k j hu hj
    obtain rfl := asI_is hj hi
    split at h
    · rename_i sz n o hsz
      obtain ⟨b, hb, rfl⟩ := hx
      obtain ⟨h1, h2⟩ := mkBr_holds h
      simp only [mkCmp_val, cmpVal, IE.val] at h1 h2
      by_cases hj0 : j.val ≥ 0
      · obtain ⟨h3, h4⟩ := mkBr_holds (h1 (by simpa using hj0))
        simp only [mkCmp_val, cmpVal, IE.val] at h3 h4
        by_cases hj1 : j.val < (m : Int)
        · refine ⟨_, .pointer (some ⟨b, o.val.toNat + j.val.toNat * sz, none⟩), h3 (decide_eq_true hj1), ⟨b, hb, by rw [mkAt_val]; simp⟩, fun w => ?_⟩
          have hc : 0 ≤ j.val ∧ j.val < (m : Int) := by omega
          simp [Instr.indexAt, asIntOf, gives_underlying hu w, hc, gives_sizeOf hsz w, addr_add, Instr.sureAddr]
        · exact (h4 (decide_eq_false hj1)).elim
      · exact (h2 (by simpa using hj0)).elim
    · exact h.elim
  · exact h.elim
def indexS (P : Program) (t : TypeId) (x i : SV) : Tree SV :=
  match P.underlying t, asI i, asAg x with
  | some (.array m e), some (_, .lit j), some cs =>
    match sizeT P e with
    | some sz => if 0 ≤ j ∧ j < (m : Int) then partS P e cs (j.toNat * sz) else .fail 45
    | none => .fail 46
  | _, _, _ => .fail 47
theorem indexS_gives {P : Program} {t : TypeId} {x i : SV} {ρ : Rho} {v u : Value} (hx : x.is ρ v) (hi : i.is ρ u) {K : SV → Prop} (h : (indexS P t x i).holds K) :
    ∃ r q, K r ∧ r.is ρ q ∧ Gives P (Instr.index t v u) q := by
  unfold indexS at h
  split at h
  · rename_i m e k j cs hu hj hc
    obtain rfl := asI_is hj hi
    obtain ⟨vs, rfl, hl⟩ := asAg_is hc hx
    split at h
    · rename_i sz hsz
      split at h
      · rename_i hb
        obtain ⟨s, q, h1, h2, h3⟩ := partS_gives hl h
        refine ⟨s, q, h1, h2, fun w => ?_⟩
        simp [Instr.index, asIntOf, gives_underlying hu w, IE.val, hb, gives_sizeOf hsz w, h3 w]
      · exact h.elim
    · exact h.elim
  · exact h.elim

/-! ### slices -/
def sliceS (P : Program) (t : TypeId) (x : SV) (lo hi : Option SV) : Tree SV :=
  match P.underlying t, x with
  | some (.slice e), .w (.one (.b (.sl n o len cap))) =>
    match sizeT P e, (match hi with | none => some (mkNat len) | some h => (asI h).map (·.2)), (match lo with | none => some (.lit 0) | some l => (asI l).map (·.2)) with
    | some sz, some h, some l =>
      mkBr (mkCmp .geq h (.lit 0)) (mkBr (mkCmp .leq h (mkNat cap)) (mkBr (mkCmp .geq l (.lit 0)) (mkBr (mkCmp .leq l h)
        (mkBr (mkCmp .eql (mkNat cap) l) (.leaf (.w (.one (.b (.sl n o (mkDif h l) (mkDif cap l)))))) (.leaf (.w (.one (.b (.sl n (mkAt o l sz 0) (mkDif h l) (mkDif cap l)))))))
        (.fail 50)) (.fail 50)) (.fail 50)) (.fail 50)
    | _, _, _ => .fail 51
  | some (.slice e), .w (.one (.b .nils)) =>
    match lo, hi, sizeT P e with
    | none, none, some _ => .leaf x
    | _, _, _ => .fail 52
  | _, _ => .fail 53

end Go.Proofs.Ytafemlljemhkhaa.Sx
