import Derived.Test.YtafemlljemhkhaaPSxMa
import Derived.Laws.Append
namespace Go.Proofs.Ytafemlljemhkhaa.Sx
open Go
set_option linter.unusedSectionVars false
set_option linter.unusedVariables false
set_option linter.unusedSimpArgs false
variable [Env]
def fillS (place : Nat → Option (Nat × Nat)) (cells : List SC) : List (Nat × SV) → Option (List SC)
  | [] => some cells
  | (i, x) :: rest =>
    match place i,asCs x with
    | some (off,size),some cs => if cs.length ≠ size || off + cs.length > cells.length then none else fillS place (writeL cells off cs) rest
    | _,_ => none
theorem All2.writeL {α β : Type} {R : α → β → Prop} : ∀ {cs : List α} {vs : List β}, All2 R cs vs → ∀ {l : List α} {m : List β} (off : Nat), All2 R l m → All2 R (Sx.writeL l off cs) (Sx.writeL m off vs)
  | [], [],_,_,_,_,h => h
  | _ :: _,_ :: _,hc,_,_,off,h => All2.writeL hc.2 (off + 1) (h.set off _ _ hc.1)
  | [],_ :: _,h,_,_,_,_ => h.elim
  | _ :: _, [],h,_,_,_,_ => h.elim
theorem fill_fold : ∀ (vs : List Value) (cells : Array Value) (off k : Nat),
    ((vs.zipIdx k).foldl (fun (cs : Array Value) (x : Value × Nat) => cs.setIfInBounds (off + x.2) x.1) cells).toList = writeL cells.toList (off + k) vs
  | [],cells,off,k => rfl
  | v :: vs, cells, off, k => by
    simp only [List.zipIdx_cons,List.foldl_cons,writeL]
    rw [fill_fold vs _ off (k + 1),Array.toList_setIfInBounds]; rfl
theorem fillS_is {ρ : Rho} {place : Nat → Option (Nat × Nat)} : ∀ {ps : List (Nat × SV)} {qs : List (Nat × Value)} {cells : List SC} {vs : Array Value} {r : List SC},
    All2 (fun p q => p.1 = q.1 ∧ p.2.is ρ q.2) ps qs → All2 (SC.is ρ) cells vs.toList → fillS place cells ps = some r →
    ∃ us,Instr.fill place vs qs = some us ∧ All2 (SC.is ρ) r us.toList
  | [], [],cells,vs,r,_,hc,h => by cases h; exact ⟨vs,rfl,hc⟩
  | (i, x) :: ps, (j, v) :: qs, cells, vs, r, hp, hc, h => by
    obtain ⟨⟨hij,hxv⟩,hps⟩ := hp
    simp only at hij hxv
    subst hij
    simp only [fillS] at h
    split at h
    · rename_i off size cs hpl hcs
      have hcv := asCs_is hcs hxv
      have hl1 := hcv.length
      have hl2 := hc.length
      simp only [Array.length_toList] at hl1 hl2
      split at h
      · cases h
      · rename_i hn
        simp only [Instr.fill,hpl]
        rw [hl1,hl2] at hn
        rw [if_neg hn]
        refine fillS_is hps ?_ h
        have e : (v.cells.zipIdx.foldl (fun cs x => cs.setIfInBounds (off + x.2) x.1) vs).toList = writeL vs.toList off v.cells.toList := by
          rw [← Array.foldl_toList,Array.toList_zipIdx,fill_fold]; rfl
        rw [show (v.cells.zipIdx.foldl (fun cs x => match x with | (c,j) => cs.setIfInBounds (off + j) c) vs) = (v.cells.zipIdx.foldl (fun cs x => cs.setIfInBounds (off + x.2) x.1) vs) from rfl,e]
        exact hcv.writeL off hc
    · cases h
  | [],_ :: _,_,_,_,hp,_,_ => hp.elim
  | _ :: _, [],_,_,_,hp,_,_ => hp.elim
theorem gives_listMapM {α β : Type} {P : Program} {f : α → Sem β} {g : α → β} : ∀ {l : List α}, (∀ x ∈ l, Gives P (f x) (g x)) → Gives P (l.mapM f) (l.map g)
  | [],_ => fun w => by simp
  | x :: l, h => fun w => by
    have h1 := h x (by simp) w
    have h2 := gives_listMapM (l := l) (fun y hy => h y (by simp [hy])) w
    simp [List.mapM_cons,h1,h2]
theorem gives_arrMapM {α β : Type} {P : Program} {f : α → Sem β} {g : α → β} {xs : Array α} (h : ∀ x ∈ xs, Gives P (f x) (g x)) : Gives P (xs.mapM f) (xs.map g) := by
  intro w
  rw [Array.mapM_eq_mapM_toList]
  have := gives_listMapM (P := P) (f := f) (g := g) (l := xs.toList) (fun x hx => h x (by simpa using hx)) w
  simp only [Sem.run_map,this,Result.andThen_ok]
  congr 1
  apply Array.toList_inj.1
  simp
def allSized (P : Program) : List Field → Bool
  | [] => true
  | f :: fs => (sizeT P f.type).isSome && allSized P fs
theorem allSized_spec {P : Program} : ∀ {fs : List Field}, allSized P fs = true → ∀ f ∈ fs, (sizeT P f.type).isSome = true
  | [],_,f,hf => by simp at hf
  | g :: fs, h, f, hf => by
    simp only [allSized,Bool.and_eq_true] at h
    rcases List.mem_cons.1 hf with rfl | hf
    · exact h.1
    · exact allSized_spec h.2 f hf
def buildS (P : Program) (t : TypeId) (parts : List (Nat × SV)) : Tree SV :=
  match zeroT P t,P.underlying t with
  | some z, some (.struct fs) =>
    if allSized P fs.toList then
      match fillS (fun i => (fs[i]?).map fun (f : Field) => (f.offset,(sizeT P f.type).getD 0)) z parts with
      | some cs => .leaf (.w (.agg cs))
      | none => .fail 31
    else .fail 32
  | some z, some (.array _ e) =>
    match sizeT P e with
    | some sz => match fillS (fun i => some (i * sz, sz)) z parts with
      | some cs => .leaf (.w (.agg cs))
      | none => .fail 33
    | none => .fail 34
  | _,_ => .fail 35
theorem buildS_gives {P : Program} {t : TypeId} {ps : List (Nat × SV)} {qs : Array (Nat × Value)} {ρ : Rho} (hp : All2 (fun p q => p.1 = q.1 ∧ p.2.is ρ q.2) ps qs.toList) {K : SV → Prop}
    (h : (buildS P t ps).holds K) : ∃ s v,K s ∧ s.is ρ v ∧ Gives P (Instr.build t qs) v := by
  unfold buildS at h
  split at h
  · rename_i z fs hz hu
    obtain ⟨zv,hzg,hzi⟩ := gives_zero hz ρ
    split at h
    · rename_i hall
      split at h
      · rename_i cs hf
        obtain ⟨us,h1,h2⟩ := fillS_is hp hzi hf
        refine ⟨_, .agg us,h,⟨us,rfl,h2⟩,fun w => ?_⟩
        have hm : Gives P (fs.mapM fun (f : Field) => do pure (f.offset, ← Go.sizeOf f.type)) (fs.map fun (f : Field) => (f.offset, (sizeT P f.type).getD 0)) := by
          refine gives_arrMapM fun f hf w => ?_
          obtain ⟨n,hn⟩ := Option.isSome_iff_exists.1 (allSized_spec hall f (by simpa using hf))
          simp [gives_sizeOf hn w,hn]
        have hpl : ((fs.map fun (f : Field) => (f.offset, (sizeT P f.type).getD 0))[·]?) = (fun (i : Nat) => (fs[i]?).map fun (f : Field) => (f.offset, (sizeT P f.type).getD 0)) := by
          funext i; simp
        simp only [Instr.build,Sem.run_bind,hzg w,Result.andThen_ok,gives_underlying hu w,hm w,hpl,h1]
        rfl
      · exact h.elim
    · exact h.elim
  · rename_i z n e hz hu
    obtain ⟨zv,hzg,hzi⟩ := gives_zero hz ρ
    split at h
    · rename_i sz hsz
      split at h
      · rename_i cs hf
        obtain ⟨us,h1,h2⟩ := fillS_is hp hzi hf
        refine ⟨_, .agg us,h,⟨us,rfl,h2⟩,fun w => ?_⟩
        simp only [Instr.build,Sem.run_bind,hzg w,Result.andThen_ok,gives_underlying hu w,gives_sizeOf hsz w,h1]
        rfl
      · exact h.elim
    · exact h.elim
  · exact h.elim
def asSB : SV → Option SB
  | .w (.one (.b x)) => some x
  | _ => none
theorem asSB_is {ρ : Rho} {s : SV} {v : Value} {x : SB} (h : asSB s = some x) (hs : s.is ρ v) : x.is ρ v := by
  unfold asSB at h
  split at h
  · cases h; exact hs
  · cases h
def asSBs : List SV → Option (List SB)
  | [] => some []
  | s :: l => match asSB s, asSBs l with
    | some x,some xs => some (x :: xs)
    | _,_ => none
theorem asSBs_is {ρ : Rho} : ∀ {l : List SV} {vs : List Value} {xs : List SB}, asSBs l = some xs → All2 (SV.is ρ) l vs → All2 (SB.is ρ) xs vs
  | [], [],xs,h,_ => by cases h; trivial
  | s :: l, v :: vs, xs, h, hl => by
    simp only [asSBs] at h
    split at h
    · rename_i x xs' h1 h2
      cases h
      exact ⟨asSB_is h1 hl.1,asSBs_is h2 hl.2⟩
    · cases h
  | [],_ :: _,_,_,h => h.elim
  | _ :: _, [],_,_,h => h.elim
theorem addr_add (b o n : Nat) : (⟨b, o, none⟩ : Addr).add n = ⟨b, o + n, none⟩ := by
  unfold Addr.add; split <;> simp_all
def fieldAddrS (P : Program) (s : TypeId) (x : SV) (f : Nat) : Tree SV :=
  match fieldT P s f,x with
  | some (off, ty), .w (.one (.b (.ptr n o))) =>
    match sizeT P ty with
    | some (_ + 1) => .leaf (.w (.one (.b (.ptr n (mkAt o (.lit 0) 0 off)))))
    | _ => .fail 40
  | _,_ => .fail 41
theorem fieldAddrS_gives {P : Program} {s : TypeId} {x : SV} {f : Nat} {ρ : Rho} {v : Value} (hx : x.is ρ v) {K : SV → Prop} (h : (fieldAddrS P s x f).holds K) :
    ∃ r u,K r ∧ r.is ρ u ∧ Gives P (Instr.fieldAt s v f) u := by
  unfold fieldAddrS at h
  split at h
  · rename_i off ty n o hf
    split at h
    · rename_i m hm
      obtain ⟨b,hb,rfl⟩ := hx
      refine ⟨_, .pointer (some ⟨b,o.val.toNat + off,none⟩),h,⟨b,hb,by rw [mkAt_val]; simp⟩,fun w => ?_⟩
      unfold fieldT at hf
      split at hf
      · rename_i fs hu
        obtain ⟨fd,hfd,he⟩ := Option.map_eq_some_iff.1 hf
        cases he
        simp [Instr.fieldAt,gives_underlying hu w,hfd,Instr.sureAddr,fieldPlace,gives_sizeOf hm w,addr_add]
      · cases hf
    · exact h.elim
  · exact h.elim
def indexAddrS (P : Program) (t : TypeId) (x i : SV) : Tree SV :=
  match P.underlying t,asI i with
  | some (.slice e), some (_, j) =>
    match sizeT P e,x with
    | some sz, .w (.one (.b (.sl n o len _))) =>
      mkBr (mkCmp .geq j (.lit 0)) (mkBr (mkCmp .lss j (mkNat len)) (.leaf (.w (.one (.b (.ptr n (mkAt o j sz 0)))))) (.fail 42)) (.fail 42)
    | some sz, .w (.one (.b (.isl n o len))) =>
      mkBr (mkCmp .geq j (.lit 0)) (mkBr (mkCmp .lss j (mkNat len)) (.leaf (.w (.one (.b (.ptr n (mkAt o j sz 0)))))) (.fail 42)) (.fail 42)
    | _,_ => .fail 43
  | some (.array m e), some (_, j) =>
    match sizeT P e,x with
    | some sz, .w (.one (.b (.ptr n o))) =>
      mkBr (mkCmp .geq j (.lit 0)) (mkBr (mkCmp .lss j (.lit m)) (.leaf (.w (.one (.b (.ptr n (mkAt o j sz 0)))))) (.fail 42)) (.fail 42)
    | _,_ => .fail 43
  | _,_ => .fail 44
theorem indexAddrS_gives {P : Program} {t : TypeId} {x i : SV} {ρ : Rho} {v u : Value} (hx : x.is ρ v) (hi : i.is ρ u) {K : SV → Prop} (h : (indexAddrS P t x i).holds K) :
    ∃ r q,K r ∧ r.is ρ q ∧ Gives P (Instr.indexAt t v u) q := by
  unfold indexAddrS at h
  split at h
  · rename_i e k j hu hj
    obtain rfl := asI_is hj hi
    split at h
    · rename_i sz n o len cap hsz
      obtain ⟨b,hb,rfl⟩ := hx
      obtain ⟨h1,h2⟩ := mkBr_holds h
      simp only [mkCmp_val,cmpVal,IE.val] at h1 h2
      by_cases hj0 : j.val ≥ 0
      · obtain ⟨h3, h4⟩ := mkBr_holds (h1 (by simpa using hj0))
        simp only [mkCmp_val,cmpVal,mkNat_val] at h3 h4
        by_cases hj1 : j.val < (len.val.toNat : Int)
        · refine ⟨_, .pointer (some ⟨b, o.val.toNat + j.val.toNat * sz, none⟩), h3 (by simpa using hj1), ⟨b, hb, by rw [mkAt_val]; simp⟩, fun w => ?_⟩
          have hc : 0 ≤ j.val ∧ j.val < (len.val.toNat : Int) := by omega
          simp [Instr.indexAt,asIntOf,gives_underlying hu w,hc,gives_sizeOf hsz w,addr_add]
          intro hh; omega
        · exact (h4 (decide_eq_false hj1)).elim
      · exact (h2 (by simpa using hj0)).elim
    · rename_i sz n o len hsz
      obtain ⟨a,c,rfl,ha⟩ := hx
      obtain ⟨h1,h2⟩ := mkBr_holds h
      simp only [mkCmp_val,cmpVal,IE.val] at h1 h2
      by_cases hj0 : j.val ≥ 0
      · obtain ⟨h3, h4⟩ := mkBr_holds (h1 (by simpa using hj0))
        simp only [mkCmp_val,cmpVal,mkNat_val] at h3 h4
        by_cases hj1 : j.val < (len.val.toNat : Int)
        · obtain ⟨b, hb, rfl⟩ := ha.resolve_left (by omega)
          refine ⟨_, .pointer (some ⟨b,o.val.toNat + j.val.toNat * sz,none⟩),h3 (by simpa using hj1),⟨b,hb,by rw [mkAt_val]; simp⟩,fun w => ?_⟩
          have hc : 0 ≤ j.val ∧ j.val < (len.val.toNat : Int) := by omega
          simp [Instr.indexAt,asIntOf,gives_underlying hu w,hc,gives_sizeOf hsz w,addr_add]
          intro hh; omega
        · exact (h4 (decide_eq_false hj1)).elim
      · exact (h2 (by simpa using hj0)).elim
    · exact h.elim
  · rename_i m e k j hu hj
    obtain rfl := asI_is hj hi
    split at h
    · rename_i sz n o hsz
      obtain ⟨b,hb,rfl⟩ := hx
      obtain ⟨h1,h2⟩ := mkBr_holds h
      simp only [mkCmp_val,cmpVal,IE.val] at h1 h2
      by_cases hj0 : j.val ≥ 0
      · obtain ⟨h3, h4⟩ := mkBr_holds (h1 (by simpa using hj0))
        simp only [mkCmp_val,cmpVal,IE.val] at h3 h4
        by_cases hj1 : j.val < (m : Int)
        · refine ⟨_, .pointer (some ⟨b, o.val.toNat + j.val.toNat * sz, none⟩), h3 (decide_eq_true hj1), ⟨b, hb, by rw [mkAt_val]; simp⟩, fun w => ?_⟩
          have hc : 0 ≤ j.val ∧ j.val < (m : Int) := by omega
          simp [Instr.indexAt,asIntOf,gives_underlying hu w,hc,gives_sizeOf hsz w,addr_add,Instr.sureAddr]
        · exact (h4 (decide_eq_false hj1)).elim
      · exact (h2 (by simpa using hj0)).elim
    · exact h.elim
  · exact h.elim
def indexS (P : Program) (t : TypeId) (x i : SV) : Tree SV :=
  match P.underlying t,asI i,asAg x with
  | some (.array m e), some (_, .lit j), some cs =>
    match sizeT P e with
    | some sz => if 0 ≤ j ∧ j < (m : Int) then partS P e cs (j.toNat * sz) else .fail 45
    | none => .fail 46
  | _,_,_ => .fail 47
theorem indexS_gives {P : Program} {t : TypeId} {x i : SV} {ρ : Rho} {v u : Value} (hx : x.is ρ v) (hi : i.is ρ u) {K : SV → Prop} (h : (indexS P t x i).holds K) :
    ∃ r q,K r ∧ r.is ρ q ∧ Gives P (Instr.index t v u) q := by
  unfold indexS at h
  split at h
  · rename_i m e k j cs hu hj hc
    obtain rfl := asI_is hj hi
    obtain ⟨vs,rfl,hl⟩ := asAg_is hc hx
    split at h
    · rename_i sz hsz
      split at h
      · rename_i hb
        obtain ⟨s,q,h1,h2,h3⟩ := partS_gives hl h
        refine ⟨s,q,h1,h2,fun w => ?_⟩
        simp [Instr.index,asIntOf,gives_underlying hu w,IE.val,hb,gives_sizeOf hsz w,h3 w]
      · exact h.elim
    · exact h.elim
  · exact h.elim
def sliceS (P : Program) (t : TypeId) (x : SV) (lo hi : Option SV) : Tree SV :=
  match P.underlying t,x with
  | some (.slice e), .w (.one (.b (.sl n o len cap))) =>
    match sizeT P e,(match hi with | none => some (mkNat len) | some h => (asI h).map (·.2)),(match lo with | none => some (.lit 0) | some l => (asI l).map (·.2)) with
    | some sz, some h, some l =>
      mkBr (mkCmp .geq h (.lit 0)) (mkBr (mkCmp .leq h (mkNat cap)) (mkBr (mkCmp .geq l (.lit 0)) (mkBr (mkCmp .leq l h)
        (mkBr (mkCmp .eql (mkNat cap) l) (.leaf (.w (.one (.b (.sl n o (mkDif h l) (mkDif cap l)))))) (.leaf (.w (.one (.b (.sl n (mkAt o l sz 0) (mkDif h l) (mkDif cap l)))))))
        (.fail 50)) (.fail 50)) (.fail 50)) (.fail 50)
    | _,_,_ => .fail 51
  | some (.slice e), .w (.one (.b .nils)) =>
    match lo,hi,sizeT P e with
    | none,none,some _ => .leaf x
    | _,_,_ => .fail 52
  | _,_ => .fail 53
end Go.Proofs.Ytafemlljemhkhaa.Sx
namespace Go.Proofs.Ytafemlljemhkhaa.Sx
open Go
set_option linter.unusedSectionVars false
set_option linter.unusedVariables false
set_option linter.unusedSimpArgs false
variable [Env]
theorem run_sliceBound {P : Program} {k : IntKind} {i : Int} {y : Nat} {code : BoundsCode} (h : 0 ≤ i ∧ i ≤ (y : Int)) : Gives P (Instr.sliceBound (.int k i) y code) i.toNat := by
  intro w; simp [Instr.sliceBound,asIntOf,h.1,h.2]
def OptIs (ρ : Rho) : Option SV → Option Value → Prop
  | none,none => True
  | some s,some u => s.is ρ u
  | _,_ => False
theorem optI_is {ρ : Rho} {x : Option SV} {v : Option Value} {d e : IE} (h : (match x with | none => some d | some s => (asI s).map (·.2)) = some e)
    (hx : OptIs ρ x v) :
    (v = none ∧ e = d) ∨ (∃ k,v = some (.int k e.val)) := by
  cases x with
  | none => cases v with
    | none => cases h; exact .inl ⟨rfl,rfl⟩
    | some u => exact hx.elim
  | some s => cases v with
    | none => exact hx.elim
    | some u =>
      obtain ⟨⟨k,e'⟩,h1,h2⟩ := Option.map_eq_some_iff.1 h
      cases h2
      exact .inr ⟨k,by rw [asI_is h1 hx]⟩
theorem sliceS_gives {P : Program} {t : TypeId} {x : SV} {lo hi : Option SV} {ρ : Rho} {v : Value} {l' h' : Option Value} (hx : x.is ρ v)
    (hlo : OptIs ρ lo l') (hhi : OptIs ρ hi h') {K : SV → Prop} (h : (sliceS P t x lo hi).holds K) :
    ∃ r q,K r ∧ r.is ρ q ∧ Gives P (Instr.sliceAt t v l' h' none) q := by
  unfold sliceS at h
  split at h
  · rename_i e n o len cap hu
    obtain ⟨b,hb,rfl⟩ := hx
    split at h
    · rename_i sz hE lE hsz hhE hlE
      obtain ⟨h1,h2⟩ := mkBr_holds h
      simp only [mkCmp_val,cmpVal,IE.val,mkNat_val] at h1 h2
      by_cases c1 : hE.val ≥ 0
      · obtain ⟨h3, h4⟩ := mkBr_holds (h1 (decide_eq_true c1))
        simp only [mkCmp_val,cmpVal,IE.val,mkNat_val] at h3 h4
        by_cases c2 : hE.val ≤ (cap.val.toNat : Int)
        · obtain ⟨h5, h6⟩ := mkBr_holds (h3 (decide_eq_true c2))
          simp only [mkCmp_val,cmpVal,IE.val,mkNat_val] at h5 h6
          by_cases c3 : lE.val ≥ 0
          · obtain ⟨h7, h8⟩ := mkBr_holds (h5 (decide_eq_true c3))
            simp only [mkCmp_val,cmpVal,IE.val,mkNat_val] at h7 h8
            by_cases c4 : lE.val ≤ hE.val
            · obtain ⟨h9, h10⟩ := mkBr_holds (h7 (decide_eq_true c4))
              simp only [mkCmp_val,cmpVal,IE.val,mkNat_val] at h9 h10
              have hh : Gives P (match h' with | some v => Instr.sliceBound v cap.val.toNat .sliceAcap | none => pure len.val.toNat) hE.val.toNat := by
                rcases optI_is hhE hhi with ⟨rfl,e1⟩ | ⟨k,rfl⟩
                · intro w; rw [e1,mkNat_val]; rfl
                · exact run_sliceBound ⟨c1,c2⟩
              have hl : Gives P (match l' with | some v => Instr.sliceBound v hE.val.toNat .sliceB | none => pure 0) lE.val.toNat := by
                rcases optI_is hlE hlo with ⟨rfl,e1⟩ | ⟨k,rfl⟩
                · intro w; rw [e1]; rfl
                · exact run_sliceBound ⟨c3,by omega⟩
              have hb2 : Gives P (Instr.sliceBounds true len.val.toNat cap.val.toNat l' h' none) (lE.val.toNat, hE.val.toNat, cap.val.toNat) := by
                intro w
                unfold Instr.sliceBounds
                cases h' with
                | none =>
                  have e1 := hh w
                  simp only [Sem.run_pure] at e1
                  have e2 : len.val.toNat = hE.val.toNat := (Result.ok.inj e1).1
                  cases l' with
                  | none => have e3 := hl w; simp only [Sem.run_pure] at e3; have e4 : 0 = lE.val.toNat := (Result.ok.inj e3).1
                            simp [e2, ← e4]
                  | some u => have e3 := hl w; simp only at e3; simp [e2,e3]
                | some u0 =>
                  have e1 := hh w
                  simp only at e1
                  cases l' with
                  | none => have e3 := hl w; simp only [Sem.run_pure] at e3; have e4 : 0 = lE.val.toNat := (Result.ok.inj e3).1
                            simp [e1, ← e4]
                  | some u => have e3 := hl w; simp only at e3; simp [e1,e3]
              by_cases c5 : (cap.val.toNat : Int) = lE.val
              · have c6 : cap.val.toNat = lE.val.toNat := by omega
                refine ⟨_, .slice (some ⟨b,o.val.toNat,none⟩) (hE.val.toNat - lE.val.toNat) (cap.val.toNat - lE.val.toNat),h9 (by simpa using c5),⟨b,hb,by rw [mkDif_val,mkDif_val]⟩,fun w => ?_⟩
                simp only [Instr.sliceAt,Instr.slice,Sem.run_bind,gives_underlying hu w,Result.andThen_ok,hb2 w,gives_sizeOf hsz w,Sem.run_pure,if_pos c6]
              · have c6 : ¬ cap.val.toNat = lE.val.toNat := by omega
                refine ⟨_, .slice (some ⟨b,o.val.toNat + lE.val.toNat * sz,none⟩) (hE.val.toNat - lE.val.toNat) (cap.val.toNat - lE.val.toNat),h10 (by simpa using c5),⟨b,hb,by rw [mkDif_val,mkDif_val,mkAt_val]; simp⟩,fun w => ?_⟩
                simp [Instr.sliceAt,Instr.slice,gives_underlying hu w,hb2 w,gives_sizeOf hsz w,c6,addr_add]
            · exact (h8 (decide_eq_false c4)).elim
          · exact (h6 (decide_eq_false c3)).elim
        · exact (h4 (decide_eq_false c2)).elim
      · exact (h2 (decide_eq_false c1)).elim
    · exact h.elim
  · rename_i e hu
    cases hx
    split at h
    · cases l' with
      | some u => exact hlo.elim
      | none => cases h' with
        | some u => exact hhi.elim
        | none =>
          rename_i hsz
          refine ⟨_,_,h,rfl,fun w => ?_⟩
          simp [Instr.sliceAt,Instr.slice,gives_underlying hu w,Instr.sliceBounds,gives_sizeOf hsz w]
    · exact h.elim
  · exact h.elim
end Go.Proofs.Ytafemlljemhkhaa.Sx
namespace Go.Proofs.Ytafemlljemhkhaa.Sx
open Go
set_option linter.unusedSectionVars false
set_option linter.unusedVariables false
set_option linter.unusedSimpArgs false
variable [Env]
def unS (op : UnOp) (x : SV) : Tree SV :=
  match op,x with
  | .not, .w (.one (.b (.bool b))) => .leaf (.w (.one (.b (.bool (mkNot b)))))
  | .neg, .w (.one (.b (.int k e))) => .leaf (.w (.one (.b (.int k (mkOp .sub k (.lit 0) e)))))
  | .xor, .w (.one (.b (.int k e))) => .leaf (.w (.one (.b (.int k (mkOp .xor k (.lit (if k.signed then -1 else k.max)) e)))))
  | _,_ => .fail 60
theorem unS_gives {P : Program} {op : UnOp} {x : SV} {ρ : Rho} {v : Value} (hx : x.is ρ v) {K : SV → Prop} (h : (unS op x).holds K) :
    ∃ r q,K r ∧ r.is ρ q ∧ Gives P (Op.unary op v) q := by
  unfold unS at h
  split at h
  · cases hx
    exact ⟨_,_,h,(by show _ = _; rw [mkNot_val]),fun w => by simp [Op.unary]⟩
  · cases hx
    exact ⟨_,_,h,(by show _ = _; rw [mkOp_val]),fun w => by simp [Op.unary,Op.intArith,binVal,IE.val]⟩
  · cases hx
    exact ⟨_,_,h,(by show _ = _; rw [mkOp_val]),fun w => by simp [Op.unary,Op.intBits,binVal,IE.val]⟩
  · exact h.elim
def evArgs (l : List SV) (xs : Array Operand) : List SV := xs.toList.map (ev l)
theorem evArgs_is {ρ : Rho} {but : List Nat} {l : List SV} {a : Act} (hT : TmpsOk ρ but l a) (xs : Array Operand) (hx : ∀ x ∈ xs, ∀ t ∈ opnds x, t ∉ but) :
    All2 (SV.is ρ) (evArgs l xs) (xs.map a.eval).toList := by
  unfold evArgs
  rw [Array.toList_map]
  exact All2.map _ _ _ fun x hm => ev_is hT x (hx x (by simpa using hm))
def foldMn (k : IntKind) (e : IE) : List SV → Option IE
  | [] => some e
  | s :: l => match asI s with
    | some (k',e') => if k = k' then foldMn k (mkMn e e') l else none
    | none => none
def foldMx (k : IntKind) (e : IE) : List SV → Option IE
  | [] => some e
  | s :: l => match asI s with
    | some (k',e') => if k = k' then foldMx k (mkMx e e') l else none
    | none => none
theorem foldMn_gives {P : Program} {ρ : Rho} {k : IntKind} : ∀ {l : List SV} {vs : List Value} {e r : IE}, All2 (SV.is ρ) l vs → foldMn k e l = some r →
    Gives P (vs.foldlM Builtin.min2 (.int k e.val)) (.int k r.val)
  | [], [],e,r,_,h => by cases h; exact fun w => rfl
  | s :: l, v :: vs, e, r, hl, h => by
    intro w
    simp only [foldMn] at h
    split at h
    · rename_i k' e' h1
      split at h
      · rename_i hk; subst hk
        obtain rfl := asI_is h1 hl.1
        have := foldMn_gives (P := P) hl.2 h w
        rw [mkMn_val] at this
        simp only [List.foldlM_cons,Builtin.min2,Sem.run_bind,Sem.run_pure,Result.andThen_ok]
        exact this
      · cases h
    · cases h
  | [],_ :: _,_,_,h,_ => h.elim
  | _ :: _, [],_,_,h,_ => h.elim
theorem foldMx_gives {P : Program} {ρ : Rho} {k : IntKind} : ∀ {l : List SV} {vs : List Value} {e r : IE}, All2 (SV.is ρ) l vs → foldMx k e l = some r →
    Gives P (vs.foldlM Builtin.max2 (.int k e.val)) (.int k r.val)
  | [], [],e,r,_,h => by cases h; exact fun w => rfl
  | s :: l, v :: vs, e, r, hl, h => by
    intro w
    simp only [foldMx] at h
    split at h
    · rename_i k' e' h1
      split at h
      · rename_i hk; subst hk
        obtain rfl := asI_is h1 hl.1
        have := foldMx_gives (P := P) hl.2 h w
        rw [mkMx_val] at this
        simp only [List.foldlM_cons,Builtin.max2,Sem.run_bind,Sem.run_pure,Result.andThen_ok]
        exact this
      · cases h
    · cases h
  | [],_ :: _,_,_,h,_ => h.elim
  | _ :: _, [],_,_,h,_ => h.elim
def lenS (P : Program) (t : TypeId) (x : SV) : Tree SV :=
  match P.underlying t,x with
  | some (.slice _), .w (.one (.b (.sl _ _ len _))) => .leaf (.w (.one (.b (.int .i64 (mkNat len)))))
  | some (.slice _), .w (.one (.b (.isl _ _ len))) => .leaf (.w (.one (.b (.int .i64 (mkNat len)))))
  | some (.slice _), .w (.one (.b .nils)) => .leaf (.w (.one (.b (.int .i64 (.lit 0)))))
  | some (.array n _),_ => .leaf (.w (.one (.b (.int .i64 (.lit n)))))
  | _,_ => .fail 61
def pureBuiltin (P : Program) (b : Builtin) (ts : Array TypeId) (l : List SV) : Option (Tree SV) :=
  match b with
  | .len => some (match l, ts.toList with
    | x :: _,t :: _ => lenS P t x
    | _,_ => .fail 62)
  | .min => some (match l with
    | x :: rest => match asI x with
      | some (k, e) => match foldMn k e rest with
        | some r => .leaf (.w (.one (.b (.int k r))))
        | none => .fail 63
      | none => .fail 63
    | [] => .fail 63)
  | .max => some (match l with
    | x :: rest => match asI x with
      | some (k, e) => match foldMx k e rest with
        | some r => .leaf (.w (.one (.b (.int k r))))
        | none => .fail 63
      | none => .fail 63
    | [] => .fail 63)
  | _ => none
def pureOp0 (P : Program) (op : Op) (l : List SV) : Option (Tree SV) :=
  match op with
  | .move x => some (.leaf (ev l x))
  | .assign x => some (.leaf (ev l x))
  | .pick c a b => some (match asBo (ev l c) with
    | some e => mkBr e (.leaf (ev l a)) (.leaf (ev l b))
    | none => .fail 70)
  | .build t parts => some (buildS P t (parts.toList.map fun p => (p.1,ev l p.2)))
  | .field t x f => some (match fieldT P t f, asAg (ev l x) with
    | some (off,ty),some cs => partS P ty cs off
    | _,_ => .fail 71)
  | .extract x i => some (match ev l x with
    | .tup ws => match ws[i]? with
      | some s => .leaf (.w s)
      | none => .fail 72
    | _ => .fail 72)
  | .nilCheck x => some (match ev l x with
    | .w (.one (.b (.ptr n o))) => .leaf (.w (.one (.b (.ptr n o))))
    | .w (.one (.fn (.func f) a b)) => .leaf (.w (.one (.fn (.func f) a b)))
    | _ => .fail 73)
  | .binOp o t x y _ => some (binS P o t (ev l x) (ev l y))
  | .unOp o _ x => some (unS o (ev l x))
  | .convert s d x => some (match P.underlying s, P.underlying d, asI (ev l x) with
    | some _,some (.int k),some (_,e) => .leaf (.w (.one (.b (.int k (mkConv k e)))))
    | _,_,_ => .fail 74)
  | .makeFunc fn first cap => some (match asSBs (evArgs l first), asSBs (evArgs l cap) with
    | some a,some b => .leaf (.w (.one (.fn fn a b)))
    | _,_ => .fail 75)
  | .slice t x lo hi none => some (sliceS P t (ev l x) (lo.map (ev l)) (hi.map (ev l)))
  | .fieldAddr s x f => some (fieldAddrS P s (ev l x) f)
  | .indexAddr t x i => some (indexAddrS P t (ev l x) (ev l i))
  | .index t x i => some (indexS P t (ev l x) (ev l i))
  | .call { callee := .builtin b,args,argTypes } => pureBuiltin P b argTypes (evArgs l args)
  | _ => none
def refV : SV → Bool
  | .w (.one (.b (.ref _))) => true
  | .w (.one (.b (.gptr _ _))) => true
  | _ => false
def growOp (op : Op) (l : List SV) : Bool :=
  match op with
  | .slice _ x _ _ _ => refV (ev l x)
  | .indexAddr _ x _ => refV (ev l x)
  | .fieldAddr _ x _ => refV (ev l x)
  | .nilCheck x => refV (ev l x)
  | .binOp _ _ x _ _ => refV (ev l x)
  | .call { callee := .builtin .len, args, .. } => (match evArgs l args with
    | x :: _ => refV x
    | _ => false)
  | _ => false
def pureOp (P : Program) (op : Op) (l : List SV) : Option (Tree SV) := if growOp op l then none else pureOp0 P op l
theorem run_v {P : Program} {m : Sem Value} {v : Value} (h : Gives P m v) : Gives P (do pure (Next.value (← m))) (.value v) := by
  intro w; simp [h w]
theorem pureBuiltin_gives {P : Program} {b : Builtin} {ts : Array TypeId} {l : List SV} {t : Tree SV} (h : pureBuiltin P b ts l = some t) {ρ : Rho} {vs : Array Value} (hl : All2 (SV.is ρ) l vs.toList)
    {K : SV → Prop} (hK : t.holds K) (ty : TypeId) (consts : Array Bool) : ∃ s v,K s ∧ s.is ρ v ∧ Gives P (Go.builtin b ts ty consts vs) (.value v) := by
  unfold pureBuiltin at h
  split at h
  · cases h
    split at hK
    · rename_i x rest t0 ts' ht
      obtain ⟨v,hv,hxv⟩ := hl.get 0 x (by simp)
      have hv' : vs[0]? = some v := by simpa using hv
      have ht' : ts[0]? = some t0 := by rw [← Array.getElem?_toList,ht]; rfl
      unfold lenS at hK
      split at hK
      · rename_i e n o len cap hu
        obtain ⟨b',_,rfl⟩ := hxv
        refine ⟨_,goInt len.val.toNat,hK, ?_, ?_⟩
        · show _ = _; rw [mkNat_val]; rfl
        · exact run_v fun w => by simp [Builtin.len_,ht',hv',gives_underlying hu w]
      · rename_i e n o len hu
        obtain ⟨a,c,rfl,_⟩ := hxv
        refine ⟨_,goInt len.val.toNat,hK, ?_, ?_⟩
        · show _ = _; rw [mkNat_val]; rfl
        · exact run_v fun w => by simp [Builtin.len_,ht',hv',gives_underlying hu w]
      · rename_i e hu
        cases hxv
        exact ⟨_,goInt 0,hK,rfl,run_v fun w => by simp [Builtin.len_,ht',hv',gives_underlying hu w]⟩
      · rename_i _ m _ hu
        exact ⟨_,goInt m,hK,rfl,run_v fun w => by simp [Builtin.len_,ht',hv',gives_underlying hu w]⟩
      · exact hK.elim
    · exact hK.elim
  · cases h
    split at hK
    · rename_i x rest
      split at hK
      · rename_i k e h1
        split at hK
        · rename_i r h2
          cases hvs : vs.toList with
          | nil => rw [hvs] at hl; exact hl.elim
          | cons v us =>
            rw [hvs] at hl
            obtain rfl := asI_is h1 hl.1
            refine ⟨_,_,hK,rfl,run_v fun w => ?_⟩
            simp only [Builtin.min_,hvs]
            exact foldMn_gives hl.2 h2 w
        · exact hK.elim
      · exact hK.elim
    · exact hK.elim
  · cases h
    split at hK
    · rename_i x rest
      split at hK
      · rename_i k e h1
        split at hK
        · rename_i r h2
          cases hvs : vs.toList with
          | nil => rw [hvs] at hl; exact hl.elim
          | cons v us =>
            rw [hvs] at hl
            obtain rfl := asI_is h1 hl.1
            refine ⟨_,_,hK,rfl,run_v fun w => ?_⟩
            simp only [Builtin.max_,hvs]
            exact foldMx_gives hl.2 h2 w
        · exact hK.elim
      · exact hK.elim
    · exact hK.elim
  · cases h
theorem optOp_is {ρ : Rho} {but : List Nat} {l : List SV} {a : Act} (hT : TmpsOk ρ but l a) (x : Option Operand) (hx : ∀ y, x = some y → ∀ t ∈ opnds y, t ∉ but) : OptIs ρ (x.map (ev l)) (x.map a.eval) := by
  cases x with
  | none => trivial
  | some y => exact ev_is hT y (hx y rfl)
theorem pureOp0_gives {P : Program} {o : Oper} {l : List SV} {t : Tree SV} (h : pureOp0 P o.op l = some t) {ρ : Rho} {but : List Nat} {a : Act} (hT : TmpsOk ρ but l a)
    (hb : ∀ x ∈ o.op.operands, ∀ t ∈ opnds x,t ∉ but) {K : SV → Prop} (hK : t.holds K) : ∃ s v,K s ∧ s.is ρ v ∧ Gives P (execOp a.eval o) (.value v) := by
  obtain ⟨dst,op,type,pos,after,guard⟩ := o
  simp only at h hb
  unfold pureOp0 at h
  split at h
  case h_1 x => cases h; exact ⟨_,_,hK,ev_is hT x (hb x (by simp [Op.operands])),fun w => rfl⟩
  case h_2 x => cases h; exact ⟨_,_,hK,ev_is hT x (hb x (by simp [Op.operands])),fun w => rfl⟩
  case h_3 c x y =>
    cases h
    split at hK
    · rename_i e he
      have hc := asBo_is he (ev_is hT c (hb c (by simp [Op.operands])))
      obtain ⟨h1,h2⟩ := mkBr_holds hK
      cases hv : e.val with
      | true => exact ⟨_,_,h1 hv,ev_is hT x (hb x (by simp [Op.operands])),fun w => by simp [execOp,hc,asBool,hv]⟩
      | false => exact ⟨_,_,h2 hv,ev_is hT y (hb y (by simp [Op.operands])),fun w => by simp [execOp,hc,asBool,hv]⟩
    · exact hK.elim
  case h_4 t parts =>
    cases h
    have hp : All2 (fun (p : Nat × SV) (q : Nat × Value) => p.1 = q.1 ∧ p.2.is ρ q.2) (parts.toList.map fun p => (p.1, ev l p.2)) (parts.map fun p => (p.1, a.eval p.2)).toList := by
      rw [Array.toList_map]
      refine All2.map _ _ _ fun p hm => ⟨rfl,ev_is hT p.2 (hb p.2 ?_)⟩
      simp only [Op.operands]
      simp
      exact ⟨p.1,by simpa using hm⟩
    obtain ⟨s,v,h1,h2,h3⟩ := buildS_gives hp hK
    exact ⟨s,v,h1,h2,run_v h3⟩
  case h_5 t x f =>
    cases h
    split at hK
    · rename_i off ty cs hf hcs
      obtain ⟨vs,hv,hl⟩ := asAg_is hcs (ev_is hT x (hb x (by simp [Op.operands])))
      obtain ⟨s,v,h1,h2,h3⟩ := partS_gives hl hK
      refine ⟨s,v,h1,h2,run_v fun w => ?_⟩
      unfold fieldT at hf
      split at hf
      · rename_i fs hu
        obtain ⟨fd,hfd,he⟩ := Option.map_eq_some_iff.1 hf
        cases he
        simp [Instr.field,gives_underlying hu w,hfd,hv,asAgg,h3 w]
      · cases hf
    · exact hK.elim
  case h_6 x i =>
    cases h
    split at hK
    · rename_i ws hws
      split at hK
      · rename_i s hs
        have := ev_is hT x (hb x (by simp [Op.operands]))
        rw [hws] at this
        obtain ⟨vs,hv,hl⟩ := this
        obtain ⟨v,hv1,hv2⟩ := hl.get i s hs
        have hv' : vs[i]? = some v := by simpa using hv1
        exact ⟨_,v,hK,hv2,run_v fun w => by simp [Instr.extract,hv,hv']⟩
      · exact hK.elim
    · exact hK.elim
  case h_7 x =>
    cases h
    split at hK
    · rename_i n o hx
      have := ev_is hT x (hb x (by simp [Op.operands]))
      rw [hx] at this
      obtain ⟨b,hb1,hb2⟩ := this
      exact ⟨_,_,hK,⟨b,hb1,rfl⟩,fun w => by simp [execOp,hb2]⟩
    · rename_i f p q hx
      have := ev_is hT x (hb x (by simp [Op.operands]))
      rw [hx] at this
      obtain ⟨vs,us,h1,h2,h3⟩ := this
      exact ⟨_,_,hK,⟨vs,us,rfl,h2,h3⟩,fun w => by simp [execOp,h1]⟩
    · exact hK.elim
  case h_8 op t x y yt =>
    cases h
    obtain ⟨s,v,h1,h2,h3⟩ := binS_gives (ev_is hT x (hb x (by simp [Op.operands]))) (ev_is hT y (hb y (by simp [Op.operands]))) hK x y
    exact ⟨s,v,h1,h2,run_v h3⟩
  case h_9 op t x =>
    cases h
    obtain ⟨s,v,h1,h2,h3⟩ := unS_gives (P := P) (ev_is hT x (hb x (by simp [Op.operands]))) hK
    exact ⟨s,v,h1,h2,run_v h3⟩
  case h_10 s d x =>
    cases h
    split at hK
    · rename_i sd k k' e h1 h2 h3
      have := asI_is h3 (ev_is hT x (hb x (by simp [Op.operands])))
      refine ⟨_, .int k (k.wrap e.val),hK,by (show _ = _; rw [mkConv_val]),run_v fun w => ?_⟩
      rw [this]
      simp only [Go.convert,Sem.run_bind,gives_underlying h1 w,gives_underlying h2 w,Result.andThen_ok,Conv.intToInt,Sem.run_pure]
    · exact hK.elim
  case h_11 fn first cap =>
    cases h
    split at hK
    · rename_i p q h1 h2
      exact ⟨_, .func fn (first.map a.eval) (cap.map a.eval), hK,
        ⟨_,_,rfl,asSBs_is h1 (evArgs_is hT first fun x hx => hb x (by simp [Op.operands,hx])),asSBs_is h2 (evArgs_is hT cap fun x hx => hb x (by simp [Op.operands,hx]))⟩,
        run_v fun w => by simp [Instr.makeFunc]⟩
    · exact hK.elim
  case h_12 t x lo hi =>
    cases h
    obtain ⟨s, v, h1, h2, h3⟩ := sliceS_gives (ev_is hT x (hb x (by simp [Op.operands])))
      (optOp_is hT lo fun y hy => hb y (by subst hy; simp [Op.operands])) (optOp_is hT hi fun y hy => hb y (by subst hy; simp [Op.operands])) hK
    exact ⟨s,v,h1,h2,run_v h3⟩
  case h_13 s x f =>
    cases h
    obtain ⟨s,v,h1,h2,h3⟩ := fieldAddrS_gives (ev_is hT x (hb x (by simp [Op.operands]))) hK
    exact ⟨s,v,h1,h2,run_v h3⟩
  case h_14 t x i =>
    cases h
    obtain ⟨s,v,h1,h2,h3⟩ := indexAddrS_gives (ev_is hT x (hb x (by simp [Op.operands]))) (ev_is hT i (hb i (by simp [Op.operands]))) hK
    exact ⟨s,v,h1,h2,run_v h3⟩
  case h_15 t x i =>
    cases h
    obtain ⟨s,v,h1,h2,h3⟩ := indexS_gives (ev_is hT x (hb x (by simp [Op.operands]))) (ev_is hT i (hb i (by simp [Op.operands]))) hK
    exact ⟨s,v,h1,h2,run_v h3⟩
  case h_16 b args argTypes =>
    obtain ⟨s,v,h1,h2,h3⟩ := pureBuiltin_gives h (evArgs_is hT args fun x hx => hb x (by simp [Op.operands,Call.operands,hx])) hK type (args.map fun | .const _ => true | _ => false)
    refine ⟨s,v,h1,h2,fun w => ?_⟩
    simp only [execOp,resolve,Sem.run_bind,Sem.run_pure,Result.andThen_ok,Go.invoke]
    exact h3 w
  case h_17 => cases h
theorem pureOp_gives {P : Program} {o : Oper} {l : List SV} {t : Tree SV} (h : pureOp P o.op l = some t) {ρ : Rho} {but : List Nat} {a : Act} (hT : TmpsOk ρ but l a)
    (hb : ∀ x ∈ o.op.operands, ∀ t ∈ opnds x,t ∉ but) {K : SV → Prop} (hK : t.holds K) : ∃ s v,K s ∧ s.is ρ v ∧ Gives P (execOp a.eval o) (.value v) := by
  unfold pureOp at h
  split at h
  · cases h
  · exact pureOp0_gives h hT hb hK
end Go.Proofs.Ytafemlljemhkhaa.Sx
namespace Go.Proofs.Ytafemlljemhkhaa.Sx
open Go
set_option linter.unusedSectionVars false
set_option linter.unusedVariables false
set_option linter.unusedSimpArgs false
variable [Env]
abbrev Prot := List (Nat × Option Nat)
def Prot.has (p : Prot) (n k : Nat) : Bool := p.any fun q => q.1 == n && (match q.2 with | none => true | some j => j == k)
def Prot.names (p : Prot) (n : Nat) : Bool := p.any fun q => q.1 == n
def Prot.pr (p : Prot) (n k : Nat) : Prop := p.has n k = true
theorem Prot.not_of_names {p : Prot} {n : Nat} (h : p.names n = false) (k : Nat) : ¬ p.pr n k := by
  intro hk
  simp only [Prot.pr,Prot.has,List.any_eq_true,Bool.and_eq_true] at hk
  obtain ⟨q,hq,h1,_⟩ := hk
  have : p.names n = true := List.any_eq_true.2 ⟨q,hq,h1⟩
  rw [this] at h; cases h
def Prot.whole (p : Prot) (n : Nat) : Bool := p.any fun q => q.1 == n && (match q.2 with | none => true | some _ => false)
theorem Prot.of_whole {p : Prot} {n : Nat} (h : p.whole n = true) (k : Nat) : p.pr n k := by
  simp only [Prot.whole,List.any_eq_true,Bool.and_eq_true] at h
  obtain ⟨q,hq,h1,h2⟩ := h
  refine List.any_eq_true.2 ⟨q,hq, ?_⟩
  simp only [h1,Bool.true_and]
  split at h2 <;> simp_all
section
variable {A : Type} [AbsK A]
def cellAt (o : SO A) (off : IE) (i : Nat) : Option SC :=
  match o,off with
  | .cells _ l _, .lit j => l[j.toNat + i]?
  | .row k _ l,off => some (.b (.int k (mkGet l off i)))
  | .abs a, .lit j => AbsK.cell a (j.toNat + i)
  | .tab cols o nn id, .at_ base ix sz j => if sz = cols.length then
      (cols[j + i]?).map fun c => match c with
        | .int k => .b (.int k (.tab id ix (j + i)))
        | .bool => .b (.bool (.cmp .neq (.tab id ix (j + i)) (.lit 0)))
    else none
  | _,_ => none
def rowOk (o : SO A) (off : IE) (sz : Nat) : BE :=
  match o with
  | .row _ _ l => rowB off sz l
  | .tab cols o n _ => match off with
    | .at_ base ix _ _ => .and (.cmp .eql (.nat base) (.nat o)) (.cmp .lss (.nat ix) (.nat n))
    | _ => .lit true
  | _ => .lit true
theorem cellAt_ok {ρ : Rho} {b : Nat} {F : Nat → Prop} {w : World} {o : SO A} (ho : o.ok ρ (.blk b) F w) {off : IE} {i sz : Nat} {c : SC} (h : cellAt o off i = some c)
    (hr : (rowOk o off sz).val = true) (hi : i < sz) : ∃ v,w.cell? ⟨b,off.val.toNat + i,none⟩ = some v ∧ c.is ρ v := by
  unfold cellAt at h
  split at h
  · rename_i e l t j
    obtain ⟨b',vs,hb,hblk,⟨us,rest,hvs,hrest,hl⟩,_⟩ := ho
    cases hb
    obtain ⟨v,hv,hc⟩ := hl.get _ _ h
    refine ⟨v, ?_,hc⟩
    have hlt : j.toNat + i < us.length := (List.getElem?_eq_some_iff.1 hv).1
    rw [cell_of_block hblk, ← Array.getElem?_toList,hvs]
    simp only [IE.val]
    rw [List.getElem?_append_left hlt]
    exact hv
  · rename_i off' k e l
    rcases ho with ⟨_,ho,_⟩ | ⟨b',rest,hb,hblk,_⟩
    · cases ho
    cases hb
    cases h
    have hr' := rowB_val hr
    have hlt : off.val.toNat + i < l.lst.length := by omega
    refine ⟨.int k (l.lst.getD (off.val.toNat + i) 0), ?_,by show _ = _; rw [mkGet_val _ _ _ hlt]⟩
    rw [cell_of_block hblk,List.getElem?_toArray,List.getElem?_append_left (by simpa using hlt)]
    simp [List.getD_eq_getElem?_getD,hlt]
  · rename_i a j
    obtain ⟨b',v,hb,hc,his⟩ := AbsK.cell_ok ho h
    cases hb
    exact ⟨v,by simpa [IE.val] using hc,his ρ⟩
  · rename_i cols o n id base ix sz' j
    split at h
    · rename_i he
      rcases ho with ⟨_,ho,_⟩ | ⟨b',hb,_,_,hc⟩
      · cases ho
      cases hb
      obtain ⟨c0,hc0,rfl⟩ := Option.map_eq_some_iff.1 h
      simp only [rowOk,BE.val,Bool.and_eq_true] at hr
      have hlt : ix.val.toNat < n.val.toNat := by
        have := of_decide_eq_true hr.2
        simp only [IE.val] at this
        omega
      have hbo : base.val.toNat = o.val.toNat := by
        have := hr.1
        simp only [cmpVal,IE.val,beq_iff_eq] at this
        omega
      have := hc ix.val.toNat hlt (j + i) c0 hc0
      refine ⟨_, (by
        simp only [IE.val]
        rw [he,hbo]
        rw [show (((o.val.toNat + ix.val.toNat * cols.length + j : Nat) : Int).toNat + i) = o.val.toNat + ix.val.toNat * cols.length + (j + i) by rw [Int.toNat_natCast]; omega]
        exact this), ?_⟩
      cases c0
      · show _ = _; simp only [Col.value,IE.val]
      · show _ = _; simp only [Col.value,BE.val,IE.val,cmpVal]
    · cases h
  · cases h
def cellsAt (o : SO A) (off : IE) : Nat → Nat → Option (List SC)
  | _,0 => some []
  | i, n + 1 => match cellAt o off i, cellsAt o off (i + 1) n with
    | some c,some cs => some (c :: cs)
    | _,_ => none
theorem cellsAt_ok {ρ : Rho} {b : Nat} {F : Nat → Prop} {w : World} {o : SO A} (ho : o.ok ρ (.blk b) F w) {off : IE} {sz : Nat} (hr : (rowOk o off sz).val = true) :
    ∀ (n i : Nat) {cs : List SC},cellsAt o off i n = some cs → i + n ≤ sz → ∃ vs : List Value,vs.length = n ∧ All2 (SC.is ρ) cs vs ∧ ∀ j u,vs[j]? = some u → w.cell? ⟨b,off.val.toNat + (i + j),none⟩ = some u
  | 0,i,cs,h,_ => by cases h; exact ⟨[],rfl,trivial,fun j u hu => by simp at hu⟩
  | n + 1, i, cs, h, hle => by
    simp only [cellsAt] at h
    split at h
    · rename_i c cs' h1 h2
      cases h
      obtain ⟨v,hv,hc⟩ := cellAt_ok ho h1 hr (by omega)
      obtain ⟨vs,hl,hcs,hvs⟩ := cellsAt_ok ho hr n (i + 1) h2 (by omega)
      refine ⟨v :: vs,by simp [hl],⟨hc,hcs⟩,fun j u hu => ?_⟩
      cases j with
      | zero => simp at hu; subst hu; exact hv
      | succ j => simp at hu; have := hvs j u hu; rw [show i + (j + 1) = i + 1 + j by omega]; exact this
    · cases h
theorem run_loadCellsFrom {P : Program} {w : World} {b o : Nat} : ∀ (vs : List Value) (i : Nat) (acc : Array Value), (∀ j u, vs[j]? = some u → w.cell? ⟨b, o + (i + j), none⟩ = some u) →
    (loadCellsFrom ⟨b,o,none⟩ i vs.length acc).run P w = .ok (acc ++ vs.toArray) w
  | [],i,acc,_ => by simp [loadCellsFrom]
  | v :: vs, i, acc, h => by
    have h0 := h 0 v (by simp)
    simp only [List.length_cons,loadCellsFrom,Sem.run_bind,run_load,addr_add,Nat.add_zero] at h0 ⊢
    rw [h0]
    simp only [Result.andThen_ok]
    rw [run_loadCellsFrom vs (i + 1) (acc.push v) fun j u hu => by
      have := h (j + 1) u (by simpa using hu)
      rw [show i + 1 + j = i + (j + 1) by omega]; exact this]
    simp
theorem run_loadVar {P : Program} {w : World} {b o : Nat} {t : TypeId} {v : Value} (h : aggT P t = some false) (hv : w.cell? ⟨b, o, none⟩ = some v) : (loadVar t ⟨b, o, none⟩).run P w = .ok v w := by
  simp [loadVar,gives_isAgg h w,hv]
theorem run_loadAgg {P : Program} {w : World} {b o : Nat} {t : TypeId} {vs : List Value} (h : aggT P t = some true) (hs : sizeT P t = some vs.length)
    (hv : ∀ j u,vs[j]? = some u → w.cell? ⟨b,o + j,none⟩ = some u) : (loadVar t ⟨b,o,none⟩).run P w = .ok (.agg vs.toArray) w := by
  have := run_loadCellsFrom (P := P) (w := w) (b := b) (o := o) vs 0 #[] (fun j u hu => by rw [Nat.zero_add]; exact hv j u hu)
  simp [loadVar,gives_isAgg h w,gives_sizeOf hs w,loadCells,this]
def loadS (P : Program) (t : TypeId) (x : SV) (h : Heap A) : Tree SV :=
  match x with
  | .w (.one (.b (.ptr n off))) =>
    match look h n,aggT P t,sizeT P t with
    | some o, some false, _ => match cellAt o off 0 with
      | some c => mkBr (rowOk o off 1) (.leaf (.w (.one c))) (.fail 80)
      | none => .fail 81
    | some o, some true, some sz => match cellsAt o off 0 sz with
      | some cs => mkBr (rowOk o off sz) (.leaf (.w (.agg cs))) (.fail 80)
      | none => .fail 82
    | _,_,_ => .fail 83
  | _ => .fail 84
def covered (P : Program) (t : TypeId) (x : SV) (R : Prot) : Bool :=
  match x with
  | .w (.one (.b (.ptr n off))) =>
    R.whole n || (match off, sizeT P t with
      | .lit j,some sz => (List.range sz).all fun i => R.has n (j.toNat + i)
      | _,_ => false)
  | _ => false
theorem covered_spec {P : Program} {t : TypeId} {n : Nat} {off : IE} {R : Prot} (h : covered P t (.w (.one (.b (.ptr n off)))) R = true) {sz : Nat} (hs : sizeT P t = some sz) (i : Nat) (hi : i < sz) :
    R.pr n (off.val.toNat + i) := by
  simp only [covered,Bool.or_eq_true] at h
  rcases h with h | h
  · exact Prot.of_whole h _
  · rw [hs] at h
    split at h
    · rename_i j sz' h1
      cases h1
      exact List.all_eq_true.1 h i (List.mem_range.2 hi)
    · cases h
theorem loadS_ok {P : Program} {t : TypeId} {x : SV} {h : Heap A} {ρ : Rho} {F : Nat → Nat → Prop} {w : World} (H : HeapOk ρ F h w) {v : Value} (hx : x.is ρ v) {K : SV → Prop} (hK : (loadS P t x h).holds K) :
    ∃ s u, K s ∧ s.is ρ u ∧ (Instr.loadAt t v).run P w = .ok u w ∧
      ∀ R,covered P t x R = true → (aggT P t = some false → sizeT P t = some 1) → ∀ w',(∀ n k,R.pr n k → ∀ b, ρ n = some (.blk b) → w'.cell? ⟨b,k,none⟩ = w.cell? ⟨b,k,none⟩) → (Instr.loadAt t v).run P w' = .ok u w' := by
  unfold loadS at hK
  split at hK
  · rename_i n off
    obtain ⟨b,hb,rfl⟩ := hx
    split at hK
    · rename_i o hlook ha
      split at hK
      · rename_i c hc
        obtain ⟨h1,h2⟩ := mkBr_holds hK
        cases hr : (rowOk o off 1).val with
        | false => exact (h2 hr).elim
        | true =>
          obtain ⟨u,hu,hcu⟩ := cellAt_ok (H.obj n o _ hlook hb) hc hr (by omega)
          rw [Nat.add_zero] at hu
          refine ⟨_,u,h1 hr,hcu, ?_,fun R hR hsz w' hw' => ?_⟩
          · simp only [Instr.loadAt, Instr.sureAddr, Sem.run_bind, Sem.run_pure, Result.andThen_ok]
            exact run_loadVar ha hu
          · simp only [Instr.loadAt, Instr.sureAddr, Sem.run_bind, Sem.run_pure, Result.andThen_ok]
            refine run_loadVar ha ?_
            have := covered_spec hR (hsz ha) 0 (by omega)
            rw [Nat.add_zero] at this
            rw [hw' n _ this b hb]; exact hu
      · exact hK.elim
    · rename_i o sz hlook ha hsz
      split at hK
      · rename_i cs hc
        obtain ⟨h1,h2⟩ := mkBr_holds hK
        cases hr : (rowOk o off sz).val with
        | false => exact (h2 hr).elim
        | true =>
          obtain ⟨vs,hl,hcs,hvs⟩ := cellsAt_ok (H.obj n o _ hlook hb) hr sz 0 hc (by omega)
          refine ⟨_, .agg vs.toArray,h1 hr,⟨_,rfl,by simpa using hcs⟩, ?_,fun R hR _ w' hw' => ?_⟩
          · simp only [Instr.loadAt, Instr.sureAddr, Sem.run_bind, Sem.run_pure, Result.andThen_ok]
            exact run_loadAgg ha (by rw [hl]; exact hsz) fun j u hu => by have := hvs j u hu; rwa [Nat.zero_add] at this
          · simp only [Instr.loadAt, Instr.sureAddr, Sem.run_bind, Sem.run_pure, Result.andThen_ok]
            refine run_loadAgg ha (by rw [hl]; exact hsz) fun j u hu => ?_
            have hj : j < sz := by
              rw [← hl]
              rcases Nat.lt_or_ge j vs.length with h1 | h1
              · exact h1
              · rw [List.getElem?_eq_none h1] at hu; cases hu
            have hcov := covered_spec hR hsz j hj
            rw [hw' n _ hcov b hb]
            have := hvs j u hu; rwa [Nat.zero_add] at this
      · exact hK.elim
    · exact hK.elim
  · exact hK.elim
def noProt (prot : Prot) (n : Nat) : Nat → Nat → Bool
  | _,0 => true
  | k,m + 1 => !prot.has n k && noProt prot n (k + 1) m
def rowVals (k : IntKind) : List SC → Option IE
  | [] => some .nilL
  | .b (.int k' e) :: l => match rowVals k l with
    | some xs => if k = k' then some (.consL e xs) else none
    | none => none
  | _ => none
def storeS (P : Program) (prot : Prot) (t : TypeId) (x y : SV) (h : Heap A) : Tree (Heap A) :=
  match x,asCs y,sizeT P t with
  | .w (.one (.b (.ptr n off))), some cs, some sz =>
    if cs.length = sz then
      match look h n,off with
      | some (.cells e l t), .lit j =>
        if j.toNat + sz ≤ l.length then
          if noProt prot n j.toNat sz then .leaf (put h n (.cells e (writeL l j.toNat cs) t)) else .fail 90
        else .fail 91
      | some (.row k e l), off =>
        match rowVals k cs with
        | some xs => if prot.names n then .fail 90 else
          mkBr (rowB off sz l) (.leaf (put h n (.row k e (mkPutL l off xs)))) (.fail 92)
        | none => .fail 93
      | _,_ => .fail 94
    else .fail 95
  | _,_,_ => .fail 96
omit [AbsK A] in
theorem put_put (h : Heap A) (n : Nat) (o o' : SO A) : put (put h n o) n o' = put h n o' := by
  induction h with
  | nil => simp [put]
  | cons p h ih =>
    obtain ⟨m,q⟩ := p
    by_cases e : m = n
    · simp [put,e]
    · have : (m == n) = false := by simpa using e
      simp only [put,this,cond_false]
      rw [ih]
omit [AbsK A] in
theorem put_same : ∀ (h : Heap A) (n : Nat) (o : SO A), look h n = some o → put h n o = h
  | [],_,_,hl => by simp [look] at hl
  | (m, q) :: h, n, o, hl => by
    by_cases e : m = n
    · subst e; simp [look] at hl; subst hl; simp [put]
    · have : (m == n) = false := by simpa using e
      simp only [look,this,cond_false] at hl
      simp only [put,this,cond_false,put_same h n o hl]
theorem store_cells {P : Program} {prot : Prot} {ρ : Rho} {F : Nat → Nat → Prop} {n e t b : Nat} (hb : ρ n = some (.blk b)) (o : Nat) :
    ∀ (cs : List SC) (vs : List Value) (i : Nat) (h : Heap A) (w : World) (l : List SC), HeapOk ρ F h w → look h n = some (.cells e l t) → All2 (SC.is ρ) cs vs →
      o + i + cs.length ≤ l.length → noProt prot n (o + i) cs.length = true →
      ∃ w',(storeCells ⟨b,o,none⟩ vs i).run P w = .ok () w' ∧ HeapOk ρ F (put h n (.cells e (writeL l (o + i) cs) t)) w' ∧ Goes prot.pr ρ F w ρ F w'
  | [], [],i,h,w,l,H,hl,_,_,_ => ⟨w,rfl,by simp only [writeL]; rw [put_same _ _ _ hl]; exact H,Goes.refl _ _ _ _⟩
  | c :: cs, v :: vs, i, h, w, l, H, hl, hc, hle, hp => by
    simp only [List.length_cons] at hle
    simp only [List.length_cons,noProt,Bool.and_eq_true,Bool.not_eq_true'] at hp
    obtain ⟨⟨u,hu⟩,hf,H1,G1⟩ := H.store (prot := prot.pr) hl hb (i := o + i) (by omega) hc.1 (by simp [Prot.pr,hp.1])
    obtain ⟨w',hr,H2,G2⟩ := store_cells (P := P) (prot := prot) hb o cs vs (i + 1) _ _ (l.set (o + i) c) H1 (look_put_same _ _ _) hc.2 (by simp; omega) (by rw [← Nat.add_assoc]; exact hp.2)
    refine ⟨w', ?_, ?_,G1.trans G2⟩
    · have ho : v.oneCell' = true := by
        have := SC.is_one hc.1
        cases v <;> simp_all [One,Value.oneCell']
      simp only [storeCells,Sem.run_bind,addr_add,run_store P w _ v .plain ho,hu,hf]
      simpa using hr
    · rw [put_put] at H2; simp only [writeL]; rw [Nat.add_assoc]; exact H2
  | [],_ :: _,_,_,_,_,_,_,hc,_,_ => hc.elim
  | _ :: _, [],_,_,_,_,_,_,hc,_,_ => hc.elim
theorem HeapOk.sameRow {ρ : Rho} {F : Nat → Nat → Prop} {h : Heap A} {w : World} (H : HeapOk ρ F h w) {n e : Nat} {k : IntKind} {l l' : IE} (hn : look h n = some (.row k e l)) (hl : l'.lst = l.lst) : HeapOk ρ F (put h n (.row k e l')) w := by
  refine ⟨fun m => ?_,fun m o r hm hr => ?_,H.disj,fun m o hm hw => ?_,H.size⟩
  · by_cases em : m = n
    · subst em; rw [look_put_same, ← H.dom m,hn]; rfl
    · rw [look_put_ne _ _ _ _ em]; exact H.dom m
  · by_cases em : m = n
    · subst em; rw [look_put_same] at hm; cases hm
      have := H.obj m _ r hn hr
      simp only [SO.ok] at this ⊢
      rw [hl]; exact this
    · rw [look_put_ne _ _ _ _ em] at hm; exact H.obj m o r hm hr
  · by_cases em : m = n
    · subst em; exact H.low m _ hn rfl
    · rw [look_put_ne _ _ _ _ em] at hm; exact H.low m o hm hw
theorem store_row {P : Program} {prot : Prot} {ρ : Rho} {F : Nat → Nat → Prop} {n e b : Nat} {k : IntKind} (hb : ρ n = some (.blk b)) (o : Nat) (hp : prot.names n = false) :
    ∀ (xs : List Int) (vs : List Value) (i : Nat) (h : Heap A) (w : World) (l : IE), HeapOk ρ F h w → look h n = some (.row k e l) → vs = xs.map (Value.int k) →
      o + i + xs.length ≤ l.lst.length →
      ∀ l' : IE,l'.lst = writeL l.lst (o + i) xs → ∃ w',(storeCells ⟨b,o,none⟩ vs i).run P w = .ok () w' ∧ HeapOk ρ F (put h n (.row k e l')) w' ∧ Goes prot.pr ρ F w ρ F w'
  | [],_,i,h,w,l,H,hl,hv,_,l',hl' => by subst hv; exact ⟨w,rfl,H.sameRow hl hl',Goes.refl _ _ _ _⟩
  | x :: xs, _, i, h, w, l, H, hl, hv, hle, l', hl' => by
    subst hv
    simp only [List.length_cons] at hle
    have hput : (IE.putL l (.lit (o + i : Nat)) (.consL (.lit x) .nilL)).lst = l.lst.set (o + i) x := by
      simp only [IE.lst,IE.val,writeL]; rw [Int.toNat_natCast]
    obtain ⟨⟨u,hu⟩,hf,H1,G1⟩ := H.storeRow (prot := prot.pr) hl hb (i := o + i) (x := x) (by omega) hput (Prot.not_of_names hp)
    obtain ⟨w',hr,H2,G2⟩ := store_row (P := P) (prot := prot) hb o hp xs _ (i + 1) _ _ _ H1 (look_put_same _ _ _) rfl (by rw [hput]; simp; omega) l' (by rw [hput,hl']; simp only [writeL]; rw [Nat.add_assoc])
    refine ⟨w', ?_, ?_,G1.trans G2⟩
    · simp only [List.map_cons, storeCells, Sem.run_bind, addr_add, run_store P w _ (Value.int k x) .plain rfl, hu, hf]
      simpa using hr
    · rw [put_put] at H2; exact H2
theorem rowVals_is {ρ : Rho} {k : IntKind} : ∀ {cs : List SC} {xs : IE} {vs : List Value}, rowVals k cs = some xs → All2 (SC.is ρ) cs vs → vs = xs.lst.map (Value.int k)
  | [],xs, [],h,_ => by cases h; simp [IE.lst]
  | c :: cs, xs, v :: vs, h, hc => by
    unfold rowVals at h
    split at h
    · rename_i h0; cases h0
    · rename_i k' e l heq
      cases heq
      split at h
      · rename_i xs' h1
        split at h
        · rename_i hk; subst hk
          cases h
          rw [show (IE.consL e xs').lst = e.val :: xs'.lst by simp [IE.lst],List.map_cons, ← rowVals_is h1 hc.2]
          rw [show v = .int k e.val from hc.1]
        · cases h
      · cases h
    · cases h
  | [],_,_ :: _,_,h => h.elim
  | _ :: _,_, [],_,h => h.elim
theorem storeS_ok {P : Program} {prot : Prot} {t : TypeId} {x y : SV} {h : Heap A} {ρ : Rho} {F : Nat → Nat → Prop} {w : World} (H : HeapOk ρ F h w) {u v : Value} (hx : x.is ρ u) (hy : y.is ρ v)
    {K : Heap A → Prop} (hK : (storeS P prot t x y h).holds K) : ∃ h' w',K h' ∧ (Instr.storeAt t u v).run P w = .ok () w' ∧ HeapOk ρ F h' w' ∧ Goes prot.pr ρ F w ρ F w' := by
  unfold storeS at hK
  split at hK
  · rename_i n off cs sz hcs hsz
    obtain ⟨b,hb,rfl⟩ := hx
    have hc := asCs_is hcs hy
    split at hK
    · rename_i hlen
      have hvl : v.cells.size = sz := by have h3 := hc.length; simp only [Array.length_toList] at h3; omega
      have hrun : ∀ w', (storeCells ⟨b, off.val.toNat, none⟩ v.cells.toList 0).run P w = .ok () w' → (Instr.storeAt t (.pointer (some ⟨b, off.val.toNat, none⟩)) v).run P w = .ok () w' := by
        intro w' hr
        simp [Instr.storeAt,Instr.sureAddr,storeVar,gives_sizeOf hsz w,hvl,hr]
      split at hK
      · rename_i e l t0 j hlook
        split at hK
        · rename_i hle
          split at hK
          · rename_i hp
            obtain ⟨w',hr,H',G⟩ := store_cells (P := P) (prot := prot) hb j.toNat cs v.cells.toList 0 h w l H hlook hc (by omega) (by rw [hlen,Nat.add_zero]; exact hp)
            exact ⟨_,w',hK,hrun w' hr,H',G⟩
          · exact hK.elim
        · exact hK.elim
      · rename_i off o1 o2 k e l hlook
        split at hK
        · rename_i xs hxs
          split at hK
          · exact hK.elim
          · rename_i hp
            obtain ⟨h1,h2⟩ := mkBr_holds hK
            have hlx : xs.lst.length = sz := by have := rowVals_is hxs hc; have h3 := congrArg List.length this; simp at h3; omega
            cases hb1 : (rowB off sz l).val with
            | true =>
              have hbd := rowB_val hb1
              obtain ⟨w',hr,H',G⟩ := store_row (P := P) (prot := prot) hb off.val.toNat (by simpa using hp) xs.lst v.cells.toList 0 h w l H hlook (rowVals_is hxs hc) (by omega) (mkPutL l off xs) (by rw [mkPutL_lst,Nat.add_zero])
              exact ⟨_,w',h1 hb1,hrun w' hr,H',G⟩
            | false => exact (h2 hb1).elim
        · exact hK.elim
      · exact hK.elim
    · exact hK.elim
  · exact hK.elim
end
end Go.Proofs.Ytafemlljemhkhaa.Sx
namespace Go.Proofs.Ytafemlljemhkhaa.Sx
open Go
set_option linter.unusedSectionVars false
set_option linter.unusedVariables false
set_option linter.unusedSimpArgs false
variable [Env]
section
variable {A : Type} [AbsK A]
def freeN (h : Heap A) (n : Nat) : Bool := (look h n).isNone && (Nat.ble 100 n && Nat.beq (n % 2) 0)
omit [AbsK A] in
theorem freeN_spec {h : Heap A} {n : Nat} (hf : freeN h n = true) : look h n = none ∧ Hi n := by
  simp only [freeN,Bool.and_eq_true,Option.isNone_iff_eq_none,Nat.ble_eq,Nat.beq_eq] at hf
  exact hf
def allocS (P : Program) (elem : TypeId) (h : Heap A) (nm : Nat) : Tree (SV × Heap A) :=
  match zeroT P elem,freeN h nm with
  | some cs,true => .leaf (.w (.one (.b (.ptr nm (.lit 0)))),(nm, .cells elem cs 0) :: h)
  | _,_ => .fail 100
def Ran (P : Program) (prot : Prot) (ρ : Rho) (F : Nat → Nat → Prop) (w : World) (m : Sem Value) (K : SV × Heap A → Prop) : Prop :=
  ∃ s h' v ρ' F' w',K (s,h') ∧ s.is ρ' v ∧ m.run P w = .ok v w' ∧ HeapOk ρ' F' h' w' ∧ Goes prot.pr ρ F w ρ' F' w'
theorem allocS_ok {P : Program} {prot : Prot} {elem : TypeId} {h : Heap A} {nm : Nat} {ρ : Rho} {F : Nat → Nat → Prop} {w : World} (H : HeapOk ρ F h w) {K : SV × Heap A → Prop}
    (hK : (allocS P elem h nm).holds K) : Ran P prot ρ F w (Instr.alloc elem true (.tuple #[])) K := by
  unfold allocS at hK
  split at hK
  · rename_i cs hz hfn
    obtain ⟨hn,hni⟩ := freeN_spec hfn
    obtain ⟨v,hv,hc⟩ := gives_zero hz ρ
    obtain ⟨H',G⟩ := H.alloc (prot := prot.pr) hn hni (o := .cells elem cs 0) (obj := .cells v.cells elem (0,0)) (.inl ⟨elem,cs,0,v.cells,rfl,rfl,v.cells.toList, [],by simp,rfl,hc⟩)
    refine ⟨_,_, .pointer (some ⟨w.heap.size,0,none⟩),_,_,_,hK,⟨w.heap.size,upd_same _ _ _,by simp [IE.val]⟩, ?_,H',G⟩
    simp [Instr.alloc,hv w,newVar,newRow]
  · exact hK.elim
def boxS (P : Program) (elem : TypeId) (x : SV) (h : Heap A) (nm : Nat) : Tree (SV × Heap A) :=
  match asCs x,freeN h nm with
  | some cs,true => .leaf (.w (.one (.b (.ptr nm (.lit 0)))),(nm, .cells elem cs 0) :: h)
  | _,_ => .fail 101
theorem boxS_ok {P : Program} {prot : Prot} {elem : TypeId} {x : SV} {h : Heap A} {nm : Nat} {ρ : Rho} {F : Nat → Nat → Prop} {w : World} (H : HeapOk ρ F h w) {v : Value} (hx : x.is ρ v) {K : SV × Heap A → Prop}
    (hK : (boxS P elem x h nm).holds K) : Ran P prot ρ F w (Instr.box elem v) K := by
  unfold boxS at hK
  split at hK
  · rename_i cs hcs hfn
    obtain ⟨hn,hni⟩ := freeN_spec hfn
    have hc := asCs_is hcs hx
    obtain ⟨H',G⟩ := H.alloc (prot := prot.pr) hn hni (o := .cells elem cs 0) (obj := .cells v.cells elem (0,0)) (.inl ⟨elem,cs,0,v.cells,rfl,rfl,v.cells.toList, [],by simp,rfl,hc⟩)
    refine ⟨_,_, .pointer (some ⟨w.heap.size,0,none⟩),_,_,_,hK,⟨w.heap.size,upd_same _ _ _,by simp [IE.val]⟩, ?_,H',G⟩
    simp [Instr.box,newVar,newRow]
  · exact hK.elim
def repS (z : List SC) (n : Nat) : List SC := (List.range n).map fun i => z.getD (i % z.length) (.b .unk)
theorem repS_is {ρ : Rho} {z : List SC} {zv : Array Value} (hz : All2 (SC.is ρ) z zv.toList) (n : Nat) (h0 : n = 0 ∨ 0 < z.length) :
    All2 (SC.is ρ) (repS z n) ((Array.range n).map (zv[· % zv.size]!)).toList := by
  have hlen : z.length = zv.size := by have := hz.length; simpa using this
  rw [Array.toList_map,Array.toList_range]
  refine All2.map _ _ _ fun i hi => ?_
  have hn : 0 < z.length := by
    rcases h0 with h | h
    · subst h; simp at hi
    · exact h
  have hlt : i % z.length < z.length := Nat.mod_lt _ hn
  obtain ⟨v,hv,hc⟩ := hz.get (i % z.length) (z[i % z.length]) (List.getElem?_eq_getElem hlt)
  have hv' : zv[i % zv.size]? = some v := by rw [← hlen]; simpa using hv
  rw [List.getD_eq_getElem?_getD,List.getElem?_eq_getElem hlt,Option.getD_some]
  rw [getElem!_def,hv']
  exact hc
def buildSliceS (P : Program) (t : TypeId) (len : Nat) (parts : List (Nat × SV)) (h : Heap A) (nm : Nat) : Tree (SV × Heap A) :=
  match P.underlying t,freeN h nm with
  | some (.slice e), true =>
    match sizeT P e,zeroT P e with
    | some sz, some z =>
      if len * sz ≤ 16777216 ∧ 0 < z.length then
        match fillS (fun i => some (i * sz,sz)) (repS z (len * sz)) parts with
        | some cs => .leaf (.w (.one (.b (.sl nm (.lit 0) (.lit len) (.lit len)))),(nm, .cells e cs 0) :: h)
        | none => .fail 102
      else .fail 103
    | _,_ => .fail 104
  | _,_ => .fail 105
theorem buildSliceS_ok {P : Program} {prot : Prot} {t : TypeId} {len : Nat} {ps : List (Nat × SV)} {qs : Array (Nat × Value)} {h : Heap A} {nm : Nat} {ρ : Rho} {F : Nat → Nat → Prop} {w : World} (H : HeapOk ρ F h w)
    (hp : All2 (fun (p : Nat × SV) (q : Nat × Value) => p.1 = q.1 ∧ p.2.is ρ q.2) ps qs.toList) {K : SV × Heap A → Prop}
    (hK : (buildSliceS P t len ps h nm).holds K) : Ran P prot ρ F w (Instr.buildSlice t len qs) K := by
  unfold buildSliceS at hK
  split at hK
  · rename_i e hu hfn
    obtain ⟨hn,hni⟩ := freeN_spec hfn
    split at hK
    · rename_i sz z hsz hz
      obtain ⟨zv,hzg,hzi⟩ := gives_zero hz ρ
      split at hK
      · rename_i hlim
        split at hK
        · rename_i cs hf
          have hno : ¬ len * sz > 2 ^ 24 := by omega
          by_cases h0 : len * sz = 0
          · have hrep' : All2 (SC.is ρ) (repS z (len * sz)) (#[] : Array Value).toList := by rw [h0]; trivial
            obtain ⟨us,h1,h2⟩ := fillS_is hp hrep' hf
            obtain ⟨H',G⟩ := H.alloc (prot := prot.pr) hn hni (o := .cells e cs 0) (obj := .cells us e (0,0)) (.inl ⟨e,cs,0,us,rfl,rfl,us.toList, [],(List.append_nil _).symm,rfl,h2⟩)
            refine ⟨_,_, .slice (some ⟨w.heap.size,0,none⟩) len len,_,_,_,hK,⟨w.heap.size,upd_same _ _ _,rfl⟩, ?_,H',G⟩
            have hm : (Array.range (len * sz)).map ((#[] : Array Value)[· % (#[] : Array Value).size]!) = #[] := by rw [h0]; simp
            simp only [Instr.buildSlice,Sem.run_bind,gives_underlying hu w,gives_sizeOf hsz w,Result.andThen_ok,if_neg hno,if_pos h0,Sem.run_pure,hm,h1]
            rfl
          · have hrep := repS_is hzi (len * sz) (.inr hlim.2)
            obtain ⟨us,h1,h2⟩ := fillS_is hp hrep hf
            obtain ⟨H',G⟩ := H.alloc (prot := prot.pr) hn hni (o := .cells e cs 0) (obj := .cells us e (0,0)) (.inl ⟨e,cs,0,us,rfl,rfl,us.toList, [],(List.append_nil _).symm,rfl,h2⟩)
            refine ⟨_,_, .slice (some ⟨w.heap.size,0,none⟩) len len,_,_,_,hK,⟨w.heap.size,upd_same _ _ _,rfl⟩, ?_,H',G⟩
            simp only [Instr.buildSlice,Sem.run_bind,gives_underlying hu w,gives_sizeOf hsz w,Result.andThen_ok,if_neg hno,if_neg h0,hzg w,Sem.run_pure,h1]
            rfl
        · exact hK.elim
      · exact hK.elim
    · exact hK.elim
  · exact hK.elim
def zeroKind : List SC → Option IntKind
  | [.b (.int k (.lit 0))] => some k
  | .b (.int k (.lit 0)) :: l => match zeroKind l with
    | some k' => if k = k' then some k else none
    | none => none
  | _ => none
theorem zeroKind_spec : ∀ {z : List SC} {k : IntKind}, zeroKind z = some k → 0 < z.length ∧ ∀ c ∈ z, c = .b (.int k (.lit 0))
  | [],k,h => by simp [zeroKind] at h
  | c :: l, k, h => by
    unfold zeroKind at h
    split at h
    · rename_i heq; cases heq; cases h; exact ⟨by simp,by simp⟩
    · rename_i k0 l' hne heq
      cases heq
      split at h
      · rename_i k' h1
        split at h
        · rename_i hk; subst hk; cases h
          have ih := zeroKind_spec h1
          exact ⟨by simp,fun c hc => by rcases List.mem_cons.1 hc with rfl | hc; rfl; exact ih.2 c hc⟩
        · cases h
      · cases h
    · cases h
def bytesT (P : Program) (t : TypeId) : Option Nat := (P.info? t).map (·.bytes)
def makeSliceS (P : Program) (t : TypeId) (x y : SV) (h : Heap A) (nm : Nat) : Tree (SV × Heap A) :=
  match P.underlying t,freeN h nm,asI x,asI y with
  | some (.slice e), true, some (_, l), some (_, c) =>
    match sizeT P e,zeroT P e,bytesT P e with
    | some sz, some z, some by_ =>
      match l,c with
      | .lit a, .lit b =>
        if 0 ≤ a ∧ a ≤ b ∧ by_ * b ≤ 281474976710656 ∧ b ≤ 9223372036854775807 ∧ 0 < z.length then
          .leaf (.w (.one (.b (.sl nm (.lit 0) (.lit a) (.lit b)))),(nm, .cells e (repS z (b.toNat * sz)) 0) :: h)
        else .fail 106
      | l, c =>
        match zeroKind z with
        | some k =>
          mkBr (mkCmp .geq l (.lit 0)) (mkBr (mkCmp .leq l c) (mkBr (mkCmp .leq c (.lit (281474976710656 / (by_ + 1) : Nat)))
            (.leaf (.w (.one (.b (.sl nm (.lit 0) l c))),(nm, .row k e (.rep c sz)) :: h))
            (.fail 107)) (.fail 107)) (.fail 107)
        | none => .fail 108
    | _,_,_ => .fail 109
  | _,_,_,_ => .fail 110
theorem wrap_i64 {x : Int} (h0 : 0 ≤ x) (h1 : x ≤ 9223372036854775807) : IntKind.i64.wrap x = x := by
  unfold IntKind.wrap
  simp only [IntKind.bits,IntKind.signed]
  have h2 : x % (2 ^ 64 : Int) = x := Int.emod_eq_of_lt h0 (by omega)
  simp only [h2]
  rw [if_neg]
  simp
  omega
theorem run_makeSlice {P : Program} {t e : TypeId} {sz by_ : Nat} {zv : Value} (hu : P.underlying t = some (.slice e)) (hsz : sizeT P e = some sz) (hby : bytesT P e = some by_) (hzg : Gives P (zeroValue e) zv)
    {k k' : IntKind} {l c : Int} (h0 : 0 ≤ l) (h1 : l ≤ c) (h2 : (by_ : Int) * c ≤ 281474976710656) (h3 : c ≤ 9223372036854775807) (w : World) :
    (Instr.makeSlice t (.int k l) (.int k' c)).run P w = .ok (.slice (some ⟨w.heap.size, 0, none⟩) l.toNat c.toNat)
      { w with heap := w.heap.push (.cells (if c.toNat * sz = 0 then #[] else (Array.range (c.toNat * sz)).map (zv.cells[· % zv.cells.size]!)) e (0,0)) } := by
  unfold bytesT at hby
  obtain ⟨i,hi,rfl⟩ := Option.map_eq_some_iff.1 hby
  have w1 := wrap_i64 h0 (by omega)
  have w2 := wrap_i64 (x := c) (by omega) h3
  have hc0 : ¬ c < 0 := by omega
  have hl0 : ¬ l < 0 := by omega
  have hlc : ¬ l > c := by omega
  have hbc : ¬ ((i.bytes : Int) * c > 2 ^ 48) := by omega
  have hcond : (decide (c < 0) || decide ((i.bytes : Int) * c > 2 ^ 48) || decide (l < 0) || decide (l > c)) = false := by
    simp [hc0,hl0,hlc,hbc]; omega
  simp only [Instr.makeSlice,Sem.run_bind,gives_underlying hu w,Result.andThen_ok,asInt,asIntOf,Sem.run_pure,w1,w2]
  rw [show (typeInfo e).run P w = .ok i w from by simp [typeInfo,hi]]
  simp only [Result.andThen_ok,Sem.run_ite]
  rw [if_neg (by simpa using hcond)]
  simp only [Sem.run_bind,run_askRoom,Result.andThen_ok,gives_sizeOf hsz w]
  by_cases hz0 : c.toNat * sz = 0
  · have hm : (Array.range (c.toNat * sz)).map ((#[] : Array Value)[· % (#[] : Array Value).size]!) = #[] := by rw [hz0]; simp
    simp only [if_pos hz0,Sem.run_bind,Sem.run_pure,Result.andThen_ok,hm]
    rfl
  · simp only [if_neg hz0, Sem.run_bind, hzg w, Sem.run_pure, Result.andThen_ok]
    rfl
theorem rep_zero {ρ : Rho} {z : List SC} {k : IntKind} (hk : zeroKind z = some k) {zv : Array Value} (hz : All2 (SC.is ρ) z zv.toList) (n : Nat) :
    ((Array.range n).map (zv[· % zv.size]!)) = ((List.replicate n (0 : Int)).map (Value.int k)).toArray := by
  obtain ⟨hpos,hall⟩ := zeroKind_spec hk
  have hlen : z.length = zv.size := by have := hz.length; simpa using this
  apply Array.toList_inj.1
  apply List.ext_getElem?
  intro i
  simp only [Array.toList_map,Array.toList_range,List.getElem?_map,List.map_replicate,List.getElem?_replicate]
  by_cases hi : i < n
  · rw [List.getElem?_range hi, Option.map_some, if_pos hi]
    have hlt : i % z.length < z.length := Nat.mod_lt _ hpos
    obtain ⟨v,hv,hc⟩ := hz.get (i % z.length) (z[i % z.length]) (List.getElem?_eq_getElem hlt)
    have hv' : zv[i % zv.size]? = some v := by rw [← hlen]; simpa using hv
    rw [getElem!_def,hv']
    rw [hall _ (List.getElem_mem hlt)] at hc
    have : v = .int k 0 := hc
    rw [this]
  · rw [if_neg hi,List.getElem?_eq_none (by simpa using hi)]; rfl
theorem makeSliceS_ok {P : Program} {prot : Prot} {t : TypeId} {x y : SV} {h : Heap A} {nm : Nat} {ρ : Rho} {F : Nat → Nat → Prop} {w : World} (H : HeapOk ρ F h w) {u v : Value} (hx : x.is ρ u) (hy : y.is ρ v) {K : SV × Heap A → Prop}
    (hK : (makeSliceS P t x y h nm).holds K) : Ran P prot ρ F w (Instr.makeSlice t u v) K := by
  unfold makeSliceS at hK
  split at hK
  · rename_i e k l k' c hu hfn hl hc
    obtain ⟨hn,hni⟩ := freeN_spec hfn
    obtain rfl := asI_is hl hx
    obtain rfl := asI_is hc hy
    split at hK
    · rename_i sz z by_ hsz hz hby
      obtain ⟨zv,hzg,hzi⟩ := gives_zero hz ρ
      split at hK
      · rename_i a b
        split at hK
        · rename_i hlim
          have hrun := run_makeSlice (k := k) (k' := k') hu hsz hby hzg hlim.1 hlim.2.1 hlim.2.2.1 hlim.2.2.2.1 w
          have hrep' : All2 (SC.is ρ) (repS z (b.toNat * sz)) (if b.toNat * sz = 0 then #[] else (Array.range (b.toNat * sz)).map (zv.cells[· % zv.cells.size]!)).toList := by
            split
            · rename_i h0; rw [h0]; trivial
            · exact repS_is hzi _ (.inr hlim.2.2.2.2)
          obtain ⟨H', G⟩ := H.alloc (prot := prot.pr) hn hni (o := .cells e (repS z (b.toNat * sz)) 0) (obj := .cells (if b.toNat * sz = 0 then #[] else (Array.range (b.toNat * sz)).map (zv.cells[· % zv.cells.size]!)) e (0, 0))
            (.inl ⟨e,_,0,_,rfl,rfl,_, [],(List.append_nil _).symm,rfl,hrep'⟩)
          exact ⟨_,_,_,_,_,_,hK,⟨w.heap.size,upd_same _ _ _,rfl⟩,hrun,H',G⟩
        · exact hK.elim
      · split at hK
        · rename_i k2 hk2
          obtain ⟨h1,h2⟩ := mkBr_holds hK
          simp only [mkCmp_val,cmpVal,IE.val] at h1 h2
          by_cases c1 : l.val ≥ 0
          · obtain ⟨h3, h4⟩ := mkBr_holds (h1 (decide_eq_true c1))
            simp only [mkCmp_val,cmpVal,IE.val] at h3 h4
            by_cases c2 : l.val ≤ c.val
            · obtain ⟨h5, h6⟩ := mkBr_holds (h3 (decide_eq_true c2))
              simp only [mkCmp_val,cmpVal,IE.val] at h5 h6
              by_cases c3 : c.val ≤ ((281474976710656 / (by_ + 1) : Nat) : Int)
              · have hb0 : (by_ + 1) * (281474976710656 / (by_ + 1)) ≤ 281474976710656 := Nat.mul_div_le _ _
                have hle1 : c.val ≤ 281474976710656 := by
                  have : 281474976710656 / (by_ + 1) ≤ 281474976710656 := Nat.div_le_self _ _
                  omega
                have hb1 : (by_ : Int) * c.val ≤ 281474976710656 := by
                  have e1 : (by_ : Int) * c.val ≤ (by_ : Int) * ((281474976710656 / (by_ + 1) : Nat) : Int) := Int.mul_le_mul_of_nonneg_left c3 (by omega)
                  have e2 : (by_ * (281474976710656 / (by_ + 1)) : Nat) ≤ 281474976710656 := Nat.le_trans (Nat.mul_le_mul_right _ (Nat.le_succ _)) hb0
                  have e3 : ((by_ * (281474976710656 / (by_ + 1)) : Nat) : Int) ≤ ((281474976710656 : Nat) : Int) := Int.ofNat_le.2 e2
                  rw [Int.natCast_mul] at e3
                  omega
                have hrun := run_makeSlice (k := k) (k' := k') hu hsz hby hzg c1 c2 hb1 (by omega) w
                have hobj : (if c.val.toNat * sz = 0 then #[] else (Array.range (c.val.toNat * sz)).map (zv.cells[· % zv.cells.size]!)) = ((List.replicate (c.val.toNat * sz) (0 : Int)).map (Value.int k2)).toArray := by
                  split
                  · rename_i h0; rw [h0]; rfl
                  · exact rep_zero hk2 hzi _
                rw [hobj] at hrun
                obtain ⟨H',G⟩ := H.alloc (prot := prot.pr) hn hni (o := .row k2 e (.rep c sz)) (obj := .cells ((List.replicate (c.val.toNat * sz) (0 : Int)).map (Value.int k2)).toArray e (0,0)) (.inr ⟨k2,e,_, [],rfl,by rw [List.append_nil]; simp only [IE.lst]⟩)
                exact ⟨_,_,_,_,_,_,h5 (decide_eq_true c3),⟨w.heap.size,upd_same _ _ _,rfl⟩,hrun,H',G⟩
              · exact (h6 (decide_eq_false c3)).elim
            · exact (h4 (decide_eq_false c2)).elim
          · exact (h2 (decide_eq_false c1)).elim
        · exact hK.elim
    · exact hK.elim
  · exact hK.elim
end
end Go.Proofs.Ytafemlljemhkhaa.Sx
