import Derived.Test.YtafemlljemhkhaaPSxYy
namespace Go.Proofs.Ytafemlljemhkhaa.Sx
open Go Go.ChangeShapes Go.WideShapes Go.ChangeAt Go.RowKit
set_option linter.unusedSectionVars false
set_option linter.unusedVariables false
set_option linter.unusedSimpArgs false
inductive AK where
  | pk (x : PK)
  | st (xs : List PK)
def AK.flat : AK → List PK
  | .pk x => [x]
  | .st xs => xs
def flatG : List AK → List PK
  | [] => []
  | a :: l => a.flat ++ flatG l
def oneB : PK → Bool
  | .one _ => true
  | .sl _ => true
  | .agg _ => false
def fieldsK (P : Program) (d : Nat) : Nat → List Field → Option (List PK)
  | _, [] => some []
  | off, f :: fs => match kindT P d f.type with
    | some p => if (oneB p && (decide (f.offset = off) && decide (P.cellsOf f.type = 1))) = true then (match fieldsK P d (off + 1) fs with
      | some l => some (p :: l)
      | none => none) else none
    | none => none
def kindG (P : Program) (d : Nat) (t : TypeId) : Option AK :=
  match kindT P d t with
  | some p => some (.pk p)
  | none => match P.underlying t with
    | some (.struct fs) => match fieldsK P d 0 fs.toList with
      | some l => if l.length = P.cellsOf t then some (.st l) else none
      | none => none
    | _ => none
def kindsG (P : Program) (d : Nat) : List TypeId → Option (List AK)
  | [] => some []
  | t :: ts => match kindG P d t, kindsG P d ts with
    | some k,some ks => some (k :: ks)
    | _,_ => none
def toSC : SV → SC
  | .w (.one c) => c
  | _ => .b .unk
def sizeL : List PK → Nat
  | [] => 0
  | p :: l => p.size + sizeL l
def rowsL : List PK → Nat
  | [] => 0
  | p :: l => p.rows + rowsL l
def symArgsG : List AK → Nat → Nat → List SV
  | [],_,_ => []
  | .pk p :: l,n,k => p.sym n k :: symArgsG l (n + p.size) (k + p.rows)
  | .st ps :: l,n,k => .w (.agg ((symArgs ps n k).map toSC)) :: symArgsG l (n + sizeL ps) (k + rowsL ps)
section
variable {H : Type} {enc : TypeId × Value → H} {P : Program} {W : World} {b0 : Nat} {sp : Nat → Bool} {held : Bool}
def ToldL (W : World) : List PK → List Value → Prop
  | [], [] => True
  | p :: ps,v :: vs => (∃ ns tb bo,Told W p v ns tb bo) ∧ ToldL W ps vs
  | _,_ => False
theorem ToldL.app {ps' : List PK} {vs' : List Value} (h' : ∃ ns tb bo, Tolds W ps' vs' ns tb bo) : ∀ {ps : List PK} {vs : List Value}, ToldL W ps vs → ∃ ns tb bo, Tolds W (ps ++ ps') (vs ++ vs') ns tb bo
  | [], [],_ => h'
  | p :: ps, v :: vs, h => by
    obtain ⟨ns1,tb1,bo1,g1⟩ := h.1
    obtain ⟨ns2,tb2,bo2,g2⟩ := ToldL.app h' h.2
    obtain ⟨tb,bo,g⟩ := Tolds.cons g1 g2
    exact ⟨_,tb,bo,g⟩
  | [],_ :: _,h => h.elim
  | _ :: _, [],h => h.elim
theorem field_told {d : Nat} {t : TypeId} {p : PK} (hp : kindT P d t = some p) (h1 : oneB p = true) {cs : List Value} {fuel : Nat} {x : DataW H × List MemPlace} (hx : DataW.trod enc P W 0 sp held fuel t cs = some x) :
    ∃ v,cs = [v] ∧ ∃ ns tb bo,Told W p v ns tb bo := by
  have hp0 := hp
  unfold kindT at hp
  split at hp
  · rename_i hu
    have hf : All2 Fits [.bool] cs := trod_flat 1 (by simp only [colsT,hu]) hx
    obtain ⟨v, rfl, hv⟩ : ∃ v, cs = [v] ∧ Fits .bool v := by
      cases cs with
      | nil => exact hf.elim
      | cons v vs => cases vs with
        | nil => exact ⟨v,rfl,hf.1⟩
        | cons _ _ => exact hf.2.elim
    obtain ⟨z,rfl,hz⟩ := hv
    refine ⟨_,rfl,told_of hp0 ⟨fun _ => ⟨_,rfl⟩,fun k hk => (by rw [hu] at hk; cases hk),fun e he => (by rw [hu] at he; cases he),fun h => (by rcases h with ⟨fs,h⟩ | ⟨n,e,h⟩ <;> (rw [hu] at h; cases h))⟩ (enc := enc) (sp := sp) (held := held) (x := x.1) (ps := x.2) ⟨fuel, ?_⟩⟩
    exact hx
  · rename_i k hu
    have hf : All2 Fits [.int k] cs := trod_flat 1 (by simp only [colsT,hu]) hx
    obtain ⟨v, rfl, hv⟩ : ∃ v, cs = [v] ∧ Fits (.int k) v := by
      cases cs with
      | nil => exact hf.elim
      | cons v vs => cases vs with
        | nil => exact ⟨v,rfl,hf.1⟩
        | cons _ _ => exact hf.2.elim
    obtain ⟨z,rfl,hz⟩ := hv
    refine ⟨_,rfl,told_of hp0 ⟨fun h => (by rw [hu] at h; cases h),fun k' hk => (by rw [hu] at hk; cases hk; exact ⟨z,rfl⟩),fun e he => (by rw [hu] at he; cases he),fun h => (by rcases h with ⟨fs,h⟩ | ⟨n,e,h⟩ <;> (rw [hu] at h; cases h))⟩ (enc := enc) (sp := sp) (held := held) (x := x.1) (ps := x.2) ⟨fuel, ?_⟩⟩
    exact hx
  · rename_i e hu
    have hs : ∃ a len cap, cs = [.slice a len cap] := by
      rcases DataW.trod_slice hu hx with ⟨h1,_⟩ | ⟨a,len,cap,_,_,_,_,h1,_⟩
      · exact ⟨_,_,_,h1⟩
      · exact ⟨_,_,_,h1⟩
    obtain ⟨a,len,cap,rfl⟩ := hs
    refine ⟨_,rfl,told_of hp0 ⟨fun h => (by rw [hu] at h; cases h),fun k' hk => (by rw [hu] at hk; cases hk),fun e he => ⟨a,len,cap,rfl⟩,fun h => (by rcases h with ⟨fs,h⟩ | ⟨n,e,h⟩ <;> (rw [hu] at h; cases h))⟩ (enc := enc) (sp := sp) (held := held) (x := x.1) (ps := x.2) ⟨fuel, ?_⟩⟩
    exact hx
  · obtain ⟨cs', _, rfl⟩ := Option.map_eq_some_iff.1 hp
    cases h1
  · obtain ⟨cs', _, rfl⟩ := Option.map_eq_some_iff.1 hp
    cases h1
  · cases hp
theorem fields_told {d : Nat} {cs : List Value} {fuel : Nat} : ∀ {fs : List Field} {off : Nat} {l : List PK} {xs : List (DataW H × List MemPlace)}, fieldsK P d off fs = some l →
    (fs.mapM fun f => DataW.trod enc P W 0 sp held fuel f.type ((cs.drop f.offset).take (P.cellsOf f.type))) = some xs → cs.length = off + l.length → ToldL W l (cs.drop off)
  | [], off, l, xs, h, _, hl => by
    simp only [fieldsK,Option.some.injEq] at h
    subst h
    rw [List.drop_eq_nil_of_le (by simp at hl; omega)]
    trivial
  | f :: fs, off, l, xs, h, hm, hl => by
    simp only [fieldsK] at h
    split at h
    · rename_i p hp
      split at h
      · rename_i hc
        simp only [Bool.and_eq_true,decide_eq_true_eq] at hc
        split at h
        · rename_i l' hl'
          cases h
          rw [List.mapM_cons] at hm
          cases h1 : DataW.trod enc P W 0 sp held fuel f.type ((cs.drop f.offset).take (P.cellsOf f.type)) with
          | none => rw [h1] at hm; cases hm
          | some y =>
            cases h2 : (fs.mapM fun f => DataW.trod enc P W 0 sp held fuel f.type ((cs.drop f.offset).take (P.cellsOf f.type))) with
            | none => rw [h1,h2] at hm; cases hm
            | some ys =>
              rw [hc.2.1,hc.2.2] at h1
              obtain ⟨v,hv,ht⟩ := field_told hp hc.1 h1
              have a2 := fields_told hl' h2 (by rw [hl,List.length_cons]; omega)
              have e : cs.drop off = v :: cs.drop (off + 1) := by
                have hlt : off < cs.length := by rw [hl,List.length_cons]; omega
                rw [List.drop_eq_getElem_cons hlt] at hv ⊢
                simp only [List.take_succ_cons,List.take_zero,List.cons.injEq,and_true] at hv
                rw [hv]
              rw [e]
              exact ⟨ht,a2⟩
        · cases h
      · cases h
    · cases h
theorem symArgs_app : ∀ (ps qs : List PK) (n k : Nat), symArgs (ps ++ qs) n k = symArgs ps n k ++ symArgs qs (n + sizeL ps) (k + rowsL ps)
  | [],qs,n,k => by simp only [List.nil_append,symArgs,sizeL,rowsL,Nat.add_zero]
  | p :: ps,qs,n,k => by simp only [List.cons_append,symArgs,symArgs_app ps qs,sizeL,rowsL,Nat.add_assoc]
theorem symArgs_len : ∀ (ps : List PK) (n k : Nat), (symArgs ps n k).length = ps.length
  | [],_,_ => rfl
  | p :: ps,n,k => by simp only [symArgs,List.length_cons,symArgs_len ps]
inductive FlatV (P : Program) : List AK → List Value → List Value → Prop
  | nil : FlatV P [] [] []
  | pk {x : PK} {l : List AK} {v : Value} {vs us : List Value} : FlatV P l vs us → FlatV P (.pk x :: l) (v :: vs) (v :: us)
  | st {ps : List PK} {l : List AK} {cs : Array Value} {vs us : List Value} : (ps.all oneB = true) → ps.length = cs.toList.length → FlatV P l vs us → FlatV P (.st ps :: l) (.agg cs :: vs) (cs.toList ++ us)
theorem tolds_ofG {d : Nat} : ∀ {ts : List TypeId} {gs : List AK} (_ : kindsG P d ts = some gs) {vs : List Value} {ds : List (DataW H)} {ps : List MemPlace} (_ : ∀ (j : Nat) t v, ts[j]? = some t → vs[j]? = some v → Value.okWide P W .any b0 t v)
    (_ : DataW.TrodAll enc P W 0 sp held ts vs ds ps), ∃ us,FlatV P gs vs us ∧ ∃ ns tb bo,Tolds W (flatG gs) us ns tb bo
  | [], gs, h, vs, ds, ps, _, ht => by
    simp only [kindsG,Option.some.injEq] at h
    subst h
    cases vs with
    | nil => exact ⟨[], .nil, [],fun _ _ _ => 0,fun _ => none,⟨rfl,fun i x hi => by simp [flatG,totR] at hi,fun E n k ρ _ _ _ => ⟨trivial,trivial,fun m o hm => by simp [flatG,symHeap,look] at hm,fun r hr => by simp [flatG,totR] at hr⟩⟩⟩
    | cons v vs => cases ds <;> exact ht.elim
  | t :: ts, gs, h, vs, ds, ps, hv, ht => by
    simp only [kindsG] at h
    split at h
    · rename_i a ks h1 h2
      cases h
      obtain ⟨v,vs',d',ds',p',q',rfl,rfl,rfl,hd,hrest⟩ := trodAll_cons ht
      obtain ⟨us,hus,g2⟩ := tolds_ofG h2 (fun j t v h3 h4 => hv (j + 1) t v (by simpa using h3) (by simpa using h4)) hrest
      have hw := hv 0 t v rfl rfl
      unfold kindG at h1
      split at h1
      · rename_i p hp
        cases h1
        exact ⟨v :: us, .pk hus,ToldL.app g2 (ps := [p]) (vs := [v]) ⟨told_of hp (Shape.of hw) hd,trivial⟩⟩
      · split at h1
        · rename_i fs hu
          split at h1
          · rename_i l hl
            split at h1
            · rename_i hlen
              cases h1
              obtain ⟨cs,rfl⟩ := (Shape.of hw).g (.inl ⟨fs,hu⟩)
              obtain ⟨fuel,hf⟩ := hd
              have hx := hf
              cases fuel with
              | zero => simp [DataW.trod] at hx
              | succ fuel =>
                unfold DataW.trod at hx
                rw [hu] at hx
                have hc : (Value.agg cs).cells = cs := rfl
                rw [hc] at hx
                have hx' : (if cs.toList.length = P.cellsOf t then (fs.toList.mapM fun f => DataW.trod enc P W 0 sp held fuel f.type ((cs.toList.drop f.offset).take (P.cellsOf f.type))).map fun xs => ((.agg (xs.map (·.1)), xs.flatMap (·.2)) : DataW H × List MemPlace) else none) = some (d', p') := by
                  revert hx
                  generalize cs.toList = l0
                  cases l0 with
                  | nil => exact id
                  | cons c l0 => cases l0 <;> cases c <;> exact id
                split at hx'
                · rename_i hcl
                  cases hm : (fs.toList.mapM fun f => DataW.trod enc P W 0 sp held fuel f.type ((cs.toList.drop f.offset).take (P.cellsOf f.type))) with
                  | none => rw [hm] at hx'; cases hx'
                  | some xs =>
                    have hT := fields_told hl hm (by rw [hcl,hlen]; omega)
                    rw [List.drop_zero] at hT
                    have hone : ∀ {fs : List Field} {off : Nat} {l : List PK}, fieldsK P d off fs = some l → l.all oneB = true := by
                      intro fs
                      induction fs with
                      | nil => intro off l h; simp only [fieldsK,Option.some.injEq] at h; subst h; rfl
                      | cons f fs ih =>
                        intro off l h
                        simp only [fieldsK] at h
                        split at h
                        · split at h
                          · rename_i hc
                            simp only [Bool.and_eq_true,decide_eq_true_eq] at hc
                            split at h
                            · rename_i l' hl'
                              cases h
                              rw [List.all_cons,hc.1,ih hl']; rfl
                            · cases h
                          · cases h
                        · cases h
                    exact ⟨cs.toList ++ us, .st (hone hl) (by rw [hcl,hlen]) hus,ToldL.app g2 hT⟩
                · cases hx'
            · cases h1
          · cases h1
        · cases h1
    · cases h
theorem symOne {E : Env} {ρ : Rho} {p : PK} (h : oneB p = true) {n k : Nat} {v : Value} (hv : @SV.is E ρ (p.sym n k) v) : @SC.is E ρ (toSC (p.sym n k)) v := by
  cases p with
  | one c => exact hv
  | sl cs => exact hv
  | agg cs => cases h
theorem symOnes {E : Env} {ρ : Rho} : ∀ {ps : List PK} {n k : Nat} {vs : List Value}, ps.all oneB = true → All2 (@SV.is E ρ) (symArgs ps n k) vs → All2 (@SC.is E ρ) ((symArgs ps n k).map toSC) vs
  | [],_,_, [],_,_ => trivial
  | p :: ps, n, k, v :: vs, h, hv => by
    rw [List.all_cons,Bool.and_eq_true] at h
    exact ⟨symOne h.1 hv.1,symOnes h.2 hv.2⟩
  | [],_,_,_ :: _,_,h => h.elim
  | _ :: _,_,_, [],_,h => h.elim
theorem symG {E : Env} {ρ : Rho} : ∀ {gs : List AK} {vs us : List Value} {n k : Nat}, FlatV P gs vs us → All2 (@SV.is E ρ) (symArgs (flatG gs) n k) us → All2 (@SV.is E ρ) (symArgsG gs n k) vs
  | _,_,_,n,k, .nil,_ => trivial
  | _,_,_,n,k, .pk h,ha => ⟨ha.1,symG h ha.2⟩
  | _, _, _, n, k, .st (ps := ps) (l := l) (cs := cs) (us := us) h1 h2 h, ha => by
    have ha' : All2 (@SV.is E ρ) (symArgs ps n k ++ symArgs (flatG l) (n + sizeL ps) (k + rowsL ps)) (cs.toList ++ us) := by
      rw [← symArgs_app]; exact ha
    have hl : (symArgs ps n k).length = cs.toList.length := by rw [symArgs_len,h2]
    have h3 := @All2.take E _ _ _ _ _ ha' (symArgs ps n k).length
    have h4 := @All2.drop E _ _ _ _ _ ha' (symArgs ps n k).length
    rw [List.take_left,hl,List.take_left] at h3
    rw [List.drop_left,hl,List.drop_left] at h4
    exact ⟨⟨cs,rfl,symOnes h1 h3⟩,symG h h4⟩
end
end Go.Proofs.Ytafemlljemhkhaa.Sx
