import Derived.Test.YtafemlljemhkhaaPSxFbc
namespace Go.Proofs.Ytafemlljemhkhaa.Sx
open Go
set_option linter.unusedSectionVars false
set_option linter.unusedVariables false
set_option linter.unusedSimpArgs false
def GoodL (P : Program) (rs : Array ResultVar) (cuts : List Cut) (Φ : List Nat → Env → Prop) (R : Value → Prop) (E : Env) (old : Option (List (IE × IE))) : RR → Prop
  | .at_ p s => ∃ k,k ∈ cuts ∧ k.p = p ∧ ∃ S : Sub,fitSS S k.I s = true ∧ (∀ b ∈ k.fs, @BE.val (E.by S) b = true) ∧ Φ p (E.by S) ∧ ∀ o,old = some o → Lx (@valsM (E.by S) k.ms) (@valsM E o)
  | .fin s => ∃ sv, @resS E Empty _ P rs s.l s.h = .leaf sv ∧ ∀ ρ v, @SV.is E ρ sv v → R v
theorem floydG {P : Program} (hm : P.follows .mixedOrders = true) {c : [Env] → CallF Empty} (hc : ∀ [Env], CallOk P c) {x : Extra Empty} (hx : ∀ [Env], ExtraOk P x) {B g : Nat} {fn : Func} {root : Code} (hf : P.funcs[g]? = some fn) (hb : fn.body = some root)
    {cuts : List Cut} {Φ : List Nat → Env → Prop} {R : Value → Prop} (hl : (cuts.all fun k => isLoop (subAt root k.p) && Nat.ble k.ms.length 9) = true)
    (hcuts : ∀ (E : Env) (k : Cut),k ∈ cuts → (∀ b ∈ k.fs, @BE.val E b = true) → Φ k.p E → (@segAt E P c x B root cuts k).holds (GoodL P fn.results cuts Φ R E (some k.ms)))
    {args : List SV} {h0 : Heap Empty} (E : Env) (hstart : (@segStart E P c x B root cuts fn.ntmps args h0).holds (GoodL P fn.results cuts Φ R E none))
    {ρ : Rho} {F : Nat → Nat → Prop} {w : World} {argv : Array Value} (H : @HeapOk E Empty _ ρ F h0 w) (ha : All2 (@SV.is E ρ) args argv.toList) :
    Calls P g argv w fun e w' => ∃ v,e = .returned v ∧ R v ∧ ∃ ρ' F',Reach ρ F w ρ' F' w' := by
  let Q := bodyPost P fn fun e w' => ∃ v,e = .returned v ∧ R v ∧ ∃ ρ' F',Reach ρ F w ρ' F' w'
  have hleaf : ∀ (E : Env) (old : Option (List (IE × IE))), (∀ (k : Cut), k ∈ cuts → ∀ (E' : Env) (ρ1 : Rho) (F1 : Nat → Nat → Prop) (a : Act) (w1 : World), (∀ b ∈ k.fs, @BE.val E' b = true) → Φ k.p E' → @HeapOk E' Empty _ ρ1 F1 k.I.h w1 → @TmpsOk E' ρ1 [] k.I.l a → Reach ρ F w ρ1 F1 w1 →
        (∀ o,old = some o → Lx (@valsM E' k.ms) (@valsM E o)) → AtR P root Q k.p a w1) →
      ∀ l,GoodL P fn.results cuts Φ R E old l → @XR E P root Q (Reach ρ F w) l := by
    intro E old ih l hok
    cases l with
    | at_ p s =>
      intro ρ1 F1 a w1 hT H1 R1
      obtain ⟨k,hmem,hp,S,hfit,hfs,hphi,hlx⟩ := hok
      obtain ⟨ρ2,F2,g1,g2,g3⟩ := fitSS_ok E hfit H1 hT
      have := ih k hmem (E.by S) ρ2 F2 a w1 hfs (by rw [hp]; exact hphi) g1 g2 (R1.ren g3) hlx
      rw [hp] at this
      exact this
    | fin s =>
      intro ρ1 F1 a w1 hT H1 R1
      obtain ⟨sv,hres,hR⟩ := hok
      have key : a.defers = [] ∧ ∃ v, (results fn a.tmps).run P w1 = .ok v w1 ∧ (∃ v', Ending.returned v = .returned v' ∧ R v' ∧ ∃ ρ' F', Reach ρ F w ρ' F' w1) := by
        obtain ⟨s',v,k1,k2,k3⟩ := @resS_ok E Empty _ P fn _ _ _ _ _ _ H1 hT (K := fun s' => s' = sv) (by rw [hres]; rfl)
        subst k1
        exact ⟨hT.defers,v,k3,v,rfl,hR _ v k2,_,_,R1⟩
      exact ⟨key,key⟩
  have claim : ∀ (v : List Nat), v.length ≤ 9 → ∀ k ∈ cuts, ∀ (E : Env) (ρ1 : Rho) (F1 : Nat → Nat → Prop) (a : Act) (w1 : World), (∀ b ∈ k.fs, @BE.val E b = true) → Φ k.p E → @HeapOk E Empty _ ρ1 F1 k.I.h w1 → @TmpsOk E ρ1 [] k.I.l a → Reach ρ F w ρ1 F1 w1 →
      @valsM E k.ms = v → AtR P root Q k.p a w1 := by
    intro v hv
    induction Lx_acc 9 v hv with
    | intro v _ ih =>
      intro k hk E ρ1 F1 a w1 hfs hphi H1 hT R1 hvals
      have hk1 := List.all_eq_true.1 hl k hk
      simp only [Bool.and_eq_true,Nat.ble_eq] at hk1
      have hseg := hcuts E k hk hfs hphi
      have htree : (@segAt E P c x B root cuts k).holds (@XR E P root Q (Reach ρ F w)) := by
        refine Tree.holds_mono (hleaf E (some k.ms) (fun k' hk' E' ρ2 F2 a2 w2 f2 p2 H2 T2 R2 hlt => ?_)) hseg
        have hk2 := List.all_eq_true.1 hl k' hk'
        simp only [Bool.and_eq_true,Nat.ble_eq] at hk2
        have hlen : (@valsM E' k'.ms).length ≤ 9 := by rw [@valsM_len E']; exact hk2.2
        exact ih _ ⟨hlen,by rw [← hvals]; exact hlt _ rfl⟩ hlen k' hk' E' ρ2 F2 a2 w2 f2 p2 H2 T2 R2 rfl
      exact @segAt_ok E P c x B root cuts k Q _ (Reach.rl ρ F w) hm hc hx ρ1 F1 a w1 H1 hT R1 htree
  have hlen : args.length = argv.size := by have := @All2.length E _ _ _ _ _ ha; simpa using this
  refine calls_of_wp hf hb ?_
  have htree : (@segStart E P c x B root cuts fn.ntmps args h0).holds (@XR E P root Q (Reach ρ F w)) := by
    refine Tree.holds_mono (hleaf E none (fun k hk E' ρ2 F2 a2 w2 f2 p2 H2 T2 R2 _ => ?_)) hstart
    have hk2 := List.all_eq_true.1 hl k hk
    simp only [Bool.and_eq_true,Nat.ble_eq] at hk2
    exact claim _ (by rw [@valsM_len E']; exact hk2.2) k hk E' ρ2 F2 a2 w2 f2 p2 H2 T2 R2 rfl
  refine @segC_ok E P c x B _ root Q (Reach ρ F w) (Reach.rl ρ F w) hm hc hx root [] _ ρ F _ w _ rfl H ?_ (Reach.refl ρ F w) (@contT_ok E P c x B _ root Q (Reach ρ F w) (Reach.rl ρ F w) hm hc hx []) htree
  have hall : All2 (@SV.is E ρ) (args ++ List.replicate (fn.ntmps - args.length) undefS) (argv ++ Array.replicate (fn.ntmps - argv.size) undef).toList := by
    rw [Array.toList_append,Array.toList_replicate,hlen]
    exact @All2.append E _ _ _ _ _ _ _ ha (@All2.replicate E _ _ _ _ _ (undefS_is ρ) _)
  refine @TmpsOk.mk E ρ [] _ _ (by have := @All2.length E _ _ _ _ _ hall; simpa using this.symm) (fun i s _ hs => ?_) rfl
  obtain ⟨v,hv,hsv⟩ := @All2.get E _ _ _ _ _ hall i s hs
  exact ⟨v,by rw [← Array.getElem?_toList]; exact hv,hsv⟩
end Go.Proofs.Ytafemlljemhkhaa.Sx
namespace Go.Proofs.Ytafemlljemhkhaa.Sx
open Go
set_option linter.unusedSectionVars false
set_option linter.unusedVariables false
set_option linter.unusedSimpArgs false
def unL : IE → Option (List IE)
  | .nilL => some []
  | .consL x l => match unL l with
    | some m => some (x :: m)
    | none => none
  | _ => none
theorem unL_lst [Env] : ∀ {a : IE} {l : List IE}, unL a = some l → a.lst = l.map IE.val := by
  intro a
  induction a <;> intro l h <;> (try (simp only [unL,reduceCtorEq] at h; done))
  case nilL => simp only [unL,Option.some.injEq] at h; subst h; simp [IE.lst]
  case consL x l ih1 ih2 =>
    simp only [unL] at h
    split at h
    · rename_i m hm
      cases h
      simp only [IE.lst,ih2 hm,List.map_cons]
    · cases h
def lq (a b : IE) : BE := .cmp .leq a b
def ls (a b : IE) : BE := .cmp .lss a b
def ands : List BE → BE
  | [] => .lit true
  | [b] => b
  | b :: l => .and b (ands l)
theorem ands_val [Env] : ∀ {l : List BE}, (∀ b ∈ l, b.val = true) → (ands l).val = true
  | [],_ => rfl
  | [b],h => h b (List.mem_cons_self ..)
  | b :: c :: l, h => by
    show (b.val && (ands (c :: l)).val) = true
    rw [h b (List.mem_cons_self ..),ands_val (l := c :: l) (fun x hx => h x (List.mem_cons_of_mem _ hx))]
    rfl
def isW (a : IE) : BE := .cmp .neq (.fn 1 a) (.lit 0)
def sch : IE → Ths
  | .fn d a => match unL a with
    | some [w] => (match d with
      | 5 => [([],ands [lq (.lit 0) (.fn 5 a),lq (.fn 5 a) (.lit 4294967295)])]
      | _ => [])
    | some [t, s, c, h, k, e, m] => (match d with
      | 1 => [([isW a],ands [lq (.lit 1) t,lq t (.lit 8),lq (.lit 1) s,lq s (.lit 8),lq (.lit 1) c,lq c (.lit 64),lq (.lit 1) h,lq h (.lit 6),lq (.lit 1) k,lq k (.lit 64),lq (.lit 1) e,lq e (.lit 64),lq (.lit 0) m,lq m (.lit 1073741823)])]
      | 2 => [([isW a],ands [lq (.lit 16) (.fn 2 a),lq (.fn 2 a) (.lit 845), .cmp .eql (.nat (.fn 2 a)) (.fn 2 a)])]
      | _ => [])
    | some [t, s, c, h, k, e, m, x, y] => (match d with
      | 3 => [([lq (.lit 0) (.fn 3 a)],ands [isW (listE [t,s,c,h,k,e,m]),lq (.lit 1) (.fn 3 a),lq (.fn 3 a) (.lit 64),ls (.fn 3 a) (.fn 2 (listE [t,s,c,h,k,e,m])),ls (.fn 3 a) (.nat (.fn 2 (listE [t,s,c,h,k,e,m])))]),([isW (listE [t,s,c,h,k,e,m]),lq (.lit 0) x,ls x t,lq (.lit 0) y,ls y s],ands [lq (.lit 1) (.fn 3 a),lq (.fn 3 a) (.lit 64),ls (.fn 3 a) (.fn 2 (listE [t,s,c,h,k,e,m])),ls (.fn 3 a) (.nat (.fn 2 (listE [t,s,c,h,k,e,m])))])]
      | 4 => [([lq (.lit 0) (.fn 4 a)],ands [isW (listE [t,s,c,h,k,e,m]),lq (.lit 2) (.fn 4 a),lq (.fn 4 a) (.lit 844),ls (.fn 4 a) (.fn 2 (listE [t,s,c,h,k,e,m])),ls (.fn 4 a) (.nat (.fn 2 (listE [t,s,c,h,k,e,m])))]),([isW (listE [t,s,c,h,k,e,m]),lq (.lit 0) x,lq x c,lq (.lit 0) y,lq y (.lit 6)],ands [lq (.lit 2) (.fn 4 a),lq (.fn 4 a) (.lit 844),ls (.fn 4 a) (.fn 2 (listE [t,s,c,h,k,e,m])),ls (.fn 4 a) (.nat (.fn 2 (listE [t,s,c,h,k,e,m])))])]
      | _ => [])
    | _ => []
  | .nat a => [([lq (.lit 0) a], .cmp .eql (.nat a) a)]
  | .conv k a => [([lq (.lit k.min) a,lq a (.lit k.max)], .cmp .eql (.conv k a) a)]
  | .op .add .i64 a (.lit 1) => [([lq (.lit 0) a,lq a (.lit 9223372036854775806)],ands [lq (.lit 1) (.op .add .i64 a (.lit 1)),ls a (.op .add .i64 a (.lit 1))])]
  | _ => []
theorem lq_val [Env] (a b : IE) : (lq a b).val = true ↔ a.val ≤ b.val := by
  show decide (a.val ≤ b.val) = true ↔ _
  exact decide_eq_true_iff
theorem ls_val [Env] (a b : IE) : (ls a b).val = true ↔ a.val < b.val := by
  show decide (a.val < b.val) = true ↔ _
  exact decide_eq_true_iff
theorem lit_val [Env] (n : Int) : (IE.lit n).val = n := rfl
theorem isW_val [Env] {a : IE} {t s c h k e m : Int} (ha : a.lst = [t, s, c, h, k, e, m]) (hw : (isW a).val = true) : rightP t s c h k e m := by
  have h1 : (funs 1 a.lst != 0) = true := by simpa [isW,BE.val,IE.val,cmpVal] using hw
  rw [ha] at h1
  by_cases hr : rightP t s c h k e m
  · exact hr
  · simp only [funs, show Nat.ble 1000 1 = false from rfl, cond_false, funsA, hr, if_false] at h1
    cases h1
theorem lenF_rng {t s c h k e m : Int} (hr : rightP t s c h k e m) : 16 ≤ lenF t s c h k e m ∧ lenF t s c h k e m ≤ 845 ∧ lenF t s c h k e m = 1 + t * s + (c + 1) * (6 + h) := by
  have hr' := hr
  obtain ⟨t1,t2,s1,s2,c1,c2,h1,h2,_⟩ := hr'
  unfold lenF
  rw [if_pos hr]
  have a1 : t * s ≤ 8 * 8 := Int.mul_le_mul t2 s2 (by omega) (by omega)
  have a2 : 1 * 1 ≤ t * s := Int.mul_le_mul t1 s1 (by omega) (by omega)
  have b1 : (c + 1) * (6 + h) ≤ 65 * 12 := Int.mul_le_mul (by omega) (by omega) (by omega) (by omega)
  have b2 : 2 * 7 ≤ (c + 1) * (6 + h) := Int.mul_le_mul (by omega) (by omega) (by omega) (by omega)
  omega
theorem sch_ok : ∀ (x : IE), ThsOk (sch x) := by
  intro x E t ht hp
  letI := E
  unfold sch at ht
  split at ht
  · rename_i d a
    split at ht
    · rename_i w hu
      split at ht
      · simp only [List.mem_cons, List.not_mem_nil, or_false] at ht
        subst ht
        have ha := unL_lst hu
        have hv : (IE.fn 5 a).val = w.val % 4294967296 := by simp only [IE.val,ha]; rfl
        refine ands_val fun b hb => ?_
        simp only [List.mem_cons,List.not_mem_nil,or_false] at hb
        rcases hb with rfl | rfl
        · rw [lq_val,hv,lit_val]; omega
        · rw [lq_val,hv,lit_val]; omega
      · cases ht
    · rename_i t0 s c h k e m hu
      have ha := unL_lst hu
      split at ht
      · simp only [List.mem_cons, List.not_mem_nil, or_false] at ht
        subst ht
        have hr := isW_val ha (hp _ (List.mem_cons_self ..))
        obtain ⟨r1,r2,r3,r4,r5,r6,r7,r8,r9,r10,r11,r12,r13,r14⟩ := hr
        refine ands_val fun b hb => ?_
        simp only [List.mem_cons,List.not_mem_nil,or_false] at hb
        rcases hb with rfl | rfl | rfl | rfl | rfl | rfl | rfl | rfl | rfl | rfl | rfl | rfl | rfl | rfl <;> (rw [lq_val,lit_val]; assumption)
      · simp only [List.mem_cons, List.not_mem_nil, or_false] at ht
        subst ht
        have hr := isW_val ha (hp _ (List.mem_cons_self ..))
        obtain ⟨g1,g2,_⟩ := lenF_rng hr
        have hv : (IE.fn 2 a).val = lenF t0.val s.val c.val h.val k.val e.val m.val := by simp only [IE.val,ha]; rfl
        refine ands_val fun b hb => ?_
        simp only [List.mem_cons,List.not_mem_nil,or_false] at hb
        rcases hb with rfl | rfl | rfl
        · rw [lq_val,hv,lit_val]; exact g1
        · rw [lq_val,hv,lit_val]; exact g2
        · have hn : (IE.nat (.fn 2 a)).val = ((IE.fn 2 a).val.toNat : Int) := by simp only [IE.val]
          show ((IE.nat (.fn 2 a)).val == (IE.fn 2 a).val) = true
          rw [hn,hv,beq_iff_eq]; omega
      · cases ht
    · rename_i t0 s c h k e m x y hu
      have ha := unL_lst hu
      have hl7 : (listE [t0,s,c,h,k,e,m]).lst = [t0.val,s.val,c.val,h.val,k.val,e.val,m.val] := listE_lst _
      have hv2 : (IE.fn 2 (listE [t0,s,c,h,k,e,m])).val = lenF t0.val s.val c.val h.val k.val e.val m.val := by simp only [IE.val,hl7]; rfl
      have hn2 : (IE.nat (.fn 2 (listE [t0,s,c,h,k,e,m]))).val = ((IE.fn 2 (listE [t0,s,c,h,k,e,m])).val.toNat : Int) := by simp only [IE.val]
      split at ht
      · have core : ∀ (hr : rightP t0.val s.val c.val h.val k.val e.val m.val) (p1 : 0 ≤ x.val) (p2 : x.val < t0.val) (p3 : 0 ≤ y.val) (p4 : y.val < s.val), 1 ≤ (IE.fn 3 a).val ∧ (IE.fn 3 a).val ≤ 64 ∧ (IE.fn 3 a).val < (IE.fn 2 (listE [t0, s, c, h, k, e, m])).val := by
          intro hr p1 p2 p3 p4
          obtain ⟨g1,g2,g3⟩ := lenF_rng hr
          have hv : (IE.fn 3 a).val = 1 + x.val * s.val + y.val := by
            have : (IE.fn 3 a).val = reservedF t0.val s.val c.val h.val k.val e.val m.val x.val y.val := by simp only [IE.val,ha]; rfl
            rw [this,reservedF,if_pos ⟨hr,p1,p2,p3,p4⟩]
          obtain ⟨t1,t2,s1,s2,c1,c2,h1,h2,_⟩ := hr
          have m1 : 0 ≤ x.val * s.val := Int.mul_nonneg p1 (by omega)
          have m2 : (x.val + 1) * s.val ≤ t0.val * s.val := Int.mul_le_mul (by omega) (Int.le_refl _) (by omega) (by omega)
          have m3 : t0.val * s.val ≤ 8 * 8 := Int.mul_le_mul t2 s2 (by omega) (by omega)
          have m4 : 2 * 7 ≤ (c.val + 1) * (6 + h.val) := Int.mul_le_mul (by omega) (by omega) (by omega) (by omega)
          rw [Int.add_mul] at m2
          rw [hv,hv2,g3]
          omega
        simp only [List.mem_cons,List.not_mem_nil,or_false] at ht
        rcases ht with rfl | rfl
        · have p0 := (lq_val _ _).1 (hp _ (List.mem_cons_self ..))
          rw [lit_val] at p0
          have he : (IE.fn 3 a).val = reservedF t0.val s.val c.val h.val k.val e.val m.val x.val y.val := by simp only [IE.val,ha]; rfl
          have hA : rightP t0.val s.val c.val h.val k.val e.val m.val ∧ 0 ≤ x.val ∧ x.val < t0.val ∧ 0 ≤ y.val ∧ y.val < s.val := by
            apply Classical.byContradiction
            intro hn
            rw [he,reservedF,if_neg hn] at p0
            omega
          obtain ⟨q1,q2,q3⟩ := core hA.1 hA.2.1 hA.2.2.1 hA.2.2.2.1 hA.2.2.2.2
          have hw : (isW (listE [t0, s, c, h, k, e, m])).val = true := by
            have : (IE.fn 1 (listE [t0,s,c,h,k,e,m])).val = 1 := by simp only [IE.val,hl7,funs,show Nat.ble 1000 1 = false from rfl,cond_false,funsA]; rw [if_pos hA.1]
            show ((IE.fn 1 (listE [t0,s,c,h,k,e,m])).val != (IE.lit 0).val) = true
            rw [this]; rfl
          refine ands_val fun b hb => ?_
          simp only [List.mem_cons,List.not_mem_nil,or_false] at hb
          rcases hb with rfl | rfl | rfl | rfl | rfl
          · exact hw
          · rw [lq_val,lit_val]; exact q1
          · rw [lq_val,lit_val]; exact q2
          · rw [ls_val]; exact q3
          · rw [ls_val,hn2]; omega
        · have hr := isW_val hl7 (hp _ (List.mem_cons_self ..))
          have p1 := (lq_val _ _).1 (hp (lq (.lit 0) x) (by simp))
          have p2 := (ls_val _ _).1 (hp (ls x t0) (by simp))
          have p3 := (lq_val _ _).1 (hp (lq (.lit 0) y) (by simp))
          have p4 := (ls_val _ _).1 (hp (ls y s) (by simp))
          rw [lit_val] at p1 p3
          obtain ⟨q1,q2,q3⟩ := core hr p1 p2 p3 p4
          refine ands_val fun b hb => ?_
          simp only [List.mem_cons,List.not_mem_nil,or_false] at hb
          rcases hb with rfl | rfl | rfl | rfl
          · rw [lq_val,lit_val]; exact q1
          · rw [lq_val,lit_val]; exact q2
          · rw [ls_val]; exact q3
          · rw [ls_val,hn2]; omega
      · have core : ∀ (hr : rightP t0.val s.val c.val h.val k.val e.val m.val) (p1 : 0 ≤ x.val) (p2 : x.val ≤ c.val) (p3 : 0 ≤ y.val) (p4 : y.val < 6 + h.val), 2 ≤ (IE.fn 4 a).val ∧ (IE.fn 4 a).val ≤ 844 ∧ (IE.fn 4 a).val < (IE.fn 2 (listE [t0, s, c, h, k, e, m])).val := by
          intro hr p1 p2 p3 p4
          obtain ⟨g1,g2,g3⟩ := lenF_rng hr
          have hr' := hr
          obtain ⟨t1,t2,s1,s2,c1,c2,h1,h2,_⟩ := hr'
          have hv : (IE.fn 4 a).val = 1 + t0.val * s.val + x.val * (6 + h.val) + y.val := by
            have : (IE.fn 4 a).val = cellF t0.val s.val c.val h.val k.val e.val m.val x.val y.val := by simp only [IE.val,ha]; rfl
            rw [this,cellF,if_pos ⟨hr,p1,p2,p3,p4⟩]
          have m1 : 0 ≤ x.val * (6 + h.val) := Int.mul_nonneg p1 (by omega)
          have m2 : (x.val + 1) * (6 + h.val) ≤ (c.val + 1) * (6 + h.val) := Int.mul_le_mul (by omega) (Int.le_refl _) (by omega) (by omega)
          have m3 : 1 * 1 ≤ t0.val * s.val := Int.mul_le_mul t1 s1 (by omega) (by omega)
          have m5 : (x.val + 1) * (6 + h.val) = x.val * (6 + h.val) + (6 + h.val) := by rw [Int.add_mul,Int.one_mul]
          rw [hv,hv2,g3]
          rw [g3] at g2
          omega
        simp only [List.mem_cons,List.not_mem_nil,or_false] at ht
        rcases ht with rfl | rfl
        · have p0 := (lq_val _ _).1 (hp _ (List.mem_cons_self ..))
          rw [lit_val] at p0
          have he : (IE.fn 4 a).val = cellF t0.val s.val c.val h.val k.val e.val m.val x.val y.val := by simp only [IE.val,ha]; rfl
          have hA : rightP t0.val s.val c.val h.val k.val e.val m.val ∧ 0 ≤ x.val ∧ x.val ≤ c.val ∧ 0 ≤ y.val ∧ y.val < 6 + h.val := by
            apply Classical.byContradiction
            intro hn
            rw [he,cellF,if_neg hn] at p0
            omega
          obtain ⟨q1,q2,q3⟩ := core hA.1 hA.2.1 hA.2.2.1 hA.2.2.2.1 hA.2.2.2.2
          have hw : (isW (listE [t0, s, c, h, k, e, m])).val = true := by
            have : (IE.fn 1 (listE [t0,s,c,h,k,e,m])).val = 1 := by simp only [IE.val,hl7,funs,show Nat.ble 1000 1 = false from rfl,cond_false,funsA]; rw [if_pos hA.1]
            show ((IE.fn 1 (listE [t0,s,c,h,k,e,m])).val != (IE.lit 0).val) = true
            rw [this]; rfl
          refine ands_val fun b hb => ?_
          simp only [List.mem_cons,List.not_mem_nil,or_false] at hb
          rcases hb with rfl | rfl | rfl | rfl | rfl
          · exact hw
          · rw [lq_val,lit_val]; exact q1
          · rw [lq_val,lit_val]; exact q2
          · rw [ls_val]; exact q3
          · rw [ls_val,hn2]; omega
        · have hr := isW_val hl7 (hp _ (List.mem_cons_self ..))
          have p1 := (lq_val _ _).1 (hp (lq (.lit 0) x) (by simp))
          have p2 := (lq_val _ _).1 (hp (lq x c) (by simp))
          have p3 := (lq_val _ _).1 (hp (lq (.lit 0) y) (by simp))
          have p4 := (lq_val _ _).1 (hp (lq y (.lit 6)) (by simp))
          rw [lit_val] at p1 p3 p4
          have hh := hr.2.2.2.2.2.2.1
          obtain ⟨q1,q2,q3⟩ := core hr p1 p2 p3 (by omega)
          refine ands_val fun b hb => ?_
          simp only [List.mem_cons,List.not_mem_nil,or_false] at hb
          rcases hb with rfl | rfl | rfl | rfl
          · rw [lq_val,lit_val]; exact q1
          · rw [lq_val,lit_val]; exact q2
          · rw [ls_val]; exact q3
          · rw [ls_val,hn2]; omega
      · cases ht
    · cases ht
  · rename_i a
    simp only [List.mem_cons,List.not_mem_nil,or_false] at ht
    subst ht
    have p1 := (lq_val _ _).1 (hp _ (List.mem_cons_self ..))
    rw [lit_val] at p1
    show ((IE.nat a).val == a.val) = true
    have hn : (IE.nat a).val = (a.val.toNat : Int) := by simp only [IE.val]
    rw [hn,beq_iff_eq]; omega
  · rename_i k a
    simp only [List.mem_cons,List.not_mem_nil,or_false] at ht
    subst ht
    have p1 := (lq_val _ _).1 (hp (lq (.lit k.min) a) (by simp))
    have p2 := (lq_val _ _).1 (hp (lq a (.lit k.max)) (by simp))
    rw [lit_val] at p1 p2
    show ((IE.conv k a).val == a.val) = true
    have hn : (IE.conv k a).val = k.wrap a.val := by simp only [IE.val]
    rw [hn,beq_iff_eq]
    generalize a.val = z at p1 p2
    cases k <;> simp [IntKind.wrap,IntKind.min,IntKind.max,IntKind.signed,IntKind.bits] at p1 p2 ⊢ <;> (try split) <;> omega
  · rename_i a
    simp only [List.mem_cons,List.not_mem_nil,or_false] at ht
    subst ht
    have p1 := (lq_val _ _).1 (hp (lq (.lit 0) a) (by simp))
    have p2 := (lq_val _ _).1 (hp (lq a (.lit 9223372036854775806)) (by simp))
    rw [lit_val] at p1 p2
    have hv : (IE.op .add .i64 a (.lit 1)).val = a.val + 1 := by
      show IntKind.i64.wrap (a.val + 1) = _
      exact wrap64_small (by omega) (by omega)
    refine ands_val fun b hb => ?_
    simp only [List.mem_cons,List.not_mem_nil,or_false] at hb
    rcases hb with rfl | rfl
    · rw [lq_val,hv,lit_val]; omega
    · rw [ls_val,hv]; omega
  · cases ht
def memE (x : IE) : List IE → Bool
  | [] => false
  | y :: l => IE.beq x y || memE x l
def insE (x : IE) (l : List IE) : List IE := bif memE x l then l else x :: l
def tmE : IE → List IE → List IE
  | .op .add .i64 a (.lit 1),l => insE (.op .add .i64 a (.lit 1)) (tmE a l)
  | .op _ _ a b,l => tmE b (tmE a l)
  | .conv k a,l => insE (.conv k a) (tmE a l)
  | .mn a b,l => tmE b (tmE a l)
  | .mx a b,l => tmE b (tmE a l)
  | .at_ a b _ _,l => insE (.nat b) (tmE b (tmE a l))
  | .dif a b,l => tmE b (tmE a l)
  | .nat a,l => insE (.nat a) (tmE a l)
  | .cmpI _ a b,l => tmE b (tmE a l)
  | .notI a,l => tmE a l
  | .andI a b,l => tmE b (tmE a l)
  | .eqI a b,l => tmE b (tmE a l)
  | .eqL a b,l => tmE b (tmE a l)
  | .ite c a b,l => tmE b (tmE a (tmE c l))
  | .get a b _,l => tmE b (tmE a l)
  | .len a,l => tmE a l
  | .tab _ a _,l => tmE a l
  | .fn d a,l => insE (.fn d a) (tmE a l)
  | .consL a b,l => tmE b (tmE a l)
  | .rep a _,l => tmE a l
  | .putL a b c,l => tmE c (tmE b (tmE a l))
  | .subL a b c _,l => tmE c (tmE b (tmE a l))
  | .ofTab _ a,l => tmE a l
  | .fnL _ a,l => tmE a l
  | .catL a b,l => tmE b (tmE a l)
  | .tabL _ a _,l => tmE a l
  | _,l => l
def tmB : BE → List IE → List IE
  | .cmp _ a b,l => tmE b (tmE a l)
  | .not a,l => tmB a l
  | .eq a b,l => tmB b (tmB a l)
  | .and a b,l => tmB b (tmB a l)
  | _,l => l
def rulesOf : List IE → Ths
  | [] => []
  | x :: l => sch x ++ rulesOf l
theorem rulesOf_ok : ∀ (l : List IE), ThsOk (rulesOf l)
  | [],E,t,h,_ => by cases h
  | x :: l, E, t, h, hp => by
    rcases List.mem_append.1 h with h | h
    · exact sch_ok x E t h hp
    · exact rulesOf_ok l E t h hp
def rules (b : BE) : Ths := rulesOf (tmB b []).reverse
def eqPair : BE → List (IE × IE)
  | .cmp .eql x y => bif numK x && numK y then [(x,y)] else []
  | .cmp .neq (.eqL x y) (.lit 0) => bif rowK x && rowK y then [(x,y)] else []
  | _ => []
def eqPairs : List BE → List (IE × IE)
  | [] => []
  | b :: l => eqPair b ++ eqPairs l
def flipR : List (IE × IE) → List (IE × IE)
  | [] => []
  | (x,y) :: l => (y,x) :: flipR l
theorem eqPair_ok [E : Env] {b : BE} (h : b.val = true) : Rs (eqPair b) := by
  intro p hp
  unfold eqPair at hp
  split at hp
  · rename_i x y
    cases hc : (numK x && numK y) with
    | false => rw [hc] at hp; cases hp
    | true =>
      rw [hc] at hp
      simp only [cond_true,List.mem_cons,List.not_mem_nil,or_false] at hp
      subst hp
      rw [Bool.and_eq_true] at hc
      exact ⟨eq_of_beq h,by rw [numK_lst E hc.1,numK_lst E hc.2]⟩
  · rename_i x y
    cases hc : (rowK x && rowK y) with
    | false => rw [hc] at hp; cases hp
    | true =>
      rw [hc] at hp
      simp only [cond_true,List.mem_cons,List.not_mem_nil,or_false] at hp
      subst hp
      rw [Bool.and_eq_true] at hc
      refine ⟨by rw [rowK_val E hc.1,rowK_val E hc.2], ?_⟩
      have h' : (ofB (decide (x.lst = y.lst)) != 0) = true := by simpa [BE.val,IE.val,cmpVal] using h
      by_cases e : x.lst = y.lst
      · exact e
      · rw [decide_eq_false e] at h'; cases h'
  · cases hp
theorem eqPairs_ok [Env] : ∀ {fs : List BE}, (∀ c ∈ fs, c.val = true) → Rs (eqPairs fs)
  | [],_,p,hp => by cases hp
  | b :: l, h, p, hp => by
    rcases List.mem_append.1 hp with hp | hp
    · exact eqPair_ok (h b (List.mem_cons_self ..)) p hp
    · exact eqPairs_ok (fun c hc => h c (List.mem_cons_of_mem _ hc)) p hp
theorem flipR_ok [Env] : ∀ {rs : List (IE × IE)}, Rs rs → Rs (flipR rs)
  | [],_,p,hp => by cases hp
  | (x, y) :: l, h, p, hp => by
    rcases List.mem_cons.1 hp with rfl | hp
    · have := h (x,y) (List.mem_cons_self ..); exact ⟨this.1.symm,this.2.symm⟩
    · exact flipR_ok (fun q hq => h q (List.mem_cons_of_mem _ hq)) p hp
def eqLk (fs : List BE) : BE → Bool
  | .cmp .neq (.eqL (.putL l o (.consL v .nilL)) y) (.lit 0) => IE.beq l y && (known0 fs (.cmp .eql v (.get l o 0)) || known0 fs (.cmp .eql (.get l o 0) v))
  | .cmp .neq (.eqL y (.putL l o (.consL v .nilL))) (.lit 0) => IE.beq l y && (known0 fs (.cmp .eql v (.get l o 0)) || known0 fs (.cmp .eql (.get l o 0) v))
  | _ => false
theorem put_back [Env] {l o v : IE} {fs : List BE} (hf : ∀ c ∈ fs, c.val = true) (h : known0 fs (.cmp .eql v (.get l o 0)) = true ∨ known0 fs (.cmp .eql (.get l o 0) v) = true) : (IE.putL l o (.consL v .nilL)).lst = l.lst := by
  have hv : v.val = (IE.get l o 0).val := by
    rcases h with h | h
    · exact eq_of_beq (known0_spec hf h)
    · exact (eq_of_beq (known0_spec hf h)).symm
  simp only [IE.val,Nat.add_zero] at hv
  simp only [IE.lst,hv]
  exact writeL_self _ _
theorem eqLk_spec [Env] {fs : List BE} (hf : ∀ c ∈ fs, c.val = true) {b : BE} (h : eqLk fs b = true) : b.val = true := by
  unfold eqLk at h
  split at h
  · rename_i l o v y
    simp only [Bool.and_eq_true,Bool.or_eq_true] at h
    have e := put_back hf h.2
    have e2 : (IE.eqL (.putL l o (.consL v .nilL)) y).val = 1 := by
      have : (IE.eqL (.putL l o (.consL v .nilL)) y).val = ofB (decide ((IE.putL l o (.consL v .nilL)).lst = y.lst)) := by simp only [IE.val]
      rw [this,e,IE.beq_eq h.1,decide_eq_true rfl]; rfl
    show ((IE.eqL (.putL l o (.consL v .nilL)) y).val != (IE.lit 0).val) = true
    rw [e2]; rfl
  · rename_i y l o v _
    simp only [Bool.and_eq_true,Bool.or_eq_true] at h
    have e := put_back hf h.2
    have e2 : (IE.eqL y (.putL l o (.consL v .nilL))).val = 1 := by
      have : (IE.eqL y (.putL l o (.consL v .nilL))).val = ofB (decide (y.lst = (IE.putL l o (.consL v .nilL)).lst)) := by simp only [IE.val]
      rw [this,e,IE.beq_eq h.1,decide_eq_true rfl]; rfl
    show ((IE.eqL y (.putL l o (.consL v .nilL))).val != (IE.lit 0).val) = true
    rw [e2]; rfl
  · cases h
def chain (fs : List BE) (b : BE) : List BE → Bool
  | [] => false
  | .cmp .lss x y :: l => (match b with
    | .cmp .leq u (.lit m) => IE.beq x u && known0 fs (.cmp .leq y (.lit (m + 1)))
    | .cmp .leq u z => IE.beq x u && known0 fs (.cmp .leq y z)
    | .cmp .lss u z => IE.beq x u && known0 fs (.cmp .leq y z)
    | .cmp .neq u z => (IE.beq x u && known0 fs (.cmp .leq y z)) || (IE.beq x z && known0 fs (.cmp .leq y u))
    | _ => false) || chain fs b l
  | .cmp .leq x y :: l => (match b with
    | .cmp .leq u z => IE.beq x u && known0 fs (.cmp .leq y z)
    | .cmp .lss u z => IE.beq x u && known0 fs (.cmp .lss y z)
    | _ => false) || chain fs b l
  | _ :: l => chain fs b l
theorem chain_spec [Env] {fs : List BE} (hf : ∀ c ∈ fs, c.val = true) {b : BE} : ∀ {l : List BE}, (∀ c ∈ l, c.val = true) → chain fs b l = true → b.val = true
  | [],_,h => by cases h
  | .cmp .lss x y :: l, hl, h => by
    have h0 : x.val < y.val := of_decide_eq_true (hl _ (List.mem_cons_self ..))
    simp only [chain,Bool.or_eq_true] at h
    rcases h with h | h
    · split at h
      · rw [Bool.and_eq_true] at h
        have h2 := of_decide_eq_true (known0_spec hf h.2)
        rw [IE.beq_eq h.1] at h0
        refine decide_eq_true ?_
        simp only [IE.val] at h2 ⊢
        omega
      · rw [Bool.and_eq_true] at h
        have h2 := of_decide_eq_true (known0_spec hf h.2)
        rw [IE.beq_eq h.1] at h0
        exact decide_eq_true (by omega)
      · rw [Bool.and_eq_true] at h
        have h2 := of_decide_eq_true (known0_spec hf h.2)
        rw [IE.beq_eq h.1] at h0
        exact decide_eq_true (by omega)
      · rename_i u z
        have hne : u.val ≠ z.val := by
          rcases Bool.or_eq_true_iff.1 h with h | h
          · rw [Bool.and_eq_true] at h
            have h2 := of_decide_eq_true (known0_spec hf h.2)
            rw [IE.beq_eq h.1] at h0
            omega
          · rw [Bool.and_eq_true] at h
            have h2 := of_decide_eq_true (known0_spec hf h.2)
            rw [IE.beq_eq h.1] at h0
            omega
        show (u.val != z.val) = true
        simpa using hne
      · cases h
    · exact chain_spec hf (fun c hc => hl c (List.mem_cons_of_mem _ hc)) h
  | .cmp .leq x y :: l, hl, h => by
    have h0 : x.val ≤ y.val := of_decide_eq_true (hl _ (List.mem_cons_self ..))
    simp only [chain,Bool.or_eq_true] at h
    rcases h with h | h
    · split at h
      · rw [Bool.and_eq_true] at h
        have h2 := of_decide_eq_true (known0_spec hf h.2)
        rw [IE.beq_eq h.1] at h0
        exact decide_eq_true (by omega)
      · rw [Bool.and_eq_true] at h
        have h2 := of_decide_eq_true (known0_spec hf h.2)
        rw [IE.beq_eq h.1] at h0
        exact decide_eq_true (by omega)
      · cases h
    · exact chain_spec hf (fun c hc => hl c (List.mem_cons_of_mem _ hc)) h
  | .lit _ :: l,hl,h | .atom _ :: l,hl,h | .not _ :: l,hl,h | .eq _ _ :: l,hl,h | .and _ _ :: l,hl,h => chain_spec hf (fun c hc => hl c (List.mem_cons_of_mem _ hc)) h
  | .cmp .add _ _ :: l,hl,h | .cmp .sub _ _ :: l,hl,h | .cmp .mul _ _ :: l,hl,h | .cmp .quo _ _ :: l,hl,h | .cmp .rem _ _ :: l,hl,h | .cmp .and _ _ :: l,hl,h | .cmp .or _ _ :: l,hl,h | .cmp .xor _ _ :: l,hl,h | .cmp .andNot _ _ :: l,hl,h
  | .cmp .shl _ _ :: l,hl,h | .cmp .shr _ _ :: l,hl,h | .cmp .eql _ _ :: l,hl,h | .cmp .neq _ _ :: l,hl,h | .cmp .gtr _ _ :: l,hl,h | .cmp .geq _ _ :: l,hl,h => chain_spec hf (fun c hc => hl c (List.mem_cons_of_mem _ hc)) h
def symB : BE → BE
  | .cmp .eql x y => .cmp .eql y x
  | .cmp .neq x y => .cmp .neq y x
  | b => b
theorem symB_val [Env] (b : BE) : (symB b).val = b.val := by
  unfold symB
  split
  · rename_i x y; show (y.val == x.val) = (x.val == y.val); exact Bool.beq_comm
  · rename_i x y; show (y.val != x.val) = (x.val != y.val); simp only [bne]; rw [Bool.beq_comm]
  · rfl
def unNat (fs : List BE) : IE → IE
  | .nat x => bif known0 fs (lq (.lit 0) x) then x else .nat x
  | x => x
theorem unNat_val [Env] {fs : List BE} (hf : ∀ c ∈ fs, c.val = true) (x : IE) : (unNat fs x).val = x.val := by
  unfold unNat
  split
  · rename_i x
    cases h : known0 fs (lq (.lit 0) x) with
    | true =>
      have h1 := (lq_val _ _).1 (known0_spec hf h)
      rw [lit_val] at h1
      have hn : (IE.nat x).val = (x.val.toNat : Int) := by simp only [IE.val]
      rw [cond_true,hn]; omega
    | false => rfl
  · rfl
def unN (fs : List BE) : BE → BE
  | .cmp o a b => .cmp o (unNat fs a) (unNat fs b)
  | b => b
theorem unN_val [Env] {fs : List BE} (hf : ∀ c ∈ fs, c.val = true) (b : BE) : (unN fs b).val = b.val := by
  cases b with
  | cmp o x y => simp only [unN,BE.val,unNat_val hf]
  | _ => rfl
def known1 (fs : List BE) (b : BE) : Bool := known0 fs b || (eqLk fs b || (chain fs b fs || (hasF (symB b) fs || (known0 fs (unN fs b) || (chain fs (unN fs b) fs || hasF (symB (unN fs b)) fs)))))
theorem known1_spec [Env] {fs : List BE} (hf : ∀ c ∈ fs, c.val = true) {b : BE} (h : known1 fs b = true) : b.val = true :=
  (Bool.or_eq_true_iff.1 h).elim (known0_spec hf) fun h => (Bool.or_eq_true_iff.1 h).elim (eqLk_spec hf) fun h => (Bool.or_eq_true_iff.1 h).elim (chain_spec hf hf) fun h => (Bool.or_eq_true_iff.1 h).elim (fun h => by
    rw [← symB_val]; exact hasF_spec h hf) fun h => (Bool.or_eq_true_iff.1 h).elim (fun h => by
    rw [← unN_val hf]; exact known0_spec hf h) fun h => (Bool.or_eq_true_iff.1 h).elim (fun h => by
    rw [← unN_val hf]; exact chain_spec hf hf h) fun h => by
    rw [← unN_val hf, ← symB_val]; exact hasF_spec h hf
def knownAll2 (fs : List BE) : List BE → Bool
  | [] => true
  | b :: l => (knownF fs b || known1 fs b.sim) && knownAll2 fs l
theorem knownAll2_spec [Env] {fs : List BE} (hf : ∀ c ∈ fs, c.val = true) : ∀ {l : List BE}, knownAll2 fs l = true → ∀ b ∈ l, b.val = true
  | [],_,b,hb => by cases hb
  | x :: l, h, b, hb => by
    simp only [knownAll2,Bool.and_eq_true,Bool.or_eq_true] at h
    rcases List.mem_cons.1 hb with rfl | hb
    · rcases h.1 with h1 | h1
      · exact knownF_spec hf h1
      · have := known1_spec hf h1; rwa [BE.sim_val] at this
    · exact knownAll2_spec hf h.2 b hb
def addN : BE → List BE → List BE
  | .and p q,l => addN p (addN q l)
  | .lit _,l => l
  | b,l => if hasF b l = true then l else b :: l
theorem addN_spec [Env] : ∀ {b : BE} {l : List BE}, b.val = true → (∀ c ∈ l, c.val = true) → ∀ c ∈ addN b l, c.val = true
  | .and p q, l, hb, hl => by
    simp only [BE.val,Bool.and_eq_true] at hb
    exact addN_spec (b := p) hb.1 (addN_spec (b := q) hb.2 hl)
  | .lit _,l,hb,hl => hl
  | .atom _, l, hb, hl | .cmp _ _ _, l, hb, hl | .not _, l, hb, hl | .eq _ _, l, hb, hl => by
    intro c hc
    simp only [addN] at hc
    split at hc
    · exact hl c hc
    · rcases List.mem_cons.1 hc with rfl | hc
      · exact hb
      · exact hl c hc
def hasA (fs : List BE) : BE → Bool
  | .and p q => hasA fs p && hasA fs q
  | b => hasF b fs
def closeG : Ths → List BE → List BE
  | [],fs => fs
  | (ps,q) :: l,fs => closeG l (bif hasA fs q.sim then fs else if knownAll2 fs ps = true then addN q.sim fs else fs)
theorem closeG_spec [E : Env] : ∀ {ths : Ths} {fs : List BE}, ThsOk ths → (∀ c ∈ fs, c.val = true) → ∀ c ∈ closeG ths fs, c.val = true
  | [],fs,_,hf => hf
  | (ps, q) :: l, fs, ht, hf => by
    simp only [closeG]
    refine closeG_spec (fun E t h => ht E t (List.mem_cons_of_mem _ h)) ?_
    cases hasA fs q.sim with
    | true => exact hf
    | false =>
      rw [cond_false]
      split
      · rename_i h
        exact addN_spec (by rw [BE.sim_val]; exact ht E _ (List.mem_cons_self ..) (knownAll2_spec hf h)) hf
      · exact hf
def fwd (rs : List (IE × IE)) (b : BE) : BE := (((b.repl rs).repl rs).repl rs).sim
theorem fwd_val [Env] {rs : List (IE × IE)} (hr : Rs rs) (b : BE) : (fwd rs b).val = b.val := by
  unfold fwd
  rw [BE.sim_val,BE.repl_val hr,BE.repl_val hr,BE.repl_val hr]
def anyP (fs : List BE) (b : BE) : List (IE × IE) → Bool
  | [] => false
  | (x,y) :: l => known1 fs (b.repl [(x,y)]).sim || (known1 fs (b.repl [(y,x)]).sim || anyP fs b l)
theorem anyP_spec [Env] {fs : List BE} (hf : ∀ c ∈ fs, c.val = true) {b : BE} : ∀ {rs : List (IE × IE)}, Rs rs → anyP fs b rs = true → b.val = true
  | [],_,h => by cases h
  | (x, y) :: l, hr, h => by
    have h1 : Rs [(x,y)] := fun p hp => hr p (by rcases List.mem_cons.1 hp with rfl | hp; exact List.mem_cons_self ..; cases hp)
    have h2 : Rs [(y, x)] := fun p hp => by
      rcases List.mem_cons.1 hp with rfl | hp
      · have := hr (x,y) (List.mem_cons_self ..); exact ⟨this.1.symm,this.2.symm⟩
      · cases hp
    simp only [anyP,Bool.or_eq_true] at h
    rcases h with h | h | h
    · have := known1_spec hf h; rwa [BE.sim_val,BE.repl_val h1] at this
    · have := known1_spec hf h; rwa [BE.sim_val,BE.repl_val h2] at this
    · exact anyP_spec hf (fun p hp => hr p (List.mem_cons_of_mem _ hp)) h
def knownE (fs : List BE) (b : BE) : Bool := known1 fs b || (match eqPairs fs with
  | [] => false
  | rs => known1 fs (fwd rs b) || (known1 fs (b.repl (flipR rs)).sim || anyP fs b rs))
theorem knownE_spec [Env] {fs : List BE} (hf : ∀ c ∈ fs, c.val = true) {b : BE} (h : knownE fs b = true) : b.val = true := by
  unfold knownE at h
  rcases Bool.or_eq_true_iff.1 h with h | h
  · exact known1_spec hf h
  · split at h
    · cases h
    · have hr := eqPairs_ok hf
      rcases Bool.or_eq_true_iff.1 h with h | h
      · have := known1_spec hf h; rwa [fwd_val hr] at this
      rcases Bool.or_eq_true_iff.1 h with h | h
      · have := known1_spec hf h; rwa [BE.sim_val,BE.repl_val (flipR_ok hr)] at this
      · exact anyP_spec hf hr h
def knownE0 (fs : List BE) (b : BE) : Bool := known1 fs b || (match eqPairs fs with
  | [] => false
  | rs => known1 fs (fwd rs b) || known1 fs (b.repl (flipR rs)).sim)
theorem knownE0_spec [Env] {fs : List BE} (hf : ∀ c ∈ fs, c.val = true) {b : BE} (h : knownE0 fs b = true) : b.val = true := by
  unfold knownE0 at h
  rcases Bool.or_eq_true_iff.1 h with h | h
  · exact known1_spec hf h
  · split at h
    · cases h
    · have hr := eqPairs_ok hf
      rcases Bool.or_eq_true_iff.1 h with h | h
      · have := known1_spec hf h; rwa [fwd_val hr] at this
      · have := known1_spec hf h; rwa [BE.sim_val,BE.repl_val (flipR_ok hr)] at this
def toB : IE → BE
  | .cmpI o a b => .cmp o a b
  | .notI a => .not (toB a)
  | .andI a b => .and (toB a) (toB b)
  | c => .cmp .neq c (.lit 0)
theorem toB_val [Env] : ∀ (c : IE), (toB c).val = (c.val != 0)
  | .cmpI o a b => by simp only [toB,BE.val,IE.val]; cases cmpVal o a.val b.val <;> rfl
  | .notI a => by simp only [toB,BE.val,IE.val,toB_val a]; cases h : (a.val != 0) <;> simp_all [ofB]
  | .andI a b => by simp only [toB,BE.val,IE.val,toB_val a,toB_val b]; cases (a.val != 0) <;> cases (b.val != 0) <;> rfl
  | .lit _ | .atom _ | .op _ _ _ _ | .conv _ _ | .mn _ _ | .mx _ _ | .at_ _ _ _ _ | .dif _ _ | .nat _ | .eqI _ _ | .eqL _ _ | .ite _ _ _ | .get _ _ _ | .len _ | .tab _ _ _ | .fn _ _ | .latom _ | .nilL | .consL _ _ | .rep _ _ | .putL _ _ _ | .subL _ _ _ _ | .ofTab _ _ | .fnL _ _ | .catL _ _ | .tabL _ _ _ => by simp only [toB,BE.val,IE.val,cmpVal]
def orO {α : Type} : Option α → Option α → Option α
  | some a,_ => some a
  | none,b => b
def iteE : IE → Option (IE × IE × IE)
  | .op _ _ a b => orO (iteE a) (iteE b)
  | .conv _ a => iteE a
  | .mn a b => orO (iteE a) (iteE b)
  | .mx a b => orO (iteE a) (iteE b)
  | .at_ a b _ _ => orO (iteE a) (iteE b)
  | .dif a b => orO (iteE a) (iteE b)
  | .nat a => iteE a
  | .cmpI _ a b => orO (iteE a) (iteE b)
  | .notI a => iteE a
  | .andI a b => orO (iteE a) (iteE b)
  | .eqI a b => orO (iteE a) (iteE b)
  | .eqL a b => orO (iteE a) (iteE b)
  | .ite c x y => match iteE c with
    | some r => some r
    | none => some (c,x,y)
  | .get a b _ => orO (iteE a) (iteE b)
  | .len a => iteE a
  | .tab _ a _ => iteE a
  | .fn _ a => iteE a
  | .consL a b => orO (iteE a) (iteE b)
  | .rep a _ => iteE a
  | .putL a b c => orO (iteE a) (orO (iteE b) (iteE c))
  | .subL a b c _ => orO (iteE a) (orO (iteE b) (iteE c))
  | .ofTab _ a => iteE a
  | .fnL _ a => iteE a
  | .catL a b => orO (iteE a) (iteE b)
  | .tabL _ a _ => iteE a
  | _ => none
def iteB : BE → Option (IE × IE × IE)
  | .cmp _ a b => orO (iteE a) (iteE b)
  | .not a => iteB a
  | .eq a b => orO (iteB a) (iteB b)
  | .and a b => orO (iteB a) (iteB b)
  | _ => none
def getE : IE → Option (IE × IE × IE × IE)
  | .op _ _ a b => orO (getE a) (getE b)
  | .conv _ a => getE a
  | .mn a b => orO (getE a) (getE b)
  | .mx a b => orO (getE a) (getE b)
  | .at_ a b _ _ => orO (getE a) (getE b)
  | .dif a b => orO (getE a) (getE b)
  | .nat a => getE a
  | .cmpI _ a b => orO (getE a) (getE b)
  | .notI a => getE a
  | .andI a b => orO (getE a) (getE b)
  | .eqI a b => orO (getE a) (getE b)
  | .eqL a b => orO (getE a) (getE b)
  | .ite a b c => orO (getE a) (orO (getE b) (getE c))
  | .get (.putL l o (.consL v .nilL)) q 0 => orO (getE l) (orO (getE v) (some (l,o,v,q)))
  | .get a b _ => orO (getE a) (getE b)
  | .len a => getE a
  | .tab _ a _ => getE a
  | .fn _ a => getE a
  | .consL a b => orO (getE a) (getE b)
  | .rep a _ => getE a
  | .putL a b c => orO (getE a) (orO (getE b) (getE c))
  | .subL a b c _ => orO (getE a) (orO (getE b) (getE c))
  | .ofTab _ a => getE a
  | .fnL _ a => getE a
  | .catL a b => orO (getE a) (getE b)
  | .tabL _ a _ => getE a
  | _ => none
def getB : BE → Option (IE × IE × IE × IE)
  | .cmp _ a b => orO (getE a) (getE b)
  | .not a => getB a
  | .eq a b => orO (getB a) (getB b)
  | .and a b => orO (getB a) (getB b)
  | _ => none
def tabE : IE → Option (Nat × IE × IE)
  | .op _ _ a b => orO (tabE a) (tabE b)
  | .conv _ a => tabE a
  | .nat a => tabE a
  | .cmpI _ a b => orO (tabE a) (tabE b)
  | .notI a => tabE a
  | .andI a b => orO (tabE a) (tabE b)
  | .ite a b c => orO (tabE a) (orO (tabE b) (tabE c))
  | .get (.ofTab d n) q 0 => some (d,n,q)
  | .get a b _ => orO (tabE a) (tabE b)
  | .consL a b => orO (tabE a) (tabE b)
  | .putL a b c => orO (tabE a) (orO (tabE b) (tabE c))
  | _ => none
def tabB : BE → Option (Nat × IE × IE)
  | .cmp _ a b => orO (tabE a) (tabE b)
  | .not a => tabB a
  | .and a b => orO (tabB a) (tabB b)
  | _ => none
theorem tab_get [Env] {d : Nat} {n q : IE} (hb : (mkNat q).val < (mkNat n).val) : Rs [(.get (.ofTab d n) q 0, .tab d (mkNat q).sim 0)] := by
  intro p hp
  simp only [List.mem_cons,List.not_mem_nil,or_false] at hp
  subst hp
  rw [mkNat_val,mkNat_val] at hb
  refine ⟨?_,by simp only [IE.lst]⟩
  have e0 : (mkNat q).sim.val = (q.val.toNat : Int) := by rw [IE.sim_val,mkNat_val]
  have e1 : (IE.get (.ofTab d n) q 0).val = ((List.range n.val.toNat).map fun i => Env.t d i 0).getD (q.val.toNat + 0) 0 := by simp only [IE.val,IE.lst]
  have e2 : (IE.tab d (mkNat q).sim 0).val = Env.t d (mkNat q).sim.val.toNat 0 := by simp only [IE.val]
  show (IE.get (.ofTab d n) q 0).val = (IE.tab d (mkNat q).sim 0).val
  rw [e1,e2,e0,Nat.add_zero,List.getD_eq_getElem?_getD,List.getElem?_map,List.getElem?_range (by omega)]
  show Env.t d q.val.toNat 0 = Env.t d ((q.val.toNat : Int)).toNat 0
  rw [Int.toNat_natCast]
def gpT (l o v q : IE) : IE := .get (.putL l o (.consL v .nilL)) q 0
theorem gp_same [Env] {l o v q : IE} (hn : numK v = true) (he : (mkNat o).val = (mkNat q).val) (hb : (mkNat o).val < (mkLen l).val) : Rs [(gpT l o v q, v)] := by
  intro p hp
  simp only [List.mem_cons,List.not_mem_nil,or_false] at hp
  subst hp
  rw [mkNat_val,mkNat_val] at he
  rw [mkNat_val,mkLen_val] at hb
  refine ⟨?_,by rw [numK_lst _ hn]; simp only [gpT,IE.lst]⟩
  have e1 : (gpT l o v q).val = (l.lst.set o.val.toNat v.val).getD (q.val.toNat + 0) 0 := by simp only [gpT,IE.val,IE.lst,writeL]
  show (gpT l o v q).val = v.val
  rw [e1,Nat.add_zero,show q.val.toNat = o.val.toNat by omega,List.getD_eq_getElem?_getD,List.getElem?_set_self (by omega),Option.getD_some]
theorem gp_other [Env] {l o v q : IE} (he : (mkNat o).val ≠ (mkNat q).val) : Rs [(gpT l o v q, .get l q 0)] := by
  intro p hp
  simp only [List.mem_cons,List.not_mem_nil,or_false] at hp
  subst hp
  rw [mkNat_val,mkNat_val] at he
  refine ⟨?_,by simp only [gpT,IE.lst]⟩
  have e1 : (gpT l o v q).val = (l.lst.set o.val.toNat v.val).getD (q.val.toNat + 0) 0 := by simp only [gpT,IE.val,IE.lst,writeL]
  have e2 : (IE.get l q 0).val = l.lst.getD (q.val.toNat + 0) 0 := by simp only [IE.val]
  show (gpT l o v q).val = (IE.get l q 0).val
  rw [e1,e2,Nat.add_zero,List.getD_eq_getElem?_getD,List.getD_eq_getElem?_getD,List.getElem?_set_ne (by omega)]
def tight (fs : List BE) : BE → List BE
  | .cmp .neq x (.lit n) => if known0 fs (lq (.lit n) x) = true then addN (lq (.lit (n + 1)) x) (addN (.cmp .neq x (.lit n)) fs) else addN (.cmp .neq x (.lit n)) fs
  | b => addN b fs
theorem tight_spec [Env] {fs : List BE} (hf : ∀ c ∈ fs, c.val = true) {b : BE} (hb : b.val = true) : ∀ c ∈ tight fs b, c.val = true := by
  unfold tight
  split
  · rename_i x n
    split
    · rename_i h
      have h1 := (lq_val _ _).1 (known0_spec hf h)
      rw [lit_val] at h1
      have h2 : (x.val != (IE.lit n).val) = true := hb
      have h3 : x.val ≠ n := by simpa [lit_val] using h2
      exact addN_spec ((lq_val _ _).2 (by rw [lit_val]; omega)) (addN_spec hb hf)
    · exact addN_spec hb hf
  · exact addN_spec hb hf
def noWay (fs : List BE) : IE → Bool
  | .cmpI .eql x (.lit _) => known0 fs (ls x x)
  | _ => false
theorem noWay_spec [Env] {fs : List BE} (hf : ∀ c ∈ fs, c.val = true) {c : IE} (h : noWay fs c = true) : False := by
  unfold noWay at h
  split at h
  · have := (ls_val _ _).1 (known0_spec hf h); omega
  · cases h
def knownC : Nat → List BE → BE → Bool
  | 0,fs,b => knownE0 fs b
  | n + 1, fs, b => known1 fs b || (match iteB b with
    | some (c,x,y) => (known1 fs (notC (toB c).sim) || knownC n (closeG (rules (toB c).sim) (addN (toB c).sim fs)) (b.repl [(.ite c x y,x)]).sim) && (known1 fs (toB c).sim || (noWay (tight fs (notC (toB c).sim)) c || knownC n (closeG (rules (toB c).sim) (tight fs (notC (toB c).sim))) (b.repl [(.ite c x y,y)]).sim))
    | none => (match getB b with
      | some (l,o,v,q) => bif numK v && (knownE0 fs (mkCmp .eql (mkNat o).sim (mkNat q).sim) && knownE fs (BE.cmp .lss (mkNat o) (mkLen l)).sim) then knownC n fs (b.repl [(gpT l o v q,v)]).sim else bif knownE0 fs (mkCmp .neq (mkNat o).sim (mkNat q).sim) then knownC n fs (b.repl [(gpT l o v q, .get l q 0)]).sim else knownE fs b
      | none => (match tabB b with
        | some (d,m,q) => knownE fs (BE.cmp .lss (mkNat q) (mkNat m)).sim && knownC n fs (b.repl [(.get (.ofTab d m) q 0, .tab d (mkNat q).sim 0)]).sim
        | none => knownE fs b)))
theorem knownC_spec [Env] : ∀ (n : Nat) {fs : List BE} {b : BE}, (∀ c ∈ fs, c.val = true) → knownC n fs b = true → b.val = true
  | 0,fs,b,hf,h => knownE0_spec hf h
  | n + 1, fs, b, hf, h => by
    simp only [knownC,Bool.or_eq_true] at h
    rcases h with h | h
    · exact known1_spec hf h
    · split at h
      · rename_i c x y hi
        simp only [Bool.and_eq_true,Bool.or_eq_true] at h
        cases hc : (toB c).val with
        | true =>
          rcases h.1 with h1 | h1
          · have := known1_spec hf h1; rw [notC_val,BE.sim_val,hc] at this; cases this
          · have := knownC_spec n (closeG_spec (rulesOf_ok _) (addN_spec (by rw [BE.sim_val]; exact hc) hf)) h1
            rw [BE.sim_val,BE.repl_val] at this
            · exact this
            · intro p hp
              simp only [List.mem_cons,List.not_mem_nil,or_false] at hp
              subst hp
              rw [toB_val] at hc
              have hne : c.val ≠ 0 := by simpa using hc
              simp only [IE.val,IE.lst,iteI]
              rw [if_neg hne,if_neg hne]
              exact ⟨rfl,rfl⟩
        | false =>
          have ht := tight_spec hf (b := notC (toB c).sim) (by rw [notC_val,BE.sim_val,hc]; rfl)
          rcases h.2 with h1 | h1 | h1
          · have := known1_spec hf h1; rw [BE.sim_val,hc] at this; cases this
          · exact (noWay_spec ht h1).elim
          · have := knownC_spec n (closeG_spec (rulesOf_ok _) ht) h1
            rw [BE.sim_val,BE.repl_val] at this
            · exact this
            · intro p hp
              simp only [List.mem_cons,List.not_mem_nil,or_false] at hp
              subst hp
              rw [toB_val] at hc
              have he : c.val = 0 := by simpa using hc
              simp only [IE.val,IE.lst,iteI]
              rw [if_pos he,if_pos he]
              exact ⟨rfl,rfl⟩
      · split at h
        · rename_i l o v q _
          cases hc : (numK v && (knownE0 fs (mkCmp .eql (mkNat o).sim (mkNat q).sim) && knownE fs (BE.cmp .lss (mkNat o) (mkLen l)).sim)) with
          | true =>
            rw [hc,cond_true] at h
            simp only [Bool.and_eq_true] at hc
            have g1 := knownE0_spec hf hc.2.1
            have g2 := knownE_spec hf hc.2.2
            rw [mkCmp_val,IE.sim_val,IE.sim_val] at g1
            rw [BE.sim_val] at g2
            have := knownC_spec n hf h
            rwa [BE.sim_val,BE.repl_val (gp_same hc.1 (eq_of_beq g1) (of_decide_eq_true g2))] at this
          | false =>
            rw [hc,cond_false] at h
            cases hd : knownE0 fs (mkCmp .neq (mkNat o).sim (mkNat q).sim) with
            | true =>
              rw [hd,cond_true] at h
              have g1 := knownE0_spec hf hd
              rw [mkCmp_val,IE.sim_val,IE.sim_val] at g1
              have hne : (mkNat o).val ≠ (mkNat q).val := by simpa [cmpVal] using g1
              have := knownC_spec n hf h
              rwa [BE.sim_val,BE.repl_val (gp_other hne)] at this
            | false => rw [hd,cond_false] at h; exact knownE_spec hf h
        · split at h
          · rename_i d m q _
            rw [Bool.and_eq_true] at h
            have g2 := knownE_spec hf h.1
            rw [BE.sim_val] at g2
            have := knownC_spec n hf h.2
            rwa [BE.sim_val,BE.repl_val (tab_get (of_decide_eq_true g2))] at this
          · exact knownE_spec hf h
def knownV : Nat → List BE → BE → Bool
  | 0,fs,b => knownE0 fs b
  | n,fs,b => knownC n fs b
theorem knownV_spec [Env] {fs : List BE} (hf : ∀ c ∈ fs, c.val = true) {b : BE} : ∀ {n : Nat}, knownV n fs b = true → b.val = true
  | 0,h => knownE0_spec hf h
  | n + 1,h => knownC_spec (n + 1) hf h
def knownA (n : Nat) (fs : List BE) : BE → Bool
  | .and p q => knownA n fs p && knownA n fs q
  | b => knownV n fs b
theorem knownA_spec [Env] {n : Nat} {fs : List BE} (hf : ∀ c ∈ fs, c.val = true) : ∀ {b : BE}, knownA n fs b = true → b.val = true
  | .and p q, h => by
    simp only [knownA,Bool.and_eq_true] at h
    simp only [BE.val,Bool.and_eq_true]
    exact ⟨knownA_spec hf h.1,knownA_spec hf h.2⟩
  | .lit _,h | .atom _,h | .cmp _ _ _,h | .eq _ _,h | .not _,h => knownV_spec hf h
def refuteT (n : Nat) (ru : Ths) : List BE → BE → Bool
  | fs, .and p q => known0 fs (notC p) || refuteT n ru (addN p fs) q
  | fs,b => knownA n (closeG ru (closeG ru fs)) (notC b)
theorem refuteT_spec [Env] {n : Nat} {ru : Ths} (hr : ThsOk ru) : ∀ {b : BE} {fs : List BE}, (∀ c ∈ fs, c.val = true) → refuteT n ru fs b = true → b.val = false
  | .and p q, fs, hf, h => by
    simp only [refuteT,Bool.or_eq_true] at h
    simp only [BE.val]
    rcases h with h | h
    · have := known0_spec hf h
      rw [notC_val] at this
      have hp : p.val = false := by simpa using this
      rw [hp]; rfl
    · cases hp : p.val
      · rfl
      · rw [refuteT_spec hr (addN_spec hp hf) h]; rfl
  | .lit _, fs, hf, h | .atom _, fs, hf, h | .cmp _ _ _, fs, hf, h | .not _, fs, hf, h | .eq _ _, fs, hf, h => by
    have := knownA_spec (closeG_spec hr (closeG_spec hr hf)) h
    rw [notC_val] at this
    simpa using this
def knownT (n : Nat) (ru : Ths) (fs : List BE) : BE → Bool
  | .and p q => knownT n ru fs p && knownT n ru fs q
  | .not b => refuteT n ru fs b
  | b => knownV n fs b || knownV n (closeG ru (closeG ru fs)) b
theorem knownT_spec [Env] {n : Nat} {ru : Ths} (hr : ThsOk ru) {fs : List BE} (hf : ∀ c ∈ fs, c.val = true) : ∀ {b : BE}, knownT n ru fs b = true → b.val = true
  | .and p q, h => by
    simp only [knownT,Bool.and_eq_true] at h
    simp only [BE.val,Bool.and_eq_true]
    exact ⟨knownT_spec hr hf h.1,knownT_spec hr hf h.2⟩
  | .not b, h => by
    have h' : refuteT n ru fs b = true := h
    simp only [BE.val,refuteT_spec hr hf h']; rfl
  | .lit _,h | .atom _,h | .cmp _ _ _,h | .eq _ _,h => (Bool.or_eq_true_iff.1 h).elim (knownV_spec hf) (knownV_spec (closeG_spec hr (closeG_spec hr hf)))
theorem ThsOk.app {a b : Ths} (ha : ThsOk a) (hb : ThsOk b) : ThsOk (a ++ b) := fun E t h hp => (List.mem_append.1 h).elim (fun h => ha E t h hp) (fun h => hb E t h hp)
def szE : IE → Nat
  | .op _ _ a b => szE a + szE b + 1
  | .conv _ a => szE a + 1
  | .mn a b => szE a + szE b + 1
  | .mx a b => szE a + szE b + 1
  | .at_ a b _ _ => szE a + szE b + 1
  | .dif a b => szE a + szE b + 1
  | .nat a => szE a + 1
  | .cmpI _ a b => szE a + szE b + 1
  | .notI a => szE a + 1
  | .andI a b => szE a + szE b + 1
  | .eqI a b => szE a + szE b + 1
  | .eqL a b => szE a + szE b + 1
  | .ite a b c => szE a + szE b + szE c + 1
  | .get a b _ => szE a + szE b + 1
  | .len a => szE a + 1
  | .tab _ a _ => szE a + 1
  | .fn _ a => 1
  | .consL a b => szE a + szE b + 1
  | .rep a _ => szE a + 1
  | .putL a b c => szE a + szE b + szE c + 1
  | .subL a b c _ => szE a + szE b + szE c + 1
  | .ofTab _ a => szE a + 1
  | .fnL _ a => szE a + 1
  | .catL a b => szE a + szE b + 1
  | .tabL _ a _ => szE a + 1
  | _ => 1
def szB : BE → Nat
  | .cmp _ a b => szE a + szE b + 1
  | .not a => szB a + 1
  | .eq a b => szB a + szB b + 1
  | .and a b => szB a + szB b + 1
  | _ => 1
def small (b : BE) : Bool := Nat.ble (szB b) 24
def knownL (us : Ths) (fs : List BE) (b : BE) : Bool := knownF fs b || (small b && knownT 0 (rules b.sim ++ us) fs b.sim)
theorem knownL_spec [Env] {us : Ths} (hu : ThsOk us) {fs : List BE} (hf : ∀ c ∈ fs, c.val = true) {b : BE} (h : knownL us fs b = true) : b.val = true := by
  unfold knownL at h
  rcases Bool.or_eq_true_iff.1 h with h | h
  · exact knownF_spec hf h
  · rw [Bool.and_eq_true] at h
    rw [← BE.sim_val]; exact knownT_spec ((rulesOf_ok (tmB b.sim []).reverse).app hu) hf h.2
def knownQ (us : Ths) (fs : List BE) (b : BE) : Bool := knownL us fs b || knownT 30 (rules b.sim ++ us) fs b.sim
theorem knownQ_spec [Env] {us : Ths} (hu : ThsOk us) {fs : List BE} (hf : ∀ c ∈ fs, c.val = true) {b : BE} (h : knownQ us fs b = true) : b.val = true := by
  unfold knownQ at h
  rcases Bool.or_eq_true_iff.1 h with h | h
  · exact knownL_spec hu hf h
  · rw [← BE.sim_val]; exact knownT_spec ((rulesOf_ok (tmB b.sim []).reverse).app hu) hf h
def learn (us : Ths) (b : BE) (fs : List BE) : List BE := if small b = true then closeG (rules b.sim ++ us) (closeG (rules b.sim ++ us) (addN b.sim fs)) else addN b.sim fs
theorem learn_spec [Env] {us : Ths} (hu : ThsOk us) {b : BE} {fs : List BE} (hb : b.val = true) (hf : ∀ c ∈ fs, c.val = true) : ∀ c ∈ learn us b fs, c.val = true := by
  have h0 := addN_spec (b := b.sim) (by rw [BE.sim_val]; exact hb) hf
  unfold learn
  split
  · exact closeG_spec ((rulesOf_ok _).app hu) (closeG_spec ((rulesOf_ok _).app hu) h0)
  · exact h0
def contra (us : Ths) (fs : List BE) : List BE → Bool
  | [] => false
  | b :: l => knownQ us fs (notC b) || contra us fs l
theorem contra_spec [Env] {us : Ths} (hu : ThsOk us) {fs : List BE} (hf : ∀ c ∈ fs, c.val = true) : ∀ {l : List BE}, (∀ c ∈ l, c.val = true) → contra us fs l = true → False
  | [],_,h => by cases h
  | b :: l, hl, h => by
    simp only [contra,Bool.or_eq_true] at h
    rcases h with h | h
    · have := knownQ_spec hu hf h
      rw [notC_val,hl b (List.mem_cons_self ..)] at this
      cases this
    · exact contra_spec hu hf (fun c hc => hl c (List.mem_cons_of_mem _ hc)) h
end Go.Proofs.Ytafemlljemhkhaa.Sx
