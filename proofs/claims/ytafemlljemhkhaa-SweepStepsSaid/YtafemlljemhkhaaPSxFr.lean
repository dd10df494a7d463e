import Derived.Test.YtafemlljemhkhaaPSxFm
import Derived.Test.YtafemlljemhkhaaPSxEqq
namespace Go.Proofs.Ytafemlljemhkhaa.Sx
open Go
set_option linter.unusedSectionVars false
set_option linter.unusedVariables false
set_option linter.unusedSimpArgs false
def lkP (x : IE) : List (IE × IE) → IE
  | [] => x
  | (a,b) :: l => bif IE.beq a x then b else lkP x l
def lkBP (x : BE) : List (BE × BE) → BE
  | [] => x
  | (a,b) :: l => bif BE.beq a x then b else lkBP x l
def rwSB (rs : List (IE × IE)) (bs : List (BE × BE)) : SB → SB
  | .int k e => .int k (lkP e rs)
  | .bool b => .bool (lkBP b bs)
  | x => x
def rwSC (rs : List (IE × IE)) (bs : List (BE × BE)) : SC → SC
  | .b x => .b (rwSB rs bs x)
  | x => x
def rwSCs (rs : List (IE × IE)) (bs : List (BE × BE)) : List SC → List SC
  | [] => []
  | x :: l => rwSC rs bs x :: rwSCs rs bs l
def rwSV (rs : List (IE × IE)) (bs : List (BE × BE)) : SV → SV
  | .w (.one c) => .w (.one (rwSC rs bs c))
  | .w (.agg l) => .w (.agg (rwSCs rs bs l))
  | x => x
def rwSVs (rs : List (IE × IE)) (bs : List (BE × BE)) : List SV → List SV
  | [] => []
  | x :: l => rwSV rs bs x :: rwSVs rs bs l
def rwH (rs : List (IE × IE)) (bs : List (BE × BE)) : Heap Empty → Heap Empty
  | [] => []
  | (n, .cells e l t) :: h => (n, .cells e (rwSCs rs bs l) t) :: rwH rs bs h
  | x :: h => x :: rwH rs bs h
def rwSS (rs : List (IE × IE)) (bs : List (BE × BE)) (s : SS Empty) : SS Empty := ⟨rwSVs rs bs s.l,rwH rs bs s.h,s.ctr⟩
def kbB (us : Ths) (fs : List BE) : BE → List (BE × BE)
  | .lit _ => []
  | .atom _ => []
  | b => if knownL us fs b = true then [(b, .lit true)] else if knownL us fs (notC b) = true then [(b, .lit false)] else []
def kbS (us : Ths) (fs : List BE) : SB → List (BE × BE)
  | .bool b => kbB us fs b
  | _ => []
def kbCs (us : Ths) (fs : List BE) : List SC → List (BE × BE)
  | [] => []
  | .b x :: l => kbS us fs x ++ kbCs us fs l
  | _ :: l => kbCs us fs l
def kbH (us : Ths) (fs : List BE) : Heap Empty → List (BE × BE)
  | [] => []
  | (_, .cells _ l _) :: h => kbCs us fs l ++ kbH us fs h
  | _ :: h => kbH us fs h
theorem kbB_ok {E : Env} {us : Ths} (hu : ThsOk us) {fs : List BE} (hf : ∀ b ∈ fs, @BE.val E b = true) {b : BE} : ∀ p ∈ kbB us fs b, @BE.val E p.1 = @BE.val E p.2 := by
  intro p hp
  unfold kbB at hp
  split at hp
  · cases hp
  · cases hp
  · split at hp
    · rename_i hk
      simp only [List.mem_cons,List.not_mem_nil,or_false] at hp
      subst hp
      exact @knownL_spec E us hu fs hf _ hk
    · split at hp
      · rename_i hk
        simp only [List.mem_cons,List.not_mem_nil,or_false] at hp
        subst hp
        have := @knownL_spec E us hu fs hf _ hk
        rw [@notC_val E] at this
        show @BE.val E _ = false
        simpa using this
      · cases hp
theorem kbCs_ok {E : Env} {us : Ths} (hu : ThsOk us) {fs : List BE} (hf : ∀ b ∈ fs, @BE.val E b = true) : ∀ {l : List SC}, ∀ p ∈ kbCs us fs l, @BE.val E p.1 = @BE.val E p.2
  | [],p,hp => by cases hp
  | .b x :: l, p, hp => by
    simp only [kbCs,List.mem_append] at hp
    rcases hp with hp | hp
    · unfold kbS at hp
      split at hp
      · exact kbB_ok hu hf p hp
      · cases hp
    · exact kbCs_ok hu hf p hp
  | .fn _ _ _ :: l,p,hp => kbCs_ok (l := l) hu hf p hp
theorem kbH_ok {E : Env} {us : Ths} (hu : ThsOk us) {fs : List BE} (hf : ∀ b ∈ fs, @BE.val E b = true) : ∀ {h : Heap Empty}, ∀ p ∈ kbH us fs h, @BE.val E p.1 = @BE.val E p.2
  | [],p,hp => by cases hp
  | (_, .cells _ l _) :: h, p, hp => by
    simp only [kbH,List.mem_append] at hp
    rcases hp with hp | hp
    · exact kbCs_ok hu hf p hp
    · exact kbH_ok hu hf p hp
  | (_, .row _ _ _) :: h,p,hp => kbH_ok (h := h) hu hf p hp
  | (_, .tab _ _ _ _) :: h,p,hp => kbH_ok (h := h) hu hf p hp
  | (_, .mach _ _) :: h,p,hp => kbH_ok (h := h) hu hf p hp
  | (_, .abs a) :: h,p,hp => a.elim
def ocB (x : IE) : SB → Bool
  | .int _ e => IE.beq x e
  | _ => false
def ocC (x : IE) : SC → Bool
  | .b y => ocB x y
  | _ => false
def ocCs (x : IE) : List SC → Bool
  | [] => false
  | c :: l => ocC x c || ocCs x l
def ocVs (x : IE) : List SV → Bool
  | [] => false
  | .w (.one c) :: l => ocC x c || ocVs x l
  | .w (.agg cs) :: l => ocCs x cs || ocVs x l
  | _ :: l => ocVs x l
def ocH (x : IE) : Heap Empty → Bool
  | [] => false
  | (_, .cells _ l _) :: h => ocCs x l || ocH x h
  | _ :: h => ocH x h
def usedP (s : SS Empty) : List (IE × IE) → List (IE × IE)
  | [] => []
  | (a,b) :: l => bif ocVs a s.l || ocH a s.h then (a,b) :: usedP s l else usedP s l
def eqlP : List (IE × IE) → List BE
  | [] => []
  | (a,b) :: l => .cmp .eql a b :: eqlP l
def eqvVs (q : Eqs) : List SV → List SV → Bool
  | [], [] => true
  | x :: l,y :: m => eqvSV q x y && eqvVs q l m
  | _,_ => false
def sameSS (us : List (IE × IE)) (bs : List (BE × BE)) (s s' : SS Empty) : Bool := eqvVs ⟨us, [],bs⟩ s.l s'.l && eqvH ⟨us, [],bs⟩ s.h s'.h
structure AsSS (E : Env) (s s' : SS Empty) : Prop where
  h : ∀ {ρ F w}, @HeapOk E Empty _ ρ F s.h w → @HeapOk E Empty _ ρ F s'.h w
  l : ∀ {ρ a}, @TmpsOk E ρ [] s.l a → @TmpsOk E ρ [] s'.l a
theorem eqvVs_len {q : Eqs} : ∀ {l m : List SV}, eqvVs q l m = true → l.length = m.length
  | [], [],_ => rfl
  | x :: l, y :: m, h => by
    simp only [eqvVs,Bool.and_eq_true] at h
    simp [eqvVs_len h.2]
  | [],_ :: _,h => by simp only [eqvVs,Bool.false_eq_true] at h
  | _ :: _, [],h => by simp only [eqvVs,Bool.false_eq_true] at h
theorem eqvVs_get {q : Eqs} : ∀ {l m : List SV}, eqvVs q l m = true → ∀ (i : Nat) (y : SV), m[i]? = some y → ∃ x, l[i]? = some x ∧ eqvSV q x y = true
  | [], [],_,i,y,hy => by simp at hy
  | x :: l, z :: m, h, i, y, hy => by
    simp only [eqvVs,Bool.and_eq_true] at h
    cases i with
    | zero => simp at hy; subst hy; exact ⟨x,rfl,h.1⟩
    | succ i => simp at hy; simpa using eqvVs_get h.2 i y hy
  | [],_ :: _,h,_,_,_ => by simp only [eqvVs,Bool.false_eq_true] at h
  | _ :: _, [],h,_,_,_ => by simp only [eqvVs,Bool.false_eq_true] at h
theorem sameSS_ok {E : Env} {us : List (IE × IE)} {bs : List (BE × BE)} (hq : ∀ p ∈ us, @IE.val E p.1 = @IE.val E p.2) (hb : ∀ p ∈ bs, @BE.val E p.1 = @BE.val E p.2) {s s' : SS Empty} (h : sameSS us bs s s' = true) : AsSS E s s' := by
  have key : ∀ q : Eqs, q.hold E → (eqvVs q s.l s'.l && eqvH q s.h s'.h) = true → AsSS E s s' := by
    intro q hh h
    simp only [Bool.and_eq_true] at h
    refine ⟨fun H => eqvH_ok hh h.2 H,fun {ρ a} hT => @TmpsOk.mk E ρ [] s'.l a (by rw [← eqvVs_len h.1]; exact hT.size) (fun i y hi hy => ?_) hT.defers⟩
    obtain ⟨x,hx,hxy⟩ := eqvVs_get h.1 i y hy
    obtain ⟨v,hv,his⟩ := hT.at_ i x hi hx
    exact ⟨v,hv,eqvSV_ok hh hxy his⟩
  unfold sameSS at h
  exact key _ ⟨hq,fun p hp => (by cases hp),hb⟩ h
theorem eqlP_ok {E : Env} : ∀ {us : List (IE × IE)}, (∀ b ∈ eqlP us, @BE.val E b = true) → ∀ p ∈ us, @IE.val E p.1 = @IE.val E p.2
  | [],_,p,hp => by cases hp
  | (a, b) :: l, h, p, hp => by
    rcases List.mem_cons.1 hp with rfl | hp
    · exact eq_of_beq (h _ (List.mem_cons_self ..))
    · exact eqlP_ok (fun c hc => h c (List.mem_cons_of_mem _ hc)) p hp
def GoodR (P : Program) (rs : Array ResultVar) (cuts : List Cut) (Φ : Nat → Env → Prop) (R : Value → Prop) (E : Env) (old : Option (List (IE × IE))) : RR → Prop
  | .at_ p s => ∃ i k,cuts[i]? = some k ∧ k.p = p ∧ ∃ (s' : SS Empty) (S : Sub),AsSS E s s' ∧ fitSS S k.I s' = true ∧ (∀ b ∈ k.fs, @BE.val (E.by S) b = true) ∧ Φ i (E.by S) ∧ ∀ o,old = some o → Lx (@valsM (E.by S) k.ms) (@valsM E o)
  | .fin s => ∃ sv, @resS E Empty _ P rs s.l s.h = .leaf sv ∧ ∀ ρ v, @SV.is E ρ sv v → R v
theorem floydR {P : Program} (hm : P.follows .mixedOrders = true) {c : [Env] → CallF Empty} (hc : ∀ [Env], CallOk P c) {x : Extra Empty} (hx : ∀ [Env], ExtraOk P x) {B g : Nat} {fn : Func} {root : Code} (hf : P.funcs[g]? = some fn) (hb : fn.body = some root)
    {cuts : List Cut} {Φ : Nat → Env → Prop} {R : Value → Prop} (hl : (cuts.all fun k => isLoop (subAt root k.p) && Nat.ble k.ms.length 9) = true)
    (hcuts : ∀ (E : Env) (i : Nat) (k : Cut),cuts[i]? = some k → (∀ b ∈ k.fs, @BE.val E b = true) → Φ i E → (@segAt E P c x B root cuts k).holds (GoodR P fn.results cuts Φ R E (some k.ms)))
    {args : List SV} {h0 : Heap Empty} (E : Env) (hstart : (@segStart E P c x B root cuts fn.ntmps args h0).holds (GoodR P fn.results cuts Φ R E none))
    {ρ : Rho} {F : Nat → Nat → Prop} {w : World} {argv : Array Value} (H : @HeapOk E Empty _ ρ F h0 w) (ha : All2 (@SV.is E ρ) args argv.toList) :
    Calls P g argv w fun e w' => ∃ v,e = .returned v ∧ R v ∧ ∃ ρ' F',Reach ρ F w ρ' F' w' := by
  let Q := bodyPost P fn fun e w' => ∃ v,e = .returned v ∧ R v ∧ ∃ ρ' F',Reach ρ F w ρ' F' w'
  have hmem : ∀ {i : Nat} {k : Cut},cuts[i]? = some k → k ∈ cuts := fun h => List.mem_of_getElem? h
  have hleaf : ∀ (E : Env) (old : Option (List (IE × IE))), (∀ (i : Nat) (k : Cut), cuts[i]? = some k → ∀ (E' : Env) (ρ1 : Rho) (F1 : Nat → Nat → Prop) (a : Act) (w1 : World), (∀ b ∈ k.fs, @BE.val E' b = true) → Φ i E' → @HeapOk E' Empty _ ρ1 F1 k.I.h w1 → @TmpsOk E' ρ1 [] k.I.l a → Reach ρ F w ρ1 F1 w1 →
        (∀ o,old = some o → Lx (@valsM E' k.ms) (@valsM E o)) → AtR P root Q k.p a w1) →
      ∀ l,GoodR P fn.results cuts Φ R E old l → @XR E P root Q (Reach ρ F w) l := by
    intro E old ih l hok
    cases l with
    | at_ p s =>
      intro ρ1 F1 a w1 hT H1 R1
      obtain ⟨i,k,hk,hp,s',S,has,hfit,hfs,hphi,hlx⟩ := hok
      obtain ⟨ρ2,F2,g1,g2,g3⟩ := fitSS_ok E hfit (has.h H1) (has.l hT)
      have := ih i k hk (E.by S) ρ2 F2 a w1 hfs hphi g1 g2 (R1.ren g3) hlx
      rw [hp] at this
      exact this
    | fin s =>
      intro ρ1 F1 a w1 hT H1 R1
      obtain ⟨sv,hres,hR⟩ := hok
      have key : a.defers = [] ∧ ∃ v, (results fn a.tmps).run P w1 = .ok v w1 ∧ (∃ v', Ending.returned v = .returned v' ∧ R v' ∧ ∃ ρ' F', Reach ρ F w ρ' F' w1) := by
        obtain ⟨s',v,k1,k2,k3⟩ := @resS_ok E Empty _ P fn _ _ _ _ _ _ H1 hT (K := fun s' => s' = sv) (by rw [hres]; rfl)
        subst k1
        exact ⟨hT.defers,v,k3,v,rfl,hR _ v k2,_,_,R1⟩
      exact ⟨key,key⟩
  have claim : ∀ (v : List Nat), v.length ≤ 9 → ∀ (i : Nat) (k : Cut), cuts[i]? = some k → ∀ (E : Env) (ρ1 : Rho) (F1 : Nat → Nat → Prop) (a : Act) (w1 : World), (∀ b ∈ k.fs, @BE.val E b = true) → Φ i E → @HeapOk E Empty _ ρ1 F1 k.I.h w1 → @TmpsOk E ρ1 [] k.I.l a → Reach ρ F w ρ1 F1 w1 →
      @valsM E k.ms = v → AtR P root Q k.p a w1 := by
    intro v hv
    induction Lx_acc 9 v hv with
    | intro v _ ih =>
      intro i k hk E ρ1 F1 a w1 hfs hphi H1 hT R1 hvals
      have hk1 := List.all_eq_true.1 hl k (hmem hk)
      simp only [Bool.and_eq_true,Nat.ble_eq] at hk1
      have hseg := hcuts E i k hk hfs hphi
      have htree : (@segAt E P c x B root cuts k).holds (@XR E P root Q (Reach ρ F w)) := by
        refine Tree.holds_mono (hleaf E (some k.ms) (fun i' k' hk' E' ρ2 F2 a2 w2 f2 p2 H2 T2 R2 hlt => ?_)) hseg
        have hk2 := List.all_eq_true.1 hl k' (hmem hk')
        simp only [Bool.and_eq_true,Nat.ble_eq] at hk2
        have hlen : (@valsM E' k'.ms).length ≤ 9 := by rw [@valsM_len E']; exact hk2.2
        exact ih _ ⟨hlen,by rw [← hvals]; exact hlt _ rfl⟩ hlen i' k' hk' E' ρ2 F2 a2 w2 f2 p2 H2 T2 R2 rfl
      exact @segAt_ok E P c x B root cuts k Q _ (Reach.rl ρ F w) hm hc hx ρ1 F1 a w1 H1 hT R1 htree
  have hlen : args.length = argv.size := by have := @All2.length E _ _ _ _ _ ha; simpa using this
  refine calls_of_wp hf hb ?_
  have htree : (@segStart E P c x B root cuts fn.ntmps args h0).holds (@XR E P root Q (Reach ρ F w)) := by
    refine Tree.holds_mono (hleaf E none (fun i k hk E' ρ2 F2 a2 w2 f2 p2 H2 T2 R2 _ => ?_)) hstart
    have hk2 := List.all_eq_true.1 hl k (hmem hk)
    simp only [Bool.and_eq_true,Nat.ble_eq] at hk2
    exact claim _ (by rw [@valsM_len E']; exact hk2.2) i k hk E' ρ2 F2 a2 w2 f2 p2 H2 T2 R2 rfl
  refine @segC_ok E P c x B _ root Q (Reach ρ F w) (Reach.rl ρ F w) hm hc hx root [] _ ρ F _ w _ rfl H ?_ (Reach.refl ρ F w) (@contT_ok E P c x B _ root Q (Reach ρ F w) (Reach.rl ρ F w) hm hc hx []) htree
  have hall : All2 (@SV.is E ρ) (args ++ List.replicate (fn.ntmps - args.length) undefS) (argv ++ Array.replicate (fn.ntmps - argv.size) undef).toList := by
    rw [Array.toList_append,Array.toList_replicate,hlen]
    exact @All2.append E _ _ _ _ _ _ _ ha (@All2.replicate E _ _ _ _ _ (undefS_is ρ) _)
  refine @TmpsOk.mk E ρ [] _ _ (by have := @All2.length E _ _ _ _ _ hall; simpa using this.symm) (fun i s _ hs => ?_) rfl
  obtain ⟨v,hv,hsv⟩ := @All2.get E _ _ _ _ _ hall i s hs
  exact ⟨v,by rw [← Array.getElem?_toList]; exact hv,hsv⟩
noncomputable def leafR1 [Env] (ts : Tabs) (us : Ths) (tr : List Nat) (cuts : List Cut) (old : Option (List (IE × IE))) (fs pt : List BE) (p : List Nat) (s : SS Empty) : List Ob := match pickC p s cuts 0 with
  | some (i, k) => (match old with
      | some o => if decrM fs o (subM (matchSS k.I s) k.ms) = true then [] else [.less o (subM (matchSS k.I s) k.ms) pt]
      | none => []) ++ (needs ts us fs pt (k.fs.map (BE.sub (matchSS k.I s))) ++ (if memT i tr = true then [] else [.at_ i (matchSS k.I s).a (matchSS k.I s).l pt]))
  | none => [.bad 1 pt]
noncomputable def leafR [Env] (ts : Tabs) (us : Ths) (rw : List (IE × IE)) (tr : List Nat) (P : Program) (rs : Array ResultVar) (cuts : List Cut) (old : Option (List (IE × IE))) (fs pt : List BE) : RR → List Ob
  | .at_ p s0 => match usedP s0 rw, kbH us fs s0.h with
    | [], [] => leafR1 ts us tr cuts old fs pt p s0
    | u,bs => if sameSS u bs s0 (rwSS u bs s0) = true then needs ts us fs pt (eqlP u) ++ leafR1 ts us tr cuts old fs pt p (rwSS u bs s0) else [.bad 4 pt]
  | .fin s => match resS P rs s.l s.h with
    | .leaf (.w (.one (.b (.bool b)))) => if knownM ts us fs b = true then [] else [.need b pt]
    | _ => [.bad 2 pt]
theorem leafR_ok {ts : Tabs} (E : Env) (htab : TabR ts E) {us : Ths} (hu : ThsOk us) {rw : List (IE × IE)} {tr : List Nat} {P : Program} {rs : Array ResultVar} {cuts : List Cut} {Φ : Nat → Env → Prop} {old : Option (List (IE × IE))} (fs pt : List BE) (l : RR) (hf : ∀ b ∈ fs, @BE.val E b = true) (hp : AllB E pt) (htr : ∀ i ∈ tr, ∀ E, Φ i E)
    (h : ObsOk E Φ (@leafR E ts us rw tr P rs cuts old fs pt l)) : GoodR P rs cuts (fun i E => Φ i E ∧ TabR ts E) (fun v => v = .bool true) E old l := by
  cases l with
  | at_ p s =>
    simp only [leafR] at h
    obtain ⟨s', has, h⟩ : ∃ s', AsSS E s s' ∧ ObsOk E Φ (@leafR1 E ts us tr cuts old fs pt p s') := by
      split at h
      · exact ⟨s,⟨id,id⟩,h⟩
      · split at h
        case isFalse => exact (h.1 hp).elim
        rename_i hsame
        rw [ObsOk_app] at h
        exact ⟨_,sameSS_ok (eqlP_ok fun b hb => needs_ok htab hu hf hp h.1 b hb) (kbH_ok hu hf) hsame,h.2⟩
    unfold leafR1 at h
    split at h
    · rename_i i k hk
      obtain ⟨hi,hkp,hfit⟩ := pickC_spec (pre := []) hk
      rw [ObsOk_app,ObsOk_app] at h
      obtain ⟨h1,h2,h3⟩ := h
      have hS : (matchSS k.I s').okB = true := by
        have := hfit
        simp only [fitSS,Bool.and_eq_true] at this
        exact this.1
      refine ⟨i,k,hi,hkp,s',_,has,hfit,fun b hb => ?_, ?_,fun o ho => ?_⟩
      · rw [← BE.sub_val E hS b]
        exact needs_ok htab hu hf hp h2 _ (List.mem_map_of_mem hb)
      · refine ⟨?_, htab⟩
        split at h3
        · rename_i hm; exact htr i (memT_spec hm) _
        · exact h3.1 hp
      · subst ho
        simp only at h1
        split at h1
        · rename_i hd
          have := @decrM_spec E fs hf _ _ hd
          rwa [valsM_sub E hS] at this
        · have := h1.1 hp
          rwa [valsM_sub E hS] at this
    · exact (h.1 hp).elim
  | fin s =>
    simp only [leafR] at h
    split at h
    · rename_i b hres
      refine ⟨_,hres,fun ρ v hv => ?_⟩
      have hv' : v = .bool (@BE.val E b) := hv
      rw [hv']
      split at h
      · rename_i hk; rw [knownM_spec htab hu hf hk]
      · rw [h.1 hp]
    · exact (h.1 hp).elim
noncomputable def oweAtR [Env] (ts : Tabs) (us : Ths) (tr : List Nat) (P : Program) (fn : Func) (root : Code) (c : CallF Empty) (x : Extra Empty) (cuts : List Cut) (k : Cut) (ex : List BE) (rw : List (IE × IE)) : List Ob :=
  owe ts us (leafR ts us rw tr P fn.results cuts (some k.ms)) (ex ++ k.fs) [] (segAt P c x 65536 root cuts k)
noncomputable def oweStartR [Env] (ts : Tabs) (us : Ths) (tr : List Nat) (P : Program) (fn : Func) (root : Code) (c : CallF Empty) (x : Extra Empty) (cuts : List Cut) (fs0 : List BE) (args : List SV) (h0 : Heap Empty) : List Ob :=
  owe ts us (leafR ts us [] tr P fn.results cuts none) fs0 [] (segStart P c x 65536 root cuts fn.ntmps args h0)
theorem floydRM {P : Program} (hm : P.follows .mixedOrders = true) {c : [Env] → CallF Empty} (hc : ∀ [Env], CallOk P c) {x : Extra Empty} (hx : ∀ [Env], ExtraOk P x) {g : Nat} {fn : Func} {root : Code} (hf : P.funcs[g]? = some fn) (hb : fn.body = some root)
    {cuts : List Cut} {ts : Tabs} {us : Ths} (hu : ThsOk us) {tr : List Nat} {Φ : Nat → Env → Prop} (htr : ∀ i ∈ tr, ∀ E, Φ i E) (hl : (cuts.all fun k => isLoop (subAt root k.p) && Nat.ble k.ms.length 9) = true)
    (hcuts : ∀ (E : Env) (i : Nat) (k : Cut),cuts[i]? = some k → (∀ b ∈ k.fs, @BE.val E b = true) → Φ i E → TabR ts E → ∃ (ex : List BE) (rw : List (IE × IE)),(∀ b ∈ ex, @BE.val E b = true) ∧ Owed E Φ (@oweAtR E ts us tr P fn root c x cuts k ex rw))
    {args : List SV} {h0 : Heap Empty} {fs0 : List BE} (E : Env) (htab : TabR ts E) (hf0 : ∀ b ∈ fs0, @BE.val E b = true) (hstart : Owed E Φ (@oweStartR E ts us tr P fn root c x cuts fs0 args h0))
    {ρ : Rho} {F : Nat → Nat → Prop} {w : World} {argv : Array Value} (H : @HeapOk E Empty _ ρ F h0 w) (ha : All2 (@SV.is E ρ) args argv.toList) :
    Calls P g argv w fun e w' => e = .returned (.bool true) ∧ ∃ ρ' F',Reach ρ F w ρ' F' w' := by
  refine Calls.mono (floydR hm hc hx hf hb (cuts := cuts) (Φ := fun i E => Φ i E ∧ TabR ts E) (R := fun v => v = .bool true) hl
    (fun E i k hk hfs hphi => by
      obtain ⟨ex,rw,hex,hob⟩ := hcuts E i k hk hfs hphi.1 hphi.2
      exact owe_ok E hphi.2 hu (fun fs pt l hf hp h => leafR_ok E hphi.2 hu fs pt l hf hp htr h) (pt := []) (fun b hb => (List.mem_append.1 hb).elim (hex b) (hfs b)) trivial hob.ok)
    E (owe_ok E htab hu (fun fs pt l hf hp h => leafR_ok E htab hu fs pt l hf hp htr h) (pt := []) hf0 trivial hstart.ok) H ha) fun e w' he => ?_
  obtain ⟨v,rfl,rfl,h⟩ := he
  exact ⟨rfl,h⟩
end Go.Proofs.Ytafemlljemhkhaa.Sx
