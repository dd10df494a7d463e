/-
  THE SYMBOLIC EXECUTOR, part Fm: functions with loops, from head to head; several shapes at one head; what the means do not tell is owed, in a list.
-/
import Derived.Test.YtafemlljemhkhaaSxFsd
namespace Go.Proofs.Ytafemlljemhkhaa.Sx
open Go
set_option linter.unusedSectionVars false
set_option linter.unusedVariables false
set_option linter.unusedSimpArgs false

/-- What is asked of a run's end. -/
def GoodM (P : Program) (rs : Array ResultVar) (cuts : List Cut) (Φ : Nat → Env → Prop) (R : Value → Prop) (E : Env) (old : Option (List (IE × IE))) : RR → Prop
  | .at_ p s => ∃ i k, cuts[i]? = some k ∧ k.p = p ∧ ∃ S : Sub, fitSS S k.I s = true ∧ (∀ b ∈ k.fs, @BE.val (E.by S) b = true) ∧ Φ i (E.by S) ∧ ∀ o, old = some o → Lx (@valsM (E.by S) k.ms) (@valsM E o)
  | .fin s => ∃ sv, @resS E Empty _ P rs s.l s.h = .leaf sv ∧ ∀ ρ v, @SV.is E ρ sv v → R v
/-- A function whose runs from head to head are as they should be. -/
theorem floydN {P : Program} (hm : P.follows .mixedOrders = true) {c : [Env] → CallF Empty} (hc : ∀ [Env], CallOk P c) {x : Extra Empty} (hx : ∀ [Env], ExtraOk P x) {B g : Nat} {fn : Func} {root : Code} (hf : P.funcs[g]? = some fn) (hb : fn.body = some root)
    {cuts : List Cut} {Φ : Nat → Env → Prop} {R : Value → Prop} (hl : (cuts.all fun k => isLoop (subAt root k.p) && Nat.ble k.ms.length 9) = true)
    (hcuts : ∀ (E : Env) (i : Nat) (k : Cut), cuts[i]? = some k → (∀ b ∈ k.fs, @BE.val E b = true) → Φ i E → (@segAt E P c x B root cuts k).holds (GoodM P fn.results cuts Φ R E (some k.ms)))
    {args : List SV} {h0 : Heap Empty} (E : Env) (hstart : (@segStart E P c x B root cuts fn.ntmps args h0).holds (GoodM P fn.results cuts Φ R E none))
    {ρ : Rho} {F : Nat → Nat → Prop} {w : World} {argv : Array Value} (H : @HeapOk E Empty _ ρ F h0 w) (ha : All2 (@SV.is E ρ) args argv.toList) :
    Calls P g argv w fun e w' => ∃ v, e = .returned v ∧ R v ∧ ∃ ρ' F', Reach ρ F w ρ' F' w' := by
  let Q := bodyPost P fn fun e w' => ∃ v, e = .returned v ∧ R v ∧ ∃ ρ' F', Reach ρ F w ρ' F' w'
  have hmem : ∀ {i : Nat} {k : Cut}, cuts[i]? = some k → k ∈ cuts := fun h => List.mem_of_getElem? h
  have hleaf : ∀ (E : Env) (old : Option (List (IE × IE))), (∀ (i : Nat) (k : Cut), cuts[i]? = some k → ∀ (E' : Env) (ρ1 : Rho) (F1 : Nat → Nat → Prop) (a : Act) (w1 : World), (∀ b ∈ k.fs, @BE.val E' b = true) → Φ i E' → @HeapOk E' Empty _ ρ1 F1 k.I.h w1 → @TmpsOk E' ρ1 [] k.I.l a → Reach ρ F w ρ1 F1 w1 →
        (∀ o, old = some o → Lx (@valsM E' k.ms) (@valsM E o)) → AtR P root Q k.p a w1) →
      ∀ l, GoodM P fn.results cuts Φ R E old l → @XR E P root Q (Reach ρ F w) l := by
    intro E old ih l hok
    cases l with
    | at_ p s =>
      intro ρ1 F1 a w1 hT H1 R1
      obtain ⟨i, k, hk, hp, S, hfit, hfs, hphi, hlx⟩ := hok
      obtain ⟨ρ2, F2, g1, g2, g3⟩ := fitSS_ok E hfit H1 hT
      have := ih i k hk (E.by S) ρ2 F2 a w1 hfs hphi g1 g2 (R1.ren g3) hlx
      rw [hp] at this
      exact this
    | fin s =>
      intro ρ1 F1 a w1 hT H1 R1
      obtain ⟨sv, hres, hR⟩ := hok
      have key : a.defers = [] ∧ ∃ v, (results fn a.tmps).run P w1 = .ok v w1 ∧ (∃ v', Ending.returned v = .returned v' ∧ R v' ∧ ∃ ρ' F', Reach ρ F w ρ' F' w1) := by
        obtain ⟨s', v, k1, k2, k3⟩ := @resS_ok E Empty _ P fn _ _ _ _ _ _ H1 hT (K := fun s' => s' = sv) (by rw [hres]; rfl)
        subst k1
        exact ⟨hT.defers, v, k3, v, rfl, hR _ v k2, _, _, R1⟩
      exact ⟨key, key⟩
  have claim : ∀ (v : List Nat), v.length ≤ 9 → ∀ (i : Nat) (k : Cut), cuts[i]? = some k → ∀ (E : Env) (ρ1 : Rho) (F1 : Nat → Nat → Prop) (a : Act) (w1 : World), (∀ b ∈ k.fs, @BE.val E b = true) → Φ i E → @HeapOk E Empty _ ρ1 F1 k.I.h w1 → @TmpsOk E ρ1 [] k.I.l a → Reach ρ F w ρ1 F1 w1 →
      @valsM E k.ms = v → AtR P root Q k.p a w1 := by
    intro v hv
    induction Lx_acc 9 v hv with
    | intro v _ ih =>
      intro i k hk E ρ1 F1 a w1 hfs hphi H1 hT R1 hvals
      have hk1 := List.all_eq_true.1 hl k (hmem hk)
      simp only [Bool.and_eq_true, Nat.ble_eq] at hk1
      have hseg := hcuts E i k hk hfs hphi
      have htree : (@segAt E P c x B root cuts k).holds (@XR E P root Q (Reach ρ F w)) := by
        refine Tree.holds_mono (hleaf E (some k.ms) (fun i' k' hk' E' ρ2 F2 a2 w2 f2 p2 H2 T2 R2 hlt => ?_)) hseg
        have hk2 := List.all_eq_true.1 hl k' (hmem hk')
        simp only [Bool.and_eq_true, Nat.ble_eq] at hk2
        have hlen : (@valsM E' k'.ms).length ≤ 9 := by rw [@valsM_len E']; exact hk2.2
        exact ih _ ⟨hlen, by rw [← hvals]; exact hlt _ rfl⟩ hlen i' k' hk' E' ρ2 F2 a2 w2 f2 p2 H2 T2 R2 rfl
      exact @segAt_ok E P c x B root cuts k Q _ (Reach.rl ρ F w) hm hc hx ρ1 F1 a w1 H1 hT R1 htree
  have hlen : args.length = argv.size := by have := @All2.length E _ _ _ _ _ ha; simpa using this
  refine calls_of_wp hf hb ?_
  have htree : (@segStart E P c x B root cuts fn.ntmps args h0).holds (@XR E P root Q (Reach ρ F w)) := by
    refine Tree.holds_mono (hleaf E none (fun i k hk E' ρ2 F2 a2 w2 f2 p2 H2 T2 R2 _ => ?_)) hstart
    have hk2 := List.all_eq_true.1 hl k (hmem hk)
    simp only [Bool.and_eq_true, Nat.ble_eq] at hk2
    exact claim _ (by rw [@valsM_len E']; exact hk2.2) i k hk E' ρ2 F2 a2 w2 f2 p2 H2 T2 R2 rfl
  refine @segC_ok E P c x B _ root Q (Reach ρ F w) (Reach.rl ρ F w) hm hc hx root [] _ ρ F _ w _ rfl H ?_ (Reach.refl ρ F w) (@contT_ok E P c x B _ root Q (Reach ρ F w) (Reach.rl ρ F w) hm hc hx []) htree
  have hall : All2 (@SV.is E ρ) (args ++ List.replicate (fn.ntmps - args.length) undefS) (argv ++ Array.replicate (fn.ntmps - argv.size) undef).toList := by
    rw [Array.toList_append, Array.toList_replicate, hlen]
    exact @All2.append E _ _ _ _ _ _ _ ha (@All2.replicate E _ _ _ _ _ (undefS_is ρ) _)
  refine @TmpsOk.mk E ρ [] _ _ (by have := @All2.length E _ _ _ _ _ hall; simpa using this.symm) (fun i s _ hs => ?_) rfl
  obtain ⟨v, hv, hsv⟩ := @All2.get E _ _ _ _ _ hall i s hs
  exact ⟨v, by rw [← Array.getElem?_toList]; exact hv, hsv⟩

/-! ### what is owed -/
inductive Ob where
  | at_ (i : Nat) (a l : List (Nat × IE)) (cs : List BE)
  | need (b : BE) (cs : List BE)
  | less (o n : List (IE × IE)) (cs : List BE)
  | bad (why : Nat) (cs : List BE)
def AllB (E : Env) : List BE → Prop
  | [] => True
  | b :: l => @BE.val E b = true ∧ AllB E l
theorem AllB_mem {E : Env} : ∀ {l : List BE}, AllB E l ↔ ∀ b ∈ l, @BE.val E b = true
  | [] => ⟨fun _ _ h => (by cases h), fun _ => trivial⟩
  | x :: l => by
    simp only [AllB, List.forall_mem_cons, AllB_mem (l := l)]
def Ob.holds (E : Env) (Φ : Nat → Env → Prop) : Ob → Prop
  | .at_ i a l cs => AllB E cs → Φ i (E.by ⟨a, l, []⟩)
  | .need b cs => AllB E cs → @BE.val E b = true
  | .less o n cs => AllB E cs → Lx (@valsM E n) (@valsM E o)
  | .bad _ cs => AllB E cs → False
def ObsOk (E : Env) (Φ : Nat → Env → Prop) : List Ob → Prop
  | [] => True
  | o :: l => o.holds E Φ ∧ ObsOk E Φ l
theorem ObsOk_app {E : Env} {Φ : Nat → Env → Prop} : ∀ {l m : List Ob}, ObsOk E Φ (l ++ m) ↔ ObsOk E Φ l ∧ ObsOk E Φ m
  | [], m => ⟨fun h => ⟨trivial, h⟩, fun h => h.2⟩
  | o :: l, m => by
    simp only [List.cons_append, ObsOk, ObsOk_app (l := l)]
    exact ⟨fun ⟨a, b, c⟩ => ⟨⟨a, b⟩, c⟩, fun ⟨⟨a, b⟩, c⟩ => ⟨a, b, c⟩⟩
/-- Loops one behind the other, too: the first place may be two numbers. -/
def decrM (fs : List BE) : List (IE × IE) → List (IE × IE) → Bool
  | (.lit b, .lit c) :: o, (.lit b', .lit c') :: n => Nat.blt (b' - c').toNat (b - c).toNat || (Nat.beq (b' - c').toNat (b - c).toNat && decrM fs o n)
  | (b, c) :: o, (b', c') :: n => (IE.beq b b' && (IE.beq c c' && decrM fs o n)) || decrB fs ((b, c) :: o) ((b', c') :: n)
  | o, n => decrB fs o n
theorem decrM_spec [Env] {fs : List BE} (hf : ∀ c ∈ fs, c.val = true) : ∀ {o n : List (IE × IE)}, decrM fs o n = true → Lx (valsM n) (valsM o)
  | [], n, h => by
    unfold decrM at h
    exact decrB_spec hf (by simpa using h)
  | x :: o, [], h => by
    unfold decrM at h
    split at h
    · rename_i heq; cases heq
    · rename_i heq; cases heq
    · exact decrB_spec hf h
  | (b, c) :: o, (b', c') :: n, h => by
    unfold decrM at h
    split at h
    · rename_i b c o b' c' n h1 h2
      cases h1; cases h2
      simp only [Bool.or_eq_true, Bool.and_eq_true, Nat.blt_eq, Nat.beq_eq] at h
      simp only [valsM, IE.val]
      rcases h with h | ⟨h, h'⟩
      · exact .inl h
      · exact .inr ⟨h, decrM_spec hf h'⟩
    · rename_i b c o b' c' n h1 h2
      cases h1; cases h2
      simp only [Bool.or_eq_true, Bool.and_eq_true] at h
      rcases h with ⟨h1, h2, h3⟩ | h
      · rw [IE.beq_eq h1, IE.beq_eq h2]
        exact .inr ⟨rfl, decrM_spec hf h3⟩
      · exact decrB_spec hf h
    · exact decrB_spec hf h
/-- The first shape that fits. -/
def pickC (p : List Nat) (s : SS Empty) : List Cut → Nat → Option (Nat × Cut)
  | [], _ => none
  | k :: l, i => if (eqP k.p p && fitSS (matchSS k.I s) k.I s) = true then some (i, k) else pickC p s l (i + 1)
theorem pickC_spec {p : List Nat} {s : SS Empty} : ∀ {l pre : List Cut} {j : Nat} {k : Cut}, pickC p s l pre.length = some (j, k) → (pre ++ l)[j]? = some k ∧ k.p = p ∧ fitSS (matchSS k.I s) k.I s = true
  | [], pre, j, k, h => by cases h
  | c :: l, pre, j, k, h => by
    simp only [pickC] at h
    split at h
    · rename_i hc
      cases h
      simp only [Bool.and_eq_true] at hc
      exact ⟨by rw [List.getElem?_append_right (Nat.le_refl _)]; simp, eqP_eq hc.1, hc.2⟩
    · have := pickC_spec (l := l) (pre := pre ++ [c]) (j := j) (k := k) (by rw [List.length_append]; exact h)
      rw [List.append_assoc] at this
      exact this
/-- Tables' columns, and what bounds them: id, column, from, to. -/
abbrev Tabs := List (Nat × Nat × Int × Int)
def TabR (ts : Tabs) (E : Env) : Prop := ∀ p ∈ ts, ∀ i, p.2.2.1 ≤ E.t p.1 i p.2.1 ∧ E.t p.1 i p.2.1 ≤ p.2.2.2
def tabL (id c : Nat) : Tabs → Option (Int × Int)
  | [] => none
  | (i, j, a, b) :: l => bif Nat.beq i id && Nat.beq j c then some (a, b) else tabL id c l
theorem tabL_spec {id c : Nat} {a b : Int} : ∀ {ts : Tabs}, tabL id c ts = some (a, b) → (id, c, a, b) ∈ ts
  | [], h => by cases h
  | (i, j, x, y) :: l, h => by
    simp only [tabL] at h
    cases hb : (Nat.beq i id && Nat.beq j c) with
    | true =>
      rw [hb] at h
      rw [Bool.and_eq_true] at hb
      cases h
      rw [Nat.eq_of_beq_eq_true hb.1, Nat.eq_of_beq_eq_true hb.2]
      exact List.mem_cons_self ..
    | false => rw [hb] at h; exact List.mem_cons_of_mem _ (tabL_spec h)
def tabK (ts : Tabs) : BE → Bool
  | .cmp .leq (.lit x) (.tab id _ c) => match tabL id c ts with
    | some (a, _) => decide (x ≤ a)
    | none => false
  | .cmp .leq (.tab id _ c) (.lit x) => match tabL id c ts with
    | some (_, b) => decide (b ≤ x)
    | none => false
  | .cmp .lss (.tab id _ c) (.lit x) => match tabL id c ts with
    | some (_, b) => decide (b < x)
    | none => false
  | _ => false
theorem tabK_spec {ts : Tabs} {E : Env} (h : TabR ts E) {b : BE} (hb : tabK ts b = true) : @BE.val E b = true := by
  unfold tabK at hb
  split at hb
  · split at hb
    · rename_i x id i c _ a b ht
      have h1 := (h _ (tabL_spec ht) (@IE.val E i).toNat).1
      have h2 := of_decide_eq_true hb
      exact decide_eq_true (show x ≤ E.t id (@IE.val E i).toNat c from Int.le_trans h2 h1)
    · cases hb
  · split at hb
    · rename_i id i c x _ a b ht
      have h1 := (h _ (tabL_spec ht) (@IE.val E i).toNat).2
      have h2 := of_decide_eq_true hb
      exact decide_eq_true (show E.t id (@IE.val E i).toNat c ≤ x from Int.le_trans h1 h2)
    · cases hb
  · split at hb
    · rename_i id i c x _ a b ht
      have h1 := (h _ (tabL_spec ht) (@IE.val E i).toNat).2
      have h2 := of_decide_eq_true hb
      exact decide_eq_true (show E.t id (@IE.val E i).toNat c < x from Int.lt_of_le_of_lt h1 h2)
    · cases hb
  · cases hb
def knownM (ts : Tabs) (us : Ths) (fs : List BE) (b : BE) : Bool := tabK ts b || knownQ us fs b
theorem knownM_spec {ts : Tabs} {E : Env} (h : TabR ts E) {us : Ths} (hu : ThsOk us) {fs : List BE} (hf : ∀ b ∈ fs, @BE.val E b = true) {b : BE} (hb : knownM ts us fs b = true) : @BE.val E b = true := by
  simp only [knownM, Bool.or_eq_true] at hb
  exact hb.elim (tabK_spec h) (@knownQ_spec E us hu fs hf b)
def needs (ts : Tabs) (us : Ths) (fs pt : List BE) : List BE → List Ob
  | [] => []
  | b :: l => if knownM ts us fs b = true then needs ts us fs pt l else .need b pt :: needs ts us fs pt l
def memT (i : Nat) : List Nat → Bool
  | [] => false
  | j :: l => Nat.beq i j || memT i l
theorem memT_spec {i : Nat} : ∀ {l : List Nat}, memT i l = true → i ∈ l
  | [], h => by cases h
  | j :: l, h => by
    simp only [memT, Bool.or_eq_true] at h
    rcases h with h | h
    · rw [Nat.eq_of_beq_eq_true h]; exact List.mem_cons_self ..
    · exact List.mem_cons_of_mem _ (memT_spec h)
noncomputable def leafM [Env] (ts : Tabs) (us : Ths) (tr : List Nat) (P : Program) (rs : Array ResultVar) (cuts : List Cut) (old : Option (List (IE × IE))) (fs pt : List BE) : RR → List Ob
  | .at_ p s => match pickC p s cuts 0 with
    | some (i, k) => (match old with
      | some o => if decrM fs o (subM (matchSS k.I s) k.ms) = true then [] else [.less o (subM (matchSS k.I s) k.ms) pt]
      | none => []) ++ (needs ts us fs pt (k.fs.map (BE.sub (matchSS k.I s))) ++ (if memT i tr = true then [] else [.at_ i (matchSS k.I s).a (matchSS k.I s).l pt]))
    | none => [.bad 1 pt]
  | .fin s => match resS P rs s.l s.h with
    | .leaf (.w (.one (.b (.bool b)))) => if knownM ts us fs b = true then [] else [.need b pt]
    | _ => [.bad 2 pt]
def owe {L : Type} (ts : Tabs) (us : Ths) (leaf : List BE → List BE → L → List Ob) : List BE → List BE → Tree L → List Ob
  | fs, pt, .leaf l => match leaf fs pt l with
    | [] => []
    | o :: r => if contra us fs (pt.take 2) = true then [] else o :: r
  | fs, pt, .fail n => if contra us fs (pt.take 2) = true then [] else [.bad n pt]
  | fs, pt, .req p t => if knownM ts us fs p = true then owe ts us leaf fs pt t else .need p pt :: owe ts us leaf (learn us p fs) (p :: pt) t
  | fs, pt, .br b t f => (if knownL us fs (notC b) = true then [] else owe ts us leaf (learn us b fs) (b :: pt) t) ++ (if knownL us fs b = true then [] else owe ts us leaf (learn us (notC b) fs) (notC b :: pt) f)
theorem needs_ok {ts : Tabs} {E : Env} (htab : TabR ts E) {us : Ths} (hu : ThsOk us) {Φ : Nat → Env → Prop} {fs pt : List BE} (hf : ∀ b ∈ fs, @BE.val E b = true) (hp : AllB E pt) : ∀ {l : List BE}, ObsOk E Φ (needs ts us fs pt l) → ∀ b ∈ l, @BE.val E b = true
  | [], _, b, hb => by cases hb
  | x :: l, h, b, hb => by
    simp only [needs] at h
    split at h
    · rename_i hk
      rcases List.mem_cons.1 hb with rfl | hb
      · exact knownM_spec htab hu hf hk
      · exact needs_ok htab hu hf hp h b hb
    · rcases List.mem_cons.1 hb with rfl | hb
      · exact h.1 hp
      · exact needs_ok htab hu hf hp h.2 b hb
theorem leafM_ok {ts : Tabs} (E : Env) (htab : TabR ts E) {us : Ths} (hu : ThsOk us) {tr : List Nat} {P : Program} {rs : Array ResultVar} {cuts : List Cut} {Φ : Nat → Env → Prop} {old : Option (List (IE × IE))} (fs pt : List BE) (l : RR) (hf : ∀ b ∈ fs, @BE.val E b = true) (hp : AllB E pt) (htr : ∀ i ∈ tr, ∀ E, Φ i E)
    (h : ObsOk E Φ (@leafM E ts us tr P rs cuts old fs pt l)) : GoodM P rs cuts (fun i E => Φ i E ∧ TabR ts E) (fun v => v = .bool true) E old l := by
  cases l with
  | at_ p s =>
    simp only [leafM] at h
    split at h
    · rename_i i k hk
      obtain ⟨hi, hkp, hfit⟩ := pickC_spec (pre := []) hk
      rw [ObsOk_app, ObsOk_app] at h
      obtain ⟨h1, h2, h3⟩ := h
      have hS : (matchSS k.I s).okB = true := by
        have := hfit
        simp only [fitSS, Bool.and_eq_true] at this
        exact this.1
      refine ⟨i, k, hi, hkp, _, hfit, fun b hb => ?_, ?_, fun o ho => ?_⟩
      · rw [← BE.sub_val E hS b]
        exact needs_ok htab hu hf hp h2 _ (List.mem_map_of_mem hb)
      · refine ⟨?_, htab⟩
        split at h3
        · rename_i hm; exact htr i (memT_spec hm) _
        · exact h3.1 hp
      · subst ho
        simp only at h1
        split at h1
        · rename_i hd
          have := @decrM_spec E fs hf _ _ hd
          rwa [valsM_sub E hS] at this
        · have := h1.1 hp
          rwa [valsM_sub E hS] at this
    · exact (h.1 hp).elim
  | fin s =>
    simp only [leafM] at h
    split at h
    · rename_i b hres
      refine ⟨_, hres, fun ρ v hv => ?_⟩
      have hv' : v = .bool (@BE.val E b) := hv
      rw [hv']
      split at h
      · rename_i hk; rw [knownM_spec htab hu hf hk]
      · rw [h.1 hp]
    · exact (h.1 hp).elim
theorem owe_ok {ts : Tabs} {L : Type} (E : Env) (htab : TabR ts E) {us : Ths} (hu : ThsOk us) {Φ : Nat → Env → Prop} {leaf : List BE → List BE → L → List Ob} {Q : L → Prop} (hg : ∀ fs pt l, (∀ b ∈ fs, @BE.val E b = true) → AllB E pt → ObsOk E Φ (leaf fs pt l) → Q l) :
    ∀ {t : Tree L} {fs pt : List BE}, (∀ b ∈ fs, @BE.val E b = true) → AllB E pt → ObsOk E Φ (owe ts us leaf fs pt t) → @Tree.holds E L Q t
  | .leaf l, fs, pt, hf, hp, h => by
    simp only [owe] at h
    split at h
    · rename_i he; exact hg fs pt l hf hp (by rw [he]; trivial)
    · rename_i o r he
      split at h
      · rename_i hc
        exact (@contra_spec E us hu fs hf _ (fun c hc => AllB_mem.1 hp c (List.mem_of_mem_take hc)) hc).elim
      · exact hg fs pt l hf hp (by rw [he]; exact h)
  | .fail n, fs, pt, hf, hp, h => by
    simp only [owe] at h
    split at h
    · rename_i hc
      exact (@contra_spec E us hu fs hf _ (fun c hc => AllB_mem.1 hp c (List.mem_of_mem_take hc)) hc).elim
    · exact (h.1 hp).elim
  | .req p t, fs, pt, hf, hp, h => by
    simp only [owe] at h
    split at h
    · rename_i hk; exact ⟨knownM_spec htab hu hf hk, owe_ok E htab hu hg hf hp h⟩
    · have h1 := h.1 hp
      exact ⟨h1, owe_ok E htab hu hg (pt := p :: pt) (@learn_spec E us hu _ _ h1 hf) ⟨h1, hp⟩ h.2⟩
  | .br b t f, fs, pt, hf, hp, h => by
    simp only [owe] at h
    rw [ObsOk_app] at h
    refine ⟨fun hb => ?_, fun hb => ?_⟩
    · have h1 := h.1
      split at h1
      · rename_i hk
        have := @knownL_spec E us hu fs hf _ hk
        rw [@notC_val E, hb] at this
        cases this
      · exact owe_ok E htab hu hg (pt := b :: pt) (@learn_spec E us hu _ _ hb hf) ⟨hb, hp⟩ h1
    · have h1 := h.2
      split at h1
      · rename_i hk
        have := @knownL_spec E us hu fs hf _ hk
        rw [hb] at this
        cases this
      · have hn : @BE.val E (notC b) = true := by rw [@notC_val E, hb]; rfl
        exact owe_ok E htab hu hg (pt := notC b :: pt) (@learn_spec E us hu _ _ hn hf) ⟨hn, hp⟩ h1
/-- One number, of so many: or none of these. -/
def isN (e : IE) (n : Nat) : BE := .cmp .eql e (.lit n)
def noneN (e : IE) : Nat → List BE
  | 0 => []
  | n + 1 => .cmp .neq e (.lit n) :: noneN e n
theorem noneN_ok {E : Env} {e : IE} : ∀ {n : Nat}, (∀ j, j < n → ¬ @BE.val E (isN e j) = true) → ∀ b ∈ noneN e n, @BE.val E b = true
  | 0, _, b, hb => by cases hb
  | n + 1, h, b, hb => by
    rcases List.mem_cons.1 hb with rfl | hb
    · have h1 := h n (Nat.lt_succ_self n)
      simp only [isN, BE.val, IE.val, cmpVal] at h1 ⊢
      simpa [bne] using h1
    · exact noneN_ok (fun j hj => h j (Nat.lt_succ_of_lt hj)) b hb
/-- The cases of a number. -/
def ithPart (e : IE) (n : Nat) : Nat → List BE
  | 0 => noneN e n
  | k + 1 => [isN e k]
theorem partsI {E : Env} (e : IE) (n : Nat) {Q : List BE → Prop} (h : ∀ k, k ≤ n → Q (ithPart e n k)) : ∃ ex : List BE, (∀ b ∈ ex, @BE.val E b = true) ∧ Q ex := by
  by_cases hj : ∃ j, j < n ∧ @BE.val E (isN e j) = true
  · obtain ⟨j, hj, hv⟩ := hj
    refine ⟨[isN e j], fun b hb => ?_, h (j + 1) hj⟩
    rcases List.mem_cons.1 hb with rfl | hb
    · exact hv
    · cases hb
  · exact ⟨noneN e n, noneN_ok fun j hj' hv => hj ⟨j, hj', hv⟩, h 0 (Nat.zero_le _)⟩
/-- What is owed is paid (a box, so that none looks in unasked). -/
structure Owed (E : Env) (Φ : Nat → Env → Prop) (l : List Ob) : Prop where
  ok : ObsOk E Φ l
theorem Owed.nil {E : Env} {Φ : Nat → Env → Prop} {l : List Ob} (h : l = []) : Owed E Φ l := ⟨by rw [h]; exact True.intro⟩
theorem Owed.eq {E : Env} {Φ : Nat → Env → Prop} {l m : List Ob} (h : l = m) (hm : ObsOk E Φ m) : Owed E Φ l := ⟨by rw [h]; exact hm⟩
theorem ObsOk_nil {E : Env} {Φ : Nat → Env → Prop} {l : List Ob} (h : l = []) : ObsOk E Φ l := by rw [h]; exact True.intro
/-- What is owed of a law. -/
noncomputable def oweAt [Env] (ts : Tabs) (us : Ths) (tr : List Nat) (P : Program) (fn : Func) (root : Code) (c : CallF Empty) (x : Extra Empty) (cuts : List Cut) (k : Cut) (ex : List BE) : List Ob :=
  owe ts us (leafM ts us tr P fn.results cuts (some k.ms)) (ex ++ k.fs) [] (segAt P c x 65536 root cuts k)
noncomputable def oweStart [Env] (ts : Tabs) (us : Ths) (tr : List Nat) (P : Program) (fn : Func) (root : Code) (c : CallF Empty) (x : Extra Empty) (cuts : List Cut) (fs0 : List BE) (args : List SV) (h0 : Heap Empty) : List Ob :=
  owe ts us (leafM ts us tr P fn.results cuts none) fs0 [] (segStart P c x 65536 root cuts fn.ntmps args h0)
theorem floydM {P : Program} (hm : P.follows .mixedOrders = true) {c : [Env] → CallF Empty} (hc : ∀ [Env], CallOk P c) {x : Extra Empty} (hx : ∀ [Env], ExtraOk P x) {g : Nat} {fn : Func} {root : Code} (hf : P.funcs[g]? = some fn) (hb : fn.body = some root)
    {cuts : List Cut} {ts : Tabs} {us : Ths} (hu : ThsOk us) {tr : List Nat} {Φ : Nat → Env → Prop} (htr : ∀ i ∈ tr, ∀ E, Φ i E) (hl : (cuts.all fun k => isLoop (subAt root k.p) && Nat.ble k.ms.length 9) = true)
    (hcuts : ∀ (E : Env) (i : Nat) (k : Cut), cuts[i]? = some k → (∀ b ∈ k.fs, @BE.val E b = true) → Φ i E → TabR ts E → ∃ ex : List BE, (∀ b ∈ ex, @BE.val E b = true) ∧ Owed E Φ (@oweAt E ts us tr P fn root c x cuts k ex))
    {args : List SV} {h0 : Heap Empty} {fs0 : List BE} (E : Env) (htab : TabR ts E) (hf0 : ∀ b ∈ fs0, @BE.val E b = true) (hstart : Owed E Φ (@oweStart E ts us tr P fn root c x cuts fs0 args h0))
    {ρ : Rho} {F : Nat → Nat → Prop} {w : World} {argv : Array Value} (H : @HeapOk E Empty _ ρ F h0 w) (ha : All2 (@SV.is E ρ) args argv.toList) :
    Calls P g argv w fun e w' => e = .returned (.bool true) ∧ ∃ ρ' F', Reach ρ F w ρ' F' w' := by
  refine Calls.mono (floydN hm hc hx hf hb (cuts := cuts) (Φ := fun i E => Φ i E ∧ TabR ts E) (R := fun v => v = .bool true) hl
    (fun E i k hk hfs hphi => by
      obtain ⟨ex, hex, hob⟩ := hcuts E i k hk hfs hphi.1 hphi.2
      exact owe_ok E hphi.2 hu (fun fs pt l hf hp h => leafM_ok E hphi.2 hu fs pt l hf hp htr h) (pt := []) (fun b hb => (List.mem_append.1 hb).elim (hex b) (hfs b)) trivial hob.ok)
    E (owe_ok E htab hu (fun fs pt l hf hp h => leafM_ok E htab hu fs pt l hf hp htr h) (pt := []) hf0 trivial hstart.ok) H ha) fun e w' he => ?_
  obtain ⟨v, rfl, rfl, h⟩ := he
  exact ⟨rfl, h⟩

end Go.Proofs.Ytafemlljemhkhaa.Sx
