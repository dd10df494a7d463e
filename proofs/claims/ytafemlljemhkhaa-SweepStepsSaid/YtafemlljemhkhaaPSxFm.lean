import Derived.Test.YtafemlljemhkhaaPSxFsd
namespace Go.Proofs.Ytafemlljemhkhaa.Sx
open Go
set_option linter.unusedSectionVars false
set_option linter.unusedVariables false
set_option linter.unusedSimpArgs false
inductive Ob where
  | at_ (i : Nat) (a l : List (Nat × IE)) (cs : List BE)
  | need (b : BE) (cs : List BE)
  | less (o n : List (IE × IE)) (cs : List BE)
  | bad (why : Nat) (cs : List BE)
def AllB (E : Env) : List BE → Prop
  | [] => True
  | b :: l => @BE.val E b = true ∧ AllB E l
theorem AllB_mem {E : Env} : ∀ {l : List BE}, AllB E l ↔ ∀ b ∈ l, @BE.val E b = true
  | [] => ⟨fun _ _ h => (by cases h),fun _ => trivial⟩
  | x :: l => by
    simp only [AllB,List.forall_mem_cons,AllB_mem (l := l)]
def Ob.holds (E : Env) (Φ : Nat → Env → Prop) : Ob → Prop
  | .at_ i a l cs => AllB E cs → Φ i (E.by ⟨a,l, []⟩)
  | .need b cs => AllB E cs → @BE.val E b = true
  | .less o n cs => AllB E cs → Lx (@valsM E n) (@valsM E o)
  | .bad _ cs => AllB E cs → False
def ObsOk (E : Env) (Φ : Nat → Env → Prop) : List Ob → Prop
  | [] => True
  | o :: l => o.holds E Φ ∧ ObsOk E Φ l
theorem ObsOk_app {E : Env} {Φ : Nat → Env → Prop} : ∀ {l m : List Ob}, ObsOk E Φ (l ++ m) ↔ ObsOk E Φ l ∧ ObsOk E Φ m
  | [],m => ⟨fun h => ⟨trivial,h⟩,fun h => h.2⟩
  | o :: l, m => by
    simp only [List.cons_append,ObsOk,ObsOk_app (l := l)]
    exact ⟨fun ⟨a,b,c⟩ => ⟨⟨a,b⟩,c⟩,fun ⟨⟨a,b⟩,c⟩ => ⟨a,b,c⟩⟩
def decrM (fs : List BE) : List (IE × IE) → List (IE × IE) → Bool
  | (.lit b, .lit c) :: o,(.lit b', .lit c') :: n => Nat.blt (b' - c').toNat (b - c).toNat || (Nat.beq (b' - c').toNat (b - c).toNat && decrM fs o n)
  | (b,c) :: o,(b',c') :: n => (IE.beq b b' && (IE.beq c c' && decrM fs o n)) || decrB fs ((b,c) :: o) ((b',c') :: n)
  | o,n => decrB fs o n
theorem decrM_spec [Env] {fs : List BE} (hf : ∀ c ∈ fs, c.val = true) : ∀ {o n : List (IE × IE)}, decrM fs o n = true → Lx (valsM n) (valsM o)
  | [], n, h => by
    unfold decrM at h
    exact decrB_spec hf (by simpa using h)
  | x :: o, [], h => by
    unfold decrM at h
    split at h
    · rename_i heq; cases heq
    · rename_i heq; cases heq
    · exact decrB_spec hf h
  | (b, c) :: o, (b', c') :: n, h => by
    unfold decrM at h
    split at h
    · rename_i b c o b' c' n h1 h2
      cases h1; cases h2
      simp only [Bool.or_eq_true,Bool.and_eq_true,Nat.blt_eq,Nat.beq_eq] at h
      simp only [valsM,IE.val]
      rcases h with h | ⟨h,h'⟩
      · exact .inl h
      · exact .inr ⟨h,decrM_spec hf h'⟩
    · rename_i b c o b' c' n h1 h2
      cases h1; cases h2
      simp only [Bool.or_eq_true,Bool.and_eq_true] at h
      rcases h with ⟨h1,h2,h3⟩ | h
      · rw [IE.beq_eq h1, IE.beq_eq h2]
        exact .inr ⟨rfl,decrM_spec hf h3⟩
      · exact decrB_spec hf h
    · exact decrB_spec hf h
def pickC (p : List Nat) (s : SS Empty) : List Cut → Nat → Option (Nat × Cut)
  | [],_ => none
  | k :: l,i => if (eqP k.p p && fitSS (matchSS k.I s) k.I s) = true then some (i,k) else pickC p s l (i + 1)
theorem pickC_spec {p : List Nat} {s : SS Empty} : ∀ {l pre : List Cut} {j : Nat} {k : Cut}, pickC p s l pre.length = some (j, k) → (pre ++ l)[j]? = some k ∧ k.p = p ∧ fitSS (matchSS k.I s) k.I s = true
  | [],pre,j,k,h => by cases h
  | c :: l, pre, j, k, h => by
    simp only [pickC] at h
    split at h
    · rename_i hc
      cases h
      simp only [Bool.and_eq_true] at hc
      exact ⟨by rw [List.getElem?_append_right (Nat.le_refl _)]; simp,eqP_eq hc.1,hc.2⟩
    · have := pickC_spec (l := l) (pre := pre ++ [c]) (j := j) (k := k) (by rw [List.length_append]; exact h)
      rw [List.append_assoc] at this
      exact this
abbrev Tabs := List (Nat × Nat × Int × Int)
def TabR (ts : Tabs) (E : Env) : Prop := ∀ p ∈ ts, ∀ i,p.2.2.1 ≤ E.t p.1 i p.2.1 ∧ E.t p.1 i p.2.1 ≤ p.2.2.2
def tabL (id c : Nat) : Tabs → Option (Int × Int)
  | [] => none
  | (i,j,a,b) :: l => bif Nat.beq i id && Nat.beq j c then some (a,b) else tabL id c l
theorem tabL_spec {id c : Nat} {a b : Int} : ∀ {ts : Tabs}, tabL id c ts = some (a, b) → (id, c, a, b) ∈ ts
  | [],h => by cases h
  | (i, j, x, y) :: l, h => by
    simp only [tabL] at h
    cases hb : (Nat.beq i id && Nat.beq j c) with
    | true =>
      rw [hb] at h
      rw [Bool.and_eq_true] at hb
      cases h
      rw [Nat.eq_of_beq_eq_true hb.1,Nat.eq_of_beq_eq_true hb.2]
      exact List.mem_cons_self ..
    | false => rw [hb] at h; exact List.mem_cons_of_mem _ (tabL_spec h)
def tabK (ts : Tabs) : BE → Bool
  | .cmp .leq (.lit x) (.tab id _ c) => match tabL id c ts with
    | some (a,_) => decide (x ≤ a)
    | none => false
  | .cmp .leq (.tab id _ c) (.lit x) => match tabL id c ts with
    | some (_,b) => decide (b ≤ x)
    | none => false
  | .cmp .lss (.tab id _ c) (.lit x) => match tabL id c ts with
    | some (_,b) => decide (b < x)
    | none => false
  | _ => false
theorem tabK_spec {ts : Tabs} {E : Env} (h : TabR ts E) {b : BE} (hb : tabK ts b = true) : @BE.val E b = true := by
  unfold tabK at hb
  split at hb
  · split at hb
    · rename_i x id i c _ a b ht
      have h1 := (h _ (tabL_spec ht) (@IE.val E i).toNat).1
      have h2 := of_decide_eq_true hb
      exact decide_eq_true (show x ≤ E.t id (@IE.val E i).toNat c from Int.le_trans h2 h1)
    · cases hb
  · split at hb
    · rename_i id i c x _ a b ht
      have h1 := (h _ (tabL_spec ht) (@IE.val E i).toNat).2
      have h2 := of_decide_eq_true hb
      exact decide_eq_true (show E.t id (@IE.val E i).toNat c ≤ x from Int.le_trans h1 h2)
    · cases hb
  · split at hb
    · rename_i id i c x _ a b ht
      have h1 := (h _ (tabL_spec ht) (@IE.val E i).toNat).2
      have h2 := of_decide_eq_true hb
      exact decide_eq_true (show E.t id (@IE.val E i).toNat c < x from Int.lt_of_le_of_lt h1 h2)
    · cases hb
  · cases hb
def knownM (ts : Tabs) (us : Ths) (fs : List BE) (b : BE) : Bool := tabK ts b || knownQ us fs b
theorem knownM_spec {ts : Tabs} {E : Env} (h : TabR ts E) {us : Ths} (hu : ThsOk us) {fs : List BE} (hf : ∀ b ∈ fs, @BE.val E b = true) {b : BE} (hb : knownM ts us fs b = true) : @BE.val E b = true := by
  simp only [knownM,Bool.or_eq_true] at hb
  exact hb.elim (tabK_spec h) (@knownQ_spec E us hu fs hf b)
def needs (ts : Tabs) (us : Ths) (fs pt : List BE) : List BE → List Ob
  | [] => []
  | b :: l => if knownM ts us fs b = true then needs ts us fs pt l else .need b pt :: needs ts us fs pt l
def memT (i : Nat) : List Nat → Bool
  | [] => false
  | j :: l => Nat.beq i j || memT i l
theorem memT_spec {i : Nat} : ∀ {l : List Nat}, memT i l = true → i ∈ l
  | [],h => by cases h
  | j :: l, h => by
    simp only [memT,Bool.or_eq_true] at h
    rcases h with h | h
    · rw [Nat.eq_of_beq_eq_true h]; exact List.mem_cons_self ..
    · exact List.mem_cons_of_mem _ (memT_spec h)
def owe {L : Type} (ts : Tabs) (us : Ths) (leaf : List BE → List BE → L → List Ob) : List BE → List BE → Tree L → List Ob
  | fs, pt, .leaf l => match leaf fs pt l with
    | [] => []
    | o :: r => if contra us fs (pt.take 2) = true then [] else o :: r
  | fs,pt, .fail n => if contra us fs (pt.take 2) = true then [] else [.bad n pt]
  | fs,pt, .req p t => if knownM ts us fs p = true then owe ts us leaf fs pt t else .need p pt :: owe ts us leaf (learn us p fs) (p :: pt) t
  | fs,pt, .br b t f => (if knownL us fs (notC b) = true then [] else owe ts us leaf (learn us b fs) (b :: pt) t) ++ (if knownL us fs b = true then [] else owe ts us leaf (learn us (notC b) fs) (notC b :: pt) f)
theorem needs_ok {ts : Tabs} {E : Env} (htab : TabR ts E) {us : Ths} (hu : ThsOk us) {Φ : Nat → Env → Prop} {fs pt : List BE} (hf : ∀ b ∈ fs, @BE.val E b = true) (hp : AllB E pt) : ∀ {l : List BE}, ObsOk E Φ (needs ts us fs pt l) → ∀ b ∈ l, @BE.val E b = true
  | [],_,b,hb => by cases hb
  | x :: l, h, b, hb => by
    simp only [needs] at h
    split at h
    · rename_i hk
      rcases List.mem_cons.1 hb with rfl | hb
      · exact knownM_spec htab hu hf hk
      · exact needs_ok htab hu hf hp h b hb
    · rcases List.mem_cons.1 hb with rfl | hb
      · exact h.1 hp
      · exact needs_ok htab hu hf hp h.2 b hb
theorem owe_ok {ts : Tabs} {L : Type} (E : Env) (htab : TabR ts E) {us : Ths} (hu : ThsOk us) {Φ : Nat → Env → Prop} {leaf : List BE → List BE → L → List Ob} {Q : L → Prop} (hg : ∀ fs pt l, (∀ b ∈ fs, @BE.val E b = true) → AllB E pt → ObsOk E Φ (leaf fs pt l) → Q l) :
    ∀ {t : Tree L} {fs pt : List BE},(∀ b ∈ fs, @BE.val E b = true) → AllB E pt → ObsOk E Φ (owe ts us leaf fs pt t) → @Tree.holds E L Q t
  | .leaf l, fs, pt, hf, hp, h => by
    simp only [owe] at h
    split at h
    · rename_i he; exact hg fs pt l hf hp (by rw [he]; trivial)
    · rename_i o r he
      split at h
      · rename_i hc
        exact (@contra_spec E us hu fs hf _ (fun c hc => AllB_mem.1 hp c (List.mem_of_mem_take hc)) hc).elim
      · exact hg fs pt l hf hp (by rw [he]; exact h)
  | .fail n, fs, pt, hf, hp, h => by
    simp only [owe] at h
    split at h
    · rename_i hc
      exact (@contra_spec E us hu fs hf _ (fun c hc => AllB_mem.1 hp c (List.mem_of_mem_take hc)) hc).elim
    · exact (h.1 hp).elim
  | .req p t, fs, pt, hf, hp, h => by
    simp only [owe] at h
    split at h
    · rename_i hk; exact ⟨knownM_spec htab hu hf hk,owe_ok E htab hu hg hf hp h⟩
    · have h1 := h.1 hp
      exact ⟨h1,owe_ok E htab hu hg (pt := p :: pt) (@learn_spec E us hu _ _ h1 hf) ⟨h1,hp⟩ h.2⟩
  | .br b t f, fs, pt, hf, hp, h => by
    simp only [owe] at h
    rw [ObsOk_app] at h
    refine ⟨fun hb => ?_,fun hb => ?_⟩
    · have h1 := h.1
      split at h1
      · rename_i hk
        have := @knownL_spec E us hu fs hf _ hk
        rw [@notC_val E,hb] at this
        cases this
      · exact owe_ok E htab hu hg (pt := b :: pt) (@learn_spec E us hu _ _ hb hf) ⟨hb,hp⟩ h1
    · have h1 := h.2
      split at h1
      · rename_i hk
        have := @knownL_spec E us hu fs hf _ hk
        rw [hb] at this
        cases this
      · have hn : @BE.val E (notC b) = true := by rw [@notC_val E, hb]; rfl
        exact owe_ok E htab hu hg (pt := notC b :: pt) (@learn_spec E us hu _ _ hn hf) ⟨hn,hp⟩ h1
structure Owed (E : Env) (Φ : Nat → Env → Prop) (l : List Ob) : Prop where
  ok : ObsOk E Φ l
theorem Owed.nil {E : Env} {Φ : Nat → Env → Prop} {l : List Ob} (h : l = []) : Owed E Φ l := ⟨by rw [h]; exact True.intro⟩
theorem Owed.eq {E : Env} {Φ : Nat → Env → Prop} {l m : List Ob} (h : l = m) (hm : ObsOk E Φ m) : Owed E Φ l := ⟨by rw [h]; exact hm⟩
end Go.Proofs.Ytafemlljemhkhaa.Sx
