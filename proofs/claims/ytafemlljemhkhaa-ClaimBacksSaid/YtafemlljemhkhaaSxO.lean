/-
  THE SYMBOLIC EXECUTOR, part O: a region that draws its order: it is right.
-/
import Derived.Test.YtafemlljemhkhaaSxN
namespace Go.Proofs.Ytafemlljemhkhaa.Sx
open Go
set_option linter.unusedSectionVars false
set_option linter.unusedVariables false
set_option linter.unusedSimpArgs false
variable [Env]

def isLoadOp (o : Option Oper) : Bool := match o with | some o => (match o.op with | .load _ _ => true | _ => false) | none => false

structure Chk (P : Program) (ops : Array Oper) (i : Nat) (m : Md) (rest : List (Nat × Md)) (L : Array Bool) (oi : Oper) : Prop where
  ready : i ∈ Region.ready .any ops L
  pend : i ∉ pendOf rest
  apart : ∀ p ∈ pendOf rest, ∃ op, ops[p]? = some op ∧ oi.apart ops op = true ∧ isAlcK op = true ∧ zeroOk P op = true
  take : m = .take → Region.free .any ops L i = true ∧ (isPureK oi.op = true ∨ isLoadOp (some oi) = true)
  eff : m = .eff → ∀ k ∈ Region.ready .any ops (setAll L (pendOf rest)), k = i
  alc : m = .alc → isAlcK oi = true ∧ zeroOk P oi = true ∧ ∀ k ∈ Region.ready .any ops (setAll L (pendOf rest)), k = i
  rest : chk P ops rest (L.setIfInBounds i true) = true
theorem chk_cons {P : Program} {ops : Array Oper} {i : Nat} {m : Md} {rest : List (Nat × Md)} {L : Array Bool} (h : chk P ops ((i, m) :: rest) L = true) : ∃ oi, ops[i]? = some oi ∧ Chk P ops i m rest L oi := by
  unfold chk at h
  split at h
  · cases h
  · rename_i oi ho
    simp only [Bool.and_eq_true, Bool.not_eq_true'] at h
    obtain ⟨⟨⟨⟨h1, h2⟩, h3⟩, h4⟩, h5⟩ := h
    refine ⟨oi, ho, by simpa using h1, by simpa using h2, fun p hp => ?_, fun hm => ?_, fun hm => ?_, fun hm => ?_, h5⟩
    · have := List.all_eq_true.1 h3 p hp
      split at this
      · rename_i op hop
        simp only [Bool.and_eq_true] at this
        exact ⟨op, hop, this.1.1, this.1.2, this.2⟩
      · cases this
    · subst hm
      simp only [Bool.and_eq_true, Bool.or_eq_true] at h4
      exact h4
    · subst hm
      intro k hk
      have := List.all_eq_true.1 h4 k hk
      simpa using this
    · subst hm
      simp only [Bool.and_eq_true] at h4
      exact ⟨h4.1.1, h4.1.2, fun k hk => by have := List.all_eq_true.1 h4.2 k hk; simpa using this⟩

theorem pend_apart {P : Program} {ops : Array Oper} : ∀ {sch : List (Nat × Md)} {L : Array Bool}, chk P ops sch L = true → ∀ p ∈ pendOf sch, ∀ q ∈ pendOf sch, p ≠ q → ∀ op oq, ops[p]? = some op → ops[q]? = some oq → op.dst ≠ oq.dst
  | [], _, _, p, hp, _, _, _, _, _, _, _ => by simp [pendOf] at hp
  | (i, m) :: rest, L, h, p, hp, q, hq, hne, op, oq, hop, hoq => by
    obtain ⟨oi, ho, C⟩ := chk_cons h
    have ih := pend_apart C.rest
    have hpp : ∀ k, k ∈ pendOf ((i, m) :: rest) → (k = i ∧ m = .alc) ∨ k ∈ pendOf rest := by
      intro k hk
      cases m <;> simp only [pendOf] at hk
      · exact .inr hk
      · exact .inr hk
      · rcases List.mem_cons.1 hk with h | h
        · exact .inl ⟨h, rfl⟩
        · exact .inr h
    have key : ∀ q ∈ pendOf rest, ∀ oq, ops[q]? = some oq → ∀ d, oi.dst = some d → oq.dst ≠ some d := by
      intro q hq oq hoq d hd
      obtain ⟨o', h1, h2, _⟩ := C.apart q hq
      rw [hoq] at h1; cases h1
      exact (Oper.apart_spec h2).2.1 d hd
    rcases hpp p hp with ⟨rfl, hm⟩ | hp'
    · rcases hpp q hq with ⟨rfl, _⟩ | hq'
      · exact absurd rfl hne
      · rw [ho] at hop; cases hop
        obtain ⟨e, d, _, _, hd⟩ := isAlcK_spec (C.alc hm).1
        rw [hd]; exact fun e => key q hq' oq hoq d hd e.symm
    · rcases hpp q hq with ⟨rfl, hm⟩ | hq'
      · rw [ho] at hoq; cases hoq
        obtain ⟨e, d, _, _, hd⟩ := isAlcK_spec (C.alc hm).1
        rw [hd]; exact key p hp' op hop d hd
      · exact ih p hp' q hq' hne op oq hop hoq

theorem ready_listed {ops : Array Oper} {L listed : Array Bool} {E : List Nat} (hl : ∀ j d, listed.getD j d = if j ∈ E ∧ j < L.size then true else L.getD j d) {i : Nat} (h : i ∈ Region.ready .any ops L) (hi : i ∉ E) : i ∈ Region.ready .any ops listed := by
  rw [mem_ready] at h ⊢
  obtain ⟨h1, o, ho, h2⟩ := h
  refine ⟨by rw [hl, if_neg (fun h => hi h.1)]; exact h1, o, ho, fun e he hb => ?_⟩
  rw [hl]
  split
  · rfl
  · exact h2 e he hb
theorem ready_sub {ops : Array Oper} {L listed : Array Bool} {E A : List Nat} (hl : ∀ j d, listed.getD j d = if j ∈ E ∧ j < L.size then true else L.getD j d) (hE : ∀ p ∈ E, p ∈ A) {k : Nat} (h : k ∈ Region.ready .any ops listed) (hk : k ∉ A) :
    k ∈ Region.ready .any ops (setAll L A) := by
  rw [mem_ready] at h ⊢
  obtain ⟨h1, o, ho, h2⟩ := h
  rw [hl] at h1
  refine ⟨?_, o, ho, fun e he hb => ?_⟩
  · rw [setAll_getD, if_neg (fun h => hk h.1)]
    split at h1
    · cases h1
    · exact h1
  · have := h2 e he hb
    rw [hl] at this
    rw [setAll_getD]
    split at this
    · rename_i hx; rw [if_pos ⟨hE _ hx.1, hx.2⟩]
    · split
      · rfl
      · exact this
theorem ready_not {ops : Array Oper} {L listed : Array Bool} {E : List Nat} (hsz : L.size = ops.size) (hl : ∀ j d, listed.getD j d = if j ∈ E ∧ j < L.size then true else L.getD j d) {k : Nat} (h : k ∈ Region.ready .any ops listed) : k ∉ E := by
  intro hk
  rw [mem_ready] at h
  obtain ⟨h1, o, ho, _⟩ := h
  have hlt : k < L.size := by rw [hsz]; exact (Array.getElem?_eq_some_iff.1 ho).1
  rw [hl, if_pos ⟨hk, hlt⟩] at h1
  cases h1
theorem listed_set {L listed : Array Bool} {E : List Nat} (hs : listed.size = L.size) (hl : ∀ j d, listed.getD j d = if j ∈ E ∧ j < L.size then true else L.getD j d) (i : Nat) (hi : i ∉ E) :
    ∀ j d, (listed.setIfInBounds i true).getD j d = if j ∈ E ∧ j < (L.setIfInBounds i true).size then true else (L.setIfInBounds i true).getD j d := by
  intro j d
  rw [getD_set', getD_set', hl, hs, Array.size_setIfInBounds]
  by_cases h1 : i = j ∧ j < L.size
  · rw [if_pos h1, if_neg (fun h => hi (h1.1 ▸ h.1)), if_pos h1]
  · rw [if_neg h1, if_neg h1]
theorem listed_early {L listed : Array Bool} {E : List Nat} (hs : listed.size = L.size) (hl : ∀ j d, listed.getD j d = if j ∈ E ∧ j < L.size then true else L.getD j d) (k : Nat) :
    ∀ j d, (listed.setIfInBounds k true).getD j d = if j ∈ k :: E ∧ j < L.size then true else L.getD j d := by
  intro j d
  rw [getD_set', hl, hs]
  by_cases h1 : k = j ∧ j < L.size
  · rw [if_pos h1, if_pos ⟨by rw [h1.1]; exact List.mem_cons_self .., h1.2⟩]
  · rw [if_neg h1]
    by_cases h2 : j ∈ E ∧ j < L.size
    · rw [if_pos h2, if_pos ⟨List.mem_cons_of_mem _ h2.1, h2.2⟩]
    · rw [if_neg h2, if_neg]
      rintro ⟨h3, h4⟩
      rcases List.mem_cons.1 h3 with h5 | h5
      · exact h1 ⟨h5.symm, h4⟩
      · exact h2 ⟨h5, h4⟩
theorem unlisted_set {L : Array Bool} {i j : Nat} (h : (L.setIfInBounds i true).getD j true = false) : L.getD j true = false := by
  rw [getD_set'] at h
  split at h
  · cases h
  · exact h

section
variable {A : Type} [AbsK A]

theorem SV.is_under {ρ0 ρ : Rho} (hext : Rho.Ext ρ0 ρ) {F0 : Nat → Nat → Prop} {h0 : Heap A} {w0 : World} (H0 : HeapOk ρ0 F0 h0 w0) {P : Program} {t : TypeId} {x : SV} {v : Value} (hx : x.is ρ v) {K : SV → Prop}
    (hK : (loadS P t x h0).holds K) : x.is ρ0 v := by
  unfold loadS at hK
  split at hK
  · rename_i n off
    obtain ⟨b, hb, hv⟩ := hx
    have key : ∀ o, look h0 n = some o → ρ0 n = some (.blk b) := fun o ho => by
      obtain ⟨r, hr⟩ := H0.rho_some ho
      have := hext n r hr
      rw [hb] at this
      rw [hr, Option.some.inj this]
    split at hK
    · rename_i o h1 _; exact ⟨b, key o h1, hv⟩
    · rename_i o _ h1 _ _; exact ⟨b, key o h1, hv⟩
    · exact hK.elim
  · exact hK.elim

theorem drawn_ok {P : Program} {c : CallF A} {x : Extra A} (hc : CallOk P c) (hx : ExtraOk P x) {prot R : Prot} {ops : Array Oper} {base : Nat} {loads : List Nat} {h0 : Heap A} {ρ0 : Rho} {F0 : Nat → Nat → Prop} {w0 : World}
    (H0 : HeapOk ρ0 F0 h0 w0) (hns : Region.noSelect ops = true) {Q : Exit → Act → World → Prop} (hQp : ∀ ch a w, ¬ Q (.panic ch) a w) {N : Nat} (hN : ∀ (p : Nat) (o : Oper) (d : Nat), ops[p]? = some o → o.dst = some d → d < N)
    {S : World → Prop} (hS : S = fun w => ∀ n k, R.pr n k → ∀ b, ρ0 n = some (.blk b) → w.cell? ⟨b, k, none⟩ = w0.cell? ⟨b, k, none⟩) :
    ∀ (sch : List (Nat × Md)) (L : Array Bool) (l : List SV) (h : Heap A), chk P ops sch L = true → L.size = ops.size → l.length = N →
      (∀ i, (i, Md.take) ∈ sch → isLoadOp ops[i]? = true → i ∈ loads) →
      (runSched P c x prot R ops base loads h0 sch l h).holds (fun r => ∀ ρ' F' a' w', TmpsOk ρ' [] r.1 a' → HeapOk ρ' F' r.2 w' → Goes prot.pr ρ0 F0 w0 ρ' F' w' → Q .normal a' w') →
      ∀ (E : List Nat) (be : Nat → Nat) (ρ : Rho) (F : Nat → Nat → Prop) (a : Act) (w : World) (fuel : Nat) (listed : Array Bool), Rel P ops prot R loads ρ0 F0 w0 L E be ρ F l h a w →
        listed.size = L.size → (∀ j d, listed.getD j d = if j ∈ E ∧ j < L.size then true else L.getD j d) → (∀ p ∈ E, p ∈ pendOf sch) → unl listed ≤ fuel → wpAnyN P ops Q (needOf ops loads) S fuel listed a w := by
  have hRb : ∀ n b, ρ0 n = some (.blk b) → b < w0.heap.size := fun n b hb => H0.size n b (by simp [hb]) (H0.self hb)
  have hsel := Region.noSelect_spec hns
  intro sch
  induction sch with
  | nil =>
    intro L l h hchk hsz hl _ hK E be ρ F a w fuel listed r hs hlist hE hfuel
    have hE0 : E = [] := by
      cases E with
      | nil => rfl
      | cons p E => exact absurd (hE p (List.mem_cons_self ..)) (by simp [pendOf])
    subst hE0
    have hrd : Region.ready .any ops listed = [] := by
      have h1 : Region.ready .any ops L = [] := by simpa [chk] using hchk
      refine List.eq_nil_iff_forall_not_mem.2 fun k hk => ?_
      have := ready_sub (A := []) hlist (fun _ h => h) hk (by simp)
      have e : setAll L [] = L := rfl
      rw [e, h1] at this
      cases this
    refine wpAnyN_done hrd (hK ρ F a w ?_ r.H r.G) fuel
    have := r.T
    simpa [dstsOf] using this
  | cons im rest ih =>
    obtain ⟨i, m⟩ := im
    intro L l h hchk hsz hl hld hK
    obtain ⟨oi, hoi, C⟩ := chk_cons hchk
    have hsz' : (L.setIfInBounds i true).size = ops.size := by simp [hsz]
    have hld' : ∀ k, (k, Md.take) ∈ rest → isLoadOp ops[k]? = true → k ∈ loads := fun k hk => hld k (List.mem_cons_of_mem _ hk)
    have hLi := (mem_ready.1 C.ready).1
    simp only [runSched, hoi] at hK
    have apartE : ∀ E : List Nat, (∀ p ∈ E, p ∈ pendOf rest) → (∀ t ∈ oi.looksAt ops, t ∉ dstsOf ops E) ∧ (∀ d, oi.dst = some d → d ∉ dstsOf ops E) ∧ (∀ x ∈ oi.op.operands, ∀ t ∈ opnds x, t ∉ dstsOf ops E) := by
      intro E hE
      have k1 : ∀ t ∈ oi.looksAt ops, t ∉ dstsOf ops E := fun t ht hc => by
        rw [mem_dstsOf] at hc
        obtain ⟨p, hp, o, ho, hd⟩ := hc
        obtain ⟨o', h1, h2, _⟩ := C.apart p (hE p hp)
        rw [ho] at h1; cases h1
        exact (Oper.apart_spec h2).2.2 t hd ht
      refine ⟨k1, fun d hd hc => ?_, fun y hy t ht => k1 t ?_⟩
      · rw [mem_dstsOf] at hc
        obtain ⟨p, hp, o, ho, hd'⟩ := hc
        obtain ⟨o', h1, h2, _⟩ := C.apart p (hE p hp)
        rw [ho] at h1; cases h1
        exact (Oper.apart_spec h2).2.1 d hd hd'
      · unfold opnds at ht
        split at ht
        · rename_i t'
          rw [List.mem_singleton] at ht; subst ht
          exact List.mem_append_left _ (List.mem_filterMap.2 ⟨.tmp t, by simpa using hy, rfl⟩)
        · simp at ht
    -- what stays when an operation's value is put into its slot
    have relput : ∀ {E : List Nat} {be : Nat → Nat} {ρ ρ' : Rho} {F F' : Nat → Nat → Prop} {l' : List SV} {h' : Heap A} {a : Act} {w w' : World} {s : SV} {v : Value} {pr : Nat → Nat → Prop}, (∀ p ∈ E, p ∈ pendOf rest) →
        Rel P ops prot R loads ρ0 F0 w0 L E be ρ F l h a w → TmpsOk ρ (dstsOf ops E) l' a → HeapOk ρ' F' h' w' → Goes pr ρ F w ρ' F' w' → (∀ m k, prot.pr m k → pr m k) → s.is ρ' v →
        ((∃ k ∈ loads, L.getD k true = false) → S w → S w') → Rel P ops prot R loads ρ0 F0 w0 (L.setIfInBounds i true) E be ρ' F' (setS l' oi.dst s) h' (a.put oi.dst v) w' := by
      intro E be ρ ρ' F F' l' h' a w w' s v pr hE r hT H' G hpr hs hSS
      obtain ⟨k1, k2, k3⟩ := apartE E hE
      refine ⟨(hT.mono G.ext).put oi.dst hs k2, H', r.G.trans (G.sub hpr), fun hex => ?_, fun p hp => ?_, r.inj, r.dis⟩
      · obtain ⟨k, hk, hku⟩ := hex
        have hex' : ∃ k ∈ loads, L.getD k true = false := ⟨k, hk, unlisted_set hku⟩
        have h1 : S w := by subst hS; exact r.S hex'
        have h2 := hSS hex' h1
        subst hS; exact h2
      · refine (r.Ea p hp).step G fun o d ho hd => put_other fun he => k2 d he ?_
        rw [mem_dstsOf]; exact ⟨p, hp, o, ho, hd⟩
    have lenput : ∀ {E : List Nat} {ρ : Rho} {l' : List SV} {a : Act} {s : SV}, TmpsOk ρ (dstsOf ops E) l a → TmpsOk ρ (dstsOf ops E) l' a → (setS l' oi.dst s).length = N := by
      intro E ρ l' a s t1 t2
      have : l'.length = N := by rw [← t2.size, t1.size, hl]
      unfold setS
      split
      · rw [List.length_set]; exact this
      · exact this
    -- a new block that comes up ahead of its turn
    have pick : ∀ (pend : List Nat), (∀ p ∈ pend, p ∈ pendOf ((i, m) :: rest)) → ∀ {E : List Nat} {be : Nat → Nat} {ρ : Rho} {F : Nat → Nat → Prop} {a : Act} {w : World} {k : Nat} {K : Act → World → Prop}, k ∈ pend → k ∉ E → (∀ p ∈ E, p ∈ pendOf ((i, m) :: rest)) →
        Rel P ops prot R loads ρ0 F0 w0 L E be ρ F l h a w → (∀ a' w', (S w → S w') → Rel P ops prot R loads ρ0 F0 w0 L (k :: E) (upd be k w.heap.size) ρ F l h a' w' → K a' w') → wpOp P ops Q k K a w := by
      intro pend hpend E be ρ F a w k K hk hkE hE r hKK
      have hk' := hpend k hk
      obtain ⟨ok, hok, hak, hzk⟩ : ∃ ok, ops[k]? = some ok ∧ isAlcK ok = true ∧ zeroOk P ok = true := by
        cases m with
        | take => obtain ⟨o, h1, _, h2, h3⟩ := C.apart k hk'; exact ⟨o, h1, h2, h3⟩
        | eff => obtain ⟨o, h1, _, h2, h3⟩ := C.apart k hk'; exact ⟨o, h1, h2, h3⟩
        | alc =>
          rcases List.mem_cons.1 hk' with e | e
          · subst e; exact ⟨oi, hoi, (C.alc rfl).1, (C.alc rfl).2.1⟩
          · obtain ⟨o, h1, _, h2, h3⟩ := C.apart k e; exact ⟨o, h1, h2, h3⟩
      refine r.early hRb hok hkE hak hzk (fun q hq oq hoq => pend_apart hchk k hk' q (hE q hq) (fun e => hkE (e ▸ hq)) ok oq hok hoq) (fun d hd => by rw [hl]; exact hN k ok d hok hd) (S := S) hS hKK
    cases m with
    | take =>
      simp only at hK
      intro E be ρ F a w fuel listed r hs hlist hE hfuel
      have hE' : ∀ p ∈ E, p ∈ pendOf rest := hE
      have hiE : i ∉ E := fun hc => C.pend (hE i hc)
      have hir := ready_listed hlist C.ready hiE
      have hiu := (mem_ready.1 hir).1
      have hup := unl_set hiu
      obtain ⟨f, rfl⟩ : ∃ f, fuel = f + 1 := ⟨fuel - 1, by omega⟩
      obtain ⟨k1, k2, k3⟩ := apartE E hE'
      obtain ⟨l', hT', hw⟩ := guarded_ok r.T k1 hK
      have hfree : ∀ j oj, ops[j]? = some oj → j ≠ i → listed.getD j true = false → (∀ e ∈ oj.after, Region.binds .any e = true → e.on ≠ i) → oi.apart ops oj = true := by
        intro j oj hoj hji hun hno
        refine Region.free_spec hoi (C.take rfl).1 j oj hoj hji ?_ hno
        rw [hlist] at hun
        split at hun
        · cases hun
        · exact hun
      have hQ' : ∀ (v : Value) (ch : List PanicEntry) (a : Act) (w : World), Q (.panic ch) (a.put oi.dst v) w → Q (.panic ch) a w := fun v ch a w hq => (hQp _ _ _ hq).elim
      -- behind it
      have next : ∀ {s : SV} {v : Value}, s.is ρ v → (runSched P c x prot R ops base loads h0 rest (setS l' oi.dst s) h).holds (fun r => ∀ ρ' F' a' w', TmpsOk ρ' [] r.1 a' → HeapOk ρ' F' r.2 w' → Goes prot.pr ρ0 F0 w0 ρ' F' w' → Q .normal a' w') →
          wpAnyN P ops Q (needOf ops loads) S f (listed.setIfInBounds i true) (a.put oi.dst v) w := by
        intro s v hsv hrun
        exact ih (L.setIfInBounds i true) _ h C.rest hsz' (lenput r.T hT') hld' hrun E be ρ F _ w f _ (relput hE' r hT' r.H (Goes.refl prot.pr ρ F w) (fun _ _ h => h) hsv (fun _ h => h)) (by simp [hs])
          (listed_set hs hlist i hiE) hE' (by omega)
      rcases hw with ⟨hw, hy⟩ | ⟨hw, hy⟩
      · rw [Tree.holds_bind] at hy
        unfold takeOp at hy
        split at hy
        · rename_i t ht
          obtain ⟨s, v, g1, g2, g3⟩ := pureOp_gives ht hT' k3 hy
          refine wpAnyN_first (S' := fun _ => True) hoi hsel (hQ' v) (fun _ _ _ _ _ _ _ _ _ => trivial) f listed a w hfree hir (.inl ⟨hw, fun w _ => g3 w⟩) trivial (next g2 g1)
        · split at hy
          · rename_i t y hop
            split at hy
            · rename_i hcov
              simp only [Bool.and_eq_true, Bool.or_eq_true] at hcov
              have hyv := ev_is hT' y (k3 y (by rw [hop]; simp [Op.operands]))
              have hyv0 := SV.is_under r.G.ext H0 hyv hy
              obtain ⟨s, u, g1, g2, g3, g4⟩ := loadS_ok H0 hyv0 hy
              have hil : i ∈ loads := hld i (List.mem_cons_self ..) (by rw [hoi]; simp [isLoadOp, hop])
              have hSw : S w := by subst hS; exact r.S ⟨i, hil, hLi⟩
              have hyield : YieldsIf P ops S oi u a := by
                refine .inl ⟨hw, fun w' hSw' => ?_⟩
                have := g4 R hcov.1 (fun ha => by rcases hcov.2 with h1 | h1; · simp [ha] at h1
                                                  · simpa using h1) w' (by subst hS; exact hSw')
                obtain ⟨dst, op, type, pos, after, guard⟩ := oi
                simp only at hop
                subst hop
                simp [execOp, this]
              refine wpAnyN_first (S' := S) hoi hsel (hQ' u) ?_ f listed a w hfree hir hyield hSw (next (SV.is_mono r.G.ext s u g2) g1)
              intro listed' j w1 w2 hiu' hjr hji hneed hS1
              cases hn : needOf ops loads j with
              | true => exact hneed hn hS1
              | false =>
                exfalso
                rw [mem_ready] at hjr
                obtain ⟨_, oj, hoj, hall⟩ := hjr
                simp only [needOf, hoj, Bool.not_eq_false'] at hn
                have := List.all_eq_true.1 hn i hil
                obtain ⟨e, he, heb⟩ := Array.any_eq_true'.1 this
                simp only [Bool.and_eq_true, beq_iff_eq] at heb
                have h1 := hall e he heb.1
                rw [heb.2] at h1
                have hlt : i < listed'.size := by
                  rcases Nat.lt_or_ge i listed'.size with h2 | h2
                  · exact h2
                  · simp [Array.getElem?_eq_none h2] at h1
                simp [hlt] at h1 hiu'
                rw [h1] at hiu'; cases hiu'
            · exact hy.elim
          · exact hy.elim
      · refine wpAnyN_first (S' := fun _ => True) hoi hsel (hQ' undef) (fun _ _ _ _ _ _ _ _ _ => trivial) f listed a w hfree hir (.inr ⟨hw, rfl⟩) trivial (next (undefS_is ρ) hy)
    | eff =>
      simp only at hK
      intro E be ρ F a w fuel
      induction fuel generalizing E be ρ F a w with
      | zero =>
        intro listed r hs hlist hE hfuel
        have hiE : i ∉ E := fun hc => C.pend (hE i hc)
        have := unl_pos (mem_ready.1 (ready_listed hlist C.ready hiE)).1
        omega
      | succ f ihf =>
        intro listed r hs hlist hE hfuel
        have hE' : ∀ p ∈ E, p ∈ pendOf rest := hE
        have hiE : i ∉ E := fun hc => C.pend (hE i hc)
        have hir := ready_listed hlist C.ready hiE
        refine wpAnyN_all (fun h0 => by rw [h0] at hir; cases hir) fun k hk => ?_
        have hku := (mem_ready.1 hk).1
        have hup := unl_set hku
        by_cases hkp : k ∈ pendOf rest
        · have hkE := ready_not hsz hlist hk
          refine pick (pendOf rest) (fun p hp => hp) hkp hkE hE r fun a' w' hSS r' => ⟨fun _ => hSS, ?_⟩
          exact ihf _ _ _ _ _ _ _ r' (by simp [hs]) (listed_early hs hlist k) (fun p hp => by rcases List.mem_cons.1 hp with e | e; · subst e; exact hkp
                                                                                              · exact hE p e) (by omega)
        · have hki : k = i := (C.eff rfl) k (ready_sub hlist hE' hk hkp)
          subst hki
          obtain ⟨k1, k2, k3⟩ := apartE E hE'
          obtain ⟨l', hT', hw⟩ := guarded_ok r.T k1 hK
          unfold wpOp
          simp only [hoi]
          rcases hw with ⟨hw, hy⟩ | ⟨hw, hy⟩
          · rw [if_pos hw]
            rw [Tree.holds_bind] at hy
            refine .inl (doOp_wp hc hx r.H hT' k3 (Tree.holds_mono (fun q hq v ρ' F' w' hsv H' G => ?_) hy))
            have hSS : needOf ops loads k = true → S w → S w' := by
              intro hn
              rw [if_pos hn] at G
              subst hS
              intro hSw n j hnj b hb
              have : (R ++ prot).pr n j := by
                have h1 : R.has n j = true := hnj
                show (R ++ prot).has n j = true
                simp only [Prot.has, List.any_append] at h1 ⊢
                rw [h1]; rfl
              rw [G.prot n j this b (r.G.ext _ _ hb)]
              exact hSw n j hnj b hb
            refine ⟨hSS, ?_⟩
            have hpr : ∀ m j, prot.pr m j → (if needOf ops loads k = true then R ++ prot else prot).pr m j := by
              intro m j hm
              split
              · have h1 : prot.has m j = true := hm
                show (R ++ prot).has m j = true
                simp only [Prot.has, List.any_append] at h1 ⊢
                rw [h1]; simp
              · exact hm
            refine ih (L.setIfInBounds k true) _ q.2 C.rest hsz' (lenput r.T hT') hld' hq E be ρ' F' _ w' f _ (relput hE' r hT' H' G hpr hsv ?_) (by simp [hs]) (listed_set hs hlist k hiE) hE' (by omega)
            intro hex hSw
            cases hn : needOf ops loads k with
            | true => exact hSS hn hSw
            | false =>
              exfalso
              obtain ⟨j, hj, hju⟩ := hex
              obtain ⟨_, oj, hoj, hall⟩ := mem_ready.1 C.ready
              simp only [needOf, hoj, Bool.not_eq_false'] at hn
              have := List.all_eq_true.1 hn j hj
              obtain ⟨e, he, heb⟩ := Array.any_eq_true'.1 this
              simp only [Bool.and_eq_true, beq_iff_eq] at heb
              have h1 := hall e he heb.1
              rw [heb.2] at h1
              have hlt : j < L.size := by
                rcases Nat.lt_or_ge j L.size with h2 | h2
                · exact h2
                · simp [Array.getElem?_eq_none h2] at h1
              simp [hlt] at h1 hju
              rw [h1] at hju; cases hju
          · rw [if_neg (by simp [hw])]
            refine ⟨fun _ h => h, ?_⟩
            exact ih (L.setIfInBounds k true) _ h C.rest hsz' (lenput r.T hT') hld' hy E be ρ F _ w f _ (relput hE' r hT' r.H (Goes.refl prot.pr ρ F w) (fun _ _ h => h) (undefS_is ρ) (fun _ h => h)) (by simp [hs])
              (listed_set hs hlist k hiE) hE' (by omega)
    | alc =>
      obtain ⟨hal, hzl, hrd⟩ := C.alc rfl
      obtain ⟨e, d, he, hg, hd⟩ := isAlcK_spec hal
      simp only [he] at hK
      rw [Tree.holds_bind] at hK
      have yes : ∀ (E : List Nat) (be : Nat → Nat) (ρ : Rho) (F : Nat → Nat → Prop) (a : Act) (w : World) (fuel : Nat) (listed : Array Bool), Rel P ops prot R loads ρ0 F0 w0 L E be ρ F l h a w → i ∈ E →
          listed.size = L.size → (∀ j d, listed.getD j d = if j ∈ E ∧ j < L.size then true else L.getD j d) → (∀ p ∈ E, p ∈ i :: pendOf rest) → unl listed ≤ fuel → wpAnyN P ops Q (needOf ops loads) S fuel listed a w := by
        intro E be ρ F a w fuel listed r hiE hs hlist hE hfuel
        obtain ⟨⟨o, d', e', zv, cs, q1, q2, q3, q4, q5, q6, q7, q8⟩, qlo, qhi, qout⟩ := r.Ea i hiE
        rw [hoi] at q1; cases q1
        rw [he] at q2; cases q2
        rw [hd] at q3; cases q3
        unfold allocS at hK
        rw [q4] at hK
        split at hK
        · rename_i cs1 hcs hfn
          obtain ⟨hnone, hni⟩ := freeN_spec hfn
          obtain rfl : cs = cs1 := Option.some.inj hcs
          have hρn : ρ (nmOf base i) = none := by
            have := r.H.dom (nmOf base i); rw [hnone] at this
            cases hr : ρ (nmOf base i) with
            | none => rfl
            | some r0 => rw [hr] at this; simp at this
          have H' := r.H.adopt (cs := cs) hnone hni q8 (q6 ρ) qout
          have G' := r.G.adopt hρn hni qlo
          have hext : Rho.Ext ρ (upd ρ (nmOf base i) (some (.blk (be i)))) := fun m rr hm => by
            rw [upd_ne _ _ _ _ (fun e => by subst e; rw [hρn] at hm; cases hm)]; exact hm
          have hEsub : ∀ p ∈ E.filter (· != i), p ∈ E ∧ p ≠ i := fun p hp => by
            rw [List.mem_filter] at hp; exact ⟨hp.1, by simpa using hp.2⟩
          have hE2 : ∀ p ∈ E.filter (· != i), p ∈ pendOf rest := fun p hp => by
            obtain ⟨h1, h2⟩ := hEsub p hp
            rcases List.mem_cons.1 (hE p h1) with h3 | h3
            · exact absurd h3 h2
            · exact h3
          have hlen : (setS l (some d) (SV.w (.one (.b (.ptr (nmOf base i) (.lit 0)))))).length = N := by simp [setS, hl]
          rw [hd] at hK
          refine ih (L.setIfInBounds i true) _ _ C.rest hsz' hlen hld' hK (E.filter (· != i)) be (upd ρ (nmOf base i) (some (.blk (be i)))) (upd F (nmOf base i) (fun x => x = be i)) a w fuel listed ?_ (by simp [hs]) ?_ hE2 hfuel
          · refine ⟨⟨by rw [hlen, r.T.size, hl], fun j s hj hjs => ?_, r.T.defers⟩, H', G', fun hex => ?_, fun p hp => ?_, fun p hp q hq => r.inj p (hEsub p hp).1 q (hEsub q hq).1, fun p hp q hq => r.dis p (hEsub p hp).1 q (hEsub q hq).1⟩
            · simp only [setS] at hjs
              by_cases hdj : d = j
              · subst hdj
                have hlt : d < l.length := by
                  rcases Nat.lt_or_ge d l.length with h1 | h1
                  · exact h1
                  · rw [List.getElem?_eq_none (by simpa using h1)] at hjs; cases hjs
                rw [List.getElem?_set_self hlt] at hjs
                cases hjs
                exact ⟨_, q7, be i, upd_same _ _ _, by simp [IE.val]⟩
              · rw [List.getElem?_set_ne hdj] at hjs
                have hj' : j ∉ dstsOf ops E := fun hc => by
                  rw [mem_dstsOf] at hc
                  obtain ⟨p, hp, o', ho', hdo⟩ := hc
                  by_cases hpi : p = i
                  · subst hpi; rw [hoi] at ho'; cases ho'; rw [hd] at hdo; exact hdj (Option.some.inj hdo)
                  · refine hj ?_
                    rw [mem_dstsOf]
                    exact ⟨p, List.mem_filter.2 ⟨hp, by simpa using hpi⟩, o', ho', hdo⟩
                obtain ⟨v, hv, hsv⟩ := r.T.at_ j s hj' hjs
                exact ⟨v, hv, SV.is_mono hext s v hsv⟩
            · obtain ⟨k, hk, hku⟩ := hex
              exact r.S ⟨k, hk, unlisted_set hku⟩
            · obtain ⟨h1, h2⟩ := hEsub p hp
              obtain ⟨op, lo, hi, out⟩ := r.Ea p h1
              refine ⟨op, lo, hi, fun n hn hf => ?_⟩
              by_cases hni : n = nmOf base i
              · subst hni; rw [upd_same] at hf; exact r.inj p h1 i hiE h2 hf
              · rw [upd_ne _ _ _ _ hni] at hn hf; exact out n hn hf
          · intro j d
            rw [hlist, getD_set', Array.size_setIfInBounds]
            by_cases hji : i = j
            · subst hji
              by_cases hlt : i < L.size
              · simp [hiE, hlt]
              · rw [if_neg (fun h => hlt h.2), if_neg (fun h => hlt h.2), if_neg (fun h => hlt h.2)]
            · rw [if_neg (c := i = j ∧ j < L.size) (fun h => hji h.1)]
              by_cases hje : j ∈ E ∧ j < L.size
              · rw [if_pos hje, if_pos ⟨List.mem_filter.2 ⟨hje.1, by simpa using Ne.symm hji⟩, hje.2⟩]
              · rw [if_neg hje, if_neg (fun h => hje ⟨(List.mem_filter.1 h.1).1, h.2⟩)]
        · exact hK.elim
      intro E be ρ F a w fuel
      induction fuel generalizing E be ρ F a w with
      | zero =>
        intro listed r hs hlist hE hfuel
        by_cases hiE : i ∈ E
        · exact yes E be ρ F a w 0 listed r hiE hs hlist hE hfuel
        · have := unl_pos (mem_ready.1 (ready_listed hlist C.ready hiE)).1
          omega
      | succ f ihf =>
        intro listed r hs hlist hE hfuel
        by_cases hiE : i ∈ E
        · exact yes E be ρ F a w _ listed r hiE hs hlist hE hfuel
        · have hir := ready_listed hlist C.ready hiE
          refine wpAnyN_all (fun h0 => by rw [h0] at hir; cases hir) fun k hk => ?_
          have hku := (mem_ready.1 hk).1
          have hup := unl_set hku
          have hkp : k ∈ i :: pendOf rest := by
            apply Classical.byContradiction; intro hc
            have hE2 : ∀ p ∈ E, p ∈ pendOf rest := fun p hp => by
              rcases List.mem_cons.1 (hE p hp) with e | e
              · exact absurd (e ▸ hp) hiE
              · exact e
            have := ready_sub (A := pendOf rest) hlist hE2 hk (fun h => hc (List.mem_cons_of_mem _ h))
            exact hc (by rw [hrd k this]; exact List.mem_cons_self ..)
          have hkE := ready_not hsz hlist hk
          refine pick (i :: pendOf rest) (fun p hp => hp) hkp hkE hE r fun a' w' hSS r' => ⟨fun _ => hSS, ?_⟩
          exact ihf _ _ _ _ _ _ _ r' (by simp [hs]) (listed_early hs hlist k) (fun p hp => by rcases List.mem_cons.1 hp with e | e; · subst e; exact hkp
                                                                                              · exact hE p e) (by omega)

end
end Go.Proofs.Ytafemlljemhkhaa.Sx
