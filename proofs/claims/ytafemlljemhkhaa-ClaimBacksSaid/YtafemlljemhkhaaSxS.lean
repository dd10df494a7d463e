/-
  THE SYMBOLIC EXECUTOR, part S: what a function does on a small heap it does on every heap that holds it.
-/
import Derived.Test.YtafemlljemhkhaaSxR
namespace Go.Proofs.Ytafemlljemhkhaa.Sx
open Go
set_option linter.unusedSectionVars false
set_option linter.unusedVariables false
set_option linter.unusedSimpArgs false
variable [Env]

/-! ### other names -/
def SB.ren (φ : Nat → Nat) : SB → SB
  | .ptr n o => .ptr (φ n) o
  | .sl n o l c => .sl (φ n) o l c
  | .isl n o l => .isl (φ n) o l
  | .ref n => .ref (φ n)
  | .unk => .unk
  | .bool b => .bool b
  | .int k e => .int k e
  | .nilp => .nilp
  | .nils => .nils
  | .nilf => .nilf
def SC.ren (φ : Nat → Nat) : SC → SC
  | .b x => .b (x.ren φ)
  | .fn f p q => .fn f (p.map (SB.ren φ)) (q.map (SB.ren φ))
def SW.ren (φ : Nat → Nat) : SW → SW
  | .one c => .one (c.ren φ)
  | .agg l => .agg (l.map (SC.ren φ))
def SV.ren (φ : Nat → Nat) : SV → SV
  | .unk => .unk
  | .w x => .w (x.ren φ)
  | .tup l => .tup (l.map (SW.ren φ))
def SO.ren {A : Type} (φ : Nat → Nat) : SO A → SO A
  | .cells e l t => .cells e (l.map (SC.ren φ)) t
  | .row k e l => .row k e l
  | .abs a => .abs a
  | .tab c o n id => .tab c o n id

section
variable {ρ σ : Rho} {φ : Nat → Nat}
theorem SB.ren_is {x : SB} (h : ∀ n ∈ x.nms, ρ n = σ (φ n)) (v : Value) : x.is ρ v ↔ (x.ren φ).is σ v := by
  cases x <;> simp only [SB.ren, SB.is, SB.nms, List.mem_singleton, forall_eq] at h ⊢ <;> rw [h]
theorem SBs.ren_is : ∀ {l : List SB} (h : ∀ n ∈ SB.nmsL l, ρ n = σ (φ n)) (vs : List Value), All2 (SB.is ρ) l vs ↔ All2 (SB.is σ) (l.map (SB.ren φ)) vs
  | [], _, [] => Iff.rfl
  | x :: l, h, v :: vs => by
    simp only [SB.nmsL, List.mem_append] at h
    simp only [List.map_cons, All2]
    rw [SB.ren_is (fun n hn => h n (.inl hn)) v, SBs.ren_is (fun n hn => h n (.inr hn)) vs]
  | [], _, _ :: _ => Iff.rfl
  | _ :: _, _, [] => Iff.rfl
theorem SC.ren_is {x : SC} (h : ∀ n ∈ x.nms, ρ n = σ (φ n)) (v : Value) : x.is ρ v ↔ (x.ren φ).is σ v := by
  cases x with
  | b y => exact SB.ren_is h v
  | fn f p q =>
    simp only [SC.nms, List.mem_append] at h
    simp only [SC.ren, SC.is]
    constructor
    · rintro ⟨vs, us, hv, h1, h2⟩
      exact ⟨vs, us, hv, (SBs.ren_is (fun n hn => h n (.inl hn)) _).1 h1, (SBs.ren_is (fun n hn => h n (.inr hn)) _).1 h2⟩
    · rintro ⟨vs, us, hv, h1, h2⟩
      exact ⟨vs, us, hv, (SBs.ren_is (fun n hn => h n (.inl hn)) _).2 h1, (SBs.ren_is (fun n hn => h n (.inr hn)) _).2 h2⟩
theorem SCs.ren_is : ∀ {l : List SC} (h : ∀ n ∈ SC.nmsL l, ρ n = σ (φ n)) (vs : List Value), All2 (SC.is ρ) l vs ↔ All2 (SC.is σ) (l.map (SC.ren φ)) vs
  | [], _, [] => Iff.rfl
  | x :: l, h, v :: vs => by
    simp only [SC.nmsL, List.mem_append] at h
    simp only [List.map_cons, All2]
    rw [SC.ren_is (fun n hn => h n (.inl hn)) v, SCs.ren_is (fun n hn => h n (.inr hn)) vs]
  | [], _, _ :: _ => Iff.rfl
  | _ :: _, _, [] => Iff.rfl
theorem SW.ren_is {x : SW} (h : ∀ n ∈ x.nms, ρ n = σ (φ n)) (v : Value) : x.is ρ v ↔ (x.ren φ).is σ v := by
  cases x with
  | one c => exact SC.ren_is h v
  | agg l =>
    simp only [SW.ren, SW.is]
    constructor
    · rintro ⟨vs, hv, h1⟩; exact ⟨vs, hv, (SCs.ren_is h _).1 h1⟩
    · rintro ⟨vs, hv, h1⟩; exact ⟨vs, hv, (SCs.ren_is h _).2 h1⟩
theorem SWs.ren_is : ∀ {l : List SW} (h : ∀ n ∈ SW.nmsL l, ρ n = σ (φ n)) (vs : List Value), All2 (SW.is ρ) l vs ↔ All2 (SW.is σ) (l.map (SW.ren φ)) vs
  | [], _, [] => Iff.rfl
  | x :: l, h, v :: vs => by
    simp only [SW.nmsL, List.mem_append] at h
    simp only [List.map_cons, All2]
    rw [SW.ren_is (fun n hn => h n (.inl hn)) v, SWs.ren_is (fun n hn => h n (.inr hn)) vs]
  | [], _, _ :: _ => Iff.rfl
  | _ :: _, _, [] => Iff.rfl
theorem SV.ren_is {x : SV} (h : ∀ n ∈ x.nms, ρ n = σ (φ n)) (v : Value) : x.is ρ v ↔ (x.ren φ).is σ v := by
  cases x with
  | unk => exact Iff.rfl
  | w x => exact SW.ren_is h v
  | tup l =>
    simp only [SV.ren, SV.is]
    constructor
    · rintro ⟨vs, hv, h1⟩; exact ⟨vs, hv, (SWs.ren_is h _).1 h1⟩
    · rintro ⟨vs, hv, h1⟩; exact ⟨vs, hv, (SWs.ren_is h _).2 h1⟩
end
def SV.nmsL : List SV → List Nat
  | [] => []
  | x :: l => x.nms ++ SV.nmsL l
theorem SVs.ren_is {ρ σ : Rho} {φ : Nat → Nat} : ∀ {l : List SV} (h : ∀ n ∈ SV.nmsL l, ρ n = σ (φ n)) (vs : List Value), All2 (SV.is ρ) l vs ↔ All2 (SV.is σ) (l.map (SV.ren φ)) vs
  | [], _, [] => Iff.rfl
  | x :: l, h, v :: vs => by
    simp only [SV.nmsL, List.mem_append] at h
    simp only [List.map_cons, All2]
    rw [SV.ren_is (fun n hn => h n (.inl hn)) v, SVs.ren_is (fun n hn => h n (.inr hn)) vs]
  | [], _, _ :: _ => Iff.rfl
  | _ :: _, _, [] => Iff.rfl

/-- A symbolic value that says what the value is. -/
def SB.det : SB → Bool
  | .unk => false
  | .isl _ _ _ => false
  | _ => true
theorem SB.det_eq {ρ : Rho} {x : SB} (h : x.det = true) {u v : Value} (hu : x.is ρ u) (hv : x.is ρ v) : u = v := by
  cases x <;> simp only [SB.is, SB.det, Bool.false_eq_true] at h hu hv
  case ptr => obtain ⟨b, h1, rfl⟩ := hu; obtain ⟨c, h2, rfl⟩ := hv; rw [h1] at h2; cases h2; rfl
  case sl => obtain ⟨b, h1, rfl⟩ := hu; obtain ⟨c, h2, rfl⟩ := hv; rw [h1] at h2; cases h2; rfl
  case ref => obtain ⟨b, h1, rfl, _⟩ := hu; obtain ⟨c, h2, rfl, _⟩ := hv; rw [h1] at h2; cases h2; rfl
  all_goals (rw [hu, hv])
def SC.det : SC → Bool
  | .b x => x.det
  | .fn _ p q => p.all SB.det && q.all SB.det
theorem SBs.det_eq {ρ : Rho} : ∀ {l : List SB} (h : l.all SB.det = true) {us vs : List Value}, All2 (SB.is ρ) l us → All2 (SB.is ρ) l vs → us = vs
  | [], _, [], [], _, _ => rfl
  | x :: l, h, u :: us, v :: vs, hu, hv => by
    simp only [List.all_cons, Bool.and_eq_true] at h
    rw [SB.det_eq h.1 hu.1 hv.1, SBs.det_eq h.2 hu.2 hv.2]
  | [], _, _ :: _, _, h, _ => h.elim
  | [], _, [], _ :: _, _, h => h.elim
  | _ :: _, _, [], _, h, _ => h.elim
  | _ :: _, _, _ :: _, [], _, h => h.elim
theorem SC.det_eq {ρ : Rho} {x : SC} (h : x.det = true) {u v : Value} (hu : x.is ρ u) (hv : x.is ρ v) : u = v := by
  cases x with
  | b y => exact SB.det_eq h hu hv
  | fn f p q =>
    simp only [SC.det, Bool.and_eq_true] at h
    obtain ⟨a, b, rfl, h1, h2⟩ := hu
    obtain ⟨c, d, rfl, h3, h4⟩ := hv
    have e1 : a = c := Array.toList_inj.1 (SBs.det_eq h.1 h1 h3)
    have e2 : b = d := Array.toList_inj.1 (SBs.det_eq h.2 h2 h4)
    rw [e1, e2]

section
variable {A : Type} [AbsK A]

def invN (ψ : Nat → Nat) (l : List Nat) (n : Nat) : Option Nat := l.find? fun k => ψ k == n
theorem invN_some {ψ : Nat → Nat} {l : List Nat} {n k : Nat} (h : invN ψ l n = some k) : k ∈ l ∧ ψ k = n :=
  ⟨List.mem_of_find?_eq_some h, by have := List.find?_some h; simpa using this⟩
theorem invN_of {ψ : Nat → Nat} {l : List Nat} (hinj : ∀ a ∈ l, ∀ b ∈ l, ψ a = ψ b → a = b) {k : Nat} (hk : k ∈ l) : invN ψ l (ψ k) = some k := by
  cases h : invN ψ l (ψ k) with
  | none => exact absurd (List.find?_eq_none.1 h k hk) (by simp)
  | some j => obtain ⟨h1, h2⟩ := invN_some h; rw [hinj j h1 k hk h2]
theorem invN_none {ψ : Nat → Nat} {l : List Nat} {n : Nat} (h : invN ψ l n = none) : ∀ k ∈ l, ψ k ≠ n := fun k hk e => by
  have := List.find?_eq_none.1 h k hk
  simp [e] at this
/-- The small heap, laid into the great one. -/
def merge (h : Heap A) (ψ : Nat → Nat) : Heap A → Heap A
  | [] => h
  | (k, o) :: h0 => put (merge h ψ h0) (ψ k) (o.ren ψ)
omit [AbsK A] in
theorem look_merge (h : Heap A) (ψ : Nat → Nat) : ∀ (h0 : Heap A), (∀ a ∈ namesH h0, ∀ b ∈ namesH h0, ψ a = ψ b → a = b) → ∀ n,
    look (merge h ψ h0) n = match invN ψ (namesH h0) n with | some k => (look h0 k).map (SO.ren ψ) | none => look h n
  | [], _, n => rfl
  | (k, o) :: h0, hinj, n => by
    have hinj' : ∀ a ∈ namesH h0, ∀ b ∈ namesH h0, ψ a = ψ b → a = b := fun a ha b hb => hinj a (List.mem_cons_of_mem _ ha) b (List.mem_cons_of_mem _ hb)
    simp only [merge, namesH]
    by_cases e : n = ψ k
    · subst e
      have hi : invN ψ (k :: namesH h0) (ψ k) = some k := invN_of hinj (List.mem_cons_self ..)
      rw [look_put_same, hi]
      simp [look]
    · rw [look_put_ne _ _ _ _ e, look_merge h ψ h0 hinj']
      have hne : (ψ k == n) = false := by simpa using Ne.symm e
      have : invN ψ (k :: namesH h0) n = invN ψ (namesH h0) n := by simp [invN, List.find?_cons, hne]
      rw [this]
      cases hi : invN ψ (namesH h0) n with
      | none => rfl
      | some j =>
        obtain ⟨h1, h2⟩ := invN_some hi
        have hkj : k ≠ j := fun e' => e (by rw [e', h2])
        have : (k == j) = false := by simpa using hkj
        simp only [look, this, cond_false]

omit [AbsK A] in
theorem namesH_look : ∀ {h : Heap A} {n : Nat}, n ∈ namesH h → ∃ o, look h n = some o
  | [], n, hn => by simp [namesH] at hn
  | (m, p) :: h, n, hn => by
    by_cases e : m = n
    · exact ⟨p, by simp [look, e]⟩
    · have : (m == n) = false := by simpa using e
      simp only [namesH] at hn
      rcases List.mem_cons.1 hn with h1 | h1
      · exact absurd h1.symm e
      · obtain ⟨o, ho⟩ := namesH_look h1
        exact ⟨o, by simp only [look, this, cond_false]; exact ho⟩
def closedIn (h : Heap A) (l : List Nat) : Prop := ∀ n ∈ l, n ∈ namesH h
theorem SO.ren_ok {ρ σ : Rho} {φ : Nat → Nat} {o : SO A} (h : ∀ n ∈ o.nms, ρ n = σ (φ n)) (r : RV) (F : Nat → Prop) (w : World) : o.ok ρ r F w ↔ (o.ren φ).ok σ r F w := by
  cases o with
  | cells e l t =>
    simp only [SO.ren, SO.ok]
    constructor
    · rintro ⟨b, vs, h1, h2, ⟨us, rest, h3, h4, h5⟩, h6⟩
      exact ⟨b, vs, h1, h2, ⟨us, rest, h3, h4, (SCs.ren_is h _).1 h5⟩, h6⟩
    · rintro ⟨b, vs, h1, h2, ⟨us, rest, h3, h4, h5⟩, h6⟩
      exact ⟨b, vs, h1, h2, ⟨us, rest, h3, h4, (SCs.ren_is h _).2 h5⟩, h6⟩
  | row k e l => exact Iff.rfl
  | abs a => exact Iff.rfl
  | tab c o n id => exact Iff.rfl

/-- What is asked of the end of a run on the small heap. -/
structure LiftEnd (prot : Prot) (h h0 : Heap A) (φ : Nat → Nat) (s0 : SV) (h1 : Heap A) (ψ : Nat → Nat) : Prop where
  same : ∀ k ∈ namesH h0, ψ k = φ k
  fresh : ∀ k ∈ namesH h1, k ∉ namesH h0 → look h (ψ k) = none ∧ (Hi (ψ k) ↔ Hi k)
  inj : ∀ a ∈ namesH h1, ∀ b ∈ namesH h1, ψ a = ψ b → a = b
  closed : ∀ k o, look h1 k = some o → closedIn h1 o.nms
  closedV : closedIn h1 s0.nms
  prot : ∀ k ∈ namesH h0, ∀ j, prot.pr (φ k) j → ∃ e l t e' l' t' c, look h0 k = some (.cells e l t) ∧ look h1 k = some (.cells e' l' t') ∧ l[j]? = some c ∧ l'[j]? = some c ∧ c.det = true

theorem lift {P : Program} {prot : Prot} {g : Nat} {argv : Array Value} {h h0 : Heap A} {ρ : Rho} {F : Nat → Nat → Prop} {w : World} (H : HeapOk ρ F h w) {φ : Nat → Nat}
    (hinj : ∀ a ∈ namesH h0, ∀ b ∈ namesH h0, φ a = φ b → a = b) (hhi : ∀ k ∈ namesH h0, Hi (φ k) ↔ Hi k)
    (fit : ∀ k o, look h0 k = some o → look h (φ k) = some (o.ren φ)) (closed0 : ∀ k o, look h0 k = some o → closedIn h0 o.nms)
    {args0 : List SV} (hargs : All2 (SV.is ρ) (args0.map (SV.ren φ)) argv.toList) (hargsn : closedIn h0 (SV.nmsL args0)) {T0 : Tree (SV × Heap A)} {K : SV × Heap A → Prop}
    (run : ∀ (ρ0 : Rho) (F0 : Nat → Nat → Prop) (K0 : SV × Heap A → Prop), HeapOk ρ0 F0 h0 w → All2 (SV.is ρ0) args0 argv.toList → T0.holds K0 → CallsTo P [] ρ0 F0 w g argv K0)
    (hK : T0.holds fun r => ∃ ψ, LiftEnd prot h h0 φ r.1 r.2 ψ ∧ K (r.1.ren ψ, merge h ψ r.2)) : CallsTo P prot ρ F w g argv K := by
  let ρ0 : Rho := fun n => if n ∈ namesH h0 then ρ (φ n) else none
  let F0 : Nat → Nat → Prop := fun n => F (φ n)
  have hρ0 : ∀ n ∈ namesH h0, ρ0 n = ρ (φ n) := fun n hn => if_pos hn
  have hρ0' : ∀ n, (ρ0 n).isSome → n ∈ namesH h0 := fun n hn => by
    simp only [ρ0] at hn
    split at hn
    · assumption
    · cases hn
  have H0 : HeapOk ρ0 F0 h0 w := by
    refine ⟨fun n => ?_, fun n o r hn hr => ?_, fun n m x hne hn hm hh hx hx' => ?_, fun n o hn hw => (hhi n (look_namesH hn)).1 (H.low (φ n) _ (fit n o hn) (by cases o <;> first | rfl | cases hw)), fun n x hn hx => ?_⟩
    · by_cases hn : n ∈ namesH h0
      · rw [hρ0 n hn]
        obtain ⟨o, ho⟩ := namesH_look hn
        rw [ho, ← H.dom (φ n), fit n o ho]; rfl
      · have h1 : look h0 n = none := by
          cases hl : look h0 n with
          | none => rfl
          | some o => exact absurd (look_namesH hl) hn
        have h2 : ρ0 n = none := if_neg hn
        rw [h1, h2]; rfl
    · have hm := look_namesH hn
      rw [hρ0 n hm] at hr
      have := H.obj (φ n) _ r (fit n o hn) hr
      exact (SO.ren_ok (fun k hk => hρ0 k (closed0 n o hn k hk)) r (F (φ n)) w).2 this
    · have h1 := hρ0' n hn
      have h2 := hρ0' m hm
      rw [hρ0 n h1] at hn
      rw [hρ0 m h2] at hm
      exact H.disj (φ n) (φ m) x (fun e => hne (hinj n h1 m h2 e)) hn hm (hh.imp (hhi n h1).2 (hhi m h2).2) hx hx'
    · have h1 := hρ0' n hn
      rw [hρ0 n h1] at hn
      exact H.size (φ n) x hn hx
  have ha0 : All2 (SV.is ρ0) args0 argv.toList := (SVs.ren_is (fun n hn => hρ0 n (hargsn n hn)) _).2 hargs
  refine Calls.mono (run ρ0 F0 _ H0 ha0 hK) fun e w' he => ?_
  obtain ⟨s0, h1, v, ρ1, F1, ⟨ψ, L, hKK⟩, rfl, hs, H1, G1⟩ := he
  have hdom1 : ∀ n, (ρ1 n).isSome ↔ n ∈ namesH h1 := fun n => by
    rw [← H1.dom n]
    constructor
    · intro hn; obtain ⟨o, ho⟩ := Option.isSome_iff_exists.1 hn; exact look_namesH ho
    · intro hn; obtain ⟨o, ho⟩ := namesH_look hn; rw [ho]; rfl
  have hsub : ∀ k ∈ namesH h0, k ∈ namesH h1 := fun k hk => by
    obtain ⟨o, ho⟩ := namesH_look hk
    obtain ⟨r, hr⟩ := H0.rho_some ho
    exact (hdom1 k).1 (by rw [G1.ext _ _ hr]; rfl)
  let ρ' : Rho := fun n => match invN ψ (namesH h1) n with | some k => ρ1 k | none => ρ n
  let F' : Nat → Nat → Prop := fun n => match invN ψ (namesH h1) n with | some k => F1 k | none => F n
  have hρψ : ∀ k ∈ namesH h1, ρ' (ψ k) = ρ1 k := fun k hk => by simp only [ρ', invN_of L.inj hk]
  have hFψ : ∀ k ∈ namesH h1, F' (ψ k) = F1 k := fun k hk => by simp only [F', invN_of L.inj hk]
  have hHiψ : ∀ k ∈ namesH h1, (Hi (ψ k) ↔ Hi k) := fun k hk => by
    by_cases hk0 : k ∈ namesH h0
    · rw [L.same k hk0]; exact hhi k hk0
    · exact (L.fresh k hk hk0).2
  -- a name of the great heap is one of the small one's, or is none of these
  have hcase : ∀ n, (∃ k ∈ namesH h1, n = ψ k ∧ ρ' n = ρ1 k ∧ F' n = F1 k) ∨ ((∀ k ∈ namesH h1, ψ k ≠ n) ∧ ρ' n = ρ n ∧ F' n = F n) := by
    intro n
    cases hi : invN ψ (namesH h1) n with
    | none => exact .inr ⟨invN_none hi, by simp only [ρ', hi], by simp only [F', hi]⟩
    | some k =>
      obtain ⟨hk, rfl⟩ := invN_some hi
      exact .inl ⟨k, hk, rfl, hρψ k hk, hFψ k hk⟩
  have hF1 : ∀ k ∈ namesH h1, ∀ x, F1 k x → w.heap.size ≤ x ∨ ∃ m ∈ namesH h0, F (φ m) x ∧ (Hi k → Hi m) := fun k hk x hx => by
    rcases G1.foot k x ((hdom1 k).2 hk) hx with h2 | ⟨m, hm, hmx, hmh⟩
    · exact .inl h2
    · exact .inr ⟨m, hρ0' m hm, hmx, hmh⟩
  have hout : ∀ n, (∀ k ∈ namesH h1, ψ k ≠ n) → (ρ n).isSome → ∀ x, F n x → (∀ m ∈ namesH h0, Hi m ∨ Hi n → ¬ F (φ m) x) := fun n hn hnr x hx m hm hh hmx => by
    have hne : φ m ≠ n := by rw [← L.same m hm]; exact hn m (hsub m hm)
    obtain ⟨o, ho⟩ := namesH_look hm
    obtain ⟨r, hr⟩ := H.rho_some (fit m o ho)
    exact H.disj (φ m) n x hne (by rw [hr]; rfl) hnr (hh.imp (hhi m hm).2 id) hmx hx
  have hkeep : ∀ x, x < w.heap.size → (∀ m ∈ namesH h0, Hi m → ¬ F (φ m) x) → w'.heap[x]? = w.heap[x]? := fun x hx hm =>
    G1.keep x hx fun m hh hmr => hm m (hρ0' m hmr) hh
  have hext : Rho.Ext ρ ρ' := fun n r hr => by
    rcases hcase n with ⟨k, hk, rfl, h2, _⟩ | ⟨_, h2, _⟩
    · rw [h2]
      by_cases hk0 : k ∈ namesH h0
      · refine G1.ext _ _ ?_
        rw [hρ0 k hk0, ← L.same k hk0]; exact hr
      · have := H.dom (ψ k)
        rw [(L.fresh k hk hk0).1, hr] at this
        cases this
    · rw [h2]; exact hr
  have H' : HeapOk ρ' F' (merge h ψ h1) w' := by
    refine ⟨fun n => ?_, fun n o r hn hr => ?_, fun n m x hne hn hm hh hx hx' => ?_, fun n o hn hw => ?_, fun n x hn hx => ?_⟩
    · rw [look_merge h ψ h1 L.inj]
      rcases hcase n with ⟨k, hk, rfl, h2, _⟩ | ⟨h3, h2, _⟩
      · rw [invN_of L.inj hk, h2, ← H1.dom k]; simp
      · have : invN ψ (namesH h1) n = none := by
          cases hi : invN ψ (namesH h1) n with
          | none => rfl
          | some k => exact absurd (invN_some hi).2 (h3 k (invN_some hi).1)
        rw [this, h2]; exact H.dom n
    · rw [look_merge h ψ h1 L.inj] at hn
      rcases hcase n with ⟨k, hk, rfl, h2, h3⟩ | ⟨h4, h2, h3⟩
      · rw [invN_of L.inj hk] at hn
        obtain ⟨o1, ho1, rfl⟩ := Option.map_eq_some_iff.1 hn
        rw [h2] at hr
        rw [h3]
        exact (SO.ren_ok (fun j hj => (hρψ j (L.closed k o1 ho1 j hj)).symm) r (F1 k) w').1 (H1.obj k o1 r ho1 hr)
      · have : invN ψ (namesH h1) n = none := by
          cases hi : invN ψ (namesH h1) n with
          | none => rfl
          | some k => exact absurd (invN_some hi).2 (h4 k (invN_some hi).1)
        rw [this] at hn
        rw [h2] at hr
        rw [h3]
        refine SO.ok_frame hext (H.obj n o r hn hr) G1.size fun x hx => ?_
        exact hkeep x (H.size n x (by rw [hr]; rfl) hx) (fun m hm hh => hout n h4 (by rw [hr]; rfl) x hx m hm (.inl hh))
    · rcases hcase n with ⟨k, hk, rfl, h2, h3⟩ | ⟨h4, h2, h3⟩
      · rw [h2] at hn; rw [h3] at hx
        rcases hcase m with ⟨k', hk', rfl, h2', h3'⟩ | ⟨h4', h2', h3'⟩
        · rw [h2'] at hm; rw [h3'] at hx'
          exact H1.disj k k' x (fun e => hne (by rw [e])) hn hm (hh.imp (hHiψ k hk).1 (hHiψ k' hk').1) hx hx'
        · rw [h2'] at hm; rw [h3'] at hx'
          rcases hF1 k hk x hx with h5 | ⟨q, hq, hqx, hqh⟩
          · have := H.size m x hm hx'; omega
          · exact hout m h4' hm x hx' q hq (hh.imp (fun e => hqh ((hHiψ k hk).1 e)) id) hqx
      · rw [h2] at hn; rw [h3] at hx
        rcases hcase m with ⟨k', hk', rfl, h2', h3'⟩ | ⟨h4', h2', h3'⟩
        · rw [h3'] at hx'
          rcases hF1 k' hk' x hx' with h5 | ⟨q, hq, hqx, hqh⟩
          · have := H.size n x hn hx; omega
          · exact hout n h4 hn x hx q hq (hh.symm.imp (fun e => hqh ((hHiψ k' hk').1 e)) id) hqx
        · rw [h2'] at hm; rw [h3'] at hx'
          exact H.disj n m x hne hn hm hh hx hx'
    · rw [look_merge h ψ h1 L.inj] at hn
      rcases hcase n with ⟨k, hk, rfl, _, _⟩ | ⟨h4, _, _⟩
      · rw [invN_of L.inj hk] at hn
        obtain ⟨o1, ho1, rfl⟩ := Option.map_eq_some_iff.1 hn
        exact (hHiψ k hk).2 (H1.low k o1 ho1 (by cases o1 <;> first | rfl | cases hw))
      · have : invN ψ (namesH h1) n = none := by
          cases hi : invN ψ (namesH h1) n with
          | none => rfl
          | some k => exact absurd (invN_some hi).2 (h4 k (invN_some hi).1)
        rw [this] at hn
        exact H.low n o hn hw
    · rcases hcase n with ⟨k, hk, rfl, h2, h3⟩ | ⟨h4, h2, h3⟩
      · rw [h2] at hn; rw [h3] at hx; exact H1.size k x hn hx
      · rw [h2] at hn; rw [h3] at hx; exact Nat.lt_of_lt_of_le (H.size n x hn hx) G1.size
  refine ⟨s0.ren ψ, merge h ψ h1, v, ρ', F', hKK, rfl, (SV.ren_is (fun n hn => (hρψ n (L.closedV n hn)).symm) v).1 hs, H', ⟨hext, G1.os, G1.tape, G1.output, G1.size, fun x hx hn => ?_, fun n x hn hx => ?_, fun n hn hs => ?_, fun n j hp b hb => ?_⟩⟩
  · refine hkeep x hx fun m hm hh => ?_
    obtain ⟨o, ho⟩ := namesH_look hm
    obtain ⟨r, hr⟩ := H.rho_some (fit m o ho)
    exact hn (φ m) ((hhi m hm).2 hh) (by rw [hr]; rfl)
  · rcases hcase n with ⟨k, hk, rfl, h2, h3⟩ | ⟨h4, h2, h3⟩
    · rw [h3] at hx
      rcases hF1 k hk x hx with h5 | ⟨q, hq, hqx, hqh⟩
      · exact .inl h5
      · obtain ⟨o, ho⟩ := namesH_look hq
        obtain ⟨r, hr⟩ := H.rho_some (fit q o ho)
        exact .inr ⟨φ q, by rw [hr]; rfl, hqx, fun e => (hhi q hq).2 (hqh ((hHiψ k hk).1 e))⟩
    · rw [h2] at hn; rw [h3] at hx; exact .inr ⟨n, hn, hx, id⟩
  · rcases hcase n with ⟨k, hk, rfl, _, h3⟩ | ⟨_, _, h3⟩
    · by_cases hk0 : k ∈ namesH h0
      · rw [h3, G1.old k (fun e => hn ((hHiψ k hk).2 e)) (by rw [hρ0 k hk0, ← L.same k hk0]; exact hs), L.same k hk0]
      · have := H.dom (ψ k)
        rw [(L.fresh k hk hk0).1] at this
        rw [← this] at hs; cases hs
    · exact h3
  · rcases hcase n with ⟨k, hk, rfl, h2, h3⟩ | ⟨h4, h2, h3⟩
    · by_cases hk0 : k ∈ namesH h0
      · rw [L.same k hk0] at hp hb
        obtain ⟨e, l, t, e', l', t', c, g1, g2, g3, g4, g5⟩ := L.prot k hk0 j hp
        have hb0 : ρ0 k = some (.blk b) := by rw [hρ0 k hk0]; exact hb
        obtain ⟨b1, vs, q1, q2, ⟨us, rest, q3, q4, q5⟩, _⟩ := H0.obj k _ _ g1 hb0
        cases q1
        obtain ⟨b2, vs', p1, p2, ⟨us', rest', p3, p4, p5⟩, _⟩ := H1.obj k _ _ g2 (G1.ext _ _ hb0)
        cases p1
        obtain ⟨u, hu, hcu⟩ := q5.get j c g3
        obtain ⟨u', hu', hcu'⟩ := p5.get j c g4
        rw [cell_of_block q2, cell_of_block p2, ← Array.getElem?_toList, ← Array.getElem?_toList, q3, p3,
          List.getElem?_append_left (List.getElem?_eq_some_iff.1 hu).1, List.getElem?_append_left (List.getElem?_eq_some_iff.1 hu').1, hu, hu', SC.det_eq g5 hcu' (SC.is_mono G1.ext c u hcu)]
      · have := H.dom (ψ k)
        rw [(L.fresh k hk hk0).1, hb] at this
        cases this
    · refine cell_congr (hkeep b (H.size n b (by rw [hb]; rfl) (H.self hb)) (fun m hm hh => hout n h4 (by rw [hb]; rfl) b (H.self hb) m hm (.inl hh))) j

end
end Go.Proofs.Ytafemlljemhkhaa.Sx
