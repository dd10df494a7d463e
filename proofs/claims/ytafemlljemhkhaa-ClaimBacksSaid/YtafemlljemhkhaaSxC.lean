/-
  THE SYMBOLIC EXECUTOR, part C: the tree of paths; operations that neither read nor write memory.
-/
import Derived.Test.YtafemlljemhkhaaSxB
namespace Go.Proofs.Ytafemlljemhkhaa.Sx
open Go
set_option linter.unusedSectionVars false
set_option linter.unusedVariables false
set_option linter.unusedSimpArgs false
variable [Env]

inductive Tree (L : Type) where
  | leaf (l : L)
  | fail (why : Nat)
  | br (b : BE) (t f : Tree L)
  | req (p : BE) (t : Tree L)

def Tree.holds {L : Type} (Q : L → Prop) : Tree L → Prop
  | .leaf l => Q l
  | .fail _ => False
  | .br b t f => (b.val = true → t.holds Q) ∧ (b.val = false → f.holds Q)
  | .req p t => p.val = true ∧ t.holds Q

def Tree.bind {L M : Type} (g : L → Tree M) : Tree L → Tree M
  | .leaf l => g l
  | .fail n => .fail n
  | .br b t f => .br b (t.bind g) (f.bind g)
  | .req p t => .req p (t.bind g)

theorem Tree.holds_bind {L M : Type} (g : L → Tree M) (Q : M → Prop) (t : Tree L) : (t.bind g).holds Q ↔ t.holds fun l => (g l).holds Q := by
  induction t with
  | leaf l => exact Iff.rfl
  | fail n => exact Iff.rfl
  | br b t f iht ihf => simp only [Tree.bind, Tree.holds, iht, ihf]
  | req p t ih => simp only [Tree.bind, Tree.holds, ih]
theorem Tree.holds_mono {L : Type} {Q Q' : L → Prop} (h : ∀ l, Q l → Q' l) : ∀ {t : Tree L}, t.holds Q → t.holds Q'
  | .leaf _, ht => h _ ht
  | .fail _, ht => ht
  | .br _ _ _, ht => ⟨fun e => Tree.holds_mono h (ht.1 e), fun e => Tree.holds_mono h (ht.2 e)⟩
  | .req _ _, ht => ⟨ht.1, Tree.holds_mono h ht.2⟩

/-- Where a test is known, no path is parted. -/
def mkBr {L : Type} (b : BE) (t f : Tree L) : Tree L :=
  match b with
  | .lit true => t
  | .lit false => f
  | b => .br b t f
theorem mkBr_holds {L : Type} {Q : L → Prop} {b : BE} {t f : Tree L} (h : (mkBr b t f).holds Q) : (b.val = true → t.holds Q) ∧ (b.val = false → f.holds Q) := by
  unfold mkBr at h
  split at h
  · exact ⟨fun _ => h, fun e => by simp [BE.val] at e⟩
  · exact ⟨fun e => by simp [BE.val] at e, fun _ => h⟩
  · exact h

/-! ### what the program's tables say -/
def sizeT (P : Program) (t : TypeId) : Option Nat := (P.info? t).map (·.size)
def aggT (P : Program) (t : TypeId) : Option Bool :=
  match P.underlying t with
  | some (.struct _) => some true
  | some (.array _ _) => some true
  | some _ => some false
  | none => none
def fieldT (P : Program) (s : TypeId) (f : Nat) : Option (Nat × TypeId) :=
  match P.underlying s with
  | some (.struct fs) => (fs[f]?).map fun x => (x.offset, x.type)
  | _ => none

def litSC : Value → Option SC
  | .bool b => some (.b (.bool (.lit b)))
  | .int k n => some (.b (.int k (.lit n)))
  | .pointer none => some (.b .nilp)
  | .slice none 0 0 => some (.b .nils)
  | .nilFunc => some (.b .nilf)
  | _ => none
theorem litSC_is {ρ : Rho} {v : Value} {c : SC} (h : litSC v = some c) : c.is ρ v := by
  unfold litSC at h
  split at h <;> simp only [Option.some.injEq, reduceCtorEq] at h <;> subst h <;> simp [SC.is, SB.is, BE.val, IE.val]
def litSCs : List Value → Option (List SC)
  | [] => some []
  | v :: l => match litSC v, litSCs l with
    | some c, some cs => some (c :: cs)
    | _, _ => none
theorem litSCs_is {ρ : Rho} : ∀ {l : List Value} {cs : List SC}, litSCs l = some cs → All2 (SC.is ρ) cs l
  | [], cs, h => by simp [litSCs] at h; subst h; trivial
  | v :: l, cs, h => by
    simp only [litSCs] at h
    split at h
    · rename_i c cs' h1 h2
      cases h
      exact ⟨litSC_is h1, litSCs_is h2⟩
    · cases h
/-- What stands in the text. -/
def litSV (v : Value) : SV :=
  match litSC v with
  | some c => .w (.one c)
  | none => match v with
    | .agg vs => match litSCs vs.toList with
      | some cs => .w (.agg cs)
      | none => .unk
    | _ => .unk
theorem litSV_is (ρ : Rho) (v : Value) : (litSV v).is ρ v := by
  unfold litSV
  split
  · rename_i c h; exact litSC_is h
  · split
    · split
      · rename_i vs _ _ cs h; exact ⟨vs, rfl, litSCs_is h⟩
      · trivial
    · trivial
def zeroT (P : Program) (t : TypeId) : Option (List SC) :=
  match P.info? t with
  | some i => match i.zero with
    | some v => litSCs v.cells.toList
    | none => none
  | none => none

/-! ### a frame's slots -/
def undefS : SV := .tup []
theorem undefS_is (ρ : Rho) : undefS.is ρ undef := ⟨#[], rfl, trivial⟩

/-- The slots of a frame, but those of a list. -/
structure TmpsOk (ρ : Rho) (but : List Nat) (l : List SV) (a : Act) : Prop where
  size : a.tmps.size = l.length
  at_ : ∀ i s, i ∉ but → l[i]? = some s → ∃ v, a.tmps[i]? = some v ∧ s.is ρ v
  defers : a.defers = []

def opnds (x : Operand) : List Nat := match x with | .tmp t => [t] | _ => []
def ev (l : List SV) : Operand → SV
  | .tmp t => l.getD t undefS
  | .const v => litSV v
  | .global _ => .unk
  | .func f => .w (.one (.fn (.func f) [] []))
theorem ev_is {ρ : Rho} {but : List Nat} {l : List SV} {a : Act} (h : TmpsOk ρ but l a) (x : Operand) (hx : ∀ t ∈ opnds x, t ∉ but) : (ev l x).is ρ (a.eval x) := by
  cases x with
  | tmp t =>
    simp only [ev, Act.eval]
    cases hl : l[t]? with
    | none =>
      have h1 : l.length ≤ t := List.getElem?_eq_none_iff.1 hl
      have h2 : a.tmps[t]? = none := Array.getElem?_eq_none (by rw [h.size]; exact h1)
      rw [List.getD_eq_getElem?_getD, hl]
      simp only [Array.getD_eq_getD_getElem?, h2, Option.getD_none]
      exact undefS_is ρ
    | some s =>
      obtain ⟨v, hv, hs⟩ := h.at_ t s (hx t (by simp [opnds])) hl
      rw [List.getD_eq_getElem?_getD, hl]
      simp only [Array.getD_eq_getD_getElem?, hv, Option.getD_some]
      exact hs
  | const v => exact litSV_is ρ v
  | global g => trivial
  | func f => exact ⟨#[], #[], rfl, trivial, trivial⟩

def setS (l : List SV) (dst : Option Tmp) (s : SV) : List SV :=
  match dst with
  | some d => l.set d s
  | none => l
theorem TmpsOk.put {ρ : Rho} {but : List Nat} {l : List SV} {a : Act} (h : TmpsOk ρ but l a) (dst : Option Tmp) {s : SV} {v : Value} (hs : s.is ρ v)
    (hd : ∀ d, dst = some d → d ∉ but) : TmpsOk ρ but (setS l dst s) (a.put dst v) := by
  cases dst with
  | none => exact h
  | some d =>
    refine ⟨by simp [Act.put, setS, h.size], fun i s' hi hl => ?_, h.defers⟩
    simp only [setS] at hl
    simp only [Act.put]
    by_cases e : d = i
    · subst e
      have hlt : d < l.length := by
        rcases Nat.lt_or_ge d l.length with h1 | h1
        · exact h1
        · rw [List.getElem?_eq_none (by simpa using h1)] at hl; cases hl
      rw [List.getElem?_set_self hlt] at hl
      cases hl
      exact ⟨v, by rw [Array.getElem?_setIfInBounds_self_of_lt (by rw [h.size]; exact hlt)], hs⟩
    · rw [List.getElem?_set_ne e] at hl
      obtain ⟨u, hu, hs'⟩ := h.at_ i s' hi hl
      exact ⟨u, by rw [Array.getElem?_setIfInBounds_ne e]; exact hu, hs'⟩
theorem TmpsOk.mono {ρ ρ' : Rho} (hρ : Rho.Ext ρ ρ') {but : List Nat} {l : List SV} {a : Act} (h : TmpsOk ρ but l a) : TmpsOk ρ' but l a :=
  ⟨h.size, fun i s hi hl => let ⟨v, hv, hs⟩ := h.at_ i s hi hl; ⟨v, hv, SV.is_mono hρ s v hs⟩, h.defers⟩

end Go.Proofs.Ytafemlljemhkhaa.Sx
