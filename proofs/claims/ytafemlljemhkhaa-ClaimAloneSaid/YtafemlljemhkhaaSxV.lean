/-
  THE SYMBOLIC EXECUTOR, part V: summaries out of a list of pure functions.
-/
import Derived.Test.YtafemlljemhkhaaSxT
namespace Go.Proofs.Ytafemlljemhkhaa.Sx
open Go
set_option linter.unusedSectionVars false
set_option linter.unusedVariables false
set_option linter.unusedSimpArgs false

def SB.beq : SB → SB → Bool
  | .int k e, .int k' e' => decide (k = k') && IE.beq e e'
  | .bool b, .bool b' => BE.beq b b'
  | _, _ => false
theorem SB.beq_eq {x y : SB} (h : SB.beq x y = true) : x = y := by
  unfold SB.beq at h
  split at h
  · simp only [Bool.and_eq_true, decide_eq_true_eq] at h; rw [h.1, IE.beq_eq h.2]
  · rw [BE.beq_eq h]
  · cases h
def SC.beqL : List SC → List SC → Bool
  | [], [] => true
  | .b x :: l, .b y :: m => SB.beq x y && SC.beqL l m
  | _, _ => false
theorem SC.beqL_eq : ∀ {l m : List SC}, SC.beqL l m = true → l = m
  | [], [], _ => rfl
  | .b x :: l, .b y :: m, h => by
    simp only [SC.beqL, Bool.and_eq_true] at h
    rw [SB.beq_eq h.1, SC.beqL_eq h.2]
  | [], _ :: _, h => by cases h
  | .b _ :: _, [], h => by cases h
  | .fn _ _ _ :: _, [], h => by cases h
  | .fn _ _ _ :: _, .b _ :: _, h => by cases h
  | .fn _ _ _ :: _, .fn _ _ _ :: _, h => by cases h
  | .b _ :: _, .fn _ _ _ :: _, h => by cases h
def SV.beq : SV → SV → Bool
  | .w (.one (.b x)), .w (.one (.b y)) => SB.beq x y
  | .w (.agg l), .w (.agg m) => SC.beqL l m
  | _, _ => false
theorem SV.beq_eq {x y : SV} (h : SV.beq x y = true) : x = y := by
  unfold SV.beq at h
  split at h
  · rw [SB.beq_eq h]
  · rw [SC.beqL_eq h]
  · cases h
def SV.beqL : List SV → List SV → Bool
  | [], [] => true
  | x :: l, y :: m => SV.beq x y && SV.beqL l m
  | _, _ => false
theorem SV.beqL_eq : ∀ {l m : List SV}, SV.beqL l m = true → l = m
  | [], [], _ => rfl
  | x :: l, y :: m, h => by
    simp only [SV.beqL, Bool.and_eq_true] at h
    rw [SV.beq_eq h.1, SV.beqL_eq h.2]
  | [], _ :: _, h => by cases h
  | _ :: _, [], h => by cases h

structure PEntry where
  g : Nat
  args0 : List SV
  len : Nat
  pre : List IE → List BE
  res : IE → SV
def PEntry.ok (P : Program) (e : PEntry) : Prop := PureOk P e.g e.args0 e.len e.pre e.res
def litsE : IE → Option (List Int)
  | .nilL => some []
  | .consL (.lit n) l => match litsE l with
    | some m => some (n :: m)
    | none => none
  | _ => none
theorem litsE_lst [Env] : ∀ {a : IE} {l : List Int}, litsE a = some l → a.lst = l := by
  intro a
  induction a <;> intro l h <;> (try (simp only [litsE, reduceCtorEq] at h; done))
  case nilL => simp only [litsE, Option.some.injEq] at h; subst h; simp [IE.lst]
  case consL x l ih1 ih2 =>
    cases x <;> simp only [litsE, reduceCtorEq] at h
    split at h
    · rename_i n m hm
      cases h
      simp only [IE.lst, IE.val, ih2 hm]
    · cases h
def mkFn (id : Nat) (a : IE) : IE := match litsE a with
  | some l => .lit (funs id l)
  | none => .fn id a
theorem mkFn_val [Env] (id : Nat) (a : IE) : (mkFn id a).val = (IE.fn id a).val := by
  unfold mkFn
  split
  · rename_i l h; simp only [IE.val, litsE_lst h]
  · rfl
def foldSV : SV → SV
  | .w (.one (.b (.int k (.fn id a)))) => .w (.one (.b (.int k (mkFn id a))))
  | .w (.one (.b (.bool (.cmp .neq (.fn id a) (.lit 0))))) => .w (.one (.b (.bool (mkCmp .neq (mkFn id a) (.lit 0)))))
  | x => x
theorem foldSV_is [Env] {ρ : Rho} {x : SV} {v : Value} (h : x.is ρ v) : (foldSV x).is ρ v := by
  unfold foldSV
  split
  · show v = .int _ _; rw [mkFn_val]; exact h
  · show v = .bool _; rw [mkCmp_val, mkFn_val]; exact h
  · exact h
def foldBE : BE → BE
  | .cmp o a b => mkCmp o a b
  | x => x
theorem foldBE_val [Env] (p : BE) : (foldBE p).val = p.val := by
  unfold foldBE
  split
  · rw [mkCmp_val]; rfl
  · rfl
def mkReq {L : Type} (p : BE) (t : Tree L) : Tree L := match foldBE p with
  | .lit true => t
  | q => .req q t
theorem mkReq_holds [Env] {L : Type} {Q : L → Prop} {p : BE} {t : Tree L} (h : (mkReq p t).holds Q) : p.val = true ∧ t.holds Q := by
  rw [← foldBE_val]
  unfold mkReq at h
  split at h
  · rename_i he; rw [he]; exact ⟨rfl, h⟩
  · exact h
def reqB {L : Type} : List BE → Tree L → Tree L
  | [], t => t
  | p :: ps, t => mkReq p (reqB ps t)
theorem reqB_holds [Env] {L : Type} {Q : L → Prop} {t : Tree L} : ∀ {ps : List BE}, (reqB ps t).holds Q → (∀ p ∈ ps, p.val = true) ∧ t.holds Q
  | [], h => ⟨by simp, h⟩
  | p :: ps, h => by
    obtain ⟨h1, h2⟩ := mkReq_holds h
    exact ⟨fun q hq => by rcases List.mem_cons.1 hq with rfl | hq; exact h1; exact (reqB_holds h2).1 q hq, (reqB_holds h2).2⟩
def findE (g : Nat) : List PEntry → Option PEntry
  | [] => none
  | e :: l => bif Nat.beq e.g g then some e else findE g l
theorem findE_spec {g : Nat} : ∀ {l : List PEntry} {e : PEntry}, findE g l = some e → e ∈ l ∧ e.g = g
  | [], e, h => by cases h
  | x :: l, e, h => by
    simp only [findE] at h
    cases hb : Nat.beq x.g g with
    | true => rw [hb] at h; cases h; exact ⟨List.mem_cons_self .., Nat.eq_of_beq_eq_true hb⟩
    | false => rw [hb] at h; obtain ⟨h1, h2⟩ := findE_spec (l := l) h; exact ⟨List.mem_cons_of_mem _ h1, h2⟩
/-- Summaries: a function of the list. -/
def pureG (l : List PEntry) : SumF Empty := fun g args prot h nm =>
  match findE g l, flatA args with
  | some e, some es => if (SV.beqL (atomA 0 args) e.args0 && Nat.beq es.length e.len) = true then some (reqB (e.pre es) (.leaf (foldSV (e.res (listE es)), h))) else none
  | _, _ => none
theorem pureG_ok [Env] {P : Program} {l : List PEntry} (h : ∀ e ∈ l, e.ok P) : SumOk P (pureG l) ∧ ∀ g args prot hp nm t, pureG l g args prot hp nm = some t → enters P g := by
  constructor
  · intro g args prot hp nm t ρ F w argv K ht H ha hK
    unfold pureG at ht
    split at ht
    · rename_i e es he hes
      split at ht
      · rename_i hc
        simp only [Bool.and_eq_true] at hc
        cases ht
        obtain ⟨h1, h2⟩ := reqB_holds hK
        obtain ⟨hm, rfl⟩ := findE_spec he
        exact PureOk.sum (h e hm) hes (SV.beqL_eq hc.1) (Nat.eq_of_beq_eq_true hc.2) H ha h1 (fun ρ v => foldSV_is) h2
      · cases ht
    · cases ht
  · intro g args prot hp nm t ht
    unfold pureG at ht
    split at ht
    · rename_i e es he hes
      obtain ⟨hm, rfl⟩ := findE_spec he
      exact (h e hm).enter
    · cases ht

end Go.Proofs.Ytafemlljemhkhaa.Sx
