/-
  Calls with the bank's accesses told.
-/
import Derived.Test.YtafemlljemhkhaaSxY4
import Derived.Test.YtafemlljemhkhaaSxBk
import Derived.Test.YtafemlljemhkhaaSxFm
namespace Go.Proofs.Ytafemlljemhkhaa.Sx
open Go
set_option linter.unusedSectionVars false
set_option linter.unusedVariables false
set_option linter.unusedSimpArgs false
set_option maxRecDepth 100000

noncomputable def base4 [Env] : CallF Empty := callF Try.prog (withS Bk.sums sums3) (extraS Try.prog) noL 100 50
theorem base4_ok [Env] : CallOk Try.prog base4 := callF_ok ⟨mixed_ok, (withS_ok Bk.sums_ok sums3_ok).2, names_ok, (withS_ok Bk.sums_ok sums3_ok).1, extraS_ok _, fun _ _ _ _ _ _ _ _ _ _ _ _ _ _ _ _ h => (by cases h)⟩ 100 50

/-- The arguments' tables, and what bounds them. -/
def colTabs (id : Nat) : List Col → Nat → Tabs
  | [], _ => []
  | .int k :: l, j => (id, j, k.min, k.max) :: colTabs id l (j + 1)
  | .bool :: l, j => (id, j, 0, 1) :: colTabs id l (j + 1)
def tabsOf : List PK → Nat → Tabs
  | [], _ => []
  | .sl cs :: l, k => colTabs k cs 0 ++ tabsOf l (k + 1)
  | p :: l, k => tabsOf l (k + p.rows)
theorem colTabs_ok {E : Env} {id : Nat} {cs0 : List Col} (h : ∀ (i j : Nat) (c : Col), cs0[j]? = some c → c.wf (E.t id i j)) : ∀ (cs pre : List Col), cs0 = pre ++ cs → TabR (colTabs id cs pre.length) E
  | [], _, _ => fun p hp => by cases hp
  | c :: cs, pre, he => by
    have hrest := colTabs_ok h cs (pre ++ [c]) (by rw [he]; simp)
    rw [List.length_append] at hrest
    have hc : cs0[pre.length]? = some c := by rw [he, List.getElem?_append_right (Nat.le_refl _)]; simp
    cases c with
    | int k =>
      intro p hp
      rcases List.mem_cons.1 hp with rfl | hp
      · intro i
        have hw : (Lit.int k (E.t id i pre.length)).wf = true := h i _ _ hc
        simp only [Lit.wf, Bool.and_eq_true] at hw
        exact ⟨of_decide_eq_true hw.1, of_decide_eq_true hw.2⟩
      · exact hrest p hp
    | bool =>
      intro p hp
      rcases List.mem_cons.1 hp with rfl | hp
      · intro i
        have hw : E.t id i pre.length = 0 ∨ E.t id i pre.length = 1 := h i _ _ hc
        exact ⟨show (0 : Int) ≤ E.t id i pre.length by omega, show E.t id i pre.length ≤ 1 by omega⟩
      · exact hrest p hp
theorem TabR.app {a b : Tabs} {E : Env} (ha : TabR a E) (hb : TabR b E) : TabR (a ++ b) E := fun p hp => (List.mem_append.1 hp).elim (ha p) (hb p)
theorem tabsOf_ok (E : Env) : ∀ {pks : List PK} {n k : Nat}, symRng E pks n k → TabR (tabsOf pks k) E
  | [], _, _, _ => fun p hp => by cases hp
  | .sl cs :: l, n, k, h => (colTabs_ok h.1.2.2.2 cs [] rfl).app (tabsOf_ok E h.2)
  | .one c :: l, n, k, h => tabsOf_ok E (pks := l) (n := n + (PK.one c).size) (k := k + (PK.one c).rows) h.2
  | .agg cs :: l, n, k, h => tabsOf_ok E (pks := l) (n := n + (PK.agg cs).size) (k := k + (PK.agg cs).rows) h.2

end Go.Proofs.Ytafemlljemhkhaa.Sx
