import Derived.Test.YtafemlljemhkhaaPSxXw
import Derived.Test.YtafemlljemhkhaaPSxY2
import Derived.Test.YtafemlljemhkhaaPSxFbc
import Derived.Test.YtafemlljemhkhaaPSxSame
import Derived.Test.YtafemlljemhkhaaPSxBk
import Derived.Test.YtafemlljemhkhaaPSxFm
namespace Go.Proofs.Ytafemlljemhkhaa.Sx
open Go Go.ChangeShapes Go.WideShapes Go.ChangeAt Go.RowKit
set_option linter.unusedSectionVars false
set_option linter.unusedVariables false
set_option maxRecDepth 100000
def cfgL : IE := .consL (.atom 0) (.consL (.atom 1) (.consL (.atom 2) (.consL (.atom 3) (.consL (.atom 4) (.consL (.atom 5) (.consL (.atom 6) .nilL))))))
def cfgK : PK := .agg [.int .i64, .int .i64, .int .i64, .int .i64, .int .i64, .int .i64, .int .i64]
noncomputable def rootOf (f : Func) : Code := match f.body with
  | some c => c
  | none => .skip
section
variable {H : Type} {enc : TypeId × Value → H} {P : Program} {W : World} {b0 : Nat} {sp : Nat → Bool} {held : Bool}
end
end Go.Proofs.Ytafemlljemhkhaa.Sx
namespace Go.Proofs.Ytafemlljemhkhaa.Sx
open Go
set_option linter.unusedSectionVars false
set_option linter.unusedVariables false
set_option linter.unusedSimpArgs false
set_option maxRecDepth 100000
def sameB (a b : IE) : BE := mkCmp .neq (mkEqL a b) (.lit 0)
theorem sameB_val [Env] (a b : IE) : (sameB a b).val = decide (a.lst = b.lst) := by
  unfold sameB
  rw [mkCmp_val,(mkEqL_spec a b).1]
  simp only [IE.val,cmpVal]
  cases decide (a.lst = b.lst) <;> rfl
def shortB (a : IE) : BE := .cmp .leq (mkLen a) (.lit 140737488355328)
noncomputable def sameG : SumF Empty := fun g args prot h nm =>
  if g = 57 then (match args with
    | [x, y] => (match sliceOf x, sliceOf y with
      | some (n1, o1, e1), some (n2, o2, e2) => (match look h n1, look h n2 with
        | some ob1, some ob2 => (match srcI ob1 o1 (mkNat e1) 1, srcI ob2 o2 (mkNat e2) 1 with
          | some (.u64,c1,L1),some (.u64,c2,L2) => some (.req c1 (.req c2 (.req (shortB L1) (.leaf (.w (.one (.b (.bool (sameB L1 L2)))),h)))))
          | _,_ => none)
        | _,_ => none)
      | _,_ => none)
    | _ => none) else none
theorem enters73 : enters Try.prog 57 := ⟨Try.f57,Try.func57,by kernel_rfl,by kernel_rfl⟩
theorem sameG_ok [E : Env] : SumOk Try.prog sameG ∧ ∀ g args prot hp nm t, sameG g args prot hp nm = some t → enters Try.prog g := by
  constructor
  · intro g args prot h nm t ρ F w argv K ht H ha hK
    unfold sameG at ht
    split at ht
    · rename_i hg
      subst hg
      split at ht
      · rename_i x y
        split at ht
        · rename_i n1 o1 e1 n2 o2 e2 hx hy
          split at ht
          · rename_i ob1 ob2 hl1 hl2
            split at ht
            · rename_i c1 L1 c2 L2 hs1 hs2
              cases ht
              obtain ⟨hc1,hc2,hc3,hk⟩ := hK
              obtain ⟨v1, v2, hargs⟩ : ∃ v1 v2, argv = #[v1, v2] := by
                obtain ⟨l⟩ := argv
                match l,ha with
                | [v1,v2],_ => exact ⟨v1,v2,rfl⟩
                | [],h => exact h.elim
                | [_],h => exact h.2.elim
                | _ :: _ :: _ :: _,h => exact h.2.2.elim
              subst hargs
              have hv1 := ha.1
              have hv2 := ha.2.1
              have one : ∀ (x : SV) (n : Nat) (o e : IE) (v : Value) (ob : SO Empty) (c : BE) (L : IE), sliceOf x = some (n, o, e) → x.is ρ v → look h n = some ob → srcI ob o (mkNat e) 1 = some (.u64, c, L) → c.val = true → Same.Holds w v L.lst := by
                intro x n o e v ob c L h1 h2 h3 h4 h5
                obtain ⟨a,cp,rfl,hr⟩ := sliceOf_is h1 h2
                obtain ⟨r,hr0⟩ := H.rho_some h3
                obtain ⟨hlen,hcell⟩ := srcI_ok h4 h5 (H.obj n ob r h3 hr0)
                rw [mkNat_val,Int.toNat_natCast,Nat.mul_one] at hlen
                refine ⟨a,cp,by rw [hlen], ?_⟩
                rcases hr with hr | ⟨b,hb,rfl⟩
                · exact .inl (by rw [hlen]; exact hr)
                · rw [hr0] at hb
                  cases hb
                  refine .inr ⟨b,_,rfl,H.size n b (by rw [hr0]; rfl) (H.self hr0),fun j hj => ?_⟩
                  refine hcell b rfl j _ ?_
                  rw [List.getElem?_map,List.getD_eq_getElem?_getD,List.getElem?_eq_getElem hj]
                  rfl
              have hb : (L1.lst.length : Int) ≤ 140737488355328 := by
                have := of_decide_eq_true hc3
                rw [mkLen_val] at this
                exact this
              refine Calls.mono (Same.calls (one x n1 o1 e1 v1 ob1 c1 L1 hx hv1 hl1 hs1 hc1) (one y n2 o2 e2 v2 ob2 c2 L2 hy hv2 hl2 hs2 hc2) hb) fun e w' he => ?_
              obtain ⟨rfl,h1,h2,h3,h4,hkeep⟩ := he
              exact ⟨_, h, _, ρ, F, hk, rfl, (by show Value.bool _ = Value.bool _; rw [sameB_val]), ⟨H.dom, fun n o r hn' hr => SO.ok_frame (Rho.Ext.refl ρ) (H.obj n o r hn' hr) h4 fun x hx => hkeep x (H.size n x (by simp [hr]) hx), H.disj, H.low, fun n x hn' hx => Nat.lt_of_lt_of_le (H.size n x hn' hx) h4⟩,
                ⟨Rho.Ext.refl ρ,h1,h2,h3,h4,fun x hx _ => hkeep x hx,fun n x hn' hx => .inr ⟨n,hn',hx,id⟩,fun _ _ _ => rfl,fun n k _ b hb => cell_congr (hkeep b (H.size n b (by simp [hb]) (H.self hb))) k⟩⟩
            · cases ht
          · cases ht
        · cases ht
      · cases ht
    · cases ht
  · intro g args prot hp nm t ht
    unfold sameG at ht
    split at ht
    · rename_i hg; rw [hg]; exact enters73
    · cases ht
noncomputable def sums3 : SumF Empty := fun g args prot h nm => match sameG g args prot h nm with
  | some t => some t
  | none => pureG pures2 g args prot h nm
theorem sums3_ok [Env] : SumOk Try.prog sums3 ∧ ∀ g args prot hp nm t, sums3 g args prot hp nm = some t → enters Try.prog g := by
  constructor
  · intro g args prot h nm t ρ F w argv K ht H ha hK
    unfold sums3 at ht
    split at ht
    · rename_i t' ht'; cases ht; exact sameG_ok.1 g args prot h nm _ ρ F w argv K ht' H ha hK
    · exact (pureG_ok pures2_ok).1 g args prot h nm _ ρ F w argv K ht H ha hK
  · intro g args prot h nm t ht
    unfold sums3 at ht
    split at ht
    · rename_i t' ht'; cases ht; exact sameG_ok.2 g args prot h nm _ ht'
    · exact (pureG_ok pures2_ok).2 g args prot h nm _ ht
end Go.Proofs.Ytafemlljemhkhaa.Sx
namespace Go.Proofs.Ytafemlljemhkhaa.Sx
open Go
set_option linter.unusedSectionVars false
set_option linter.unusedVariables false
set_option linter.unusedSimpArgs false
set_option maxRecDepth 100000
noncomputable def base4 [Env] : CallF Empty := callF Try.prog (withS Bk.sums sums3) (extraS Try.prog) noL 100 50
theorem base4_ok [Env] : CallOk Try.prog base4 := callF_ok ⟨mixed_ok,(withS_ok Bk.sums_ok sums3_ok).2,names_ok,(withS_ok Bk.sums_ok sums3_ok).1,extraS_ok _,fun _ _ _ _ _ _ _ _ _ _ _ _ _ _ _ _ h => (by cases h)⟩ 100 50
def colTabs (id : Nat) : List Col → Nat → Tabs
  | [],_ => []
  | .int k :: l,j => (id,j,k.min,k.max) :: colTabs id l (j + 1)
  | .bool :: l,j => (id,j,0,1) :: colTabs id l (j + 1)
def tabsOf : List PK → Nat → Tabs
  | [],_ => []
  | .sl cs :: l,k => colTabs k cs 0 ++ tabsOf l (k + 1)
  | p :: l,k => tabsOf l (k + p.rows)
theorem colTabs_ok {E : Env} {id : Nat} {cs0 : List Col} (h : ∀ (i j : Nat) (c : Col), cs0[j]? = some c → c.wf (E.t id i j)) : ∀ (cs pre : List Col), cs0 = pre ++ cs → TabR (colTabs id cs pre.length) E
  | [],_,_ => fun p hp => by cases hp
  | c :: cs, pre, he => by
    have hrest := colTabs_ok h cs (pre ++ [c]) (by rw [he]; simp)
    rw [List.length_append] at hrest
    have hc : cs0[pre.length]? = some c := by rw [he,List.getElem?_append_right (Nat.le_refl _)]; simp
    cases c with
    | int k =>
      intro p hp
      rcases List.mem_cons.1 hp with rfl | hp
      · intro i
        have hw : (Lit.int k (E.t id i pre.length)).wf = true := h i _ _ hc
        simp only [Lit.wf,Bool.and_eq_true] at hw
        exact ⟨of_decide_eq_true hw.1,of_decide_eq_true hw.2⟩
      · exact hrest p hp
    | bool =>
      intro p hp
      rcases List.mem_cons.1 hp with rfl | hp
      · intro i
        have hw : E.t id i pre.length = 0 ∨ E.t id i pre.length = 1 := h i _ _ hc
        exact ⟨show (0 : Int) ≤ E.t id i pre.length by omega,show E.t id i pre.length ≤ 1 by omega⟩
      · exact hrest p hp
theorem TabR.app {a b : Tabs} {E : Env} (ha : TabR a E) (hb : TabR b E) : TabR (a ++ b) E := fun p hp => (List.mem_append.1 hp).elim (ha p) (hb p)
theorem tabsOf_ok (E : Env) : ∀ {pks : List PK} {n k : Nat}, symRng E pks n k → TabR (tabsOf pks k) E
  | [],_,_,_ => fun p hp => by cases hp
  | .sl cs :: l,n,k,h => (colTabs_ok h.1.2.2.2 cs [] rfl).app (tabsOf_ok E h.2)
  | .one c :: l,n,k,h => tabsOf_ok E (pks := l) (n := n + (PK.one c).size) (k := k + (PK.one c).rows) h.2
  | .agg cs :: l,n,k,h => tabsOf_ok E (pks := l) (n := n + (PK.agg cs).size) (k := k + (PK.agg cs).rows) h.2
end Go.Proofs.Ytafemlljemhkhaa.Sx
