/-
  THE SYMBOLIC EXECUTOR, part Uj: a function's run, its paths left apart.
-/
import Derived.Test.YtafemlljemhkhaaSxEq
namespace Go.Proofs.Ytafemlljemhkhaa.Sx
open Go
set_option linter.unusedSectionVars false
set_option linter.unusedVariables false
set_option linter.unusedSimpArgs false
variable [Env]

section
variable {A : Type} [AbsK A]
def execBodyU (P : Program) (c : CallF A) (x : Extra A) (Λ : LoopF A) (n : Nat) (fn : Func) (code : Code) (args : List SV) (prot : Prot) (h : Heap A) (nm : Nat) : Tree (SV × Heap A) :=
  (execC P c x Λ prot (nm * 65536) n code [] ⟨args ++ List.replicate (fn.ntmps - args.length) undefS, h, 0⟩).bind fun r => match r.1 with
    | .exit _ => .fail 171
    | _ => (resS P fn.results r.2.l r.2.h).bind fun s => .leaf (s, gcH (namesH h) s r.2.h)
theorem execBodyU_ok {P : Program} (hm : P.follows .mixedOrders = true) {c : CallF A} {x : Extra A} {Λ : LoopF A} (hc : CallOk P c) (hx : ExtraOk P x) {n g : Nat} {fn : Func} {code : Code} (hf : P.funcs[g]? = some fn) (hb : fn.body = some code) (hΛ : LoopsOk P code Λ)
    {args : List SV} {prot : Prot} {h : Heap A} {nm : Nat} {ρ : Rho} {F : Nat → Nat → Prop} {w : World} {argv : Array Value} {K : SV × Heap A → Prop} (H : HeapOk ρ F h w) (ha : All2 (SV.is ρ) args argv.toList)
    (hK : (execBodyU P c x Λ n fn code args prot h nm).holds K) : CallsTo P prot ρ F w g argv K := by
  unfold execBodyU at hK
  rw [Tree.holds_bind] at hK
  have hlen : args.length = argv.size := by have := ha.length; simpa using this
  refine calls_of_wp hf hb (execC_ok hm hc hx hΛ code [] _ ρ F _ w _ rfl H ?_ (Tree.holds_mono (fun r hr ρ' F' a' w' t H' G => ?_) hK))
  · have hall : All2 (SV.is ρ) (args ++ List.replicate (fn.ntmps - args.length) undefS) (argv ++ Array.replicate (fn.ntmps - argv.size) undef).toList := by
      rw [Array.toList_append, Array.toList_replicate, hlen]
      exact ha.append (All2.replicate _ _ (undefS_is ρ) _)
    refine ⟨by have := hall.length; simpa using this.symm, fun i s _ hs => ?_, rfl⟩
    obtain ⟨v, hv, hsv⟩ := hall.get i s hs
    exact ⟨v, by rw [← Array.getElem?_toList]; exact hv, hsv⟩
  · obtain ⟨e, s'⟩ := r
    have key : (resS P fn.results s'.l s'.h).holds (fun s => K (s, gcH (namesH h) s s'.h)) → a'.defers = [] ∧ ∃ v, (results fn a'.tmps).run P w' = .ok v w' ∧ (∃ s h' v' ρ' F', K (s, h') ∧ Ending.returned v = .returned v' ∧ s.is ρ' v' ∧ HeapOk ρ' F' h' w' ∧ Goes prot.pr ρ F w ρ' F' w') := by
      intro hr
      obtain ⟨s, v, h1, h2, h3⟩ := resS_ok (fn := fn) H' t hr
      obtain ⟨ρ2, g1, g2, g3⟩ := gcH_ok H H' G h2
      exact ⟨t.defers, v, h3, s, _, v, ρ2, F', h1, rfl, g3, g1, g2⟩
    cases e with
    | norm => simp only at hr; rw [Tree.holds_bind] at hr; exact key hr
    | ret => simp only at hr; rw [Tree.holds_bind] at hr; exact key hr
    | exit id => exact hr.elim
/-- A call of which the paths are left apart; calls in it as they are. -/
def callU (P : Program) (c : CallF A) (x : Extra A) (Λ : Nat → LoopF A) (n : Nat) : CallF A := fun g args prot h nm => match P.funcs[g]? with
  | none => .fail 173
  | some fn => match fn.body with
    | none => .fail 174
    | some code => execBodyU P c x (Λ g) n fn code args prot h nm
theorem callU_ok {P : Program} (hm : P.follows .mixedOrders = true) {c : CallF A} {x : Extra A} {Λ : Nat → LoopF A} {n : Nat} (hc : CallOk P c) (hx : ExtraOk P x) (hn : ∀ (g : Nat) (fn : Func), P.funcs[g]? = some fn → (fn.name == "runtime.NumGoroutine") = false)
    (hΛ : ∀ (g : Nat) (fn : Func) (code : Code), P.funcs[g]? = some fn → fn.body = some code → LoopsOk P code (Λ g)) : CallOk P (callU P c x Λ n) := by
  intro g args prot h nm ρ F w argv K H ha hK
  unfold callU at hK
  split at hK
  · exact hK.elim
  · rename_i fn hf
    split at hK
    · exact hK.elim
    · rename_i code hb
      exact ⟨⟨fn, hf, hn _ _ hf, by rw [hb]; rfl⟩, execBodyU_ok hm hc hx hf hb (hΛ _ _ _ hf hb) H ha hK⟩
end
end Go.Proofs.Ytafemlljemhkhaa.Sx
