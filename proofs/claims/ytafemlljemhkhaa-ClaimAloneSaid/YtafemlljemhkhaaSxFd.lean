/-
  THE SYMBOLIC EXECUTOR, part Fd: functions with loops, from head to head; what is so at the heads, and at the end, in plain words.
-/
import Derived.Test.YtafemlljemhkhaaSxFc
namespace Go.Proofs.Ytafemlljemhkhaa.Sx
open Go
set_option linter.unusedSectionVars false
set_option linter.unusedVariables false
set_option linter.unusedSimpArgs false

/-- What is asked of a run's end. -/
def GoodL (P : Program) (rs : Array ResultVar) (cuts : List Cut) (Φ : List Nat → Env → Prop) (R : Value → Prop) (E : Env) (old : Option (List (IE × IE))) : RR → Prop
  | .at_ p s => ∃ k, k ∈ cuts ∧ k.p = p ∧ ∃ S : Sub, fitSS S k.I s = true ∧ (∀ b ∈ k.fs, @BE.val (E.by S) b = true) ∧ Φ p (E.by S) ∧ ∀ o, old = some o → Lx (@valsM (E.by S) k.ms) (@valsM E o)
  | .fin s => ∃ sv, @resS E Empty _ P rs s.l s.h = .leaf sv ∧ ∀ ρ v, @SV.is E ρ sv v → R v
/-- A function whose runs from head to head are as they should be. -/
theorem floydG {P : Program} (hm : P.follows .mixedOrders = true) {c : [Env] → CallF Empty} (hc : ∀ [Env], CallOk P c) {x : Extra Empty} (hx : ∀ [Env], ExtraOk P x) {B g : Nat} {fn : Func} {root : Code} (hf : P.funcs[g]? = some fn) (hb : fn.body = some root)
    {cuts : List Cut} {Φ : List Nat → Env → Prop} {R : Value → Prop} (hl : (cuts.all fun k => isLoop (subAt root k.p) && Nat.ble k.ms.length 9) = true)
    (hcuts : ∀ (E : Env) (k : Cut), k ∈ cuts → (∀ b ∈ k.fs, @BE.val E b = true) → Φ k.p E → (@segAt E P c x B root cuts k).holds (GoodL P fn.results cuts Φ R E (some k.ms)))
    {args : List SV} {h0 : Heap Empty} (E : Env) (hstart : (@segStart E P c x B root cuts fn.ntmps args h0).holds (GoodL P fn.results cuts Φ R E none))
    {ρ : Rho} {F : Nat → Nat → Prop} {w : World} {argv : Array Value} (H : @HeapOk E Empty _ ρ F h0 w) (ha : All2 (@SV.is E ρ) args argv.toList) :
    Calls P g argv w fun e w' => ∃ v, e = .returned v ∧ R v ∧ ∃ ρ' F', Reach ρ F w ρ' F' w' := by
  let Q := bodyPost P fn fun e w' => ∃ v, e = .returned v ∧ R v ∧ ∃ ρ' F', Reach ρ F w ρ' F' w'
  have hleaf : ∀ (E : Env) (old : Option (List (IE × IE))), (∀ (k : Cut), k ∈ cuts → ∀ (E' : Env) (ρ1 : Rho) (F1 : Nat → Nat → Prop) (a : Act) (w1 : World), (∀ b ∈ k.fs, @BE.val E' b = true) → Φ k.p E' → @HeapOk E' Empty _ ρ1 F1 k.I.h w1 → @TmpsOk E' ρ1 [] k.I.l a → Reach ρ F w ρ1 F1 w1 →
        (∀ o, old = some o → Lx (@valsM E' k.ms) (@valsM E o)) → AtR P root Q k.p a w1) →
      ∀ l, GoodL P fn.results cuts Φ R E old l → @XR E P root Q (Reach ρ F w) l := by
    intro E old ih l hok
    cases l with
    | at_ p s =>
      intro ρ1 F1 a w1 hT H1 R1
      obtain ⟨k, hmem, hp, S, hfit, hfs, hphi, hlx⟩ := hok
      obtain ⟨ρ2, F2, g1, g2, g3⟩ := fitSS_ok E hfit H1 hT
      have := ih k hmem (E.by S) ρ2 F2 a w1 hfs (by rw [hp]; exact hphi) g1 g2 (R1.ren g3) hlx
      rw [hp] at this
      exact this
    | fin s =>
      intro ρ1 F1 a w1 hT H1 R1
      obtain ⟨sv, hres, hR⟩ := hok
      have key : a.defers = [] ∧ ∃ v, (results fn a.tmps).run P w1 = .ok v w1 ∧ (∃ v', Ending.returned v = .returned v' ∧ R v' ∧ ∃ ρ' F', Reach ρ F w ρ' F' w1) := by
        obtain ⟨s', v, k1, k2, k3⟩ := @resS_ok E Empty _ P fn _ _ _ _ _ _ H1 hT (K := fun s' => s' = sv) (by rw [hres]; rfl)
        subst k1
        exact ⟨hT.defers, v, k3, v, rfl, hR _ v k2, _, _, R1⟩
      exact ⟨key, key⟩
  have claim : ∀ (v : List Nat), v.length ≤ 9 → ∀ k ∈ cuts, ∀ (E : Env) (ρ1 : Rho) (F1 : Nat → Nat → Prop) (a : Act) (w1 : World), (∀ b ∈ k.fs, @BE.val E b = true) → Φ k.p E → @HeapOk E Empty _ ρ1 F1 k.I.h w1 → @TmpsOk E ρ1 [] k.I.l a → Reach ρ F w ρ1 F1 w1 →
      @valsM E k.ms = v → AtR P root Q k.p a w1 := by
    intro v hv
    induction Lx_acc 9 v hv with
    | intro v _ ih =>
      intro k hk E ρ1 F1 a w1 hfs hphi H1 hT R1 hvals
      have hk1 := List.all_eq_true.1 hl k hk
      simp only [Bool.and_eq_true, Nat.ble_eq] at hk1
      have hseg := hcuts E k hk hfs hphi
      have htree : (@segAt E P c x B root cuts k).holds (@XR E P root Q (Reach ρ F w)) := by
        refine Tree.holds_mono (hleaf E (some k.ms) (fun k' hk' E' ρ2 F2 a2 w2 f2 p2 H2 T2 R2 hlt => ?_)) hseg
        have hk2 := List.all_eq_true.1 hl k' hk'
        simp only [Bool.and_eq_true, Nat.ble_eq] at hk2
        have hlen : (@valsM E' k'.ms).length ≤ 9 := by rw [@valsM_len E']; exact hk2.2
        exact ih _ ⟨hlen, by rw [← hvals]; exact hlt _ rfl⟩ hlen k' hk' E' ρ2 F2 a2 w2 f2 p2 H2 T2 R2 rfl
      exact @segAt_ok E P c x B root cuts k Q _ (Reach.rl ρ F w) hm hc hx ρ1 F1 a w1 H1 hT R1 htree
  have hlen : args.length = argv.size := by have := @All2.length E _ _ _ _ _ ha; simpa using this
  refine calls_of_wp hf hb ?_
  have htree : (@segStart E P c x B root cuts fn.ntmps args h0).holds (@XR E P root Q (Reach ρ F w)) := by
    refine Tree.holds_mono (hleaf E none (fun k hk E' ρ2 F2 a2 w2 f2 p2 H2 T2 R2 _ => ?_)) hstart
    have hk2 := List.all_eq_true.1 hl k hk
    simp only [Bool.and_eq_true, Nat.ble_eq] at hk2
    exact claim _ (by rw [@valsM_len E']; exact hk2.2) k hk E' ρ2 F2 a2 w2 f2 p2 H2 T2 R2 rfl
  refine @segC_ok E P c x B _ root Q (Reach ρ F w) (Reach.rl ρ F w) hm hc hx root [] _ ρ F _ w _ rfl H ?_ (Reach.refl ρ F w) (@contT_ok E P c x B _ root Q (Reach ρ F w) (Reach.rl ρ F w) hm hc hx []) htree
  have hall : All2 (@SV.is E ρ) (args ++ List.replicate (fn.ntmps - args.length) undefS) (argv ++ Array.replicate (fn.ntmps - argv.size) undef).toList := by
    rw [Array.toList_append, Array.toList_replicate, hlen]
    exact @All2.append E _ _ _ _ _ _ _ ha (@All2.replicate E _ _ _ _ _ (undefS_is ρ) _)
  refine @TmpsOk.mk E ρ [] _ _ (by have := @All2.length E _ _ _ _ _ hall; simpa using this.symm) (fun i s _ hs => ?_) rfl
  obtain ⟨v, hv, hsv⟩ := @All2.get E _ _ _ _ _ hall i s hs
  exact ⟨v, by rw [← Array.getElem?_toList]; exact hv, hsv⟩

end Go.Proofs.Ytafemlljemhkhaa.Sx
