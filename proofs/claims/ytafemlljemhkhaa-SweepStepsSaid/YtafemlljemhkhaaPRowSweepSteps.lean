/-
  The law SweepSteps: whatever its arguments, it returns true, and they read as they did. No condition.
-/
import Derived.Test.YtafemlljemhkhaaRows
import Derived.Test.YtafemlljemhkhaaPLSweepSteps
import Derived.JoinedOf
namespace Go.Proofs.Ytafemlljemhkhaa.sweepSteps
open Go Go.ChangeShapes Go.WideShapes Go.ChangeAt Go.RowKit
set_option linter.unusedVariables false
theorem own : ownKnob Try.prog.godebug = none := by kernel_rfl
theorem laidOut : laidOutB Try.prog = true := by kernel_rfl
set_option maxRecDepth 100000 in
theorem lifted (os : Os) (started : os.Started) (H : Type) (enc : TypeId × Value → H) :
    ReturnsInHanded {} Try.checked os 12 .any (Rows.sweepStepsSpec.pre6 enc Try.prog Try.f12 Rows.sweepStepsRow.domain false) (Rows.sweepStepsSpec.post enc Try.prog Try.f12 false true false false) := by
  refine returnsInHanded_of_change_sized (C := Try.checked) own started (by kernel_rfl) Try.func12
    (ChangeSpec.witness6 (enc := enc) (C := Try.checked) false ⟨#[], #[.agg #[.int .i64 0, .int .i64 0, .int .i64 0, .int .i64 0, .int .i64 0, .int .i64 0, .int .i64 0], .slice none 0 0, .agg #[.slice none 0 0, .int .i64 0, .int .i64 0, .slice none 0 0]], []⟩ 8 (by kernel_rfl) (by kernel_rfl) (by kernel_rfl) (by kernel_rfl)) ?_
  intro W base args ds gs before hval0 hW hcnd hsz0 _
  have hval : ∀ (j : Nat) t v,Try.f12.params[j]? = some t → args[j]? = some v → Value.okWide Try.prog W .any base t v := hval0
  have hW' := hW
  obtain ⟨p,q,hA0,hV,rfl,hfz,hnd⟩ := hW
  have hA : DataW.TrodAll enc Try.prog W 0 (fun _ => true) true Try.f12.params.toList args.toList ds p := hA0
  rw [Try.params12] at hA hval
  obtain ⟨rfl,rfl⟩ := trodVars_none hV
  have hval' : ∀ (j : Nat) t v, [23,24,88][j]? = some t → args.toList[j]? = some v → Value.okWide Try.prog W .any base t v := fun j t v h1 h2 => hval j t v (by simpa using h1) (by simpa using h2)
  have hA' := hA
  have hcount := hA
  obtain ⟨v0,vs0,d0,ds0,p0,q0,hargs,rfl,rfl,h0,r0⟩ := trodAll_cons hcount
  obtain ⟨v1,vs1,d1,ds1,p1,q1,rfl,rfl,rfl,h1,r1⟩ := trodAll_cons r0
  obtain ⟨v2,vs2,d2,ds2,p2,q2,rfl,rfl,rfl,h2,r2⟩ := trodAll_cons r1
  obtain ⟨rfl,rfl,rfl⟩ := trodAll_nil r2
  have hsz : (DataW.weightsEach Try.prog (Try.f12.params.toList ++ _) _).all (fun x => decide (x ≤ reachBytes)) = true := hsz0
  rw [Try.params12] at hsz
  have hz := Sx.each2 hsz
  have hlen : ∀ (E : Sx.Env) (ρ : Sx.Rho), Sx.All2 (@Sx.SV.is E ρ) (Sx.symArgsG Sx.LSweepSteps.gs 0 0) args.toList → E.i 10 ≤ 8000000000000 := fun E ρ h3 => by
    rw [hargs] at h3
    obtain ⟨cs,a,c,r,rfl,hcs⟩ := Sx.isl_len (k := 10) h3
    have q := Sx.st_len (P := Try.prog) (e := 109) Try.underlying88 rfl Try.underlying69 rfl h2 hz hcs
    have hb : Try.prog.bytesOf 109 = 24 := by kernel_rfl
    rw [hb] at q
    have q : (E.i 10).toNat * 24 ≤ 140737488351232 := q
    omega
  clear hA0 hval0 hsz0
  refine (Sx.law_loopsH (d := 8) (gs := Sx.LSweepSteps.gs) (by kernel_rfl) hval' hA' (fun E ρ F h1 h2 h3 => Sx.LSweepSteps.law E ρ F W args h1 h2 h3 (hlen E ρ h3))).mono fun e W' ⟨he,bel⟩ => ?_
  subst he
  refine ⟨_,rfl,_,_,_, [],_, [],hW',trodAll_mk1 (shut_bool Try.underlying4 _),Sx.backs laidOut bel (by kernel_rfl) hA',rfl,bel.frame _,fun h => by cases h⟩
theorem over : Rows.sweepStepsRow.holds Try.pinned (OpenSpec.ofChange Rows.sweepStepsSpec) :=
  OpenClaim.holds_of_wide 12 Try.f12 rfl rfl rfl rfl rfl rfl rfl ⟨rfl, rfl, rfl, rfl, rfl⟩ rfl rfl rfl rfl rfl (by kernel_rfl) Try.func12 (by kernel_rfl)
    (of_decide_eq_true (by kernel_rfl)) (by unfold Func.isWrapper; first | (rw [if_pos (by decide +kernel)]; kernel_rfl) | (rw [if_neg (by decide +kernel)]; exact ⟨rfl,rfl⟩))
    (fun os started H enc _ => lifted os started H enc)
theorem proved : Rows.SweepStepsSaid := over
#print axioms proved
end Go.Proofs.Ytafemlljemhkhaa.sweepSteps
namespace Go.Proofs.Ytafemlljemhkhaa
theorem sweepSteps_holds : Rows.SweepStepsSaid := sweepSteps.proved
end Go.Proofs.Ytafemlljemhkhaa
