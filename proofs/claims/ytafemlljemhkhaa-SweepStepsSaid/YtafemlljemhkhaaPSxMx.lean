import Derived.Test.YtafemlljemhkhaaPSxNn
import Derived.Test.YtafemlljemhkhaaPSxSh
namespace Go.Proofs.Ytafemlljemhkhaa.Sx
open Go
set_option linter.unusedSectionVars false
set_option linter.unusedVariables false
set_option linter.unusedSimpArgs false
theorem Summ.foldsC {P : Program} {c : ∀ [Env], CallF Empty} (hc : ∀ [Env], CallOk P (@c _)) {g : Nat} {ps : List SV} {hp : Heap Empty} {t : Tree (SV × Heap Empty)} (he : enters P g) (ops : List FoldOp)
    (ht : ∀ [Env],(c g ps [] hp 1).bind (foldsL (namesH hp) ops) = t) : Summ.ok P ⟨g,ps,hp,t⟩ :=
  ⟨he, fun E ρ F w argv K H ha hK => by
    rw [← @ht E, @Tree.holds_bind E] at hK
    refine Calls.mono (@hc E g ps [] hp 1 ρ F w argv _ H ha hK).2 fun e w' he => ?_
    obtain ⟨s,h',v, ρ',F',k1,rfl,k3,k4,k5⟩ := he
    obtain ⟨s2, h2, ρ2, F2, q1, q2, q3, q4⟩ := foldsL_ok (fun n hn => by
      obtain ⟨r,hr⟩ := Option.isSome_iff_exists.1 hn
      obtain ⟨o,ho⟩ := @HeapOk.look_some E Empty _ _ _ _ _ H _ _ hr
      exact look_namesH (A := Empty) ho) k4 k3 k5 k1
    exact ⟨s2,h2,v, ρ2,F2,q1,rfl,q2,q3,q4⟩⟩
theorem putsetF (c v : Int) (R : List Int) : writeL R (if inF c R then c else R.length).toNat [v] = setF c v R := by
  unfold setF
  simp only [writeL]
  by_cases h : inF c R
  · rw [if_pos h,if_pos h]
  · rw [if_neg h, if_neg h]
    exact List.set_eq_of_length_le (by simp)
theorem setF_len (c v : Int) (r : List Int) : (setF c v r).length = r.length := by unfold setF; split <;> simp
theorem i64_small {x : Int} (h0 : -9223372036854775808 ≤ x) (h1 : x ≤ 9223372036854775807) : IntKind.i64.wrap x = x := wrap64_small h0 h1
noncomputable def baseNn [Env] : CallF Empty := callF Try.prog (withS sums7 sums3) (extraN Try.prog) noL 100 50
theorem baseNn_ok [Env] : CallOk Try.prog baseNn := callF_ok ⟨mixed_ok,(withS_ok sums7_ok sums3_ok).2,names_ok,(withS_ok sums7_ok sums3_ok).1,extraN_ok _,fun _ _ _ _ _ _ _ _ _ _ _ _ _ _ _ _ h => (by cases h)⟩ 100 50
namespace Cn
open Bk
def ps : List SV := [.w (.one (.b (.ref 206)))]
def L : IE := .latom 1100
def short (sz : Nat) : BE := .cmp .leq (.len L) (.lit (if Nat.beq sz 3 then 24000000000000 else 1000000))
def told (sz : Nat) : Tree (SV × Heap Empty) := .req (short sz) (.leaf (.w (.one (.b (.ref 9000))), [(9000, .mach (sz + 1) L),(206, .mach (sz + 1) L)]))
def u1 : Tree (SV × Heap Empty) := .leaf (.w (.one (.b (.ref 9000))), [(9000, .mach 1 .nilL),(206, .mach 1 .nilL)])
def u2 (b : BE) (sz : Nat) : Tree (SV × Heap Empty) := .req b (.leaf (.w (.one (.b (.ref 9000))), [(9000, .mach (sz + 1) L),(206, .mach (sz + 1) L)]))
def b3 : BE := .cmp .leq (.at_ (.lit 0) (.fn 50 (.consL (.len L) (.consL (.lit 3) .nilL))) 1 0) (.lit 8796093022208)
def b1 : BE := .cmp .leq (.at_ (.lit 0) (.len L) 1 0) (.lit 8796093022208)
theorem of_runs {g sz : Nat} {b : BE} (hsz : 0 < sz ∧ sz < 100) (he : enters Try.prog g) (e1 : ∀ [Env], (baseNn g ps [] [(206, .mach 1 .nilL)] 1).bind (foldsL [206] [.own, .drop]) = u1)
    (e2 : ∀ [Env],(baseNn g ps [] [(206, .mach 0 (.consL (.lit (900 + sz : Nat)) L))] 1).bind (foldsL [206] [.own, .drop]) = u2 b sz) (hb : ∀ E : Env, @BE.val E (short sz) = true → @BE.val E b = true)
    (h3 : (eqvSO ⟨[], [(.nilL,L)], []⟩ (.mach 1 .nilL) (.mach (sz + 1) L)) = true) : Summ.ok Try.prog ⟨g,ps, [(206, .mach (sz + 1) L)],told sz⟩ := by
  refine Summ.grow hsz (Summ.foldsC (c := @baseNn) @baseNn_ok he [.own, .drop] @e1) (Summ.foldsC (c := @baseNn) @baseNn_ok he [.own, .drop] @e2) (fun E Q hn hQ => ?_) fun E Q hQ => ?_
  · refine ⟨_, hQ.2, Eqv.of (q := ⟨[], [(.nilL, L)], []⟩) ⟨nn, cc hn.symm nn, nn⟩ ?_⟩
    simp only [eqvSV,eqvSW,eqvSC,eqvSB,eqvH,h3,Nat.beq_refl,Bool.and_self]
  · refine ⟨hb E hQ.1,_,hQ.2,fun ρ v h => h,fun ρ F w h => h⟩
end Cn
theorem c1_cloneE [Env] : (baseNn 89 Cn.ps [] [(206, .mach 1 .nilL)] 1).bind (foldsL [206] [.own, .drop]) = Cn.u1 := by kernel_rfl
theorem c2_cloneE [Env] : (baseNn 89 Cn.ps [] [(206, .mach 0 (.consL (.lit (900 + 3 : Nat)) Cn.L))] 1).bind (foldsL [206] [.own, .drop]) = Cn.u2 Cn.b3 3 := by kernel_rfl
def s_cloneE : Summ := ⟨89,Cn.ps, [(206, .mach 4 Cn.L)],Cn.told 3⟩
theorem ok_cloneE : s_cloneE.ok Try.prog := Cn.of_runs (sz := 3) (b := Cn.b3) (by omega) (Bk.enters_of Try.func89 (by kernel_rfl)) @c1_cloneE @c2_cloneE (fun E h => decide_eq_true (by
  have h : ((E.l 1100).length : Int) ≤ 24000000000000 := of_decide_eq_true h
  show ((((0 : Int).toNat + (((E.l 1100).length : Int) / 3).toNat * 1 + 0 : Nat)) : Int) ≤ 8796093022208
  omega)) rfl
theorem c1_cloneU [Env] : (baseNn 92 Cn.ps [] [(206, .mach 1 .nilL)] 1).bind (foldsL [206] [.own, .drop]) = Cn.u1 := by kernel_rfl
theorem c2_cloneU [Env] : (baseNn 92 Cn.ps [] [(206, .mach 0 (.consL (.lit (900 + 1 : Nat)) Cn.L))] 1).bind (foldsL [206] [.own, .drop]) = Cn.u2 Cn.b1 1 := by kernel_rfl
def s_cloneU : Summ := ⟨92,Cn.ps, [(206, .mach 2 Cn.L)],Cn.told 1⟩
theorem ok_cloneU : s_cloneU.ok Try.prog := Cn.of_runs (sz := 1) (b := Cn.b1) (by omega) (Bk.enters_of Try.func92 (by kernel_rfl)) @c1_cloneU @c2_cloneU (fun E h => decide_eq_true (by
  have h : ((E.l 1100).length : Int) ≤ 1000000 := of_decide_eq_true h
  show ((((0 : Int).toNat + ((E.l 1100).length : Int).toNat * 1 + 0 : Nat)) : Int) ≤ 8796093022208
  omega)) rfl
def sumsC1 : List Summ := sums7
theorem sumsC1_ok : ∀ σ ∈ sumsC1, σ.ok Try.prog := sums7_ok
def sumsC2 : List Summ := s_cloneE :: sumsC1
theorem sumsC2_ok : ∀ σ ∈ sumsC2, σ.ok Try.prog := Bk.cc ok_cloneE sumsC1_ok
def sumsC3 : List Summ := s_cloneU :: sumsC2
theorem sumsC3_ok : ∀ σ ∈ sumsC3, σ.ok Try.prog := Bk.cc ok_cloneU sumsC2_ok
end Go.Proofs.Ytafemlljemhkhaa.Sx
