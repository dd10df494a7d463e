import Derived.Test.YtafemlljemhkhaaPSxNn
import Derived.Test.YtafemlljemhkhaaPSxSh
namespace Go.Proofs.Ytafemlljemhkhaa.Sx
open Go
set_option linter.unusedSectionVars false
set_option linter.unusedVariables false
set_option linter.unusedSimpArgs false
theorem Summ.foldsC {P : Program} {c : ∀ [Env], CallF Empty} (hc : ∀ [Env], CallOk P (@c _)) {g : Nat} {ps : List SV} {hp : Heap Empty} {t : Tree (SV × Heap Empty)} (he : enters P g) (ops : List FoldOp)
    (ht : ∀ [Env], (c g ps [] hp 1).bind (foldsL (namesH hp) ops) = t) : Summ.ok P ⟨g, ps, hp, t⟩ :=
  ⟨he, fun E ρ F w argv K H ha hK => by
    rw [← @ht E, @Tree.holds_bind E] at hK
    refine Calls.mono (@hc E g ps [] hp 1 ρ F w argv _ H ha hK).2 fun e w' he => ?_
    obtain ⟨s, h', v, ρ', F', k1, rfl, k3, k4, k5⟩ := he
    obtain ⟨s2, h2, ρ2, F2, q1, q2, q3, q4⟩ := foldsL_ok (fun n hn => by
      obtain ⟨r, hr⟩ := Option.isSome_iff_exists.1 hn
      obtain ⟨o, ho⟩ := @HeapOk.look_some E Empty _ _ _ _ _ H _ _ hr
      exact look_namesH (A := Empty) ho) k4 k3 k5 k1
    exact ⟨s2, h2, v, ρ2, F2, q1, rfl, q2, q3, q4⟩⟩
theorem ofB_ne0 (b : Bool) : (ofB b != 0) = b := by cases b <;> rfl
theorem putsetF (c v : Int) (R : List Int) : writeL R (if inF c R then c else R.length).toNat [v] = setF c v R := by
  unfold setF
  simp only [writeL]
  by_cases h : inF c R
  · rw [if_pos h, if_pos h]
  · rw [if_neg h, if_neg h]
    exact List.set_eq_of_length_le (by simp)
theorem putset [Env] (c v R : IE) : (IE.putL R (.fn 13 (.consL c R)) (.consL v .nilL)).lst = setF c.val v.val R.lst := putsetF _ _ _
theorem split3 [Env] (a b : IE) : (IE.fnL 3 (.consL (.len a) (.catL a b))).lst = splitF true a.lst b.lst := by
  show splitF true ((a.lst ++ b.lst).take (a.lst.length : Int).toNat) ((a.lst ++ b.lst).drop (a.lst.length : Int).toNat) = _
  simp
theorem split4 [Env] (a b : IE) : (IE.fnL 4 (.consL (.len a) (.catL a b))).lst = splitF false a.lst b.lst := by
  show splitF false ((a.lst ++ b.lst).take (a.lst.length : Int).toNat) ((a.lst ++ b.lst).drop (a.lst.length : Int).toNat) = _
  simp
theorem tmod3 (n : Nat) : Int.tmod (n : Int) 3 = ((n % 3 : Nat) : Int) := by
  rw [Int.tmod_eq_emod_of_nonneg (by omega)]; omega
theorem drop3_nil {l : List Int} (h : (l.length : Int) % 3 = 0) : ((l.drop 3).length : Int) / 3 = 0 ↔ l.drop 3 = [] := by
  constructor
  · intro h0; refine List.eq_nil_of_length_eq_zero ?_; rw [List.length_drop] at h0 ⊢; omega
  · intro h0; rw [h0]; rfl
theorem sI (m i : Nat) {X : List Int} {w : Wd} {e : Int} (hs : stepM m (decW X) = w) (he : e = outI w i) (hi : i < 100 := by decide) (hm : m < 30 := by decide) : e = funs (1000 + 100 * m + i) X := by
  rw [funs_step (by omega) (by omega), show (1000 + 100 * m + i - 1000) / 100 = m by omega, show (1000 + 100 * m + i) % 100 = i by omega, hs]; exact he
theorem out6 (w : Wd) : (outI w 6 != 0) = w.B.done := by
  show ((if w.B.done then 1 else 0 : Int) != 0) = w.B.done
  cases w.B.done <;> rfl
theorem sD (m : Nat) {X : List Int} {w : Wd} {e : Bool} (hs : stepM m (decW X) = w) (he : e = w.B.done) (hm : m < 30 := by decide) : e = (funs (1000 + 100 * m + 6) X != 0) := by
  rw [← sI m 6 hs rfl (by decide) hm, out6]; exact he
theorem sL (m i : Nat) {X : List Int} {w : Wd} {e : List Int} (hs : stepM m (decW X) = w) (he : e = outL m w i) (hi : i < 100 := by decide) (hm : m < 30 := by decide) : e = funsL (1000 + 100 * m + i) X := by
  rw [funsL_step (by omega) (by omega), show (1000 + 100 * m + i - 1000) / 100 = m by omega, show (1000 + 100 * m + i) % 100 = i by omega, hs]; exact he
theorem setF_len (c v : Int) (r : List Int) : (setF c v r).length = r.length := by unfold setF; split <;> simp
theorem writeL_whole (l s : List Int) (h : s.length = l.length) : writeL l (0 : Int).toNat s = s := by
  let E : Env := ⟨fun _ => 0, fun _ => [], fun _ _ _ => 0⟩
  have h2 := @writeL_all E s l [] h
  simpa using h2
theorem sP (m i : Nat) {X R : List Int} {w : Wd} {e : List Int} (hs : stepM m (decW X) = w) (he : e = outL m w i) (hl : (outL m w i).length = R.length) (hi : i < 100 := by decide) (hm : m < 30 := by decide) : e = writeL R (0 : Int).toNat (funsL (1000 + 100 * m + i) X) := by
  rw [← sL m i hs rfl hi hm, writeL_whole _ _ hl]; exact he
theorem step_all (m : Nat) {X R : List Int} {w w' : Wd} (hX : decW X = w) (hw : stepM m w = w') (hC : w'.C = w.C) (ht : w'.G.thread = w.G.thread) (hl : w'.B.row.length = R.length) (hm : m < 30 := by decide) :
    (⟨w.C, ⟨funs (1000 + 100 * m + 7) X, funs (1000 + 100 * m + 8) X, w.G.thread⟩, ⟨funs (1000 + 100 * m + 0) X, funs (1000 + 100 * m + 1) X, funs (1000 + 100 * m + 2) X, funs (1000 + 100 * m + 3) X, funs (1000 + 100 * m + 4) X, funs (1000 + 100 * m + 5) X, ofB (funs (1000 + 100 * m + 6) X != 0) != 0,
      writeL R (0 : Int).toNat (funsL (1000 + 100 * m + 1) X)⟩, funsL (1000 + 100 * m + 0) X⟩ : Wd) = w' := by
  have hs : stepM m (decW X) = w' := by rw [hX]; exact hw
  rw [← sI m 7 hs rfl (by decide) hm, ← sI m 8 hs rfl (by decide) hm, ← sI m 0 hs rfl (by decide) hm, ← sI m 1 hs rfl (by decide) hm, ← sI m 2 hs rfl (by decide) hm, ← sI m 3 hs rfl (by decide) hm, ← sI m 4 hs rfl (by decide) hm, ← sI m 5 hs rfl (by decide) hm, ← sI m 6 hs rfl (by decide) hm,
    ← sL m 1 hs rfl (by decide) hm, ← sL m 0 hs rfl (by decide) hm, ofB_ne0, out6, ← hC, ← ht, show outL m w' 1 = w'.B.row from rfl, writeL_whole _ _ hl]
  obtain ⟨C, G, B, F⟩ := w'
  rfl
theorem funsL_7901 (l : List Int) : funsL 7901 l = entF 0 l := by
  rw [funsL_list (by decide)]
  have h : listM 9 1 l = entF 0 l := by
    simp only [listM]
  exact h
theorem funsL_7900 (t s c h k e l n : Int) : funsL 7900 [t, s, c, h, k, e, l, n] = slotsF ⟨t, s, c, h, k, e, l⟩ n.toNat := by
  rw [funsL_list (by decide)]
  have h : listM 9 0 [t, s, c, h, k, e, l, n] = slotsF ⟨t, s, c, h, k, e, l⟩ n.toNat := by
    simp only [listM]
  exact h
theorem funs_79 (i : Nat) (t s c h k e l n : Int) (hi : i < 90 := by decide) : funs (7900 + i) [t, s, c, h, k, e, l, n] = (slotsB ⟨t, s, c, h, k, e, l⟩ n.toNat).num i := by
  rw [funs_mch (by omega)]
  unfold mchI
  rw [if_neg (by omega), if_neg (by omega), if_pos (by omega), show (7900 + i) % 100 = i by omega]
theorem i64_small {x : Int} (h0 : -9223372036854775808 ≤ x) (h1 : x ≤ 9223372036854775807) : IntKind.i64.wrap x = x := wrap64_small h0 h1
noncomputable def baseNn [Env] : CallF Empty := callF Try.prog (withS sums7 sums3) (extraN Try.prog) noL 100 50
theorem baseNn_ok [Env] : CallOk Try.prog baseNn := callF_ok ⟨mixed_ok, (withS_ok sums7_ok sums3_ok).2, names_ok, (withS_ok sums7_ok sums3_ok).1, extraN_ok _, fun _ _ _ _ _ _ _ _ _ _ _ _ _ _ _ _ h => (by cases h)⟩ 100 50
namespace Cn
open Bk
def ps : List SV := [.w (.one (.b (.ref 206)))]
def L : IE := .latom 1100
def short (sz : Nat) : BE := .cmp .leq (.len L) (.lit (if Nat.beq sz 3 then 24000000000000 else 1000000))
def told (sz : Nat) : Tree (SV × Heap Empty) := .req (short sz) (.leaf (.w (.one (.b (.ref 9000))), [(9000, .mach (sz + 1) L), (206, .mach (sz + 1) L)]))
def u1 : Tree (SV × Heap Empty) := .leaf (.w (.one (.b (.ref 9000))), [(9000, .mach 1 .nilL), (206, .mach 1 .nilL)])
def u2 (b : BE) (sz : Nat) : Tree (SV × Heap Empty) := .req b (.leaf (.w (.one (.b (.ref 9000))), [(9000, .mach (sz + 1) L), (206, .mach (sz + 1) L)]))
def b3 : BE := .cmp .leq (.at_ (.lit 0) (.fn 50 (.consL (.len L) (.consL (.lit 3) .nilL))) 1 0) (.lit 8796093022208)
def b1 : BE := .cmp .leq (.at_ (.lit 0) (.len L) 1 0) (.lit 8796093022208)
theorem of_runs {g sz : Nat} {b : BE} (hsz : 0 < sz ∧ sz < 100) (he : enters Try.prog g) (e1 : ∀ [Env], (baseNn g ps [] [(206, .mach 1 .nilL)] 1).bind (foldsL [206] [.own, .drop]) = u1)
    (e2 : ∀ [Env], (baseNn g ps [] [(206, .mach 0 (.consL (.lit (900 + sz : Nat)) L))] 1).bind (foldsL [206] [.own, .drop]) = u2 b sz) (hb : ∀ E : Env, @BE.val E (short sz) = true → @BE.val E b = true)
    (h3 : (eqvSO ⟨[], [(.nilL, L)], []⟩ (.mach 1 .nilL) (.mach (sz + 1) L)) = true) : Summ.ok Try.prog ⟨g, ps, [(206, .mach (sz + 1) L)], told sz⟩ := by
  refine Summ.grow hsz (Summ.foldsC (c := @baseNn) @baseNn_ok he [.own, .drop] @e1) (Summ.foldsC (c := @baseNn) @baseNn_ok he [.own, .drop] @e2) (fun E Q hn hQ => ?_) fun E Q hQ => ?_
  · refine ⟨_, hQ.2, Eqv.of (q := ⟨[], [(.nilL, L)], []⟩) ⟨nn, cc hn.symm nn, nn⟩ ?_⟩
    simp only [eqvSV, eqvSW, eqvSC, eqvSB, eqvH, h3, Nat.beq_refl, Bool.and_self]
  · refine ⟨hb E hQ.1, _, hQ.2, fun ρ v h => h, fun ρ F w h => h⟩
end Cn
theorem c1_cloneE [Env] : (baseNn 89 Cn.ps [] [(206, .mach 1 .nilL)] 1).bind (foldsL [206] [.own, .drop]) = Cn.u1 := by kernel_rfl
theorem c2_cloneE [Env] : (baseNn 89 Cn.ps [] [(206, .mach 0 (.consL (.lit (900 + 3 : Nat)) Cn.L))] 1).bind (foldsL [206] [.own, .drop]) = Cn.u2 Cn.b3 3 := by kernel_rfl
def s_cloneE : Summ := ⟨89, Cn.ps, [(206, .mach 4 Cn.L)], Cn.told 3⟩
theorem ok_cloneE : s_cloneE.ok Try.prog := Cn.of_runs (sz := 3) (b := Cn.b3) (by omega) (Bk.enters_of Try.func89 (by kernel_rfl)) @c1_cloneE @c2_cloneE (fun E h => decide_eq_true (by
  have h : ((E.l 1100).length : Int) ≤ 24000000000000 := of_decide_eq_true h
  show ((((0 : Int).toNat + (((E.l 1100).length : Int) / 3).toNat * 1 + 0 : Nat)) : Int) ≤ 8796093022208
  omega)) rfl
theorem c1_cloneU [Env] : (baseNn 92 Cn.ps [] [(206, .mach 1 .nilL)] 1).bind (foldsL [206] [.own, .drop]) = Cn.u1 := by kernel_rfl
theorem c2_cloneU [Env] : (baseNn 92 Cn.ps [] [(206, .mach 0 (.consL (.lit (900 + 1 : Nat)) Cn.L))] 1).bind (foldsL [206] [.own, .drop]) = Cn.u2 Cn.b1 1 := by kernel_rfl
def s_cloneU : Summ := ⟨92, Cn.ps, [(206, .mach 2 Cn.L)], Cn.told 1⟩
theorem ok_cloneU : s_cloneU.ok Try.prog := Cn.of_runs (sz := 1) (b := Cn.b1) (by omega) (Bk.enters_of Try.func92 (by kernel_rfl)) @c1_cloneU @c2_cloneU (fun E h => decide_eq_true (by
  have h : ((E.l 1100).length : Int) ≤ 1000000 := of_decide_eq_true h
  show ((((0 : Int).toNat + ((E.l 1100).length : Int).toNat * 1 + 0 : Nat)) : Int) ≤ 8796093022208
  omega)) rfl
def sumsC1 : List Summ := sums7
theorem sumsC1_ok : ∀ σ ∈ sumsC1, σ.ok Try.prog := sums7_ok
def sumsC2 : List Summ := s_cloneE :: sumsC1
theorem sumsC2_ok : ∀ σ ∈ sumsC2, σ.ok Try.prog := Bk.cc ok_cloneE sumsC1_ok
def sumsC3 : List Summ := s_cloneU :: sumsC2
theorem sumsC3_ok : ∀ σ ∈ sumsC3, σ.ok Try.prog := Bk.cc ok_cloneU sumsC2_ok
noncomputable def baseC [Env] : CallF Empty := callF Try.prog (withS sumsC3 sums3) (extraG Try.prog) noL 100 50
theorem baseC_ok [Env] : CallOk Try.prog baseC := callF_ok ⟨mixed_ok, (withS_ok sumsC3_ok sums3_ok).2, names_ok, (withS_ok sumsC3_ok sums3_ok).1, extraG_ok _, fun _ _ _ _ _ _ _ _ _ _ _ _ _ _ _ _ h => (by cases h)⟩ 100 50
end Go.Proofs.Ytafemlljemhkhaa.Sx
