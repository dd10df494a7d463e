/-
  PURE FUNCTIONS OF WORDS: index, plain.
-/
import Derived.Test.YtafemlljemhkhaaSxU
import Derived.Test.YtafemlljemhkhaaSxV
namespace Go.Proofs.Ytafemlljemhkhaa.Sx
open Go
set_option linter.unusedSectionVars false
set_option linter.unusedVariables false
set_option linter.unusedSimpArgs false
set_option maxRecDepth 100000

theorem and_mask (x : Int) : ((BitVec.ofInt 64 x &&& BitVec.ofInt 64 4294967295).toNat : Int) = x % 4294967296 := by
  have h1 : (BitVec.ofInt 64 4294967295).toNat = 2 ^ 32 - 1 := by rfl
  rw [BitVec.toNat_and, h1, Nat.and_two_pow_sub_one_eq_mod, BitVec.toNat_ofInt]
  omega
def wordPre (es : List IE) : List BE := match es with
  | [a] => [.cmp .geq a (.lit 0), .cmp .lss a (.lit 18446744073709551616)]
  | _ => []
theorem wordPre_same (E E' : Env) (es es' : List IE) (h : es.map (@IE.val E) = es'.map (@IE.val E')) (hp : ∀ p ∈ wordPre es, @BE.val E p = true) : ∀ p ∈ wordPre es', @BE.val E' p = true := by
  match es, es', h with
  | [], [], _ => intro p hq; cases hq
  | [a], [b], h =>
    simp only [List.map_cons, List.map_nil, List.cons.injEq, and_true] at h
    intro p hq
    simp only [wordPre, List.mem_cons, List.not_mem_nil, or_false] at hq
    have h1 := hp _ (by simp only [wordPre]; exact List.mem_cons_self ..)
    have h2 := hp _ (by simp only [wordPre]; exact List.mem_cons_of_mem _ (List.mem_cons_self ..))
    simp only [BE.val, IE.val, h] at h1 h2
    rcases hq with rfl | rfl <;> simp only [BE.val, IE.val] <;> assumption
  | _ :: _ :: _, [], h => simp at h
  | _ :: _ :: _, [_], h => simp at h
  | [_], _ :: _ :: _, h => simp at h
  | _ :: _ :: _, _ :: _ :: _, h => intro p hq; cases hq
theorem wordPre_rng {l : List Int} (hl : l.length = 1) (h : ∀ (E : Env) (es : List IE), es.map IE.val = l → ∀ p ∈ wordPre es, p.val = true) : 0 ≤ l.getD 0 0 ∧ l.getD 0 0 < 18446744073709551616 := by
  have h0 := h (envOf l) [.atom 0] (by
    conv => rhs; rw [single hl]
    rfl)
  have h1 := h0 _ (by simp only [wordPre]; exact List.mem_cons_self ..)
  have h2 := h0 _ (by simp only [wordPre]; exact List.mem_cons_of_mem _ (List.mem_cons_self ..))
  simp only [BE.val, IE.val] at h1 h2
  simp only [cmpVal, decide_eq_true_eq] at h1 h2
  exact ⟨h1, h2⟩
def e101 : IE := .conv .i64 (.op .and .u64 (.op .shr .u64 (.atom 0) (.lit 0)) (.lit 4294967295))
theorem e101_val [Env] : e101.val = Env.i 0 % 4294967296 := by
  unfold e101
  simp only [IE.val, binVal]
  rw [show (min (Int.toNat 0) IntKind.u64.bits) = 0 from rfl, Int.pow_zero, Int.fdiv_one]
  rw [show IntKind.u64.bits = 64 from rfl, and_mask, wrap_u, wrap_small] <;> omega
def e49 : IE := .conv .i64 (.op .rem .u64 (.atom 0) (.lit 4294967296))
theorem e49_val [Env] (h : 0 ≤ Env.i 0) : e49.val = Env.i 0 % 4294967296 := by
  unfold e49
  simp only [IE.val, binVal]
  rw [Int.tmod_eq_emod_of_nonneg h, wrap_small] <;> omega
def e68 : IE := .op .andNot .u64 (.atom 0) (.lit 4611686018427387904)
theorem nat_andnot (n : Nat) (hn : n < 18446744073709551616) : n &&& (2 ^ 64 - 1 - 4611686018427387904) = if n / 4611686018427387904 % 2 = 1 then n - 4611686018427387904 else n := by
  have e : ∀ i, n.testBit i = true → i < 64 := fun i hi => by
    rcases Nat.lt_or_ge i 64 with h | h
    · exact h
    · rw [Nat.testBit_lt_two_pow (Nat.lt_of_lt_of_le hn (Nat.pow_le_pow_right (by omega) h : 2 ^ 64 ≤ 2 ^ i))] at hi
      cases hi
  have m : ∀ i, (2 ^ 64 - 1 - 4611686018427387904 : Nat).testBit i = decide (i < 64 ∧ i ≠ 62) := by
    intro i
    have : (2 ^ 64 - 1 - 4611686018427387904 : Nat) = (BitVec.ofNat 64 (2 ^ 64 - 1 - 4611686018427387904)).toNat := rfl
    rcases Nat.lt_or_ge i 64 with h | h
    · have : ∀ j : Fin 64, (2 ^ 64 - 1 - 4611686018427387904 : Nat).testBit j.val = decide (j.val < 64 ∧ j.val ≠ 62) := by decide
      exact this ⟨i, h⟩
    · rw [Nat.testBit_lt_two_pow (Nat.lt_of_lt_of_le (by omega) (Nat.pow_le_pow_right (by omega) h : 2 ^ 64 ≤ 2 ^ i))]
      exact (decide_eq_false (by omega)).symm
  have b62 : n.testBit 62 = decide (n / 4611686018427387904 % 2 = 1) := by
    rw [Nat.testBit_eq_decide_div_mod_eq]
  by_cases h : n / 4611686018427387904 % 2 = 1
  · rw [if_pos h]
    have hb : n.testBit 62 = true := by rw [b62]; exact decide_eq_true h
    have hx : n = (n - 4611686018427387904) + 2 ^ 62 := by
      have : 4611686018427387904 ≤ n := by omega
      omega
    have hc : (n - 4611686018427387904).testBit 62 = false := by
      rw [Nat.testBit_eq_decide_div_mod_eq]
      exact decide_eq_false (by omega)
    apply Nat.eq_of_testBit_eq
    intro i
    rw [Nat.testBit_and, m]
    by_cases hi : i = 62
    · subst hi; rw [hc]; simp
    · have hk : n.testBit i = (n - 4611686018427387904).testBit i := by
        conv => lhs; rw [hx]
        rw [Nat.add_comm]
        rcases Nat.lt_or_gt_of_ne hi with h1 | h1
        · exact Nat.testBit_two_pow_add_gt h1 _
        · have h2 : i = 63 ∨ 64 ≤ i := by omega
          rcases h2 with rfl | h2
          · rw [Nat.testBit_eq_decide_div_mod_eq, Nat.testBit_eq_decide_div_mod_eq]
            refine decide_eq_decide.2 ?_
            rw [show (2 : Nat) ^ 63 = 9223372036854775808 from rfl]
            rw [Nat.testBit_eq_decide_div_mod_eq] at hb hc
            have hb' := of_decide_eq_true hb
            have hc' := of_decide_eq_false hc
            rw [show (2 : Nat) ^ 62 = 4611686018427387904 from rfl] at hb' hc'
            constructor <;> intro h3 <;> omega
          · have hp : (18446744073709551616 : Nat) ≤ 2 ^ i := (Nat.pow_le_pow_right (by omega) h2 : 2 ^ 64 ≤ 2 ^ i)
            rw [Nat.testBit_lt_two_pow (by omega), Nat.testBit_lt_two_pow (by omega)]
      rw [hk]
      by_cases h64 : i < 64
      · rw [decide_eq_true ⟨h64, hi⟩, Bool.and_true]
      · have : (n - 4611686018427387904).testBit i = false := by
          rw [← hk]
          cases hq : n.testBit i
          · rfl
          · exact absurd (e i hq) h64
        rw [this]; rfl
  · rw [if_neg h]
    have hb : n.testBit 62 = false := by rw [b62]; exact decide_eq_false h
    apply Nat.eq_of_testBit_eq
    intro i
    rw [Nat.testBit_and, m]
    cases hq : n.testBit i
    · rfl
    · have h1 := e i hq
      have h2 : i ≠ 62 := fun e => by subst e; rw [hb] at hq; cases hq
      rw [decide_eq_true ⟨h1, h2⟩]; rfl
theorem e68_val [Env] (h0 : 0 ≤ Env.i 0) (h1 : Env.i 0 < 18446744073709551616) : e68.val = if Env.i 0 / 4611686018427387904 % 2 = 1 then Env.i 0 - 4611686018427387904 else Env.i 0 := by
  unfold e68
  simp only [IE.val, binVal]
  rw [show IntKind.u64.bits = 64 from rfl, BitVec.toNat_and]
  rw [show (~~~BitVec.ofInt 64 4611686018427387904).toNat = 2 ^ 64 - 1 - 4611686018427387904 from rfl]
  obtain ⟨n, hn⟩ : ∃ n : Nat, Env.i 0 = n := ⟨(Env.i 0).toNat, by omega⟩
  rw [hn] at h1 ⊢
  have h2 : (BitVec.ofInt 64 (n : Int)).toNat = n := by rw [BitVec.toNat_ofInt]; omega
  rw [h2, nat_andnot n (by omega), wrap_u]
  split <;> split <;> omega
def e33 : IE := .ite (.cmpI .eql (.op .rem .u64 (.op .quo .u64 (.atom 0) (.lit 4611686018427387904)) (.lit 2)) (.lit 1)) (.op .sub .u64 (.atom 0) (.lit 4611686018427387904)) (.atom 0)
theorem e33_val [Env] (h0 : 0 ≤ Env.i 0) (h1 : Env.i 0 < 18446744073709551616) : e33.val = if Env.i 0 / 4611686018427387904 % 2 = 1 then Env.i 0 - 4611686018427387904 else Env.i 0 := by
  unfold e33
  simp only [IE.val, binVal]
  simp only [cmpVal, iteI_ofB, beq_iff_eq]
  rw [Int.tdiv_eq_ediv_of_nonneg h0, wrap_u, wrap_u]
  rw [Int.emod_eq_of_lt (by omega) (by omega : Env.i 0 / 4611686018427387904 < 18446744073709551616), Int.tmod_eq_emod_of_nonneg (by omega)]
  split
  · rw [Int.emod_eq_of_lt] <;> omega
  · rfl

theorem enters101 : enters Try.prog 21 := ⟨Try.f21, Try.func21, by kernel_rfl, by kernel_rfl⟩
theorem eval101 [Env] : base 21 [.w (.one (au 0))] [] [] 1 = .leaf (resI .i64 e101, []) := by kernel_rfl
theorem pure101 : PureOk Try.prog 21 [.w (.one (au 0))] 1 (fun _ => []) (fun a => resI .i64 (.fn 5 a)) :=
  PureOk.of (c := @base) (r0 := resI .i64 e101) @base_ok @eval101 enters101 (fun _ _ _ _ _ _ p hp => by cases hp) fun l hl hp E a hal ρ ρ' v hv => by
    have h1 : v = .int .i64 (@IE.val (envOf l) e101) := hv
    rw [@e101_val (envOf l)] at h1
    show v = .int .i64 (IE.val (.fn 5 a))
    rw [h1, IE.val, hal]
    conv => rhs; rw [single hl]
    rfl

theorem enters49 : enters Try.prog 62 := ⟨Try.f62, Try.func62, by kernel_rfl, by kernel_rfl⟩
theorem eval49 [Env] : base 62 [.w (.one (au 0))] [] [] 1 = .leaf (resI .i64 e49, []) := by kernel_rfl
theorem pure49 : PureOk Try.prog 62 [.w (.one (au 0))] 1 wordPre (fun a => resI .i64 (.fn 5 a)) :=
  PureOk.of (c := @base) (r0 := resI .i64 e49) @base_ok @eval49 enters49 wordPre_same fun l hl hp E a hal ρ ρ' v hv => by
    have h1 : v = .int .i64 (@IE.val (envOf l) e49) := hv
    obtain ⟨r0, r1⟩ := wordPre_rng hl hp
    rw [@e49_val (envOf l) r0] at h1
    show v = .int .i64 (IE.val (.fn 5 a))
    rw [h1, IE.val, hal]
    conv => rhs; rw [single hl]
    rfl



/-- The list of them. -/
noncomputable def pu0 : List PEntry := []
theorem pu0_ok : ∀ e ∈ pu0, e.ok Try.prog := fun e h => by cases h
theorem pu_cons {e : PEntry} {l : List PEntry} (he : e.ok Try.prog) (hl : ∀ x ∈ l, x.ok Try.prog) : ∀ x ∈ e :: l, x.ok Try.prog := List.forall_mem_cons.2 ⟨he, hl⟩
noncomputable def pu1 : List PEntry := ⟨71, cfg2A, 9, fun _ => [], fun a => resI .i64 (.fn 4 a)⟩ :: pu0
theorem pu1_ok : ∀ e ∈ pu1, e.ok Try.prog := pu_cons pure48 pu0_ok
noncomputable def pu2 : List PEntry := ⟨68, [cfgA], 7, fun _ => [], fun a => resB (.fn 1 a)⟩ :: pu1
theorem pu2_ok : ∀ e ∈ pu2, e.ok Try.prog := pu_cons pure51 pu1_ok
noncomputable def pu3 : List PEntry := ⟨63, [cfgA], 7, fun _ => [], fun a => resB (.fn 1 a)⟩ :: pu2
theorem pu3_ok : ∀ e ∈ pu3, e.ok Try.prog := pu_cons pure41 pu2_ok
noncomputable def pu4 : List PEntry := ⟨64, [cfgA], 7, fun _ => [], fun a => resI .i64 (.fn 2 a)⟩ :: pu3
theorem pu4_ok : ∀ e ∈ pu4, e.ok Try.prog := pu_cons pure44 pu3_ok
noncomputable def pu5 : List PEntry := ⟨69, [cfgA], 7, fun _ => [], fun a => resI .i64 (.fn 2 a)⟩ :: pu4
theorem pu5_ok : ∀ e ∈ pu5, e.ok Try.prog := pu_cons pure52 pu4_ok
noncomputable def pu6 : List PEntry := ⟨116, cfg2A, 9, fun _ => [], fun a => resI .i64 (.fn 4 a)⟩ :: pu5
theorem pu6_ok : ∀ e ∈ pu6, e.ok Try.prog := pu_cons pure59 pu5_ok
noncomputable def pu7 : List PEntry := ⟨91, cfg2A, 9, fun _ => [], fun a => resI .i64 (.fn 3 a)⟩ :: pu6
theorem pu7_ok : ∀ e ∈ pu7, e.ok Try.prog := pu_cons pure56 pu6_ok
noncomputable def pu8 : List PEntry := ⟨124, cfg2A, 9, fun _ => [], fun a => resI .i64 (.fn 3 a)⟩ :: pu7
theorem pu8_ok : ∀ e ∈ pu8, e.ok Try.prog := pu_cons pure62 pu7_ok
noncomputable def pu9 : List PEntry := ⟨21, [.w (.one (au 0))], 1, fun _ => [], fun a => resI .i64 (.fn 5 a)⟩ :: pu8
theorem pu9_ok : ∀ e ∈ pu9, e.ok Try.prog := pu_cons pure101 pu8_ok
noncomputable def pu10 : List PEntry := ⟨62, [.w (.one (au 0))], 1, wordPre, fun a => resI .i64 (.fn 5 a)⟩ :: pu9
theorem pu10_ok : ∀ e ∈ pu10, e.ok Try.prog := pu_cons pure49 pu9_ok
noncomputable def pu11 : List PEntry := pu10
theorem pu11_ok : ∀ e ∈ pu11, e.ok Try.prog := pu10_ok
noncomputable def pu12 : List PEntry := pu11
theorem pu12_ok : ∀ e ∈ pu12, e.ok Try.prog := pu11_ok
noncomputable def pures : List PEntry := pu12
theorem pures_ok : ∀ e ∈ pures, e.ok Try.prog := pu12_ok

end Go.Proofs.Ytafemlljemhkhaa.Sx
