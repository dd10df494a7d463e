import Derived.Test.YtafemlljemhkhaaPSxSpr
import Derived.Test.YtafemlljemhkhaaPSxSl
import Derived.Test.YtafemlljemhkhaaPSxCl2
import Derived.Test.YtafemlljemhkhaaPSxYy
namespace Go.Proofs.Ytafemlljemhkhaa.Sx
set_option linter.unusedVariables false
set_option linter.unusedSimpArgs false
def Cfg.saw (C : Cfg) (th : Int) (r : List Int) : List Int := C.seen (C.clr th C.s.toNat r) (C.t * C.s).toNat
def Cfg.kept (C : Cfg) (th : Int) (r l : List Int) : List Int := splitF true (C.saw th r) l
def Cfg.gone (C : Cfg) (th : Int) (r l : List Int) : List Int := splitF false (C.saw th r) l
def Cfg.freed (C : Cfg) (l r : List Int) : List Int := freeF C.t C.s C.c C.h C.k C.e C.l l r
theorem Cfg.ts (C : Cfg) (hr : C.right) : 1 ≤ C.t * C.s ∧ C.t * C.s ≤ 64 := by
  have ht : 1 ≤ C.t ∧ C.t ≤ 8 := ⟨hr.1, hr.2.1⟩
  have hs : 1 ≤ C.s ∧ C.s ≤ 8 := ⟨hr.2.2.1, hr.2.2.2.1⟩
  have h1 := Int.mul_le_mul ht.2 hs.2 (by omega) (by omega : (0 : Int) ≤ 8)
  have h2 := Int.mul_le_mul ht.1 hs.1 (by omega) (by omega : (0 : Int) ≤ C.t)
  omega
theorem swp_few {C : Cfg} (hr : C.right) {G : Grd} {B : Bnk} {l : List Int} (hf : (l.length : Int) / 3 < C.k) {m : Nat} (hm : 300 ≤ m) :
    ∃ B' : Bnk, runM 2 m ⟨C, G, B, (⟨0, 0, l, [], []⟩ : Swp).enc⟩ = (C.s, ⟨C, ⟨0, 0, G.thread⟩, B', (⟨3, 0, l, [], []⟩ : Swp).enc⟩) ∧ B'.row = C.clr G.thread C.s.toNat B.row := by
  have hs : 1 ≤ C.s ∧ C.s ≤ 8 := ⟨hr.2.2.1, hr.2.2.2.1⟩
  obtain ⟨k, hk⟩ : ∃ k : Nat, ((0 + (k + 1) : Nat) : Int) = C.s := ⟨C.s.toNat - 1, by omega⟩
  obtain ⟨m1, rfl⟩ : ∃ m1, m = k + 1 + m1 := ⟨m - (k + 1), by omega⟩
  obtain ⟨B', h1, h2⟩ := ph1 hr (l := l) (r := B.row) k m1 0 G B hk rfl
  refine ⟨B', ?_, h2⟩
  rw [if_neg (show ¬ (l.length : Int) / 3 ≥ C.k by omega), runM_end (w := ⟨C, ⟨0, 0, G.thread⟩, B', (⟨3, 0, l, [], []⟩ : Swp).enc⟩) rfl] at h1
  refine h1.trans (congrArg (fun x => (x, _)) ?_)
  show (0 : Int) + ((k + 1 : Nat) : Int) = C.s
  omega
theorem swp_many {C : Cfg} (hr : C.right) {G : Grd} {B : Bnk} {l : List Int} (hf : C.k ≤ (l.length : Int) / 3) (hl : l.length ≤ 210) {m : Nat} (hm : 300 ≤ m) :
    ∃ B' : Bnk, runM 2 m ⟨C, G, B, (⟨0, 0, l, [], []⟩ : Swp).enc⟩ = (C.s + C.t * C.s + ((C.gone G.thread B.row l).length : Int) / 3, ⟨C, ⟨0, 0, G.thread⟩, B', (⟨3, 0, C.kept G.thread B.row l, C.saw G.thread B.row, []⟩ : Swp).enc⟩) ∧ B'.row = C.freed (C.gone G.thread B.row l) (C.clr G.thread C.s.toNat B.row) := by
  have hs : 1 ≤ C.s ∧ C.s ≤ 8 := ⟨hr.2.2.1, hr.2.2.2.1⟩
  have hts := C.ts hr
  obtain ⟨k, hk⟩ : ∃ k : Nat, ((0 + (k + 1) : Nat) : Int) = C.s := ⟨C.s.toNat - 1, by omega⟩
  obtain ⟨k2, hk2⟩ : ∃ k2 : Nat, ((0 + (k2 + 1) : Nat) : Int) = C.t * C.s := ⟨(C.t * C.s).toNat - 1, by omega⟩
  obtain ⟨m1, rfl⟩ : ∃ m1, m = k + 1 + (k2 + 1 + m1) := ⟨m - (k + 1) - (k2 + 1), by omega⟩
  have hm1 : 200 ≤ m1 := by omega
  obtain ⟨B1, h1, r1⟩ := ph1 hr (l := l) (r := B.row) k (k2 + 1 + m1) 0 G B hk rfl
  rw [if_pos (show (l.length : Int) / 3 ≥ C.k by omega)] at h1
  obtain ⟨B2, h2, r2⟩ := ph2 hr (G := ⟨0, 0, G.thread⟩) (l := l) (r := C.clr G.thread C.s.toNat B.row) k2 m1 0 B1 hk2 r1
  have e2 : C.seen (C.clr G.thread C.s.toNat B.row) (0 + (k2 + 1)) = C.saw G.thread B.row := by
    unfold Cfg.saw; congr 1; omega
  rw [e2] at h2
  have h12 := h1.trans (congrArg (fun x : Int × Wd => (x.1 + ((k + 1 : Nat) : Int), x.2)) h2)
  have hsp : (⟨1, 0, l, C.saw G.thread B.row, []⟩ : Swp).split = ⟨if C.gone G.thread B.row l = [] then 3 else 2, 0, C.kept G.thread B.row l, C.saw G.thread B.row, C.gone G.thread B.row l⟩ := rfl
  rw [hsp] at h12
  have hb := splitF_both (C.saw G.thread B.row) l
  have hM := splM3 false (C.saw G.thread B.row) l
  by_cases hg : C.gone G.thread B.row l = []
  · rw [if_pos hg, hg, runM_end (w := ⟨C, ⟨0, 0, G.thread⟩, B2, (⟨3, 0, C.kept G.thread B.row l, C.saw G.thread B.row, []⟩ : Swp).enc⟩) rfl] at h12
    refine ⟨B2, ?_, ?_⟩
    · refine h12.trans ?_
      rw [hg]
      refine congrArg (fun x => (x, _)) ?_
      show (0 : Int) + ((k2 + 1 : Nat) : Int) + ((k + 1 : Nat) : Int) = C.s + C.t * C.s + (0 : Int) / 3
      omega
    · rw [r2, hg]; rfl
  · rw [if_neg hg] at h12
    obtain ⟨q, hq⟩ : ∃ q, (C.gone G.thread B.row l).length = 3 * (q + 1) := by
      have h0 : (C.gone G.thread B.row l).length ≠ 0 := fun e => hg (List.eq_nil_of_length_eq_zero e)
      refine ⟨(C.gone G.thread B.row l).length / 3 - 1, ?_⟩
      have : (C.gone G.thread B.row l).length % 3 = 0 := hM
      omega
    have hle : (C.gone G.thread B.row l).length ≤ l.length := by
      have : (C.kept G.thread B.row l).length + (C.gone G.thread B.row l).length ≤ l.length := hb
      omega
    obtain ⟨m3, rfl⟩ : ∃ m3, m1 = q + 1 + m3 := ⟨m1 - (q + 1), by omega⟩
    obtain ⟨B3, h3, r3⟩ := ph3 (C := C) (G := ⟨0, 0, G.thread⟩) (l := C.kept G.thread B.row l) (seen := C.saw G.thread B.row) q m3 B2 (C.gone G.thread B.row l) hq
    refine ⟨B3, ?_, by rw [r3, r2]; rfl⟩
    rw [h3] at h12
    refine h12.trans (congrArg (fun x => (x, _)) ?_)
    show ((q + 1 : Nat) : Int) + ((k2 + 1 : Nat) : Int) + ((k + 1 : Nat) : Int) = C.s + C.t * C.s + ((C.gone G.thread B.row l).length : Int) / 3
    omega
theorem setF_upd (c v : Int) (r : List Int) : setF c v r = updF c v r := (updF_eq c v r).symm
theorem hadF_setF (c d v : Int) (r : List Int) : hadF c (setF d v r) = if inF d r ∧ c = d then v else hadF c r := by rw [setF_upd, hadF_updF]
theorem inF_setF (c d v : Int) (r : List Int) : inF c (setF d v r) ↔ inF c r := by rw [setF_upd]; exact inF_updF c d v r
theorem clr_len (C : Cfg) (th : Int) (r : List Int) : ∀ n, (C.clr th n r).length = r.length
  | 0 => rfl
  | n + 1 => (setF_length _ _ _).trans (clr_len C th r n)
theorem clr_other {C : Cfg} {th x : Int} {r : List Int} : ∀ {n : Nat}, (∀ j : Nat, j < n → x ≠ C.res th j) → hadF x (C.clr th n r) = hadF x r
  | 0, _ => rfl
  | n + 1, h => by
    show hadF x (setF (C.res th n) 0 (C.clr th n r)) = _
    rw [hadF_setF, if_neg (fun hc => h n (Nat.lt_succ_self n) hc.2)]
    exact clr_other fun j hj => h j (by omega)
theorem free_len (C : Cfg) : ∀ (l r : List Int), (C.freed l r).length = r.length
  | n :: _ :: _ :: l, r => (free_len C l _).trans (setF_length _ _ _)
  | [], r => rfl
  | [_], r => rfl
  | [_, _], r => rfl
theorem ent_len (E : Go.Proofs.Ytafemlljemhkhaa.Sx.Env) : ∀ n, (entF 0 (SlS.tl E n)).length = 3 * n := fun n => by
  induction n with
  | zero => rfl
  | succ n ih => rw [SlS.tl_succ, SlS.entF_one _ _ n _ _ _ (SlS.tl_len E n), List.length_append, ih]; rfl
end Go.Proofs.Ytafemlljemhkhaa.Sx
namespace Go.Proofs.Ytafemlljemhkhaa.Sx.St
open Go Go.Proofs.Ytafemlljemhkhaa.Sx
set_option linter.unusedVariables false
set_option linter.unusedSimpArgs false
def Cl (E : Env) : Cfg := ⟨E.i 0, E.i 1, E.i 2, E.i 3, E.i 4, E.i 5, E.i 6⟩
def LL : IE := .fnL 7901 (.tabL 0 (.atom 8) 3)
theorem LL_eq (E : Env) : @IE.lst E LL = entF 0 (SlS.tl E (E.i 8).toNat) := funsL_7901 _
theorem LL_len (E : Env) (h : 0 ≤ E.i 8) : ((@IE.lst E LL).length : Int) = 3 * E.i 8 := by rw [LL_eq, ent_len]; omega
theorem decY (E : Env) (t s c h k e l mn lt th ct kd ce vi ol ne dn F R : IE) : decW (@IE.lst E (.consL t (.consL s (.consL c (.consL h (.consL k (.consL e (.consL l (.consL mn (.consL lt (.consL th (.consL ct (.consL kd (.consL ce (.consL vi (.consL ol (.consL ne (.consL dn (.consL (.len F) (.catL F R)))))))))))))))))))) =
    ⟨⟨@IE.val E t, @IE.val E s, @IE.val E c, @IE.val E h, @IE.val E k, @IE.val E e, @IE.val E l⟩, ⟨@IE.val E mn, @IE.val E lt, @IE.val E th⟩, ⟨@IE.val E ct, @IE.val E kd, @IE.val E ce, @IE.val E vi, @IE.val E ol, @IE.val E ne, @IE.val E dn != 0, @IE.lst E R⟩, @IE.lst E F⟩ := decW_eq _ _ _ _ _ _ _ _ _ _ _ _ _ _ _ _ _ _ _
theorem outL_of {E : Env} {q Y : IE} {w : Wd} (h : decW (@IE.lst E Y) = w) (i : Nat) (hi : i < 99) : @IE.lst E (.fnL (4200 + i) (.consL q Y)) = outL 2 (runM 2 (@IE.val E q).toNat w).2 i := by
  show funsL (4200 + i) (@IE.val E q :: @IE.lst E Y) = _
  rw [funsL_mch (by omega)]
  unfold mchL
  rw [if_neg (by omega), if_pos (by omega), show (4200 + i) % 100 = i by omega, show (4200 + i - 4000) / 100 = 2 by omega, ← h]
structure Fac (E : Env) : Prop where
  right : (Cl E).right
  ge : 0 ≤ E.i 8
  le : E.i 8 ≤ E.i 2
  le64 : E.i 2 ≤ 64
  words : ∀ i j, j < 3 → 0 ≤ E.t 0 i j ∧ E.t 0 i j < 18446744073709551616
theorem Fac.len {E : Env} (h : Fac E) : ((@IE.lst E LL).length : Int) = 3 * E.i 8 := LL_len E h.ge
theorem Fac.of {E : Env} {e : BE} (he : e = .and (.cmp .neq (.fn 1 (.consL (.atom 0) (.consL (.atom 1) (.consL (.atom 2) (.consL (.atom 3) (.consL (.atom 4) (.consL (.atom 5) (.consL (.atom 6) .nilL)))))))) (.lit 0)) (.cmp .leq (.atom 8) (.atom 2))) (h : @BE.val E e = true) (h8 : 0 ≤ E.i 8) (ht : TabR [(0, 0, 0, 18446744073709551615), (0, 1, 0, 18446744073709551615), (0, 2, 0, 18446744073709551615)] E) : Fac E := by
  subst he
  have h : (((if rightP (E.i 0) (E.i 1) (E.i 2) (E.i 3) (E.i 4) (E.i 5) (E.i 6) then 1 else 0 : Int) != 0) && decide (E.i 8 ≤ E.i 2)) = true := h
  rw [Bool.and_eq_true, decide_eq_true_eq] at h
  have hr : (Cl E).right := by
    by_cases hr : rightP (E.i 0) (E.i 1) (E.i 2) (E.i 3) (E.i 4) (E.i 5) (E.i 6)
    · exact hr
    · rw [if_neg hr] at h; exact absurd h.1 (by decide)
  refine ⟨hr, h8, h.2, hr.2.2.2.2.2.1, fun i j hj => ?_⟩
  have t0 := ht _ (List.mem_cons_self ..) i
  have t1 := ht _ (List.mem_cons_of_mem _ (List.mem_cons_self ..)) i
  have t2 := ht _ (List.mem_cons_of_mem _ (List.mem_cons_of_mem _ (List.mem_cons_self ..))) i
  simp only at t0 t1 t2
  match j, hj with
  | 0, _ => omega
  | 1, _ => omega
  | 2, _ => omega
end Go.Proofs.Ytafemlljemhkhaa.Sx.St
