/-
  The law SweepStalled, run on unknowns, from one loop's head to the next.
-/
import Derived.Test.YtafemlljemhkhaaSxAl
import Derived.Test.YtafemlljemhkhaaSxSqt
import Derived.Test.YtafemlljemhkhaaSxY6
import Derived.Test.YtafemlljemhkhaaSxCl2
import Derived.Test.YtafemlljemhkhaaSxFr
namespace Go.Proofs.Ytafemlljemhkhaa.Sx.LSweepStalled
open Go Go.Proofs.Ytafemlljemhkhaa.Sx
set_option linter.unusedSectionVars false
set_option linter.unusedVariables false
set_option linter.unusedSimpArgs false
set_option maxRecDepth 1000000

def A0 : IE := (.consL (.lit 300) (.consL (.atom 0) (.consL (.atom 1) (.consL (.atom 2) (.consL (.atom 3) (.consL (.atom 4) (.consL (.atom 5) (.consL (.atom 6) (.consL (.lit 0) (.consL (.lit 0) (.consL (.lit 0) (.consL (.op .add .i64 (.fn 7900 (.consL (.atom 0) (.consL (.atom 1) (.consL (.atom 2) (.consL (.atom 3) (.consL (.atom 4) (.consL (.atom 5) (.consL (.atom 6) (.consL (.atom 8) .nilL))))))))) (.lit 1)) (.consL (.lit 2) (.consL (.fn 3 (.consL (.atom 0) (.consL (.atom 1) (.consL (.atom 2) (.consL (.atom 3) (.consL (.atom 4) (.consL (.atom 5) (.consL (.atom 6) (.consL (.lit 1) (.consL (.lit 0) .nilL)))))))))) (.consL (.lit 0) (.consL (.fn 10 (.consL (.fn 3 (.consL (.atom 0) (.consL (.atom 1) (.consL (.atom 2) (.consL (.atom 3) (.consL (.atom 4) (.consL (.atom 5) (.consL (.atom 6) (.consL (.lit 1) (.consL (.lit 0) .nilL)))))))))) (.fnL 7900 (.consL (.atom 0) (.consL (.atom 1) (.consL (.atom 2) (.consL (.atom 3) (.consL (.atom 4) (.consL (.atom 5) (.consL (.atom 6) (.consL (.atom 8) .nilL))))))))))) (.consL (.fn 14 (.consL (.atom 9) (.consL (.fn 3 (.consL (.atom 0) (.consL (.atom 1) (.consL (.atom 2) (.consL (.atom 3) (.consL (.atom 4) (.consL (.atom 5) (.consL (.atom 6) (.consL (.lit 1) (.consL (.lit 0) .nilL)))))))))) (.fnL 7900 (.consL (.atom 0) (.consL (.atom 1) (.consL (.atom 2) (.consL (.atom 3) (.consL (.atom 4) (.consL (.atom 5) (.consL (.atom 6) (.consL (.atom 8) .nilL)))))))))))) (.consL (.cmpI .neq (.fn 12 (.consL (.fn 3 (.consL (.atom 0) (.consL (.atom 1) (.consL (.atom 2) (.consL (.atom 3) (.consL (.atom 4) (.consL (.atom 5) (.consL (.atom 6) (.consL (.lit 1) (.consL (.lit 0) .nilL)))))))))) (.fnL 7900 (.consL (.atom 0) (.consL (.atom 1) (.consL (.atom 2) (.consL (.atom 3) (.consL (.atom 4) (.consL (.atom 5) (.consL (.atom 6) (.consL (.atom 8) .nilL))))))))))) (.lit 0)) (.consL (.len (.consL (.lit 0) (.consL (.lit 0) (.consL (.len (.fnL 7901 (.tabL 0 (.atom 8) 3))) (.consL (.lit 0) (.fnL 7901 (.tabL 0 (.atom 8) 3))))))) (.catL (.consL (.lit 0) (.consL (.lit 0) (.consL (.len (.fnL 7901 (.tabL 0 (.atom 8) 3))) (.consL (.lit 0) (.fnL 7901 (.tabL 0 (.atom 8) 3)))))) (.putL (.fnL 7900 (.consL (.atom 0) (.consL (.atom 1) (.consL (.atom 2) (.consL (.atom 3) (.consL (.atom 4) (.consL (.atom 5) (.consL (.atom 6) (.consL (.atom 8) .nilL))))))))) (.fn 13 (.consL (.fn 3 (.consL (.atom 0) (.consL (.atom 1) (.consL (.atom 2) (.consL (.atom 3) (.consL (.atom 4) (.consL (.atom 5) (.consL (.atom 6) (.consL (.lit 1) (.consL (.lit 0) .nilL)))))))))) (.fnL 7900 (.consL (.atom 0) (.consL (.atom 1) (.consL (.atom 2) (.consL (.atom 3) (.consL (.atom 4) (.consL (.atom 5) (.consL (.atom 6) (.consL (.atom 8) .nilL))))))))))) (.consL (.atom 9) .nilL))))))))))))))))))))))
def pks : List PK := [cfgK, .sl [.int .u64, .int .u64, .int .u64], .one (.int .u64)]
def I0 : SS Empty := (SS.mk [.unk, .unk, (.w (.one (.b (.int .u64 (.atom 9))))), .unk, .unk, .unk, .unk, .unk, .unk, .unk, (.w (.one (.b (.ptr 17183277056 (.lit 0))))), .unk, .unk, .unk, .unk, .unk, .unk, .unk, .unk, .unk, .unk, .unk, .unk, .unk, .unk, .unk, .unk, .unk, .unk, .unk, .unk, .unk, .unk, .unk, .unk, .unk, .unk, .unk, .unk, .unk, .unk, .unk, .unk, .unk, .unk, .unk, .unk, .unk, .unk, .unk, .unk, .unk, .unk, .unk, .unk, .unk, .unk, .unk, .unk, .unk, .unk, .unk, .unk, .unk, .unk, .unk, .unk, (.w (.one (.b (.ref 17193238528)))), (.w (.one (.b (.int .i64 (.fn 50 (.consL (.len (.fnL 7200 (.fnL 4200 A0))) (.consL (.lit 3) .nilL))))))), (.w (.one (.b (.int .i64 (.atom 1000))))), .unk, .unk, .unk, .unk, .unk, .unk, .unk, .unk, .unk, .unk, .unk, .unk, .unk, .unk, .unk, .unk, .unk, .unk, .unk] [(17183277056, (.mach 0 (.consL (.lit 1003) (.fnL 4200 A0)))), (17193238528, (.mach 4 (.fnL 7200 (.fnL 4200 A0))))] 54)
def F0 : List BE := [.cmp .leq (.lit 0) (.atom 1000), (.atom 9), (.cmp .leq (.atom 4) (.fn 50 (.consL (.len (.fnL 7901 (.tabL 0 (.atom 8) 3))) (.consL (.lit 3) .nilL)))), (.cmp .leq (.lit 2) (.atom 0)), (.cmp .leq (.lit 1) (.atom 0)), (.cmp .leq (.atom 0) (.lit 8)), (.cmp .leq (.lit 1) (.atom 1)), (.cmp .leq (.atom 1) (.lit 8)), (.cmp .leq (.lit 1) (.atom 2)), (.cmp .leq (.atom 2) (.lit 64)), (.cmp .leq (.lit 1) (.atom 3)), (.cmp .leq (.atom 3) (.lit 6)), (.cmp .leq (.lit 1) (.atom 4)), (.cmp .leq (.atom 4) (.lit 64)), (.cmp .leq (.lit 1) (.atom 5)), (.cmp .leq (.atom 5) (.lit 64)), (.cmp .leq (.lit 0) (.atom 6)), (.cmp .leq (.atom 6) (.lit 1073741823)), (.cmp .neq (.fn 1 cfgL) (.lit 0)), (.cmp .leq (.atom 8) (.atom 2)), (.cmp .leq (.lit 0) (.atom 7)), (.cmp .leq (.lit 0) (.atom 8)), (.cmp .leq (.lit 0) (.atom 9)), (.cmp .leq (.atom 9) (.lit 18446744073709551615))]
def rw0 : List (IE × IE) := []
def cut0 : Cut := ⟨[0, 1, 0, 1, 1, 1, 1, 1, 1], I0, F0, [((.fn 50 (.consL (.len (.fnL 7200 (.fnL 4200 A0))) (.consL (.lit 3) .nilL))), (.atom 1000))]⟩
def cuts : List Cut := [cut0]
def ths : Ths := []
theorem ths_ok : ThsOk ths := fun E t h _ => by cases h
theorem heads : (cuts.all fun k => isLoop (subAt (rootOf Try.f10) k.p) && Nat.ble k.ms.length 9) = true := by kernel_rfl
def obS : List Ob := [(.need (.cmp .leq (.len .nilL) (.lit 1000000)) [(.not (.and (.cmp .neq (.fn 1 cfgL) (.lit 0)) (.cmp .leq (.atom 8) (.atom 2))))]), (.need (.cmp .leq (.len (.fnL 7901 (.tabL 0 (.atom 8) 3))) (.lit 1000000)) [(.and (.cmp .neq (.fn 1 cfgL) (.lit 0)) (.cmp .leq (.atom 8) (.atom 2)))]), (.need (.cmp .leq (.len (.fnL 7901 (.tabL 0 (.atom 8) 3))) (.lit 10000)) [(.cmp .neq (.atom 9) (.lit 0)), (.cmp .leq (.atom 4) (.fn 50 (.consL (.len (.fnL 7901 (.tabL 0 (.atom 8) 3))) (.consL (.lit 3) .nilL)))), (.cmp .leq (.lit 2) (.atom 0)), (.cmp .leq (.len (.fnL 7901 (.tabL 0 (.atom 8) 3))) (.lit 1000000)), (.and (.cmp .neq (.fn 1 cfgL) (.lit 0)) (.cmp .leq (.atom 8) (.atom 2)))]), (.need (.cmp .neq (.fn 7999 (.fnL 7901 (.tabL 0 (.atom 8) 3))) (.lit 0)) [(.cmp .leq (.len (.fnL 7901 (.tabL 0 (.atom 8) 3))) (.lit 10000)), (.cmp .neq (.atom 9) (.lit 0)), (.cmp .leq (.atom 4) (.fn 50 (.consL (.len (.fnL 7901 (.tabL 0 (.atom 8) 3))) (.consL (.lit 3) .nilL)))), (.cmp .leq (.lit 2) (.atom 0)), (.cmp .leq (.len (.fnL 7901 (.tabL 0 (.atom 8) 3))) (.lit 1000000)), (.and (.cmp .neq (.fn 1 cfgL) (.lit 0)) (.cmp .leq (.atom 8) (.atom 2)))]), (.need (.cmp .neq (.fn 7999 (.putL (.fnL 7900 (.consL (.atom 0) (.consL (.atom 1) (.consL (.atom 2) (.consL (.atom 3) (.consL (.atom 4) (.consL (.atom 5) (.consL (.atom 6) (.consL (.atom 8) .nilL))))))))) (.fn 13 (.consL (.fn 3 (.consL (.atom 0) (.consL (.atom 1) (.consL (.atom 2) (.consL (.atom 3) (.consL (.atom 4) (.consL (.atom 5) (.consL (.atom 6) (.consL (.lit 1) (.consL (.lit 0) .nilL)))))))))) (.fnL 7900 (.consL (.atom 0) (.consL (.atom 1) (.consL (.atom 2) (.consL (.atom 3) (.consL (.atom 4) (.consL (.atom 5) (.consL (.atom 6) (.consL (.atom 8) .nilL))))))))))) (.consL (.atom 9) .nilL))) (.lit 0)) [(.cmp .neq (.fn 7999 (.fnL 7901 (.tabL 0 (.atom 8) 3))) (.lit 0)), (.cmp .leq (.len (.fnL 7901 (.tabL 0 (.atom 8) 3))) (.lit 10000)), (.cmp .neq (.atom 9) (.lit 0)), (.cmp .leq (.atom 4) (.fn 50 (.consL (.len (.fnL 7901 (.tabL 0 (.atom 8) 3))) (.consL (.lit 3) .nilL)))), (.cmp .leq (.lit 2) (.atom 0)), (.cmp .leq (.len (.fnL 7901 (.tabL 0 (.atom 8) 3))) (.lit 1000000)), (.and (.cmp .neq (.fn 1 cfgL) (.lit 0)) (.cmp .leq (.atom 8) (.atom 2)))]), (.need (.cmp .leq (.len (.fnL 4200 A0)) (.lit 1000000)) [(.cmp .neq (.fn 7999 (.putL (.fnL 7900 (.consL (.atom 0) (.consL (.atom 1) (.consL (.atom 2) (.consL (.atom 3) (.consL (.atom 4) (.consL (.atom 5) (.consL (.atom 6) (.consL (.atom 8) .nilL))))))))) (.fn 13 (.consL (.fn 3 (.consL (.atom 0) (.consL (.atom 1) (.consL (.atom 2) (.consL (.atom 3) (.consL (.atom 4) (.consL (.atom 5) (.consL (.atom 6) (.consL (.lit 1) (.consL (.lit 0) .nilL)))))))))) (.fnL 7900 (.consL (.atom 0) (.consL (.atom 1) (.consL (.atom 2) (.consL (.atom 3) (.consL (.atom 4) (.consL (.atom 5) (.consL (.atom 6) (.consL (.atom 8) .nilL))))))))))) (.consL (.atom 9) .nilL))) (.lit 0)), (.cmp .neq (.fn 7999 (.fnL 7901 (.tabL 0 (.atom 8) 3))) (.lit 0)), (.cmp .leq (.len (.fnL 7901 (.tabL 0 (.atom 8) 3))) (.lit 10000)), (.cmp .neq (.atom 9) (.lit 0)), (.cmp .leq (.atom 4) (.fn 50 (.consL (.len (.fnL 7901 (.tabL 0 (.atom 8) 3))) (.consL (.lit 3) .nilL)))), (.cmp .leq (.lit 2) (.atom 0)), (.cmp .leq (.len (.fnL 7901 (.tabL 0 (.atom 8) 3))) (.lit 1000000)), (.and (.cmp .neq (.fn 1 cfgL) (.lit 0)) (.cmp .leq (.atom 8) (.atom 2)))]), (.need (.atom 9) [(.cmp .leq (.len (.fnL 4200 A0)) (.lit 1000000)), (.cmp .neq (.fn 7999 (.putL (.fnL 7900 (.consL (.atom 0) (.consL (.atom 1) (.consL (.atom 2) (.consL (.atom 3) (.consL (.atom 4) (.consL (.atom 5) (.consL (.atom 6) (.consL (.atom 8) .nilL))))))))) (.fn 13 (.consL (.fn 3 (.consL (.atom 0) (.consL (.atom 1) (.consL (.atom 2) (.consL (.atom 3) (.consL (.atom 4) (.consL (.atom 5) (.consL (.atom 6) (.consL (.lit 1) (.consL (.lit 0) .nilL)))))))))) (.fnL 7900 (.consL (.atom 0) (.consL (.atom 1) (.consL (.atom 2) (.consL (.atom 3) (.consL (.atom 4) (.consL (.atom 5) (.consL (.atom 6) (.consL (.atom 8) .nilL))))))))))) (.consL (.atom 9) .nilL))) (.lit 0)), (.cmp .neq (.fn 7999 (.fnL 7901 (.tabL 0 (.atom 8) 3))) (.lit 0)), (.cmp .leq (.len (.fnL 7901 (.tabL 0 (.atom 8) 3))) (.lit 10000)), (.cmp .neq (.atom 9) (.lit 0)), (.cmp .leq (.atom 4) (.fn 50 (.consL (.len (.fnL 7901 (.tabL 0 (.atom 8) 3))) (.consL (.lit 3) .nilL)))), (.cmp .leq (.lit 2) (.atom 0)), (.cmp .leq (.len (.fnL 7901 (.tabL 0 (.atom 8) 3))) (.lit 1000000)), (.and (.cmp .neq (.fn 1 cfgL) (.lit 0)) (.cmp .leq (.atom 8) (.atom 2)))])]
theorem eS [Env] : oweStartR (tabsOf pks 0) ths [0] Try.prog Try.f10 (rootOf Try.f10) baseW (extraG Try.prog) cuts (rngFacts pks 0) (symArgs pks 0 0) (symHeap pks 0 0) = obS := by kernel_rfl
def ob0_0 : List Ob := [(.need (.lit false) [(.cmp .gtr (.get (.fnL 7200 (.fnL 4200 A0)) (.at_ (.lit 0) (.atom 1000) 3 0) 1) (.atom 9)), (.and (.cmp .geq (.atom 1000) (.lit 0)) (.cmp .lss (.atom 1000) (.fn 50 (.consL (.len (.fnL 7200 (.fnL 4200 A0))) (.consL (.lit 3) .nilL))))), (.cmp .lss (.atom 1000) (.fn 50 (.consL (.len (.fnL 7200 (.fnL 4200 A0))) (.consL (.lit 3) .nilL)))), (.cmp .geq (.atom 1000) (.lit 0)), (.cmp .lss (.atom 1000) (.fn 50 (.consL (.len (.fnL 7200 (.fnL 4200 A0))) (.consL (.lit 3) .nilL))))]), (.need (.lit false) [(.cmp .lss (.get (.fnL 7200 (.fnL 4200 A0)) (.at_ (.lit 0) (.atom 1000) 3 0) 2) (.atom 9)), (.not (.cmp .gtr (.get (.fnL 7200 (.fnL 4200 A0)) (.at_ (.lit 0) (.atom 1000) 3 0) 1) (.atom 9))), (.and (.cmp .geq (.atom 1000) (.lit 0)) (.cmp .lss (.atom 1000) (.fn 50 (.consL (.len (.fnL 7200 (.fnL 4200 A0))) (.consL (.lit 3) .nilL))))), (.cmp .lss (.atom 1000) (.fn 50 (.consL (.len (.fnL 7200 (.fnL 4200 A0))) (.consL (.lit 3) .nilL)))), (.cmp .geq (.atom 1000) (.lit 0)), (.cmp .lss (.atom 1000) (.fn 50 (.consL (.len (.fnL 7200 (.fnL 4200 A0))) (.consL (.lit 3) .nilL))))]), (.less [((.fn 50 (.consL (.len (.fnL 7200 (.fnL 4200 A0))) (.consL (.lit 3) .nilL))), (.atom 1000))] [((.fn 50 (.consL (.len (.fnL 7200 (.fnL 4200 A0))) (.consL (.lit 3) .nilL))), (.op .add .i64 (.atom 1000) (.lit 1)))] [(.cmp .leq (.atom 9) (.get (.fnL 7200 (.fnL 4200 A0)) (.at_ (.lit 0) (.atom 1000) 3 0) 2)), (.not (.cmp .gtr (.get (.fnL 7200 (.fnL 4200 A0)) (.at_ (.lit 0) (.atom 1000) 3 0) 1) (.atom 9))), (.and (.cmp .geq (.atom 1000) (.lit 0)) (.cmp .lss (.atom 1000) (.fn 50 (.consL (.len (.fnL 7200 (.fnL 4200 A0))) (.consL (.lit 3) .nilL))))), (.cmp .lss (.atom 1000) (.fn 50 (.consL (.len (.fnL 7200 (.fnL 4200 A0))) (.consL (.lit 3) .nilL)))), (.cmp .geq (.atom 1000) (.lit 0)), (.cmp .lss (.atom 1000) (.fn 50 (.consL (.len (.fnL 7200 (.fnL 4200 A0))) (.consL (.lit 3) .nilL))))]), (.need (.cmp .leq (.lit 0) (.op .add .i64 (.atom 1000) (.lit 1))) [(.cmp .leq (.atom 9) (.get (.fnL 7200 (.fnL 4200 A0)) (.at_ (.lit 0) (.atom 1000) 3 0) 2)), (.not (.cmp .gtr (.get (.fnL 7200 (.fnL 4200 A0)) (.at_ (.lit 0) (.atom 1000) 3 0) 1) (.atom 9))), (.and (.cmp .geq (.atom 1000) (.lit 0)) (.cmp .lss (.atom 1000) (.fn 50 (.consL (.len (.fnL 7200 (.fnL 4200 A0))) (.consL (.lit 3) .nilL))))), (.cmp .lss (.atom 1000) (.fn 50 (.consL (.len (.fnL 7200 (.fnL 4200 A0))) (.consL (.lit 3) .nilL)))), (.cmp .geq (.atom 1000) (.lit 0)), (.cmp .lss (.atom 1000) (.fn 50 (.consL (.len (.fnL 7200 (.fnL 4200 A0))) (.consL (.lit 3) .nilL))))]), (.need (.cmp .eql (.get (.fnL 4200 A0) (.lit 0) 0) (.lit 3)) [(.cmp .leq (.fn 50 (.consL (.len (.fnL 7200 (.fnL 4200 A0))) (.consL (.lit 3) .nilL))) (.atom 1000))])]
theorem e0_0 [Env] : oweAtR (tabsOf pks 0) ths [0] Try.prog Try.f10 (rootOf Try.f10) baseW (extraG Try.prog) cuts cut0 [] rw0 = ob0_0 := by kernel_rfl
def Phi : Nat → Env → Prop := fun _ _ => True

open St
def rv : IE := (.fn 3 (.consL (.atom 0) (.consL (.atom 1) (.consL (.atom 2) (.consL (.atom 3) (.consL (.atom 4) (.consL (.atom 5) (.consL (.atom 6) (.consL (.lit 1) (.consL (.lit 0) .nilL))))))))))
def RR : IE := .putL (.fnL 7900 cN) (.fn 13 (.consL rv (.fnL 7900 cN))) (.consL (.atom 9) .nilL)
def YY : IE := .consL (.atom 0) (.consL (.atom 1) (.consL (.atom 2) (.consL (.atom 3) (.consL (.atom 4) (.consL (.atom 5) (.consL (.atom 6) (.consL (.lit 0) (.consL (.lit 0) (.consL (.lit 0) (.consL (.op .add .i64 (.fn 7900 cN) (.lit 1)) (.consL (.lit 2) (.consL rv (.consL (.lit 0) (.consL (.fn 10 (.consL rv (.fnL 7900 cN))) (.consL (.fn 14 (.consL (.atom 9) (.consL rv (.fnL 7900 cN)))) (.consL (.cmpI .neq (.fn 12 (.consL rv (.fnL 7900 cN))) (.lit 0)) (.consL (.len FF) (.catL FF RR))))))))))))))))))
def XX : IE := .consL (.lit 300) YY
theorem RR_eq (E : Env) : @IE.lst E RR = setF ((Cl E).res 1 0) (E.i 9) (slotsF (Cl E) (E.i 8).toNat) := by
  rw [← row_eq]
  exact putsetF _ _ _
theorem YY_val (E : Env) : ∃ B : Bnk, decW (@IE.lst E YY) = ⟨Cl E, ⟨0, 0, 0⟩, B, (⟨0, 0, @IE.lst E LL, [], []⟩ : Swp).enc⟩ ∧ B.row = setF ((Cl E).res 1 0) (E.i 9) (slotsF (Cl E) (E.i 8).toNat) := by
  have h := decY E (.atom 0) (.atom 1) (.atom 2) (.atom 3) (.atom 4) (.atom 5) (.atom 6) (.lit 0) (.lit 0) (.lit 0) (.op .add .i64 (.fn 7900 cN) (.lit 1)) (.lit 2) rv (.lit 0) (.fn 10 (.consL rv (.fnL 7900 cN))) (.fn 14 (.consL (.atom 9) (.consL rv (.fnL 7900 cN)))) (.cmpI .neq (.fn 12 (.consL rv (.fnL 7900 cN))) (.lit 0)) FF RR
  rw [← FF_eq]
  exact ⟨_, h, RR_eq E⟩
theorem saw_mem {C : Cfg} (hr : C.right) {th : Int} (ht : 0 ≤ th ∧ th < C.t) {r : List Int} (hl : (r.length : Int) = lenF C.t C.s C.c C.h C.k C.e C.l) {x : Int} (hx : x ∈ C.saw th r) :
    ∃ a b, (0 ≤ a ∧ a < C.t) ∧ (0 ≤ b ∧ b < C.s) ∧ x = if a = th then 0 else hadF (C.res a b) r := by
  have hs : 1 ≤ C.s ∧ C.s ≤ 8 := ⟨hr.2.2.1, hr.2.2.2.1⟩
  have hx : x ∈ seenF C.t C.s C.c C.h C.k C.e C.l (C.clr th C.s.toNat r) (C.t * C.s).toNat := hx
  unfold seenF at hx
  rw [List.mem_map] at hx
  obtain ⟨i, hi, rfl⟩ := hx
  have hi := List.mem_range.1 hi
  have ha : 0 ≤ (i : Int) / C.s ∧ (i : Int) / C.s < C.t := ⟨Int.ediv_nonneg (by omega) (by omega), Int.ediv_lt_of_lt_mul (by omega) (by omega)⟩
  have hb : 0 ≤ (i : Int) % C.s ∧ (i : Int) % C.s < C.s := ⟨Int.emod_nonneg _ (by omega), Int.emod_lt_of_pos _ (by omega)⟩
  exact ⟨_, _, ha, hb, clr_res hr ht ha hb hl⟩
theorem idx_mem {b r : Int} : ∀ (e : List Int) (i : Int), idxF b r i e = -1 ∨ ∃ x ∈ e, covF b r x
  | [], i => .inl rfl
  | x :: e, i => by
    unfold idxF
    by_cases h : covF b r x
    · exact .inr ⟨x, List.mem_cons_self .., h⟩
    · rw [if_neg h]
      rcases idx_mem e (i + 1) with h1 | ⟨y, hy, h1⟩
      · exact .inl h1
      · exact .inr ⟨y, List.mem_cons_of_mem _ hy, h1⟩
theorem split_cov {e : List Int} : ∀ (l : List Int) (i : Nat), 3 * i < (splitF true e l).length → ∃ x ∈ e, covF ((splitF true e l).getD (3 * i + 1) 0) ((splitF true e l).getD (3 * i + 2) 0) x
  | n :: b :: r :: l, i, h => by
    unfold splitF at h ⊢
    by_cases hc : idxF b r 0 e ≥ 0
    · simp only [hc, decide_true, if_true] at h ⊢
      match i, h with
      | 0, _ =>
        rcases idx_mem (b := b) (r := r) e 0 with h1 | h1
        · omega
        · exact h1
      | i + 1, h =>
        have := split_cov (e := e) l i (by simp only [List.length_cons] at h; omega)
        rw [show 3 * (i + 1) + 1 = (3 * i + 1) + 3 by omega, show 3 * (i + 1) + 2 = (3 * i + 2) + 3 by omega]
        simp only [List.getD_cons_succ]
        exact this
    · simp only [hc, decide_false, Bool.false_eq_true, if_false] at h ⊢
      exact split_cov (e := e) l i h
  | [], i, h => by simp [splitF] at h
  | [_], i, h => by simp [splitF] at h
  | [_, _], i, h => by simp [splitF] at h
theorem res (E : Env) (h : Fac E) (hk : E.i 4 ≤ E.i 8) (h0 : 2 ≤ E.i 0) : ∃ f : Swp, @IE.lst E (.fnL 4200 XX) = f.enc ∧ f.tag = 3 ∧ f.enc.length ≤ 1000 ∧ f.l.length ≤ 192 ∧ (∀ i : Nat, 3 * i < f.l.length → f.l.getD (3 * i + 1) 0 ≤ E.i 9 ∧ E.i 9 ≤ f.l.getD (3 * i + 2) 0) := by
  obtain ⟨B, hw, hB⟩ := YY_val E
  have hl := h.len
  have hn := h.nums
  have hle := h.le
  have hle64 := h.le64
  have hr := h.right
  have o : @IE.lst E (.fnL 4200 XX) = _ := outL_of (q := .lit 300) hw 0 (by decide)
  have hm : 300 ≤ (@IE.val E (.lit 300)).toNat := by show 300 ≤ (300 : Int).toNat; decide
  obtain ⟨B', hrun, _⟩ := swp_many hr (G := ⟨0, 0, 0⟩) (B := B) (l := @IE.lst E LL) (show E.i 4 ≤ ((@IE.lst E LL).length : Int) / 3 by omega) (by omega) hm
  rw [hrun] at o
  have hsl : (((Cl E).saw 0 B.row).length : Int) = E.i 0 * E.i 1 := saw_len (Cl E) hr 0 B.row
  have hb := splitF_both ((Cl E).saw 0 B.row) (@IE.lst E LL)
  have hle2 : ((Cl E).kept 0 B.row (@IE.lst E LL)).length ≤ 192 := by
    show (splitF true ((Cl E).saw 0 B.row) (@IE.lst E LL)).length ≤ 192
    omega
  refine ⟨_, o, rfl, ?_, hle2, fun i hi => ?_⟩
  · show (Swp.enc ⟨3, 0, (Cl E).kept 0 B.row (@IE.lst E LL), (Cl E).saw 0 B.row, []⟩).length ≤ 1000
    simp only [Swp.enc, List.length_cons, List.length_append, List.length_nil]
    omega
  · obtain ⟨x, hx, hc⟩ := split_cov (e := (Cl E).saw 0 B.row) (@IE.lst E LL) i hi
    have hlen : (B.row.length : Int) = lenF (Cl E).t (Cl E).s (Cl E).c (Cl E).h (Cl E).k (Cl E).e (Cl E).l := by rw [hB, setF_length]; exact slots_len _ hr _
    obtain ⟨a, b, ha, hb', hxe⟩ := saw_mem hr (th := 0) ⟨by decide, hn.1⟩ hlen hx
    have hx9 : x = E.i 9 := by
      have hx0 : x ≠ 0 := hc.1
      split at hxe
      · exact absurd hxe hx0
      · rw [hB, hadF_setF] at hxe
        split at hxe
        · exact hxe
        · rw [slots_res hr ha hb'] at hxe
          exact absurd hxe hx0
    rw [hx9] at hc
    exact ⟨hc.2.1, hc.2.2⟩
theorem fac (E : Env) (h1 : symRng E pks 0 0) {e : BE} (h : @BE.val E e = true) (he : e = .and (.cmp .neq (.fn 1 (.consL (.atom 0) (.consL (.atom 1) (.consL (.atom 2) (.consL (.atom 3) (.consL (.atom 4) (.consL (.atom 5) (.consL (.atom 6) .nilL)))))))) (.lit 0)) (.cmp .leq (.atom 8) (.atom 2))) : Fac E :=
  Fac.of he h (of_decide_eq_true (rngFacts_ok E h1 (.cmp .leq (.lit 0) (.atom 8)) (List.mem_of_getElem? (i := 15) rfl))) (tabsOf_ok E h1)
theorem cnt3 (E : Env) (h : Fac E) : @IE.val E (.fn 50 (.consL (.len LL) (.consL (.lit 3) .nilL))) = E.i 8 := by
  have := h.len
  show ((@IE.lst E LL).length : Int) / 3 = _
  omega
theorem runS (E : Env) (h1 : symRng E pks 0 0) : ObsOk E Phi obS := ⟨
  (fun hc => decide_eq_true (show ((0 : Nat) : Int) ≤ 1000000 by omega)),
  (fun hc => decide_eq_true (by have h := fac E h1 hc.1 rfl; have := h.len; have := h.le; have := h.le64; show ((@IE.lst E LL).length : Int) ≤ 1000000; omega)),
  (fun hc => decide_eq_true (by have h := fac E h1 hc.2.2.2.2.1 rfl; have := h.len; have := h.le; have := h.le64; show ((@IE.lst E LL).length : Int) ≤ 10000; omega)),
  (fun hc => (ofP_ne _).trans (decide_eq_true (fac E h1 hc.2.2.2.2.2.1 rfl).wordsL)),
  (fun hc => (ofP_ne _).trans (decide_eq_true (by
    have h := fac E h1 hc.2.2.2.2.2.2.1 rfl
    show wordsP (@IE.lst E RR)
    rw [RR_eq]
    have g1 : (0 : Int) ≤ E.i 9 := of_decide_eq_true (rngFacts_ok E h1 (.cmp .leq (.lit 0) (.atom 9)) (List.mem_of_getElem? (i := 17) rfl))
    have g2 : E.i 9 ≤ 18446744073709551615 := of_decide_eq_true (rngFacts_ok E h1 (.cmp .leq (.atom 9) (.lit 18446744073709551615)) (List.mem_of_getElem? (i := 18) rfl))
    exact wordsP_set (slots_words h.right _) ⟨g1, by omega⟩ _))),
  (fun hc => by
    have h := fac E h1 hc.2.2.2.2.2.2.2.1 rfl
    have hk : E.i 4 ≤ @IE.val E (.fn 50 (.consL (.len LL) (.consL (.lit 3) .nilL))) := of_decide_eq_true hc.2.2.2.2.1
    rw [cnt3 E h] at hk
    obtain ⟨f, hf, _, hl, _⟩ := res E h hk (of_decide_eq_true hc.2.2.2.2.2.1)
    refine decide_eq_true (show ((@IE.lst E (.fnL 4200 XX)).length : Int) ≤ 1000000 from ?_)
    rw [hf]; omega),
  (fun hc => hc.2.2.2.2.1),
  trivial⟩
theorem run0_0 (E : Env) (hfs : ∀ b ∈ cut0.fs, @BE.val E b = true) (hphi : Phi 0 E) (htab : TabR (tabsOf pks 0) E) : ObsOk E Phi ob0_0 := by
  have q0 : (0 : Int) ≤ E.i 1000 := of_decide_eq_true (hfs (.cmp .leq (.lit 0) (.atom 1000)) (List.mem_of_getElem? (i := 0) rfl))
  have q2 : E.i 4 ≤ @IE.val E (.fn 50 (.consL (.len LL) (.consL (.lit 3) .nilL))) := of_decide_eq_true (hfs (.cmp .leq (.atom 4) (.fn 50 (.consL (.len LL) (.consL (.lit 3) .nilL)))) (List.mem_of_getElem? (i := 2) rfl))
  have q3 : 2 ≤ E.i 0 := of_decide_eq_true (hfs (.cmp .leq (.lit 2) (.atom 0)) (List.mem_of_getElem? (i := 3) rfl))
  have q18 := hfs _ (List.mem_of_getElem? (i := 18) rfl)
  have q19 : E.i 8 ≤ E.i 2 := of_decide_eq_true (hfs (.cmp .leq (.atom 8) (.atom 2)) (List.mem_of_getElem? (i := 19) rfl))
  have q21 : 0 ≤ E.i 8 := of_decide_eq_true (hfs (.cmp .leq (.lit 0) (.atom 8)) (List.mem_of_getElem? (i := 21) rfl))
  have h : Fac E := Fac.of rfl (show (@BE.val E (.cmp .neq (.fn 1 cfgL) (.lit 0)) && decide (E.i 8 ≤ E.i 2)) = true by rw [q18, decide_eq_true q19]; rfl) q21 htab
  rw [cnt3 E h] at q2
  obtain ⟨f, hf, ht, hl, hl2, hh⟩ := res E h q2 q3
  have hK := kept_of hf
  have cnt : @IE.val E (.fn 50 (.consL (.len (.fnL 7200 (.fnL 4200 XX))) (.consL (.lit 3) .nilL))) = (f.l.length : Int) / 3 := by
    show ((@IE.lst E (.fnL 7200 (.fnL 4200 XX))).length : Int) / 3 = _
    rw [hK]
  have get : ∀ j : Nat, @IE.val E (.get (.fnL 7200 (.fnL 4200 XX)) (.at_ (.lit 0) (.atom 1000) 3 0) j) = f.l.getD (3 * (E.i 1000).toNat + j) 0 := fun j => by
    show (@IE.lst E (.fnL 7200 (.fnL 4200 XX))).getD ((((0 : Int).toNat + (E.i 1000).toNat * 3 + 0 : Nat) : Int).toNat + j) 0 = _
    rw [hK, show (((0 : Int).toNat + (E.i 1000).toNat * 3 + 0 : Nat) : Int).toNat + j = 3 * (E.i 1000).toNat + j by have e : (0 : Int).toNat = 0 := rfl; rw [e]; omega]
  have lt : E.i 1000 < @IE.val E (.fn 50 (.consL (.len (.fnL 7200 (.fnL 4200 XX))) (.consL (.lit 3) .nilL))) → 3 * (E.i 1000).toNat < f.l.length ∧ E.i 1000 < (f.l.length : Int) / 3 := fun hq => by rw [cnt] at hq; omega
  have up : E.i 1000 < (f.l.length : Int) / 3 → IntKind.i64.wrap (E.i 1000 + 1) = E.i 1000 + 1 := fun hq => i64_small (by omega) (by omega)
  exact ⟨
    (fun hc => by
      have hlt := lt (of_decide_eq_true hc.2.2.1)
      have hg : @IE.val E (.get (.fnL 7200 (.fnL 4200 XX)) (.at_ (.lit 0) (.atom 1000) 3 0) 1) > E.i 9 := of_decide_eq_true hc.1
      rw [get] at hg
      have := (hh _ hlt.1).1
      omega),
    (fun hc => by
      have hlt := lt (of_decide_eq_true hc.2.2.2.1)
      have hg : @IE.val E (.get (.fnL 7200 (.fnL 4200 XX)) (.at_ (.lit 0) (.atom 1000) 3 0) 2) < E.i 9 := of_decide_eq_true hc.1
      rw [get] at hg
      have := (hh _ hlt.1).2
      omega),
    (fun hc => by
      have hlt := lt (of_decide_eq_true hc.2.2.2.1)
      refine .inl (show ((@IE.val E (.fn 50 (.consL (.len (.fnL 7200 (.fnL 4200 XX))) (.consL (.lit 3) .nilL)))) - IntKind.i64.wrap (E.i 1000 + 1)).toNat < ((@IE.val E (.fn 50 (.consL (.len (.fnL 7200 (.fnL 4200 XX))) (.consL (.lit 3) .nilL)))) - E.i 1000).toNat from ?_)
      rw [up hlt.2, cnt]; omega),
    (fun hc => by
      have hlt := lt (of_decide_eq_true hc.2.2.2.1)
      refine decide_eq_true (show (0 : Int) ≤ IntKind.i64.wrap (E.i 1000 + 1) from ?_)
      rw [up hlt.2]; omega),
    (fun hc => by
      refine decide_eq_true (show (@IE.lst E (.fnL 4200 XX)).getD 0 0 = 3 from ?_)
      rw [hf]; exact ht), trivial⟩
theorem part0 (E : Env) (hfs : ∀ b ∈ cut0.fs, @BE.val E b = true) (hphi : Phi 0 E) (htab : TabR (tabsOf pks 0) E) : ∃ (ex : List BE) (rw : List (IE × IE)), (∀ b ∈ ex, @BE.val E b = true) ∧ Owed E Phi (oweAtR (tabsOf pks 0) ths [0] Try.prog Try.f10 (rootOf Try.f10) baseW (extraG Try.prog) cuts cut0 ex rw) :=
  ⟨[], rw0, Bk.nn, Owed.eq (@e0_0 E) (run0_0 E hfs hphi htab)⟩
theorem runsM (E : Env) (i : Nat) (k : Cut) (hi : cuts[i]? = some k) (hfs : ∀ b ∈ k.fs, @BE.val E b = true) (hphi : Phi i E) (htab : TabR (tabsOf pks 0) E) : ∃ (ex : List BE) (rw : List (IE × IE)), (∀ b ∈ ex, @BE.val E b = true) ∧ Owed E Phi (oweAtR (tabsOf pks 0) ths [0] Try.prog Try.f10 (rootOf Try.f10) baseW (extraG Try.prog) cuts k ex rw) := by
  match i, hi with
  | 0, hi => obtain rfl : cut0 = k := Option.some.inj (show some cut0 = some k from hi); exact part0 E hfs hphi htab
  | n + 1, hi => exact absurd hi (by simp [cuts])
theorem startM (E : Env) (h1 : symRng E pks 0 0) : Owed E Phi (oweStartR (tabsOf pks 0) ths [0] Try.prog Try.f10 (rootOf Try.f10) baseW (extraG Try.prog) cuts (rngFacts pks 0) (symArgs pks 0 0) (symHeap pks 0 0)) := Owed.eq (@eS E) (runS E h1)
theorem trOk : ∀ i ∈ ([0] : List Nat), ∀ E, Phi i E := fun _ _ _ => trivial
theorem bodyOk : Try.f10.body = some (rootOf Try.f10) := by kernel_rfl
theorem law (E : Env) (ρ : Rho) (F : Nat → Nat → Prop) (w : World) (argv : Array Value) (h1 : symRng E pks 0 0) (h2 : @HeapOk E Empty _ ρ F (symHeap pks 0 0) w) (h3 : All2 (@SV.is E ρ) (symArgs pks 0 0) argv.toList) :
    Calls Try.prog 10 argv w fun e w' => e = .returned (.bool true) ∧ ∃ ρ' F', Reach ρ F w ρ' F' w' :=
  floydRM (ts := tabsOf pks 0) mixed_ok (c := @baseW) @baseW_ok (x := extraG Try.prog) (fun {_} => extraG_ok _) Try.func10 bodyOk ths_ok (tr := [0]) (Φ := Phi) trOk heads runsM E (tabsOf_ok E h1) (rngFacts_ok E h1) (startM E h1) h2 h3
end Go.Proofs.Ytafemlljemhkhaa.Sx.LSweepStalled
