/-
  The law ClaimSteps, run on unknowns, from one loop's head to the next.
-/
import Derived.Test.YtafemlljemhkhaaLClaimStepsB1
import Derived.Test.YtafemlljemhkhaaLClaimStepsB2
namespace Go.Proofs.Ytafemlljemhkhaa.Sx.LClaimSteps
open Go Go.Proofs.Ytafemlljemhkhaa.Sx
set_option linter.unusedSectionVars false
set_option linter.unusedVariables false
set_option linter.unusedSimpArgs false
set_option maxRecDepth 1000000

theorem f0_23 (E : Env) (h : ∀ b ∈ cut0.fs, @BE.val E b = true) : @BE.val E ((.cmp .neq (.fn 1 cfgL) (.lit 0))) = true := h _ (List.mem_of_getElem? (i := 23) rfl)
theorem f1_26 (E : Env) (h : ∀ b ∈ cut1.fs, @BE.val E b = true) : @BE.val E ((.cmp .neq (.fn 1 cfgL) (.lit 0))) = true := h _ (List.mem_of_getElem? (i := 26) rfl)
theorem f2_26 (E : Env) (h : ∀ b ∈ cut2.fs, @BE.val E b = true) : @BE.val E ((.cmp .neq (.fn 1 cfgL) (.lit 0))) = true := h _ (List.mem_of_getElem? (i := 26) rfl)
theorem f3_26 (E : Env) (h : ∀ b ∈ cut3.fs, @BE.val E b = true) : @BE.val E ((.cmp .neq (.fn 1 cfgL) (.lit 0))) = true := h _ (List.mem_of_getElem? (i := 26) rfl)
theorem f4_26 (E : Env) (h : ∀ b ∈ cut4.fs, @BE.val E b = true) : @BE.val E ((.cmp .neq (.fn 1 cfgL) (.lit 0))) = true := h _ (List.mem_of_getElem? (i := 26) rfl)
theorem f5_2 (E : Env) (h : ∀ b ∈ cut5.fs, @BE.val E b = true) : @BE.val E ((.cmp .eql (.len (.latom 3307)) (.nat (.atom 8)))) = true := h _ (List.mem_of_getElem? (i := 2) rfl)
theorem f5_28 (E : Env) (h : ∀ b ∈ cut5.fs, @BE.val E b = true) : @BE.val E ((.cmp .neq (.fn 1 cfgL) (.lit 0))) = true := h _ (List.mem_of_getElem? (i := 28) rfl)
theorem f6_27 (E : Env) (h : ∀ b ∈ cut6.fs, @BE.val E b = true) : @BE.val E ((.cmp .neq (.fn 1 cfgL) (.lit 0))) = true := h _ (List.mem_of_getElem? (i := 27) rfl)
theorem f7_28 (E : Env) (h : ∀ b ∈ cut7.fs, @BE.val E b = true) : @BE.val E ((.cmp .neq (.fn 1 cfgL) (.lit 0))) = true := h _ (List.mem_of_getElem? (i := 28) rfl)
theorem f8_27 (E : Env) (h : ∀ b ∈ cut8.fs, @BE.val E b = true) : @BE.val E ((.cmp .neq (.fn 1 cfgL) (.lit 0))) = true := h _ (List.mem_of_getElem? (i := 27) rfl)
theorem f9_28 (E : Env) (h : ∀ b ∈ cut9.fs, @BE.val E b = true) : @BE.val E ((.cmp .neq (.fn 1 cfgL) (.lit 0))) = true := h _ (List.mem_of_getElem? (i := 28) rfl)
theorem f10_28 (E : Env) (h : ∀ b ∈ cut10.fs, @BE.val E b = true) : @BE.val E ((.cmp .neq (.fn 1 cfgL) (.lit 0))) = true := h _ (List.mem_of_getElem? (i := 28) rfl)
theorem f11_30 (E : Env) (h : ∀ b ∈ cut11.fs, @BE.val E b = true) : @BE.val E ((.cmp .neq (.fn 1 cfgL) (.lit 0))) = true := h _ (List.mem_of_getElem? (i := 30) rfl)
theorem f12_30 (E : Env) (h : ∀ b ∈ cut12.fs, @BE.val E b = true) : @BE.val E ((.cmp .neq (.fn 1 cfgL) (.lit 0))) = true := h _ (List.mem_of_getElem? (i := 30) rfl)
theorem f13_29 (E : Env) (h : ∀ b ∈ cut13.fs, @BE.val E b = true) : @BE.val E ((.cmp .neq (.fn 1 cfgL) (.lit 0))) = true := h _ (List.mem_of_getElem? (i := 29) rfl)
theorem f14_27 (E : Env) (h : ∀ b ∈ cut14.fs, @BE.val E b = true) : @BE.val E ((.cmp .neq (.fn 1 cfgL) (.lit 0))) = true := h _ (List.mem_of_getElem? (i := 27) rfl)
theorem f15_29 (E : Env) (h : ∀ b ∈ cut15.fs, @BE.val E b = true) : @BE.val E ((.cmp .neq (.fn 1 cfgL) (.lit 0))) = true := h _ (List.mem_of_getElem? (i := 29) rfl)
theorem f16_30 (E : Env) (h : ∀ b ∈ cut16.fs, @BE.val E b = true) : @BE.val E ((.cmp .neq (.fn 1 cfgL) (.lit 0))) = true := h _ (List.mem_of_getElem? (i := 30) rfl)
theorem f17_30 (E : Env) (h : ∀ b ∈ cut17.fs, @BE.val E b = true) : @BE.val E ((.cmp .neq (.fn 1 cfgL) (.lit 0))) = true := h _ (List.mem_of_getElem? (i := 30) rfl)
theorem f18_2 (E : Env) (h : ∀ b ∈ cut18.fs, @BE.val E b = true) : @BE.val E ((.cmp .eql (.fn 21 (.consL (.fn 10 (.consL (.fn 4 (.consL (.atom 0) (.consL (.atom 1) (.consL (.atom 2) (.consL (.atom 3) (.consL (.atom 4) (.consL (.atom 5) (.consL (.atom 6) (.consL (.fn 34 (.consL (.atom 9) (.consL (.lit 0) (.consL (.atom 2) .nilL)))) (.consL (.lit 0) .nilL)))))))))) (.latom 1307))) .nilL)) (.lit 0))) = true := h _ (List.mem_of_getElem? (i := 2) rfl)
theorem f18_3 (E : Env) (h : ∀ b ∈ cut18.fs, @BE.val E b = true) : @BE.val E ((.cmp .lss (.lit 0) (.mx (.lit 0) (.atom 10)))) = true := h _ (List.mem_of_getElem? (i := 3) rfl)
theorem f18_6 (E : Env) (h : ∀ b ∈ cut18.fs, @BE.val E b = true) : @BE.val E ((.cmp .leq (.atom 10) (.lit 200))) = true := h _ (List.mem_of_getElem? (i := 6) rfl)
theorem f18_27 (E : Env) (h : ∀ b ∈ cut18.fs, @BE.val E b = true) : @BE.val E ((.cmp .neq (.fn 1 cfgL) (.lit 0))) = true := h _ (List.mem_of_getElem? (i := 27) rfl)
theorem f19_4 (E : Env) (h : ∀ b ∈ cut19.fs, @BE.val E b = true) : @BE.val E ((.cmp .lss (.lit 0) (.mx (.lit 0) (.atom 10)))) = true := h _ (List.mem_of_getElem? (i := 4) rfl)
theorem f19_7 (E : Env) (h : ∀ b ∈ cut19.fs, @BE.val E b = true) : @BE.val E ((.cmp .leq (.atom 10) (.lit 200))) = true := h _ (List.mem_of_getElem? (i := 7) rfl)
theorem f19_28 (E : Env) (h : ∀ b ∈ cut19.fs, @BE.val E b = true) : @BE.val E ((.cmp .neq (.fn 1 cfgL) (.lit 0))) = true := h _ (List.mem_of_getElem? (i := 28) rfl)
theorem f20_2 (E : Env) (h : ∀ b ∈ cut20.fs, @BE.val E b = true) : @BE.val E ((.cmp .lss (.lit 1) (.atom 2))) = true := h _ (List.mem_of_getElem? (i := 2) rfl)
theorem f20_4 (E : Env) (h : ∀ b ∈ cut20.fs, @BE.val E b = true) : @BE.val E ((.cmp .lss (.lit 0) (.mx (.lit 0) (.atom 10)))) = true := h _ (List.mem_of_getElem? (i := 4) rfl)
theorem f20_7 (E : Env) (h : ∀ b ∈ cut20.fs, @BE.val E b = true) : @BE.val E ((.cmp .leq (.atom 10) (.lit 200))) = true := h _ (List.mem_of_getElem? (i := 7) rfl)
theorem f20_28 (E : Env) (h : ∀ b ∈ cut20.fs, @BE.val E b = true) : @BE.val E ((.cmp .neq (.fn 1 cfgL) (.lit 0))) = true := h _ (List.mem_of_getElem? (i := 28) rfl)
theorem f21_0 (E : Env) (h : ∀ b ∈ cut21.fs, @BE.val E b = true) : @BE.val E ((.cmp .leq (.lit 0) (.atom 2600))) = true := h _ (List.mem_of_getElem? (i := 0) rfl)
theorem f21_4 (E : Env) (h : ∀ b ∈ cut21.fs, @BE.val E b = true) : @BE.val E ((.cmp .lss (.atom 2600) (.mx (.lit 0) (.atom 10)))) = true := h _ (List.mem_of_getElem? (i := 4) rfl)
theorem f21_8 (E : Env) (h : ∀ b ∈ cut21.fs, @BE.val E b = true) : @BE.val E ((.cmp .leq (.atom 10) (.lit 200))) = true := h _ (List.mem_of_getElem? (i := 8) rfl)
theorem f21_9 (E : Env) (h : ∀ b ∈ cut21.fs, @BE.val E b = true) : @BE.val E ((.cmp .leq (.nat (.atom 8)) (.lit 400))) = true := h _ (List.mem_of_getElem? (i := 9) rfl)
theorem f21_29 (E : Env) (h : ∀ b ∈ cut21.fs, @BE.val E b = true) : @BE.val E ((.cmp .neq (.fn 1 cfgL) (.lit 0))) = true := h _ (List.mem_of_getElem? (i := 29) rfl)
theorem f22_0 (E : Env) (h : ∀ b ∈ cut22.fs, @BE.val E b = true) : @BE.val E ((.cmp .leq (.lit 0) (.atom 2600))) = true := h _ (List.mem_of_getElem? (i := 0) rfl)
theorem f22_4 (E : Env) (h : ∀ b ∈ cut22.fs, @BE.val E b = true) : @BE.val E ((.cmp .lss (.atom 2600) (.mx (.lit 0) (.atom 10)))) = true := h _ (List.mem_of_getElem? (i := 4) rfl)
theorem f22_8 (E : Env) (h : ∀ b ∈ cut22.fs, @BE.val E b = true) : @BE.val E ((.cmp .leq (.atom 10) (.lit 200))) = true := h _ (List.mem_of_getElem? (i := 8) rfl)
theorem f22_9 (E : Env) (h : ∀ b ∈ cut22.fs, @BE.val E b = true) : @BE.val E ((.cmp .leq (.nat (.atom 8)) (.lit 400))) = true := h _ (List.mem_of_getElem? (i := 9) rfl)
theorem f22_29 (E : Env) (h : ∀ b ∈ cut22.fs, @BE.val E b = true) : @BE.val E ((.cmp .neq (.fn 1 cfgL) (.lit 0))) = true := h _ (List.mem_of_getElem? (i := 29) rfl)
theorem f23_0 (E : Env) (h : ∀ b ∈ cut23.fs, @BE.val E b = true) : @BE.val E ((.cmp .leq (.lit 0) (.atom 2600))) = true := h _ (List.mem_of_getElem? (i := 0) rfl)
theorem f23_1 (E : Env) (h : ∀ b ∈ cut23.fs, @BE.val E b = true) : @BE.val E ((.cmp .lss (.op .add .i64 (.atom 2606) (.lit 1)) (.atom 2))) = true := h _ (List.mem_of_getElem? (i := 1) rfl)
theorem f23_4 (E : Env) (h : ∀ b ∈ cut23.fs, @BE.val E b = true) : @BE.val E ((.cmp .lss (.atom 2600) (.mx (.lit 0) (.atom 10)))) = true := h _ (List.mem_of_getElem? (i := 4) rfl)
theorem f23_8 (E : Env) (h : ∀ b ∈ cut23.fs, @BE.val E b = true) : @BE.val E ((.cmp .leq (.atom 10) (.lit 200))) = true := h _ (List.mem_of_getElem? (i := 8) rfl)
theorem f23_9 (E : Env) (h : ∀ b ∈ cut23.fs, @BE.val E b = true) : @BE.val E ((.cmp .leq (.nat (.atom 8)) (.lit 400))) = true := h _ (List.mem_of_getElem? (i := 9) rfl)
theorem f23_29 (E : Env) (h : ∀ b ∈ cut23.fs, @BE.val E b = true) : @BE.val E ((.cmp .neq (.fn 1 cfgL) (.lit 0))) = true := h _ (List.mem_of_getElem? (i := 29) rfl)
theorem f24_0 (E : Env) (h : ∀ b ∈ cut24.fs, @BE.val E b = true) : @BE.val E ((.cmp .leq (.lit 0) (.atom 2600))) = true := h _ (List.mem_of_getElem? (i := 0) rfl)
theorem f24_1 (E : Env) (h : ∀ b ∈ cut24.fs, @BE.val E b = true) : @BE.val E ((.cmp .lss (.op .add .i64 (.atom 2606) (.lit 1)) (.atom 2))) = true := h _ (List.mem_of_getElem? (i := 1) rfl)
theorem f24_4 (E : Env) (h : ∀ b ∈ cut24.fs, @BE.val E b = true) : @BE.val E ((.cmp .lss (.atom 2600) (.mx (.lit 0) (.atom 10)))) = true := h _ (List.mem_of_getElem? (i := 4) rfl)
theorem f24_8 (E : Env) (h : ∀ b ∈ cut24.fs, @BE.val E b = true) : @BE.val E ((.cmp .leq (.atom 10) (.lit 200))) = true := h _ (List.mem_of_getElem? (i := 8) rfl)
theorem f24_9 (E : Env) (h : ∀ b ∈ cut24.fs, @BE.val E b = true) : @BE.val E ((.cmp .leq (.nat (.atom 8)) (.lit 400))) = true := h _ (List.mem_of_getElem? (i := 9) rfl)
theorem f24_29 (E : Env) (h : ∀ b ∈ cut24.fs, @BE.val E b = true) : @BE.val E ((.cmp .neq (.fn 1 cfgL) (.lit 0))) = true := h _ (List.mem_of_getElem? (i := 29) rfl)
theorem f25_0 (E : Env) (h : ∀ b ∈ cut25.fs, @BE.val E b = true) : @BE.val E ((.cmp .leq (.lit 0) (.atom 2600))) = true := h _ (List.mem_of_getElem? (i := 0) rfl)
theorem f25_3 (E : Env) (h : ∀ b ∈ cut25.fs, @BE.val E b = true) : @BE.val E ((.cmp .lss (.atom 2600) (.mx (.lit 0) (.atom 10)))) = true := h _ (List.mem_of_getElem? (i := 3) rfl)
theorem f25_7 (E : Env) (h : ∀ b ∈ cut25.fs, @BE.val E b = true) : @BE.val E ((.cmp .leq (.atom 10) (.lit 200))) = true := h _ (List.mem_of_getElem? (i := 7) rfl)
theorem f25_8 (E : Env) (h : ∀ b ∈ cut25.fs, @BE.val E b = true) : @BE.val E ((.cmp .leq (.nat (.atom 8)) (.lit 400))) = true := h _ (List.mem_of_getElem? (i := 8) rfl)
theorem f25_28 (E : Env) (h : ∀ b ∈ cut25.fs, @BE.val E b = true) : @BE.val E ((.cmp .neq (.fn 1 cfgL) (.lit 0))) = true := h _ (List.mem_of_getElem? (i := 28) rfl)
theorem f26_0 (E : Env) (h : ∀ b ∈ cut26.fs, @BE.val E b = true) : @BE.val E ((.cmp .leq (.lit 0) (.atom 2600))) = true := h _ (List.mem_of_getElem? (i := 0) rfl)
theorem f26_3 (E : Env) (h : ∀ b ∈ cut26.fs, @BE.val E b = true) : @BE.val E ((.cmp .lss (.atom 2600) (.mx (.lit 0) (.atom 10)))) = true := h _ (List.mem_of_getElem? (i := 3) rfl)
theorem f26_7 (E : Env) (h : ∀ b ∈ cut26.fs, @BE.val E b = true) : @BE.val E ((.cmp .leq (.atom 10) (.lit 200))) = true := h _ (List.mem_of_getElem? (i := 7) rfl)
theorem f26_8 (E : Env) (h : ∀ b ∈ cut26.fs, @BE.val E b = true) : @BE.val E ((.cmp .leq (.nat (.atom 8)) (.lit 400))) = true := h _ (List.mem_of_getElem? (i := 8) rfl)
theorem f26_28 (E : Env) (h : ∀ b ∈ cut26.fs, @BE.val E b = true) : @BE.val E ((.cmp .neq (.fn 1 cfgL) (.lit 0))) = true := h _ (List.mem_of_getElem? (i := 28) rfl)
theorem f27_0 (E : Env) (h : ∀ b ∈ cut27.fs, @BE.val E b = true) : @BE.val E ((.cmp .leq (.lit 0) (.atom 2862))) = true := h _ (List.mem_of_getElem? (i := 0) rfl)
theorem f27_2 (E : Env) (h : ∀ b ∈ cut27.fs, @BE.val E b = true) : @BE.val E ((.cmp .lss (.atom 2862) (.mx (.lit 0) (.atom 10)))) = true := h _ (List.mem_of_getElem? (i := 2) rfl)
theorem f27_6 (E : Env) (h : ∀ b ∈ cut27.fs, @BE.val E b = true) : @BE.val E ((.cmp .leq (.atom 10) (.lit 200))) = true := h _ (List.mem_of_getElem? (i := 6) rfl)
theorem f27_27 (E : Env) (h : ∀ b ∈ cut27.fs, @BE.val E b = true) : @BE.val E ((.cmp .neq (.fn 1 cfgL) (.lit 0))) = true := h _ (List.mem_of_getElem? (i := 27) rfl)
theorem f28_0 (E : Env) (h : ∀ b ∈ cut28.fs, @BE.val E b = true) : @BE.val E ((.cmp .leq (.lit 0) (.atom 3018))) = true := h _ (List.mem_of_getElem? (i := 0) rfl)
theorem f28_2 (E : Env) (h : ∀ b ∈ cut28.fs, @BE.val E b = true) : @BE.val E ((.cmp .eql (.fn 21 (.consL (.fn 10 (.consL (.fn 4 (.consL (.atom 0) (.consL (.atom 1) (.consL (.atom 2) (.consL (.atom 3) (.consL (.atom 4) (.consL (.atom 5) (.consL (.atom 6) (.consL (.fn 34 (.consL (.atom 9) (.consL (.atom 3027) (.consL (.atom 2) .nilL)))) (.consL (.lit 0) .nilL)))))))))) (.latom 3707))) .nilL)) (.lit 0))) = true := h _ (List.mem_of_getElem? (i := 2) rfl)
theorem f28_4 (E : Env) (h : ∀ b ∈ cut28.fs, @BE.val E b = true) : @BE.val E ((.cmp .lss (.atom 3018) (.mx (.lit 0) (.atom 10)))) = true := h _ (List.mem_of_getElem? (i := 4) rfl)
theorem f28_8 (E : Env) (h : ∀ b ∈ cut28.fs, @BE.val E b = true) : @BE.val E ((.cmp .leq (.atom 10) (.lit 200))) = true := h _ (List.mem_of_getElem? (i := 8) rfl)
theorem f28_29 (E : Env) (h : ∀ b ∈ cut28.fs, @BE.val E b = true) : @BE.val E ((.cmp .neq (.fn 1 cfgL) (.lit 0))) = true := h _ (List.mem_of_getElem? (i := 29) rfl)
theorem f29_0 (E : Env) (h : ∀ b ∈ cut29.fs, @BE.val E b = true) : @BE.val E ((.cmp .leq (.lit 0) (.atom 3018))) = true := h _ (List.mem_of_getElem? (i := 0) rfl)
theorem f29_5 (E : Env) (h : ∀ b ∈ cut29.fs, @BE.val E b = true) : @BE.val E ((.cmp .lss (.atom 3018) (.mx (.lit 0) (.atom 10)))) = true := h _ (List.mem_of_getElem? (i := 5) rfl)
theorem f29_9 (E : Env) (h : ∀ b ∈ cut29.fs, @BE.val E b = true) : @BE.val E ((.cmp .leq (.atom 10) (.lit 200))) = true := h _ (List.mem_of_getElem? (i := 9) rfl)
theorem f29_30 (E : Env) (h : ∀ b ∈ cut29.fs, @BE.val E b = true) : @BE.val E ((.cmp .neq (.fn 1 cfgL) (.lit 0))) = true := h _ (List.mem_of_getElem? (i := 30) rfl)
theorem f30_0 (E : Env) (h : ∀ b ∈ cut30.fs, @BE.val E b = true) : @BE.val E ((.cmp .leq (.lit 0) (.atom 3018))) = true := h _ (List.mem_of_getElem? (i := 0) rfl)
theorem f30_2 (E : Env) (h : ∀ b ∈ cut30.fs, @BE.val E b = true) : @BE.val E ((.cmp .lss (.op .add .i64 (.atom 3027) (.lit 1)) (.atom 2))) = true := h _ (List.mem_of_getElem? (i := 2) rfl)
theorem f30_5 (E : Env) (h : ∀ b ∈ cut30.fs, @BE.val E b = true) : @BE.val E ((.cmp .lss (.atom 3018) (.mx (.lit 0) (.atom 10)))) = true := h _ (List.mem_of_getElem? (i := 5) rfl)
theorem f30_9 (E : Env) (h : ∀ b ∈ cut30.fs, @BE.val E b = true) : @BE.val E ((.cmp .leq (.atom 10) (.lit 200))) = true := h _ (List.mem_of_getElem? (i := 9) rfl)
theorem f30_30 (E : Env) (h : ∀ b ∈ cut30.fs, @BE.val E b = true) : @BE.val E ((.cmp .neq (.fn 1 cfgL) (.lit 0))) = true := h _ (List.mem_of_getElem? (i := 30) rfl)

def MetaC (E : Env) (k : Int) : Int := cellE E (atF (E.i 9) k (E.i 2)) 0
def LTc (E : Env) (k : Int) : Prop := 0 ≤ k ∧ k < E.i 2
def WFw (w : Int) : Prop := 0 ≤ w ∧ w < 18446744073709551616 ∧ w % 4 = 0
def LenE (E : Env) (r : List Int) : Prop := (r.length : Int) = ((E.i 8).toNat : Int)
def NX (E : Env) (g n : Int) : Prop := WordP g ∧ n = iteI (ofB (g == 0)) (E.i 9) (nxF (g % 4294967296) (E.i 2))
def Phi : Nat → Env → Prop
  | 0, E => True
  | 1, E => LTc E (E.i 2606) ∧ WFw (E.i 2604) ∧ RngL (E.l 2607)
  | 2, E => NX E (E.i 2874) (E.i 2875)
  | 3, E => E.i 3026 = atF (E.i 9) (E.i 3027) (E.i 2) ∧ LTc E (E.i 3027) ∧ RngL (E.l 3030)
  | 4, E => LTc E 0 ∧ RngL (E.l 1307)
  | 5, E => LTc E (E.i 2606) ∧ WFw (E.i 2604) ∧ RngL (E.l 3307)
  | 6, E => NX E (E.i 2874) (E.i 2875)
  | 7, E => LTc E (E.i 3027) ∧ RngL (E.l 3707)
  | 8, E => LTc E 0 ∧ RngL (E.l 1307)
  | 9, E => LTc E 0 ∧ RngL (E.l 1307)
  | 10, E => LTc E 0 ∧ RngL (E.l 1307)
  | 11, E => LTc E (E.i 2606) ∧ WFw (E.i 2604) ∧ RngL (E.l 3307) ∧ LenE E (E.l 3307)
  | 12, E => LTc E (E.i 2606) ∧ WFw (E.i 2604) ∧ RngL (E.l 3307) ∧ LenE E (E.l 3307)
  | 13, E => LTc E (E.i 2606) ∧ WFw (E.i 2604) ∧ RngL (E.l 3307) ∧ LenE E (E.l 3307)
  | 14, E => NX E (E.i 2874) (E.i 2875)
  | 15, E => LTc E (E.i 3027) ∧ RngL (E.l 3707)
  | 16, E => LTc E (E.i 3027) ∧ RngL (E.l 3707)
  | 17, E => LTc E (E.i 3027) ∧ RngL (E.l 3707)
  | 18, E => LTc E 0 ∧ RngL (E.l 1307)
  | 19, E => LTc E 0 ∧ RngL (E.l 1307)
  | 20, E => LTc E 0 ∧ RngL (E.l 1307)
  | 21, E => LTc E (E.i 2606) ∧ WFw (E.i 2604) ∧ RngL (E.l 3307) ∧ LenE E (E.l 3307)
  | 22, E => LTc E (E.i 2606) ∧ WFw (E.i 2604) ∧ RngL (E.l 3307) ∧ LenE E (E.l 3307)
  | 23, E => LTc E (E.i 2606) ∧ WFw (E.i 2604) ∧ RngL (E.l 3307) ∧ LenE E (E.l 3307)
  | 24, E => LTc E (E.i 2606) ∧ WFw (E.i 2604) ∧ RngL (E.l 3307) ∧ LenE E (E.l 3307)
  | 25, E => LTc E (E.i 2606) ∧ WFw (E.i 2604) ∧ RngL (E.l 3307) ∧ LenE E (E.l 3307)
  | 26, E => LTc E (E.i 2606) ∧ WFw (E.i 2604) ∧ RngL (E.l 3307) ∧ LenE E (E.l 3307)
  | 27, E => NX E (E.i 2874) (E.i 2875)
  | 28, E => LTc E (E.i 3027) ∧ RngL (E.l 3707)
  | 29, E => LTc E (E.i 3027) ∧ RngL (E.l 3707)
  | 30, E => LTc E (E.i 3027) ∧ RngL (E.l 3707)
  | _, _ => True

theorem cap_rng {E : Env} (hr : rightE E) : 1 ≤ E.i 2 ∧ E.i 2 ≤ 64 := ⟨hr.2.2.2.2.1, hr.2.2.2.2.2.1⟩
theorem at_rng {E : Env} (hr : rightE E) {k : Int} (h : LTc E k) : 1 ≤ atF (E.i 9) k (E.i 2) ∧ atF (E.i 9) k (E.i 2) ≤ E.i 2 := by
  have := cap_rng hr
  exact atF_rng this.1 this.2 h.1 (by have := h.2; omega)
theorem up {E : Env} (hr : rightE E) {k : Int} (h : LTc E k) : IntKind.i64.wrap (k + 1) = k + 1 := by
  have := cap_rng hr
  have h1 := h.1
  have h2 := h.2
  exact wrap64_small (by omega) (by omega)
theorem nz2 {E : Env} (hr : rightE E) : (E.i 2 != 0) = true := bne_iff_ne.2 (by have := (cap_rng hr).1; omega)
theorem nz {E : Env} (hr : rightE E) (x : Bool) : (!(x && !(E.i 2 != 0))) = true := by
  rw [nz2 hr]
  cases x <;> rfl
theorem na2 {x y : Bool} (h : y = true) : (!(!x && !y)) = true := by rw [h]; cases x <;> rfl
theorem max_le {n : Int} (h : n ≤ 200) : maxI 0 n ≤ 1000 := by unfold maxI; split <;> omega
theorem step_lt {k b : Int} (hb : b ≤ 1000) (h0 : 0 ≤ k) (h : k < b) : (b - IntKind.i64.wrap (k + 1)).toNat < (b - k).toNat ∧ 0 ≤ IntKind.i64.wrap (k + 1) := by
  rw [wrap64_small (by omega) (by omega)]
  omega
theorem t1 {E : Env} (h : TabR (tabsOf pks 0) E) : ∀ i, WordP (E.t 1 i 2) := fun i => by
  have := h (1, 2, 0, 18446744073709551615) (List.mem_of_getElem? (i := 3) rfl) i
  exact ⟨this.1, Int.lt_of_le_of_lt this.2 (by decide)⟩
theorem t0 {E : Env} (h : TabR (tabsOf pks 0) E) : ∀ i, WordP (E.t 0 i 0) := fun i => by
  have := h (0, 0, 0, 18446744073709551615) (List.mem_of_getElem? (i := 0) rfl) i
  exact ⟨this.1, Int.lt_of_le_of_lt this.2 (by decide)⟩
def packE (E : Env) : Int := packF (atF (E.i 9) (E.i 2606) (E.i 2)) (slotGenF (E.i 2604)) 0
theorem pkP {E : Env} (hr : rightE E) (h : LTc E (E.i 2606)) (hw : WFw (E.i 2604)) : packP (atF (E.i 9) (E.i 2606) (E.i 2)) (slotGenF (E.i 2604)) := by
  have a := at_rng hr h
  have c := cap_rng hr
  have g := slotGen_rng hw.1
  exact ⟨by omega, by omega, g.1, g.2⟩
theorem pk_word {E : Env} (hr : rightE E) (h : LTc E (E.i 2606)) (hw : WFw (E.i 2604)) : WordP (packE E) := by
  have := pack_pos (pkP hr h hw)
  exact ⟨Int.le_of_lt this.1, this.2⟩
theorem pk_nx {E : Env} (hr : rightE E) (h : LTc E (E.i 2606)) (hw : WFw (E.i 2604)) : iteI (ofB (packE E == 0)) (E.i 9) (nxF (packE E % 4294967296) (E.i 2)) = nxF (atF (E.i 9) (E.i 2606) (E.i 2)) (E.i 2) := by
  have hp := pack_pos (pkP hr h hw)
  have hi := pack_idx (pkP hr h hw)
  have e : (packE E == 0) = false := by
    apply beq_eq_false_iff_ne.2
    show packF (atF (E.i 9) (E.i 2606) (E.i 2)) (slotGenF (E.i 2604)) 0 ≠ 0
    omega
  rw [e, iteI_ofB, if_neg (by decide), show packE E % 4294967296 = atF (E.i 9) (E.i 2606) (E.i 2) from hi]
def swV (E : Env) : Int := funs 15 (E.i 2604 :: funs 24 [1, slotGenF (E.i 2604)] :: MetaC E (E.i 2606) :: E.l 3307)
theorem swV_word {E : Env} (hr : rightE E) (hw : WFw (E.i 2604)) (hR : RngL (E.l 3307)) : WordP (swV E) := by
  have g := slotGen_rng hw.1
  unfold swV
  rw [taken_eq g]
  show WordP (if inF (MetaC E (E.i 2606)) (E.l 3307) then (if hadF (MetaC E (E.i 2606)) (E.l 3307) = E.i 2604 then 4 * slotGenF (E.i 2604) + 1 else hadF (MetaC E (E.i 2606)) (E.l 3307)) else 0)
  split
  · split
    · exact ⟨by omega, by omega⟩
    · exact hR _
  · exact ⟨by omega, by omega⟩
theorem runS (E : Env) (h1 : symRng E pks 0 0) : ObsOk E Phi obS := ⟨fun _ => trivial, trivial⟩
theorem run0_0 (E : Env) (hfs : ∀ b ∈ cut0.fs, @BE.val E b = true) (hphi : Phi 0 E) (htab : TabR (tabsOf pks 0) E) : ObsOk E Phi ob0_0 := by
  have hr : rightE E := right_of (f0_23 E hfs)
  refine ⟨fun hc => ?_, fun hc => ?_, trivial⟩
  · exact ⟨⟨Int.le_refl 0, by have := (cap_rng hr).1; exact (show 0 < E.i 2 by omega)⟩, poked_rng (t := E.t 1) (t1 htab) _ _ [_, _, _, _, _, _, _] rfl (ofTab_rng (t := fun i => E.t 0 i 0) (t0 htab) _)⟩
  · exact ⟨⟨Int.le_refl 0, by have := (cap_rng hr).1; exact (show 0 < E.i 2 by omega)⟩, poked_rng (t := E.t 1) (t1 htab) _ _ [_, _, _, _, _, _, _] rfl (ofTab_rng (t := fun i => E.t 0 i 0) (t0 htab) _)⟩
theorem run1_0 (E : Env) (hfs : ∀ b ∈ cut1.fs, @BE.val E b = true) (hphi : Phi 1 E) (htab : TabR (tabsOf pks 0) E) : ObsOk E Phi ob1_0 := by
  have hr : rightE E := right_of (f1_26 E hfs)
  obtain ⟨hlt, hw, hR⟩ : LTc E (E.i 2606) ∧ WFw (E.i 2604) ∧ RngL (E.l 2607) := id hphi
  refine ⟨fun hc => ?_, fun hc => ?_, fun hc => ?_, fun hc => ?_, trivial⟩
  · exact decide_eq_true (show 0 < atF (E.i 9) (E.i 2606) (E.i 2) by have := (at_rng hr hlt).1; omega)
  · exact ⟨hlt, hw, poked_rng (t := E.t 1) (t1 htab) _ _ [_, _, _, _, _, _, _] rfl hR⟩
  · exact decide_eq_true (show 0 < atF (E.i 9) (E.i 2606) (E.i 2) by have := (at_rng hr hlt).1; omega)
  · exact ⟨hlt, hw, poked_rng (t := E.t 1) (t1 htab) _ _ [_, _, _, _, _, _, _] rfl hR⟩
theorem run2_0 (E : Env) (hfs : ∀ b ∈ cut2.fs, @BE.val E b = true) (hphi : Phi 2 E) (htab : TabR (tabsOf pks 0) E) : ObsOk E Phi ob2_0 := by
  have hr : rightE E := right_of (f2_26 E hfs)
  have hn : NX E (E.i 2874) (E.i 2875) := id hphi
  refine ⟨fun hc => ?_, fun hc => ?_, trivial⟩
  · exact hphi
  · exact hphi
theorem run3_0 (E : Env) (hfs : ∀ b ∈ cut3.fs, @BE.val E b = true) (hphi : Phi 3 E) (htab : TabR (tabsOf pks 0) E) : ObsOk E Phi ob3_0 := by
  have hr : rightE E := right_of (f3_26 E hfs)
  obtain ⟨hat, hlt, hR⟩ : E.i 3026 = atF (E.i 9) (E.i 3027) (E.i 2) ∧ LTc E (E.i 3027) ∧ RngL (E.l 3030) := id hphi
  refine ⟨fun hc => ?_, fun hc => ?_, fun hc => ?_, fun hc => ?_, fun hc => ?_, fun hc => ?_, trivial⟩
  · exact beq_iff_eq.2 hat
  · exact decide_eq_true (show 0 < atF (E.i 9) (E.i 3027) (E.i 2) by have := (at_rng hr hlt).1; omega)
  · exact ⟨hlt, poked_rng (t := E.t 1) (t1 htab) _ _ [_, _, _, _, _, _, _] rfl hR⟩
  · exact beq_iff_eq.2 hat
  · exact decide_eq_true (show 0 < atF (E.i 9) (E.i 3027) (E.i 2) by have := (at_rng hr hlt).1; omega)
  · exact ⟨hlt, poked_rng (t := E.t 1) (t1 htab) _ _ [_, _, _, _, _, _, _] rfl hR⟩
theorem run4_0 (E : Env) (hfs : ∀ b ∈ cut4.fs, @BE.val E b = true) (hphi : Phi 4 E) (htab : TabR (tabsOf pks 0) E) : ObsOk E Phi ob4_0 := by
  have hr : rightE E := right_of (f4_26 E hfs)
  obtain ⟨hlt, hR⟩ : LTc E 0 ∧ RngL (E.l 1307) := id hphi
  refine ⟨fun hc => ?_, fun hc => ?_, fun hc => ?_, fun hc => ?_, fun hc => ?_, fun hc => ?_, trivial⟩
  · exact decide_eq_true (show 0 ≤ hadF (MetaC E 0) (E.l 1307) from (hR _).1)
  · exact decide_eq_true (show hadF (MetaC E 0) (E.l 1307) < 18446744073709551616 from (hR _).2)
  · exact nz hr _
  · exact hphi
  · exact hphi
  · exact hphi
theorem run5_0 (E : Env) (hfs : ∀ b ∈ cut5.fs, @BE.val E b = true) (hphi : Phi 5 E) (htab : TabR (tabsOf pks 0) E) : ObsOk E Phi ob5_0 := by
  have hr : rightE E := right_of (f5_28 E hfs)
  obtain ⟨hlt, hw, hR⟩ : LTc E (E.i 2606) ∧ WFw (E.i 2604) ∧ RngL (E.l 3307) := id hphi
  have hlen : LenE E (E.l 3307) := eq_of_beq (f5_2 E hfs)
  refine ⟨fun hc => ?_, fun hc => ?_, fun hc => ?_, fun hc => ?_, fun hc => ?_, fun hc => ?_, fun hc => ?_, trivial⟩
  · exact decide_eq_true (show 0 ≤ E.i 2604 from hw.1)
  · exact decide_eq_true (show E.i 2604 < 18446744073709551616 from hw.2.1)
  · exact nz hr _
  · exact nz hr _
  · exact ⟨hlt, hw, hR, hlen⟩
  · exact ⟨hlt, hw, hR, hlen⟩
  · exact ⟨hlt, hw, hR, hlen⟩
theorem run6_0 (E : Env) (hfs : ∀ b ∈ cut6.fs, @BE.val E b = true) (hphi : Phi 6 E) (htab : TabR (tabsOf pks 0) E) : ObsOk E Phi ob6_0 := by
  have hr : rightE E := right_of (f6_27 E hfs)
  have hn : NX E (E.i 2874) (E.i 2875) := id hphi
  refine ⟨fun hc => ?_, trivial⟩
  · exact hphi
theorem run7_0 (E : Env) (hfs : ∀ b ∈ cut7.fs, @BE.val E b = true) (hphi : Phi 7 E) (htab : TabR (tabsOf pks 0) E) : ObsOk E Phi ob7_0 := by
  have hr : rightE E := right_of (f7_28 E hfs)
  obtain ⟨hlt, hR⟩ : LTc E (E.i 3027) ∧ RngL (E.l 3707) := id hphi
  refine ⟨fun hc => ?_, fun hc => ?_, fun hc => ?_, fun hc => ?_, fun hc => ?_, fun hc => ?_, trivial⟩
  · exact decide_eq_true (show 0 ≤ hadF (MetaC E (E.i 3027)) (E.l 3707) from (hR _).1)
  · exact decide_eq_true (show hadF (MetaC E (E.i 3027)) (E.l 3707) < 18446744073709551616 from (hR _).2)
  · exact nz hr _
  · exact hphi
  · exact hphi
  · exact hphi
theorem run8_0 (E : Env) (hfs : ∀ b ∈ cut8.fs, @BE.val E b = true) (hphi : Phi 8 E) (htab : TabR (tabsOf pks 0) E) : ObsOk E Phi ob8_0 := by
  have hr : rightE E := right_of (f8_27 E hfs)
  obtain ⟨hlt, hR⟩ : LTc E 0 ∧ RngL (E.l 1307) := id hphi
  refine ⟨fun hc => ?_, fun hc => ?_, fun hc => ?_, fun hc => ?_, trivial⟩
  · exact nz2 hr
  · exact decide_eq_true (show 0 ≤ hadF (MetaC E 0) (E.l 1307) from (hR _).1)
  · exact decide_eq_true (show hadF (MetaC E 0) (E.l 1307) < 18446744073709551616 from (hR _).2)
  · exact hphi
theorem run9_0 (E : Env) (hfs : ∀ b ∈ cut9.fs, @BE.val E b = true) (hphi : Phi 9 E) (htab : TabR (tabsOf pks 0) E) : ObsOk E Phi ob9_0 := by
  have hr : rightE E := right_of (f9_28 E hfs)
  obtain ⟨hlt, hR⟩ : LTc E 0 ∧ RngL (E.l 1307) := id hphi
  refine ⟨fun hc => ?_, fun hc => ?_, fun hc => ?_, fun hc => ?_, trivial⟩
  · exact nz2 hr
  · exact decide_eq_true (show 0 ≤ hadF (MetaC E 0) (E.l 1307) from (hR _).1)
  · exact decide_eq_true (show hadF (MetaC E 0) (E.l 1307) < 18446744073709551616 from (hR _).2)
  · exact hphi
theorem run10_0 (E : Env) (hfs : ∀ b ∈ cut10.fs, @BE.val E b = true) (hphi : Phi 10 E) (htab : TabR (tabsOf pks 0) E) : ObsOk E Phi ob10_0 := by
  have hr : rightE E := right_of (f10_28 E hfs)
  obtain ⟨hlt, hR⟩ : LTc E 0 ∧ RngL (E.l 1307) := id hphi
  refine ⟨fun hc => ?_, fun hc => ?_, fun hc => ?_, fun hc => ?_, trivial⟩
  · exact nz2 hr
  · exact decide_eq_true (show 0 ≤ hadF (MetaC E 0) (E.l 1307) from (hR _).1)
  · exact decide_eq_true (show hadF (MetaC E 0) (E.l 1307) < 18446744073709551616 from (hR _).2)
  · exact hphi
theorem run11_0 (E : Env) (hfs : ∀ b ∈ cut11.fs, @BE.val E b = true) (hphi : Phi 11 E) (htab : TabR (tabsOf pks 0) E) : ObsOk E Phi ob11_0 := by
  have hr : rightE E := right_of (f11_30 E hfs)
  obtain ⟨hlt, hw, hR, hlen⟩ : LTc E (E.i 2606) ∧ WFw (E.i 2604) ∧ RngL (E.l 3307) ∧ LenE E (E.l 3307) := id hphi
  refine ⟨fun hc => ?_, fun hc => ?_, fun hc => ?_, fun hc => ?_, fun hc => ?_, trivial⟩
  · exact nz2 hr
  · exact decide_eq_true (show 0 ≤ E.i 2604 from hw.1)
  · exact decide_eq_true (show E.i 2604 < 18446744073709551616 from hw.2.1)
  · exact hphi
  · exact hphi
theorem run12_0 (E : Env) (hfs : ∀ b ∈ cut12.fs, @BE.val E b = true) (hphi : Phi 12 E) (htab : TabR (tabsOf pks 0) E) : ObsOk E Phi ob12_0 := by
  have hr : rightE E := right_of (f12_30 E hfs)
  obtain ⟨hlt, hw, hR, hlen⟩ : LTc E (E.i 2606) ∧ WFw (E.i 2604) ∧ RngL (E.l 3307) ∧ LenE E (E.l 3307) := id hphi
  refine ⟨fun hc => ?_, fun hc => ?_, fun hc => ?_, fun hc => ?_, fun hc => ?_, trivial⟩
  · exact nz2 hr
  · exact decide_eq_true (show 0 ≤ E.i 2604 from hw.1)
  · exact decide_eq_true (show E.i 2604 < 18446744073709551616 from hw.2.1)
  · exact hphi
  · exact hphi
theorem run13_0 (E : Env) (hfs : ∀ b ∈ cut13.fs, @BE.val E b = true) (hphi : Phi 13 E) (htab : TabR (tabsOf pks 0) E) : ObsOk E Phi ob13_0 := by
  have hr : rightE E := right_of (f13_29 E hfs)
  obtain ⟨hlt, hw, hR, hlen⟩ : LTc E (E.i 2606) ∧ WFw (E.i 2604) ∧ RngL (E.l 3307) ∧ LenE E (E.l 3307) := id hphi
  refine ⟨fun hc => ?_, fun hc => ?_, fun hc => ?_, fun hc => ?_, fun hc => ?_, trivial⟩
  · exact nz2 hr
  · exact decide_eq_true (show 0 ≤ E.i 2604 from hw.1)
  · exact decide_eq_true (show E.i 2604 < 18446744073709551616 from hw.2.1)
  · exact hphi
  · exact hphi
theorem run14_0 (E : Env) (hfs : ∀ b ∈ cut14.fs, @BE.val E b = true) (hphi : Phi 14 E) (htab : TabR (tabsOf pks 0) E) : ObsOk E Phi ob14_0 := by
  have hr : rightE E := right_of (f14_27 E hfs)
  have hn : NX E (E.i 2874) (E.i 2875) := id hphi
  refine ⟨fun hc => ?_, trivial⟩
  · exact hphi
theorem run15_0 (E : Env) (hfs : ∀ b ∈ cut15.fs, @BE.val E b = true) (hphi : Phi 15 E) (htab : TabR (tabsOf pks 0) E) : ObsOk E Phi ob15_0 := by
  have hr : rightE E := right_of (f15_29 E hfs)
  obtain ⟨hlt, hR⟩ : LTc E (E.i 3027) ∧ RngL (E.l 3707) := id hphi
  refine ⟨fun hc => ?_, fun hc => ?_, fun hc => ?_, fun hc => ?_, trivial⟩
  · exact nz2 hr
  · exact decide_eq_true (show 0 ≤ hadF (MetaC E (E.i 3027)) (E.l 3707) from (hR _).1)
  · exact decide_eq_true (show hadF (MetaC E (E.i 3027)) (E.l 3707) < 18446744073709551616 from (hR _).2)
  · exact hphi
theorem run16_0 (E : Env) (hfs : ∀ b ∈ cut16.fs, @BE.val E b = true) (hphi : Phi 16 E) (htab : TabR (tabsOf pks 0) E) : ObsOk E Phi ob16_0 := by
  have hr : rightE E := right_of (f16_30 E hfs)
  obtain ⟨hlt, hR⟩ : LTc E (E.i 3027) ∧ RngL (E.l 3707) := id hphi
  refine ⟨fun hc => ?_, fun hc => ?_, fun hc => ?_, fun hc => ?_, trivial⟩
  · exact nz2 hr
  · exact decide_eq_true (show 0 ≤ hadF (MetaC E (E.i 3027)) (E.l 3707) from (hR _).1)
  · exact decide_eq_true (show hadF (MetaC E (E.i 3027)) (E.l 3707) < 18446744073709551616 from (hR _).2)
  · exact ⟨⟨Int.le_refl 0, (by decide : (0 : Int) < 18446744073709551616)⟩, rfl⟩
theorem run17_0 (E : Env) (hfs : ∀ b ∈ cut17.fs, @BE.val E b = true) (hphi : Phi 17 E) (htab : TabR (tabsOf pks 0) E) : ObsOk E Phi ob17_0 := by
  have hr : rightE E := right_of (f17_30 E hfs)
  obtain ⟨hlt, hR⟩ : LTc E (E.i 3027) ∧ RngL (E.l 3707) := id hphi
  refine ⟨fun hc => ?_, fun hc => ?_, fun hc => ?_, fun hc => ?_, trivial⟩
  · exact nz2 hr
  · exact decide_eq_true (show 0 ≤ hadF (MetaC E (E.i 3027)) (E.l 3707) from (hR _).1)
  · exact decide_eq_true (show hadF (MetaC E (E.i 3027)) (E.l 3707) < 18446744073709551616 from (hR _).2)
  · exact hphi
theorem run18_0 (E : Env) (hfs : ∀ b ∈ cut18.fs, @BE.val E b = true) (hphi : Phi 18 E) (htab : TabR (tabsOf pks 0) E) : ObsOk E Phi ob18_0 := by
  have hr : rightE E := right_of (f18_27 E hfs)
  obtain ⟨hlt, hR⟩ : LTc E 0 ∧ RngL (E.l 1307) := id hphi
  have hb : maxI 0 (E.i 10) ≤ 1000 := max_le (of_decide_eq_true (f18_6 E hfs))
  have hk : 0 < maxI 0 (E.i 10) := of_decide_eq_true (f18_3 E hfs)
  refine ⟨fun hc => ?_, fun hc => ?_, trivial⟩
  · exact .inl (show (maxI 0 (E.i 10) - 1).toNat < (maxI 0 (E.i 10) - 0).toNat by omega)
  · exact ⟨hlt, ⟨(hR _).1, (hR _).2, eq_of_beq (f18_2 E hfs)⟩, hR⟩
theorem run19_0 (E : Env) (hfs : ∀ b ∈ cut19.fs, @BE.val E b = true) (hphi : Phi 19 E) (htab : TabR (tabsOf pks 0) E) : ObsOk E Phi ob19_0 := by
  have hr : rightE E := right_of (f19_28 E hfs)
  obtain ⟨hlt, hR⟩ : LTc E 0 ∧ RngL (E.l 1307) := id hphi
  have hb : maxI 0 (E.i 10) ≤ 1000 := max_le (of_decide_eq_true (f19_7 E hfs))
  have hk : 0 < maxI 0 (E.i 10) := of_decide_eq_true (f19_4 E hfs)
  refine ⟨fun hc => ?_, fun hc => ?_, trivial⟩
  · exact .inl (show (maxI 0 (E.i 10) - 1).toNat < (maxI 0 (E.i 10) - 0).toNat by omega)
  · exact ⟨⟨Int.le_refl 0, (by decide : (0 : Int) < 18446744073709551616)⟩, rfl⟩
theorem run20_0 (E : Env) (hfs : ∀ b ∈ cut20.fs, @BE.val E b = true) (hphi : Phi 20 E) (htab : TabR (tabsOf pks 0) E) : ObsOk E Phi ob20_0 := by
  have hr : rightE E := right_of (f20_28 E hfs)
  obtain ⟨hlt, hR⟩ : LTc E 0 ∧ RngL (E.l 1307) := id hphi
  have hb : maxI 0 (E.i 10) ≤ 1000 := max_le (of_decide_eq_true (f20_7 E hfs))
  have hk : 0 < maxI 0 (E.i 10) := of_decide_eq_true (f20_4 E hfs)
  refine ⟨fun hc => ?_, fun hc => ?_, trivial⟩
  · exact .inl (show (maxI 0 (E.i 10) - 1).toNat < (maxI 0 (E.i 10) - 0).toNat by omega)
  · exact ⟨by show nxF (atF (E.i 9) 0 (E.i 2)) (E.i 2) = atF (E.i 9) 1 (E.i 2); exact atF_succ (cap_rng hr).1 (cap_rng hr).2 (Int.le_refl 0) (by omega), ⟨(show (0 : Int) ≤ 1 by omega), of_decide_eq_true (f20_2 E hfs)⟩, hR⟩
theorem run21_0 (E : Env) (hfs : ∀ b ∈ cut21.fs, @BE.val E b = true) (hphi : Phi 21 E) (htab : TabR (tabsOf pks 0) E) : ObsOk E Phi ob21_0 := by
  have hr : rightE E := right_of (f21_29 E hfs)
  obtain ⟨hlt, hw, hR, hlen⟩ : LTc E (E.i 2606) ∧ WFw (E.i 2604) ∧ RngL (E.l 3307) ∧ LenE E (E.l 3307) := id hphi
  have hb : maxI 0 (E.i 10) ≤ 1000 := max_le (of_decide_eq_true (f21_8 E hfs))
  have hk0 : 0 ≤ E.i 2600 := of_decide_eq_true (f21_0 E hfs)
  have hk : E.i 2600 < maxI 0 (E.i 10) := of_decide_eq_true (f21_4 E hfs)
  refine ⟨fun hc => ?_, fun hc => ?_, fun hc => ?_, fun hc => ?_, fun hc => ?_, trivial⟩
  · exact decide_eq_true (show ((E.l 3307).length : Int) ≤ 31274997412295 by have : ((E.i 8).toNat : Int) ≤ 400 := of_decide_eq_true (f21_9 E hfs); unfold LenE at hlen; omega)
  · exact .inl (show (maxI 0 (E.i 10) - IntKind.i64.wrap (E.i 2600 + 1)).toNat < (maxI 0 (E.i 10) - E.i 2600).toNat from (step_lt hb hk0 hk).1)
  · exact decide_eq_true (show 0 ≤ IntKind.i64.wrap (E.i 2600 + 1) from (step_lt hb hk0 hk).2)
  · exact beq_iff_eq.2 (show ((updF (MetaC E (E.i 2606)) (swV E) (E.l 3307)).length : Int) = ((E.i 8).toNat : Int) by rw [length_updF]; exact hlen)
  · exact ⟨⟨Int.le_refl 0, (by decide : (0 : Int) < 18446744073709551616)⟩, rfl⟩
theorem run22_0 (E : Env) (hfs : ∀ b ∈ cut22.fs, @BE.val E b = true) (hphi : Phi 22 E) (htab : TabR (tabsOf pks 0) E) : ObsOk E Phi ob22_0 := by
  have hr : rightE E := right_of (f22_29 E hfs)
  obtain ⟨hlt, hw, hR, hlen⟩ : LTc E (E.i 2606) ∧ WFw (E.i 2604) ∧ RngL (E.l 3307) ∧ LenE E (E.l 3307) := id hphi
  have hb : maxI 0 (E.i 10) ≤ 1000 := max_le (of_decide_eq_true (f22_8 E hfs))
  have hk0 : 0 ≤ E.i 2600 := of_decide_eq_true (f22_0 E hfs)
  have hk : E.i 2600 < maxI 0 (E.i 10) := of_decide_eq_true (f22_4 E hfs)
  refine ⟨fun hc => ?_, fun hc => ?_, fun hc => ?_, fun hc => ?_, fun hc => ?_, trivial⟩
  · exact decide_eq_true (show ((E.l 3307).length : Int) ≤ 31274997412295 by have : ((E.i 8).toNat : Int) ≤ 400 := of_decide_eq_true (f22_9 E hfs); unfold LenE at hlen; omega)
  · exact .inl (show (maxI 0 (E.i 10) - IntKind.i64.wrap (E.i 2600 + 1)).toNat < (maxI 0 (E.i 10) - E.i 2600).toNat from (step_lt hb hk0 hk).1)
  · exact decide_eq_true (show 0 ≤ IntKind.i64.wrap (E.i 2600 + 1) from (step_lt hb hk0 hk).2)
  · exact beq_iff_eq.2 (show ((updF (MetaC E (E.i 2606)) (swV E) (E.l 3307)).length : Int) = ((E.i 8).toNat : Int) by rw [length_updF]; exact hlen)
  · exact ⟨⟨Int.le_refl 0, (by decide : (0 : Int) < 18446744073709551616)⟩, rfl⟩
theorem run23_0 (E : Env) (hfs : ∀ b ∈ cut23.fs, @BE.val E b = true) (hphi : Phi 23 E) (htab : TabR (tabsOf pks 0) E) : ObsOk E Phi ob23_0 := by
  have hr : rightE E := right_of (f23_29 E hfs)
  obtain ⟨hlt, hw, hR, hlen⟩ : LTc E (E.i 2606) ∧ WFw (E.i 2604) ∧ RngL (E.l 3307) ∧ LenE E (E.l 3307) := id hphi
  have hb : maxI 0 (E.i 10) ≤ 1000 := max_le (of_decide_eq_true (f23_8 E hfs))
  have hk0 : 0 ≤ E.i 2600 := of_decide_eq_true (f23_0 E hfs)
  have hk : E.i 2600 < maxI 0 (E.i 10) := of_decide_eq_true (f23_4 E hfs)
  refine ⟨fun hc => ?_, fun hc => ?_, fun hc => ?_, fun hc => ?_, fun hc => ?_, trivial⟩
  · exact decide_eq_true (show ((E.l 3307).length : Int) ≤ 31274997412295 by have : ((E.i 8).toNat : Int) ≤ 400 := of_decide_eq_true (f23_9 E hfs); unfold LenE at hlen; omega)
  · exact .inl (show (maxI 0 (E.i 10) - IntKind.i64.wrap (E.i 2600 + 1)).toNat < (maxI 0 (E.i 10) - E.i 2600).toNat from (step_lt hb hk0 hk).1)
  · exact decide_eq_true (show 0 ≤ IntKind.i64.wrap (E.i 2600 + 1) from (step_lt hb hk0 hk).2)
  · exact beq_iff_eq.2 (show ((updF (MetaC E (E.i 2606)) (swV E) (E.l 3307)).length : Int) = ((E.i 8).toNat : Int) by rw [length_updF]; exact hlen)
  · exact ⟨by show nxF (atF (E.i 9) (E.i 2606) (E.i 2)) (E.i 2) = atF (E.i 9) (IntKind.i64.wrap (E.i 2606 + 1)) (E.i 2); rw [up hr hlt]; exact atF_succ (cap_rng hr).1 (cap_rng hr).2 hlt.1 (by have := (cap_rng hr).2; have := hlt.2; omega), ⟨by show 0 ≤ IntKind.i64.wrap (E.i 2606 + 1); rw [up hr hlt]; have := hlt.1; omega, of_decide_eq_true (f23_1 E hfs)⟩, hR.upd (swV_word hr hw hR)⟩
theorem run24_0 (E : Env) (hfs : ∀ b ∈ cut24.fs, @BE.val E b = true) (hphi : Phi 24 E) (htab : TabR (tabsOf pks 0) E) : ObsOk E Phi ob24_0 := by
  have hr : rightE E := right_of (f24_29 E hfs)
  obtain ⟨hlt, hw, hR, hlen⟩ : LTc E (E.i 2606) ∧ WFw (E.i 2604) ∧ RngL (E.l 3307) ∧ LenE E (E.l 3307) := id hphi
  have hb : maxI 0 (E.i 10) ≤ 1000 := max_le (of_decide_eq_true (f24_8 E hfs))
  have hk0 : 0 ≤ E.i 2600 := of_decide_eq_true (f24_0 E hfs)
  have hk : E.i 2600 < maxI 0 (E.i 10) := of_decide_eq_true (f24_4 E hfs)
  refine ⟨fun hc => ?_, fun hc => ?_, fun hc => ?_, fun hc => ?_, fun hc => ?_, trivial⟩
  · exact decide_eq_true (show ((E.l 3307).length : Int) ≤ 31274997412295 by have : ((E.i 8).toNat : Int) ≤ 400 := of_decide_eq_true (f24_9 E hfs); unfold LenE at hlen; omega)
  · exact .inl (show (maxI 0 (E.i 10) - IntKind.i64.wrap (E.i 2600 + 1)).toNat < (maxI 0 (E.i 10) - E.i 2600).toNat from (step_lt hb hk0 hk).1)
  · exact decide_eq_true (show 0 ≤ IntKind.i64.wrap (E.i 2600 + 1) from (step_lt hb hk0 hk).2)
  · exact beq_iff_eq.2 (show ((updF (MetaC E (E.i 2606)) (swV E) (E.l 3307)).length : Int) = ((E.i 8).toNat : Int) by rw [length_updF]; exact hlen)
  · exact ⟨by show nxF (atF (E.i 9) (E.i 2606) (E.i 2)) (E.i 2) = atF (E.i 9) (IntKind.i64.wrap (E.i 2606 + 1)) (E.i 2); rw [up hr hlt]; exact atF_succ (cap_rng hr).1 (cap_rng hr).2 hlt.1 (by have := (cap_rng hr).2; have := hlt.2; omega), ⟨by show 0 ≤ IntKind.i64.wrap (E.i 2606 + 1); rw [up hr hlt]; have := hlt.1; omega, of_decide_eq_true (f24_1 E hfs)⟩, hR.upd (swV_word hr hw hR)⟩
theorem run25_0 (E : Env) (hfs : ∀ b ∈ cut25.fs, @BE.val E b = true) (hphi : Phi 25 E) (htab : TabR (tabsOf pks 0) E) : ObsOk E Phi ob25_0 := by
  have hr : rightE E := right_of (f25_28 E hfs)
  obtain ⟨hlt, hw, hR, hlen⟩ : LTc E (E.i 2606) ∧ WFw (E.i 2604) ∧ RngL (E.l 3307) ∧ LenE E (E.l 3307) := id hphi
  have hb : maxI 0 (E.i 10) ≤ 1000 := max_le (of_decide_eq_true (f25_7 E hfs))
  have hk0 : 0 ≤ E.i 2600 := of_decide_eq_true (f25_0 E hfs)
  have hk : E.i 2600 < maxI 0 (E.i 10) := of_decide_eq_true (f25_3 E hfs)
  refine ⟨fun hc => ?_, fun hc => ?_, fun hc => ?_, fun hc => ?_, fun hc => ?_, fun hc => ?_, fun hc => ?_, fun hc => ?_, trivial⟩
  · exact decide_eq_true (show ((E.l 3307).length : Int) ≤ 31274997412295 by have : ((E.i 8).toNat : Int) ≤ 400 := of_decide_eq_true (f25_8 E hfs); unfold LenE at hlen; omega)
  · exact na2 (decide_eq_true (show packE E ≥ 0 from (pk_word hr hlt hw).1))
  · exact na2 (decide_eq_true (show packE E < 18446744073709551616 from (pk_word hr hlt hw).2))
  · exfalso
    have h1 := hc.1
    have h2 : (nxF (atF (E.i 9) (E.i 2606) (E.i 2)) (E.i 2) != iteI (ofB (packE E == 0)) (E.i 9) (nxF (packE E % 4294967296) (E.i 2))) = true := h1
    rw [pk_nx hr hlt hw] at h2
    simp at h2
  · exact .inl (show (maxI 0 (E.i 10) - IntKind.i64.wrap (E.i 2600 + 1)).toNat < (maxI 0 (E.i 10) - E.i 2600).toNat from (step_lt hb hk0 hk).1)
  · exact decide_eq_true (show 0 ≤ IntKind.i64.wrap (E.i 2600 + 1) from (step_lt hb hk0 hk).2)
  · exact beq_iff_eq.2 (show ((updF (MetaC E (E.i 2606)) (swV E) (E.l 3307)).length : Int) = ((E.i 8).toNat : Int) by rw [length_updF]; exact hlen)
  · exact ⟨pk_word hr hlt hw, (pk_nx hr hlt hw).symm⟩
theorem run26_0 (E : Env) (hfs : ∀ b ∈ cut26.fs, @BE.val E b = true) (hphi : Phi 26 E) (htab : TabR (tabsOf pks 0) E) : ObsOk E Phi ob26_0 := by
  have hr : rightE E := right_of (f26_28 E hfs)
  obtain ⟨hlt, hw, hR, hlen⟩ : LTc E (E.i 2606) ∧ WFw (E.i 2604) ∧ RngL (E.l 3307) ∧ LenE E (E.l 3307) := id hphi
  have hb : maxI 0 (E.i 10) ≤ 1000 := max_le (of_decide_eq_true (f26_7 E hfs))
  have hk0 : 0 ≤ E.i 2600 := of_decide_eq_true (f26_0 E hfs)
  have hk : E.i 2600 < maxI 0 (E.i 10) := of_decide_eq_true (f26_3 E hfs)
  refine ⟨fun hc => ?_, fun hc => ?_, fun hc => ?_, fun hc => ?_, fun hc => ?_, fun hc => ?_, fun hc => ?_, fun hc => ?_, trivial⟩
  · exact decide_eq_true (show ((E.l 3307).length : Int) ≤ 31274997412295 by have : ((E.i 8).toNat : Int) ≤ 400 := of_decide_eq_true (f26_8 E hfs); unfold LenE at hlen; omega)
  · exact na2 (decide_eq_true (show packE E ≥ 0 from (pk_word hr hlt hw).1))
  · exact na2 (decide_eq_true (show packE E < 18446744073709551616 from (pk_word hr hlt hw).2))
  · exfalso
    have h1 := hc.1
    have h2 : (nxF (atF (E.i 9) (E.i 2606) (E.i 2)) (E.i 2) != iteI (ofB (packE E == 0)) (E.i 9) (nxF (packE E % 4294967296) (E.i 2))) = true := h1
    rw [pk_nx hr hlt hw] at h2
    simp at h2
  · exact .inl (show (maxI 0 (E.i 10) - IntKind.i64.wrap (E.i 2600 + 1)).toNat < (maxI 0 (E.i 10) - E.i 2600).toNat from (step_lt hb hk0 hk).1)
  · exact decide_eq_true (show 0 ≤ IntKind.i64.wrap (E.i 2600 + 1) from (step_lt hb hk0 hk).2)
  · exact beq_iff_eq.2 (show ((updF (MetaC E (E.i 2606)) (swV E) (E.l 3307)).length : Int) = ((E.i 8).toNat : Int) by rw [length_updF]; exact hlen)
  · exact ⟨pk_word hr hlt hw, (pk_nx hr hlt hw).symm⟩
theorem run27_0 (E : Env) (hfs : ∀ b ∈ cut27.fs, @BE.val E b = true) (hphi : Phi 27 E) (htab : TabR (tabsOf pks 0) E) : ObsOk E Phi ob27_0 := by
  have hr : rightE E := right_of (f27_27 E hfs)
  have hn : NX E (E.i 2874) (E.i 2875) := id hphi
  have hb : maxI 0 (E.i 10) ≤ 1000 := max_le (of_decide_eq_true (f27_6 E hfs))
  have hk0 : 0 ≤ E.i 2862 := of_decide_eq_true (f27_0 E hfs)
  have hk : E.i 2862 < maxI 0 (E.i 10) := of_decide_eq_true (f27_2 E hfs)
  refine ⟨fun hc => ?_, fun hc => ?_, fun hc => ?_, fun hc => ?_, fun hc => ?_, fun hc => ?_, trivial⟩
  · exact na2 (decide_eq_true (show E.i 2874 ≥ 0 from hn.1.1))
  · exact na2 (decide_eq_true (show E.i 2874 < 18446744073709551616 from hn.1.2))
  · exfalso
    have h1 := hc.1
    have h2 : (E.i 2875 != iteI (ofB (E.i 2874 == 0)) (E.i 9) (nxF (E.i 2874 % 4294967296) (E.i 2))) = true := h1
    rw [hn.2] at h2
    simp at h2
  · exact .inl (show (maxI 0 (E.i 10) - IntKind.i64.wrap (E.i 2862 + 1)).toNat < (maxI 0 (E.i 10) - E.i 2862).toNat from (step_lt hb hk0 hk).1)
  · exact decide_eq_true (show 0 ≤ IntKind.i64.wrap (E.i 2862 + 1) from (step_lt hb hk0 hk).2)
  · exact hphi
theorem run28_0 (E : Env) (hfs : ∀ b ∈ cut28.fs, @BE.val E b = true) (hphi : Phi 28 E) (htab : TabR (tabsOf pks 0) E) : ObsOk E Phi ob28_0 := by
  have hr : rightE E := right_of (f28_29 E hfs)
  obtain ⟨hlt, hR⟩ : LTc E (E.i 3027) ∧ RngL (E.l 3707) := id hphi
  have hb : maxI 0 (E.i 10) ≤ 1000 := max_le (of_decide_eq_true (f28_8 E hfs))
  have hk0 : 0 ≤ E.i 3018 := of_decide_eq_true (f28_0 E hfs)
  have hk : E.i 3018 < maxI 0 (E.i 10) := of_decide_eq_true (f28_4 E hfs)
  refine ⟨fun hc => ?_, fun hc => ?_, fun hc => ?_, trivial⟩
  · exact .inl (show (maxI 0 (E.i 10) - IntKind.i64.wrap (E.i 3018 + 1)).toNat < (maxI 0 (E.i 10) - E.i 3018).toNat from (step_lt hb hk0 hk).1)
  · exact decide_eq_true (show 0 ≤ IntKind.i64.wrap (E.i 3018 + 1) from (step_lt hb hk0 hk).2)
  · exact ⟨hlt, ⟨(hR _).1, (hR _).2, eq_of_beq (f28_2 E hfs)⟩, hR⟩
theorem run29_0 (E : Env) (hfs : ∀ b ∈ cut29.fs, @BE.val E b = true) (hphi : Phi 29 E) (htab : TabR (tabsOf pks 0) E) : ObsOk E Phi ob29_0 := by
  have hr : rightE E := right_of (f29_30 E hfs)
  obtain ⟨hlt, hR⟩ : LTc E (E.i 3027) ∧ RngL (E.l 3707) := id hphi
  have hb : maxI 0 (E.i 10) ≤ 1000 := max_le (of_decide_eq_true (f29_9 E hfs))
  have hk0 : 0 ≤ E.i 3018 := of_decide_eq_true (f29_0 E hfs)
  have hk : E.i 3018 < maxI 0 (E.i 10) := of_decide_eq_true (f29_5 E hfs)
  refine ⟨fun hc => ?_, fun hc => ?_, fun hc => ?_, trivial⟩
  · exact .inl (show (maxI 0 (E.i 10) - IntKind.i64.wrap (E.i 3018 + 1)).toNat < (maxI 0 (E.i 10) - E.i 3018).toNat from (step_lt hb hk0 hk).1)
  · exact decide_eq_true (show 0 ≤ IntKind.i64.wrap (E.i 3018 + 1) from (step_lt hb hk0 hk).2)
  · exact ⟨⟨Int.le_refl 0, (by decide : (0 : Int) < 18446744073709551616)⟩, rfl⟩
theorem run30_0 (E : Env) (hfs : ∀ b ∈ cut30.fs, @BE.val E b = true) (hphi : Phi 30 E) (htab : TabR (tabsOf pks 0) E) : ObsOk E Phi ob30_0 := by
  have hr : rightE E := right_of (f30_30 E hfs)
  obtain ⟨hlt, hR⟩ : LTc E (E.i 3027) ∧ RngL (E.l 3707) := id hphi
  have hb : maxI 0 (E.i 10) ≤ 1000 := max_le (of_decide_eq_true (f30_9 E hfs))
  have hk0 : 0 ≤ E.i 3018 := of_decide_eq_true (f30_0 E hfs)
  have hk : E.i 3018 < maxI 0 (E.i 10) := of_decide_eq_true (f30_5 E hfs)
  refine ⟨fun hc => ?_, fun hc => ?_, fun hc => ?_, trivial⟩
  · exact .inl (show (maxI 0 (E.i 10) - IntKind.i64.wrap (E.i 3018 + 1)).toNat < (maxI 0 (E.i 10) - E.i 3018).toNat from (step_lt hb hk0 hk).1)
  · exact decide_eq_true (show 0 ≤ IntKind.i64.wrap (E.i 3018 + 1) from (step_lt hb hk0 hk).2)
  · exact ⟨by show nxF (atF (E.i 9) (E.i 3027) (E.i 2)) (E.i 2) = atF (E.i 9) (IntKind.i64.wrap (E.i 3027 + 1)) (E.i 2); rw [up hr hlt]; exact atF_succ (cap_rng hr).1 (cap_rng hr).2 hlt.1 (by have := (cap_rng hr).2; have := hlt.2; omega), ⟨by show 0 ≤ IntKind.i64.wrap (E.i 3027 + 1); rw [up hr hlt]; have := hlt.1; omega, of_decide_eq_true (f30_2 E hfs)⟩, hR⟩
theorem part0 (E : Env) (hfs : ∀ b ∈ cut0.fs, @BE.val E b = true) (hphi : Phi 0 E) (htab : TabR (tabsOf pks 0) E) : ∃ (ex : List BE) (rw : List (IE × IE)), (∀ b ∈ ex, @BE.val E b = true) ∧ Owed E Phi (oweAtR (tabsOf pks 0) ths [] Try.prog Try.f7 (rootOf Try.f7) base9 (extraS Try.prog) cuts cut0 ex rw) :=
  ⟨[], rw0, Bk.nn, Owed.eq (@e0_0 E) (run0_0 E hfs hphi htab)⟩
theorem part1 (E : Env) (hfs : ∀ b ∈ cut1.fs, @BE.val E b = true) (hphi : Phi 1 E) (htab : TabR (tabsOf pks 0) E) : ∃ (ex : List BE) (rw : List (IE × IE)), (∀ b ∈ ex, @BE.val E b = true) ∧ Owed E Phi (oweAtR (tabsOf pks 0) ths [] Try.prog Try.f7 (rootOf Try.f7) base9 (extraS Try.prog) cuts cut1 ex rw) :=
  ⟨[], rw1, Bk.nn, Owed.eq (@e1_0 E) (run1_0 E hfs hphi htab)⟩
theorem part2 (E : Env) (hfs : ∀ b ∈ cut2.fs, @BE.val E b = true) (hphi : Phi 2 E) (htab : TabR (tabsOf pks 0) E) : ∃ (ex : List BE) (rw : List (IE × IE)), (∀ b ∈ ex, @BE.val E b = true) ∧ Owed E Phi (oweAtR (tabsOf pks 0) ths [] Try.prog Try.f7 (rootOf Try.f7) base9 (extraS Try.prog) cuts cut2 ex rw) :=
  ⟨[], rw2, Bk.nn, Owed.eq (@e2_0 E) (run2_0 E hfs hphi htab)⟩
theorem part3 (E : Env) (hfs : ∀ b ∈ cut3.fs, @BE.val E b = true) (hphi : Phi 3 E) (htab : TabR (tabsOf pks 0) E) : ∃ (ex : List BE) (rw : List (IE × IE)), (∀ b ∈ ex, @BE.val E b = true) ∧ Owed E Phi (oweAtR (tabsOf pks 0) ths [] Try.prog Try.f7 (rootOf Try.f7) base9 (extraS Try.prog) cuts cut3 ex rw) :=
  ⟨[], rw3, Bk.nn, Owed.eq (@e3_0 E) (run3_0 E hfs hphi htab)⟩
theorem part4 (E : Env) (hfs : ∀ b ∈ cut4.fs, @BE.val E b = true) (hphi : Phi 4 E) (htab : TabR (tabsOf pks 0) E) : ∃ (ex : List BE) (rw : List (IE × IE)), (∀ b ∈ ex, @BE.val E b = true) ∧ Owed E Phi (oweAtR (tabsOf pks 0) ths [] Try.prog Try.f7 (rootOf Try.f7) base9 (extraS Try.prog) cuts cut4 ex rw) :=
  ⟨[], rw4, Bk.nn, Owed.eq (@e4_0 E) (run4_0 E hfs hphi htab)⟩
theorem part5 (E : Env) (hfs : ∀ b ∈ cut5.fs, @BE.val E b = true) (hphi : Phi 5 E) (htab : TabR (tabsOf pks 0) E) : ∃ (ex : List BE) (rw : List (IE × IE)), (∀ b ∈ ex, @BE.val E b = true) ∧ Owed E Phi (oweAtR (tabsOf pks 0) ths [] Try.prog Try.f7 (rootOf Try.f7) base9 (extraS Try.prog) cuts cut5 ex rw) :=
  ⟨[], rw5, Bk.nn, Owed.eq (@e5_0 E) (run5_0 E hfs hphi htab)⟩
theorem part6 (E : Env) (hfs : ∀ b ∈ cut6.fs, @BE.val E b = true) (hphi : Phi 6 E) (htab : TabR (tabsOf pks 0) E) : ∃ (ex : List BE) (rw : List (IE × IE)), (∀ b ∈ ex, @BE.val E b = true) ∧ Owed E Phi (oweAtR (tabsOf pks 0) ths [] Try.prog Try.f7 (rootOf Try.f7) base9 (extraS Try.prog) cuts cut6 ex rw) :=
  ⟨[], rw6, Bk.nn, Owed.eq (@e6_0 E) (run6_0 E hfs hphi htab)⟩
theorem part7 (E : Env) (hfs : ∀ b ∈ cut7.fs, @BE.val E b = true) (hphi : Phi 7 E) (htab : TabR (tabsOf pks 0) E) : ∃ (ex : List BE) (rw : List (IE × IE)), (∀ b ∈ ex, @BE.val E b = true) ∧ Owed E Phi (oweAtR (tabsOf pks 0) ths [] Try.prog Try.f7 (rootOf Try.f7) base9 (extraS Try.prog) cuts cut7 ex rw) :=
  ⟨[], rw7, Bk.nn, Owed.eq (@e7_0 E) (run7_0 E hfs hphi htab)⟩
theorem part8 (E : Env) (hfs : ∀ b ∈ cut8.fs, @BE.val E b = true) (hphi : Phi 8 E) (htab : TabR (tabsOf pks 0) E) : ∃ (ex : List BE) (rw : List (IE × IE)), (∀ b ∈ ex, @BE.val E b = true) ∧ Owed E Phi (oweAtR (tabsOf pks 0) ths [] Try.prog Try.f7 (rootOf Try.f7) base9 (extraS Try.prog) cuts cut8 ex rw) :=
  ⟨[], rw8, Bk.nn, Owed.eq (@e8_0 E) (run8_0 E hfs hphi htab)⟩
theorem part9 (E : Env) (hfs : ∀ b ∈ cut9.fs, @BE.val E b = true) (hphi : Phi 9 E) (htab : TabR (tabsOf pks 0) E) : ∃ (ex : List BE) (rw : List (IE × IE)), (∀ b ∈ ex, @BE.val E b = true) ∧ Owed E Phi (oweAtR (tabsOf pks 0) ths [] Try.prog Try.f7 (rootOf Try.f7) base9 (extraS Try.prog) cuts cut9 ex rw) :=
  ⟨[], rw9, Bk.nn, Owed.eq (@e9_0 E) (run9_0 E hfs hphi htab)⟩
theorem part10 (E : Env) (hfs : ∀ b ∈ cut10.fs, @BE.val E b = true) (hphi : Phi 10 E) (htab : TabR (tabsOf pks 0) E) : ∃ (ex : List BE) (rw : List (IE × IE)), (∀ b ∈ ex, @BE.val E b = true) ∧ Owed E Phi (oweAtR (tabsOf pks 0) ths [] Try.prog Try.f7 (rootOf Try.f7) base9 (extraS Try.prog) cuts cut10 ex rw) :=
  ⟨[], rw10, Bk.nn, Owed.eq (@e10_0 E) (run10_0 E hfs hphi htab)⟩
theorem part11 (E : Env) (hfs : ∀ b ∈ cut11.fs, @BE.val E b = true) (hphi : Phi 11 E) (htab : TabR (tabsOf pks 0) E) : ∃ (ex : List BE) (rw : List (IE × IE)), (∀ b ∈ ex, @BE.val E b = true) ∧ Owed E Phi (oweAtR (tabsOf pks 0) ths [] Try.prog Try.f7 (rootOf Try.f7) base9 (extraS Try.prog) cuts cut11 ex rw) :=
  ⟨[], rw11, Bk.nn, Owed.eq (@e11_0 E) (run11_0 E hfs hphi htab)⟩
theorem part12 (E : Env) (hfs : ∀ b ∈ cut12.fs, @BE.val E b = true) (hphi : Phi 12 E) (htab : TabR (tabsOf pks 0) E) : ∃ (ex : List BE) (rw : List (IE × IE)), (∀ b ∈ ex, @BE.val E b = true) ∧ Owed E Phi (oweAtR (tabsOf pks 0) ths [] Try.prog Try.f7 (rootOf Try.f7) base9 (extraS Try.prog) cuts cut12 ex rw) :=
  ⟨[], rw12, Bk.nn, Owed.eq (@e12_0 E) (run12_0 E hfs hphi htab)⟩
theorem part13 (E : Env) (hfs : ∀ b ∈ cut13.fs, @BE.val E b = true) (hphi : Phi 13 E) (htab : TabR (tabsOf pks 0) E) : ∃ (ex : List BE) (rw : List (IE × IE)), (∀ b ∈ ex, @BE.val E b = true) ∧ Owed E Phi (oweAtR (tabsOf pks 0) ths [] Try.prog Try.f7 (rootOf Try.f7) base9 (extraS Try.prog) cuts cut13 ex rw) :=
  ⟨[], rw13, Bk.nn, Owed.eq (@e13_0 E) (run13_0 E hfs hphi htab)⟩
theorem part14 (E : Env) (hfs : ∀ b ∈ cut14.fs, @BE.val E b = true) (hphi : Phi 14 E) (htab : TabR (tabsOf pks 0) E) : ∃ (ex : List BE) (rw : List (IE × IE)), (∀ b ∈ ex, @BE.val E b = true) ∧ Owed E Phi (oweAtR (tabsOf pks 0) ths [] Try.prog Try.f7 (rootOf Try.f7) base9 (extraS Try.prog) cuts cut14 ex rw) :=
  ⟨[], rw14, Bk.nn, Owed.eq (@e14_0 E) (run14_0 E hfs hphi htab)⟩
theorem part15 (E : Env) (hfs : ∀ b ∈ cut15.fs, @BE.val E b = true) (hphi : Phi 15 E) (htab : TabR (tabsOf pks 0) E) : ∃ (ex : List BE) (rw : List (IE × IE)), (∀ b ∈ ex, @BE.val E b = true) ∧ Owed E Phi (oweAtR (tabsOf pks 0) ths [] Try.prog Try.f7 (rootOf Try.f7) base9 (extraS Try.prog) cuts cut15 ex rw) :=
  ⟨[], rw15, Bk.nn, Owed.eq (@e15_0 E) (run15_0 E hfs hphi htab)⟩
theorem part16 (E : Env) (hfs : ∀ b ∈ cut16.fs, @BE.val E b = true) (hphi : Phi 16 E) (htab : TabR (tabsOf pks 0) E) : ∃ (ex : List BE) (rw : List (IE × IE)), (∀ b ∈ ex, @BE.val E b = true) ∧ Owed E Phi (oweAtR (tabsOf pks 0) ths [] Try.prog Try.f7 (rootOf Try.f7) base9 (extraS Try.prog) cuts cut16 ex rw) :=
  ⟨[], rw16, Bk.nn, Owed.eq (@e16_0 E) (run16_0 E hfs hphi htab)⟩
theorem part17 (E : Env) (hfs : ∀ b ∈ cut17.fs, @BE.val E b = true) (hphi : Phi 17 E) (htab : TabR (tabsOf pks 0) E) : ∃ (ex : List BE) (rw : List (IE × IE)), (∀ b ∈ ex, @BE.val E b = true) ∧ Owed E Phi (oweAtR (tabsOf pks 0) ths [] Try.prog Try.f7 (rootOf Try.f7) base9 (extraS Try.prog) cuts cut17 ex rw) :=
  ⟨[], rw17, Bk.nn, Owed.eq (@e17_0 E) (run17_0 E hfs hphi htab)⟩
theorem part18 (E : Env) (hfs : ∀ b ∈ cut18.fs, @BE.val E b = true) (hphi : Phi 18 E) (htab : TabR (tabsOf pks 0) E) : ∃ (ex : List BE) (rw : List (IE × IE)), (∀ b ∈ ex, @BE.val E b = true) ∧ Owed E Phi (oweAtR (tabsOf pks 0) ths [] Try.prog Try.f7 (rootOf Try.f7) base9 (extraS Try.prog) cuts cut18 ex rw) :=
  ⟨[], rw18, Bk.nn, Owed.eq (@e18_0 E) (run18_0 E hfs hphi htab)⟩
theorem part19 (E : Env) (hfs : ∀ b ∈ cut19.fs, @BE.val E b = true) (hphi : Phi 19 E) (htab : TabR (tabsOf pks 0) E) : ∃ (ex : List BE) (rw : List (IE × IE)), (∀ b ∈ ex, @BE.val E b = true) ∧ Owed E Phi (oweAtR (tabsOf pks 0) ths [] Try.prog Try.f7 (rootOf Try.f7) base9 (extraS Try.prog) cuts cut19 ex rw) :=
  ⟨[], rw19, Bk.nn, Owed.eq (@e19_0 E) (run19_0 E hfs hphi htab)⟩
theorem part20 (E : Env) (hfs : ∀ b ∈ cut20.fs, @BE.val E b = true) (hphi : Phi 20 E) (htab : TabR (tabsOf pks 0) E) : ∃ (ex : List BE) (rw : List (IE × IE)), (∀ b ∈ ex, @BE.val E b = true) ∧ Owed E Phi (oweAtR (tabsOf pks 0) ths [] Try.prog Try.f7 (rootOf Try.f7) base9 (extraS Try.prog) cuts cut20 ex rw) :=
  ⟨[], rw20, Bk.nn, Owed.eq (@e20_0 E) (run20_0 E hfs hphi htab)⟩
theorem part21 (E : Env) (hfs : ∀ b ∈ cut21.fs, @BE.val E b = true) (hphi : Phi 21 E) (htab : TabR (tabsOf pks 0) E) : ∃ (ex : List BE) (rw : List (IE × IE)), (∀ b ∈ ex, @BE.val E b = true) ∧ Owed E Phi (oweAtR (tabsOf pks 0) ths [] Try.prog Try.f7 (rootOf Try.f7) base9 (extraS Try.prog) cuts cut21 ex rw) :=
  ⟨[], rw21, Bk.nn, Owed.eq (@e21_0 E) (run21_0 E hfs hphi htab)⟩
theorem part22 (E : Env) (hfs : ∀ b ∈ cut22.fs, @BE.val E b = true) (hphi : Phi 22 E) (htab : TabR (tabsOf pks 0) E) : ∃ (ex : List BE) (rw : List (IE × IE)), (∀ b ∈ ex, @BE.val E b = true) ∧ Owed E Phi (oweAtR (tabsOf pks 0) ths [] Try.prog Try.f7 (rootOf Try.f7) base9 (extraS Try.prog) cuts cut22 ex rw) :=
  ⟨[], rw22, Bk.nn, Owed.eq (@e22_0 E) (run22_0 E hfs hphi htab)⟩
theorem part23 (E : Env) (hfs : ∀ b ∈ cut23.fs, @BE.val E b = true) (hphi : Phi 23 E) (htab : TabR (tabsOf pks 0) E) : ∃ (ex : List BE) (rw : List (IE × IE)), (∀ b ∈ ex, @BE.val E b = true) ∧ Owed E Phi (oweAtR (tabsOf pks 0) ths [] Try.prog Try.f7 (rootOf Try.f7) base9 (extraS Try.prog) cuts cut23 ex rw) :=
  ⟨[], rw23, Bk.nn, Owed.eq (@e23_0 E) (run23_0 E hfs hphi htab)⟩
theorem part24 (E : Env) (hfs : ∀ b ∈ cut24.fs, @BE.val E b = true) (hphi : Phi 24 E) (htab : TabR (tabsOf pks 0) E) : ∃ (ex : List BE) (rw : List (IE × IE)), (∀ b ∈ ex, @BE.val E b = true) ∧ Owed E Phi (oweAtR (tabsOf pks 0) ths [] Try.prog Try.f7 (rootOf Try.f7) base9 (extraS Try.prog) cuts cut24 ex rw) :=
  ⟨[], rw24, Bk.nn, Owed.eq (@e24_0 E) (run24_0 E hfs hphi htab)⟩
theorem part25 (E : Env) (hfs : ∀ b ∈ cut25.fs, @BE.val E b = true) (hphi : Phi 25 E) (htab : TabR (tabsOf pks 0) E) : ∃ (ex : List BE) (rw : List (IE × IE)), (∀ b ∈ ex, @BE.val E b = true) ∧ Owed E Phi (oweAtR (tabsOf pks 0) ths [] Try.prog Try.f7 (rootOf Try.f7) base9 (extraS Try.prog) cuts cut25 ex rw) :=
  ⟨[], rw25, Bk.nn, Owed.eq (@e25_0 E) (run25_0 E hfs hphi htab)⟩
theorem part26 (E : Env) (hfs : ∀ b ∈ cut26.fs, @BE.val E b = true) (hphi : Phi 26 E) (htab : TabR (tabsOf pks 0) E) : ∃ (ex : List BE) (rw : List (IE × IE)), (∀ b ∈ ex, @BE.val E b = true) ∧ Owed E Phi (oweAtR (tabsOf pks 0) ths [] Try.prog Try.f7 (rootOf Try.f7) base9 (extraS Try.prog) cuts cut26 ex rw) :=
  ⟨[], rw26, Bk.nn, Owed.eq (@e26_0 E) (run26_0 E hfs hphi htab)⟩
theorem part27 (E : Env) (hfs : ∀ b ∈ cut27.fs, @BE.val E b = true) (hphi : Phi 27 E) (htab : TabR (tabsOf pks 0) E) : ∃ (ex : List BE) (rw : List (IE × IE)), (∀ b ∈ ex, @BE.val E b = true) ∧ Owed E Phi (oweAtR (tabsOf pks 0) ths [] Try.prog Try.f7 (rootOf Try.f7) base9 (extraS Try.prog) cuts cut27 ex rw) :=
  ⟨[], rw27, Bk.nn, Owed.eq (@e27_0 E) (run27_0 E hfs hphi htab)⟩
theorem part28 (E : Env) (hfs : ∀ b ∈ cut28.fs, @BE.val E b = true) (hphi : Phi 28 E) (htab : TabR (tabsOf pks 0) E) : ∃ (ex : List BE) (rw : List (IE × IE)), (∀ b ∈ ex, @BE.val E b = true) ∧ Owed E Phi (oweAtR (tabsOf pks 0) ths [] Try.prog Try.f7 (rootOf Try.f7) base9 (extraS Try.prog) cuts cut28 ex rw) :=
  ⟨[], rw28, Bk.nn, Owed.eq (@e28_0 E) (run28_0 E hfs hphi htab)⟩
theorem part29 (E : Env) (hfs : ∀ b ∈ cut29.fs, @BE.val E b = true) (hphi : Phi 29 E) (htab : TabR (tabsOf pks 0) E) : ∃ (ex : List BE) (rw : List (IE × IE)), (∀ b ∈ ex, @BE.val E b = true) ∧ Owed E Phi (oweAtR (tabsOf pks 0) ths [] Try.prog Try.f7 (rootOf Try.f7) base9 (extraS Try.prog) cuts cut29 ex rw) :=
  ⟨[], rw29, Bk.nn, Owed.eq (@e29_0 E) (run29_0 E hfs hphi htab)⟩
theorem part30 (E : Env) (hfs : ∀ b ∈ cut30.fs, @BE.val E b = true) (hphi : Phi 30 E) (htab : TabR (tabsOf pks 0) E) : ∃ (ex : List BE) (rw : List (IE × IE)), (∀ b ∈ ex, @BE.val E b = true) ∧ Owed E Phi (oweAtR (tabsOf pks 0) ths [] Try.prog Try.f7 (rootOf Try.f7) base9 (extraS Try.prog) cuts cut30 ex rw) :=
  ⟨[], rw30, Bk.nn, Owed.eq (@e30_0 E) (run30_0 E hfs hphi htab)⟩
theorem runsM (E : Env) (i : Nat) (k : Cut) (hi : cuts[i]? = some k) (hfs : ∀ b ∈ k.fs, @BE.val E b = true) (hphi : Phi i E) (htab : TabR (tabsOf pks 0) E) : ∃ (ex : List BE) (rw : List (IE × IE)), (∀ b ∈ ex, @BE.val E b = true) ∧ Owed E Phi (oweAtR (tabsOf pks 0) ths [] Try.prog Try.f7 (rootOf Try.f7) base9 (extraS Try.prog) cuts k ex rw) := by
  match i, hi with
  | 0, hi => obtain rfl : cut0 = k := Option.some.inj (show some cut0 = some k from hi); exact part0 E hfs hphi htab
  | 1, hi => obtain rfl : cut1 = k := Option.some.inj (show some cut1 = some k from hi); exact part1 E hfs hphi htab
  | 2, hi => obtain rfl : cut2 = k := Option.some.inj (show some cut2 = some k from hi); exact part2 E hfs hphi htab
  | 3, hi => obtain rfl : cut3 = k := Option.some.inj (show some cut3 = some k from hi); exact part3 E hfs hphi htab
  | 4, hi => obtain rfl : cut4 = k := Option.some.inj (show some cut4 = some k from hi); exact part4 E hfs hphi htab
  | 5, hi => obtain rfl : cut5 = k := Option.some.inj (show some cut5 = some k from hi); exact part5 E hfs hphi htab
  | 6, hi => obtain rfl : cut6 = k := Option.some.inj (show some cut6 = some k from hi); exact part6 E hfs hphi htab
  | 7, hi => obtain rfl : cut7 = k := Option.some.inj (show some cut7 = some k from hi); exact part7 E hfs hphi htab
  | 8, hi => obtain rfl : cut8 = k := Option.some.inj (show some cut8 = some k from hi); exact part8 E hfs hphi htab
  | 9, hi => obtain rfl : cut9 = k := Option.some.inj (show some cut9 = some k from hi); exact part9 E hfs hphi htab
  | 10, hi => obtain rfl : cut10 = k := Option.some.inj (show some cut10 = some k from hi); exact part10 E hfs hphi htab
  | 11, hi => obtain rfl : cut11 = k := Option.some.inj (show some cut11 = some k from hi); exact part11 E hfs hphi htab
  | 12, hi => obtain rfl : cut12 = k := Option.some.inj (show some cut12 = some k from hi); exact part12 E hfs hphi htab
  | 13, hi => obtain rfl : cut13 = k := Option.some.inj (show some cut13 = some k from hi); exact part13 E hfs hphi htab
  | 14, hi => obtain rfl : cut14 = k := Option.some.inj (show some cut14 = some k from hi); exact part14 E hfs hphi htab
  | 15, hi => obtain rfl : cut15 = k := Option.some.inj (show some cut15 = some k from hi); exact part15 E hfs hphi htab
  | 16, hi => obtain rfl : cut16 = k := Option.some.inj (show some cut16 = some k from hi); exact part16 E hfs hphi htab
  | 17, hi => obtain rfl : cut17 = k := Option.some.inj (show some cut17 = some k from hi); exact part17 E hfs hphi htab
  | 18, hi => obtain rfl : cut18 = k := Option.some.inj (show some cut18 = some k from hi); exact part18 E hfs hphi htab
  | 19, hi => obtain rfl : cut19 = k := Option.some.inj (show some cut19 = some k from hi); exact part19 E hfs hphi htab
  | 20, hi => obtain rfl : cut20 = k := Option.some.inj (show some cut20 = some k from hi); exact part20 E hfs hphi htab
  | 21, hi => obtain rfl : cut21 = k := Option.some.inj (show some cut21 = some k from hi); exact part21 E hfs hphi htab
  | 22, hi => obtain rfl : cut22 = k := Option.some.inj (show some cut22 = some k from hi); exact part22 E hfs hphi htab
  | 23, hi => obtain rfl : cut23 = k := Option.some.inj (show some cut23 = some k from hi); exact part23 E hfs hphi htab
  | 24, hi => obtain rfl : cut24 = k := Option.some.inj (show some cut24 = some k from hi); exact part24 E hfs hphi htab
  | 25, hi => obtain rfl : cut25 = k := Option.some.inj (show some cut25 = some k from hi); exact part25 E hfs hphi htab
  | 26, hi => obtain rfl : cut26 = k := Option.some.inj (show some cut26 = some k from hi); exact part26 E hfs hphi htab
  | 27, hi => obtain rfl : cut27 = k := Option.some.inj (show some cut27 = some k from hi); exact part27 E hfs hphi htab
  | 28, hi => obtain rfl : cut28 = k := Option.some.inj (show some cut28 = some k from hi); exact part28 E hfs hphi htab
  | 29, hi => obtain rfl : cut29 = k := Option.some.inj (show some cut29 = some k from hi); exact part29 E hfs hphi htab
  | 30, hi => obtain rfl : cut30 = k := Option.some.inj (show some cut30 = some k from hi); exact part30 E hfs hphi htab
  | n + 31, hi => exact absurd hi (by simp [cuts])
theorem startM (E : Env) (h1 : symRng E pks 0 0) : Owed E Phi (oweStartR (tabsOf pks 0) ths [] Try.prog Try.f7 (rootOf Try.f7) base9 (extraS Try.prog) cuts (rngFacts pks 0) (symArgsG gs 0 0) (symHeap pks 0 0)) := Owed.eq (@eS E) (runS E h1)
theorem trOk : ∀ i ∈ ([] : List Nat), ∀ E, Phi i E := fun i hi E => by cases hi
theorem bodyOk : Try.f7.body = some (rootOf Try.f7) := by kernel_rfl
theorem law (E : Env) (ρ : Rho) (F : Nat → Nat → Prop) (w : World) (argv : Array Value) (h1 : symRng E pks 0 0) (h2 : @HeapOk E Empty _ ρ F (symHeap pks 0 0) w) (h3 : All2 (@SV.is E ρ) (symArgsG gs 0 0) argv.toList) :
    Calls Try.prog 7 argv w fun e w' => e = .returned (.bool true) ∧ ∃ ρ' F', Reach ρ F w ρ' F' w' :=
  floydRM (ts := tabsOf pks 0) mixed_ok (c := @base9) @base9_ok (x := extraS Try.prog) (fun {_} => extraS_ok _) Try.func7 bodyOk ths_ok (tr := []) (Φ := Phi) trOk heads runsM E (tabsOf_ok E h1) (rngFacts_ok E h1) (startM E h1) h2 h3
end Go.Proofs.Ytafemlljemhkhaa.Sx.LClaimSteps
