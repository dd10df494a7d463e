/-
  The law ClaimTwo, run on unknowns, from one loop's head to the next.
-/
import Derived.Test.YtafemlljemhkhaaLClaimTwoB1
import Derived.Test.YtafemlljemhkhaaLClaimTwoB2
import Derived.Test.YtafemlljemhkhaaLClaimTwoB3
import Derived.Test.YtafemlljemhkhaaLClaimTwoB4
namespace Go.Proofs.Ytafemlljemhkhaa.Sx.LClaimTwo
open Go Go.Proofs.Ytafemlljemhkhaa.Sx
set_option linter.unusedSectionVars false
set_option linter.unusedVariables false
set_option linter.unusedSimpArgs false
set_option maxRecDepth 1000000

theorem f0_1 (E : Env) (h : ∀ b ∈ cut0.fs, @BE.val E b = true) : @BE.val E ((.cmp .eql (.len (.latom 1046)) (.nat (.atom 8)))) = true := h _ (List.mem_of_getElem? (i := 1) rfl)
theorem f0_24 (E : Env) (h : ∀ b ∈ cut0.fs, @BE.val E b = true) : @BE.val E ((.cmp .neq (.fn 1 cfgL) (.lit 0))) = true := h _ (List.mem_of_getElem? (i := 24) rfl)
theorem f1_1 (E : Env) (h : ∀ b ∈ cut1.fs, @BE.val E b = true) : @BE.val E ((.cmp .eql (.len (.latom 1250)) (.nat (.atom 8)))) = true := h _ (List.mem_of_getElem? (i := 1) rfl)
theorem f1_24 (E : Env) (h : ∀ b ∈ cut1.fs, @BE.val E b = true) : @BE.val E ((.cmp .neq (.fn 1 cfgL) (.lit 0))) = true := h _ (List.mem_of_getElem? (i := 24) rfl)
theorem f2_1 (E : Env) (h : ∀ b ∈ cut2.fs, @BE.val E b = true) : @BE.val E ((.cmp .eql (.len (.latom 1484)) (.nat (.atom 8)))) = true := h _ (List.mem_of_getElem? (i := 1) rfl)
theorem f2_24 (E : Env) (h : ∀ b ∈ cut2.fs, @BE.val E b = true) : @BE.val E ((.cmp .neq (.fn 1 cfgL) (.lit 0))) = true := h _ (List.mem_of_getElem? (i := 24) rfl)
theorem f3_1 (E : Env) (h : ∀ b ∈ cut3.fs, @BE.val E b = true) : @BE.val E ((.cmp .eql (.len (.latom 1650)) (.nat (.atom 8)))) = true := h _ (List.mem_of_getElem? (i := 1) rfl)
theorem f3_24 (E : Env) (h : ∀ b ∈ cut3.fs, @BE.val E b = true) : @BE.val E ((.cmp .neq (.fn 1 cfgL) (.lit 0))) = true := h _ (List.mem_of_getElem? (i := 24) rfl)
theorem f4_1 (E : Env) (h : ∀ b ∈ cut4.fs, @BE.val E b = true) : @BE.val E ((.cmp .eql (.len (.latom 1884)) (.nat (.atom 8)))) = true := h _ (List.mem_of_getElem? (i := 1) rfl)
theorem f4_24 (E : Env) (h : ∀ b ∈ cut4.fs, @BE.val E b = true) : @BE.val E ((.cmp .neq (.fn 1 cfgL) (.lit 0))) = true := h _ (List.mem_of_getElem? (i := 24) rfl)
theorem f5_1 (E : Env) (h : ∀ b ∈ cut5.fs, @BE.val E b = true) : @BE.val E ((.cmp .eql (.len (.latom 1100)) (.nat (.atom 8)))) = true := h _ (List.mem_of_getElem? (i := 1) rfl)
theorem f5_24 (E : Env) (h : ∀ b ∈ cut5.fs, @BE.val E b = true) : @BE.val E ((.cmp .neq (.fn 1 cfgL) (.lit 0))) = true := h _ (List.mem_of_getElem? (i := 24) rfl)
theorem f6_1 (E : Env) (h : ∀ b ∈ cut6.fs, @BE.val E b = true) : @BE.val E ((.cmp .eql (.len (.latom 2244)) (.nat (.atom 8)))) = true := h _ (List.mem_of_getElem? (i := 1) rfl)
theorem f6_24 (E : Env) (h : ∀ b ∈ cut6.fs, @BE.val E b = true) : @BE.val E ((.cmp .neq (.fn 1 cfgL) (.lit 0))) = true := h _ (List.mem_of_getElem? (i := 24) rfl)
theorem f7_1 (E : Env) (h : ∀ b ∈ cut7.fs, @BE.val E b = true) : @BE.val E ((.cmp .eql (.len (.latom 2449)) (.nat (.atom 8)))) = true := h _ (List.mem_of_getElem? (i := 1) rfl)
theorem f7_24 (E : Env) (h : ∀ b ∈ cut7.fs, @BE.val E b = true) : @BE.val E ((.cmp .neq (.fn 1 cfgL) (.lit 0))) = true := h _ (List.mem_of_getElem? (i := 24) rfl)
theorem f8_1 (E : Env) (h : ∀ b ∈ cut8.fs, @BE.val E b = true) : @BE.val E ((.cmp .eql (.len (.latom 2653)) (.nat (.atom 8)))) = true := h _ (List.mem_of_getElem? (i := 1) rfl)
theorem f8_24 (E : Env) (h : ∀ b ∈ cut8.fs, @BE.val E b = true) : @BE.val E ((.cmp .neq (.fn 1 cfgL) (.lit 0))) = true := h _ (List.mem_of_getElem? (i := 24) rfl)
theorem f9_1 (E : Env) (h : ∀ b ∈ cut9.fs, @BE.val E b = true) : @BE.val E ((.cmp .eql (.len (.latom 2814)) (.nat (.atom 8)))) = true := h _ (List.mem_of_getElem? (i := 1) rfl)
theorem f9_24 (E : Env) (h : ∀ b ∈ cut9.fs, @BE.val E b = true) : @BE.val E ((.cmp .neq (.fn 1 cfgL) (.lit 0))) = true := h _ (List.mem_of_getElem? (i := 24) rfl)
theorem f10_1 (E : Env) (h : ∀ b ∈ cut10.fs, @BE.val E b = true) : @BE.val E ((.cmp .eql (.len (.latom 3014)) (.nat (.atom 8)))) = true := h _ (List.mem_of_getElem? (i := 1) rfl)
theorem f10_24 (E : Env) (h : ∀ b ∈ cut10.fs, @BE.val E b = true) : @BE.val E ((.cmp .neq (.fn 1 cfgL) (.lit 0))) = true := h _ (List.mem_of_getElem? (i := 24) rfl)
theorem f11_1 (E : Env) (h : ∀ b ∈ cut11.fs, @BE.val E b = true) : @BE.val E ((.cmp .eql (.len (.latom 3216)) (.nat (.atom 8)))) = true := h _ (List.mem_of_getElem? (i := 1) rfl)
theorem f11_24 (E : Env) (h : ∀ b ∈ cut11.fs, @BE.val E b = true) : @BE.val E ((.cmp .neq (.fn 1 cfgL) (.lit 0))) = true := h _ (List.mem_of_getElem? (i := 24) rfl)
theorem f12_1 (E : Env) (h : ∀ b ∈ cut12.fs, @BE.val E b = true) : @BE.val E ((.cmp .eql (.len (.latom 3414)) (.nat (.atom 8)))) = true := h _ (List.mem_of_getElem? (i := 1) rfl)
theorem f12_24 (E : Env) (h : ∀ b ∈ cut12.fs, @BE.val E b = true) : @BE.val E ((.cmp .neq (.fn 1 cfgL) (.lit 0))) = true := h _ (List.mem_of_getElem? (i := 24) rfl)
theorem f13_1 (E : Env) (h : ∀ b ∈ cut13.fs, @BE.val E b = true) : @BE.val E ((.cmp .eql (.len (.latom 3616)) (.nat (.atom 8)))) = true := h _ (List.mem_of_getElem? (i := 1) rfl)
theorem f13_24 (E : Env) (h : ∀ b ∈ cut13.fs, @BE.val E b = true) : @BE.val E ((.cmp .neq (.fn 1 cfgL) (.lit 0))) = true := h _ (List.mem_of_getElem? (i := 24) rfl)
theorem f14_1 (E : Env) (h : ∀ b ∈ cut14.fs, @BE.val E b = true) : @BE.val E ((.cmp .eql (.len (.latom 3812)) (.nat (.atom 8)))) = true := h _ (List.mem_of_getElem? (i := 1) rfl)
theorem f14_24 (E : Env) (h : ∀ b ∈ cut14.fs, @BE.val E b = true) : @BE.val E ((.cmp .neq (.fn 1 cfgL) (.lit 0))) = true := h _ (List.mem_of_getElem? (i := 24) rfl)
theorem f15_1 (E : Env) (h : ∀ b ∈ cut15.fs, @BE.val E b = true) : @BE.val E ((.cmp .eql (.len (.latom 4016)) (.nat (.atom 8)))) = true := h _ (List.mem_of_getElem? (i := 1) rfl)
theorem f15_24 (E : Env) (h : ∀ b ∈ cut15.fs, @BE.val E b = true) : @BE.val E ((.cmp .neq (.fn 1 cfgL) (.lit 0))) = true := h _ (List.mem_of_getElem? (i := 24) rfl)
theorem f16_1 (E : Env) (h : ∀ b ∈ cut16.fs, @BE.val E b = true) : @BE.val E ((.cmp .eql (.len (.latom 4216)) (.nat (.atom 8)))) = true := h _ (List.mem_of_getElem? (i := 1) rfl)
theorem f16_24 (E : Env) (h : ∀ b ∈ cut16.fs, @BE.val E b = true) : @BE.val E ((.cmp .neq (.fn 1 cfgL) (.lit 0))) = true := h _ (List.mem_of_getElem? (i := 24) rfl)
theorem f17_1 (E : Env) (h : ∀ b ∈ cut17.fs, @BE.val E b = true) : @BE.val E ((.cmp .eql (.len (.latom 4418)) (.nat (.atom 8)))) = true := h _ (List.mem_of_getElem? (i := 1) rfl)
theorem f17_24 (E : Env) (h : ∀ b ∈ cut17.fs, @BE.val E b = true) : @BE.val E ((.cmp .neq (.fn 1 cfgL) (.lit 0))) = true := h _ (List.mem_of_getElem? (i := 24) rfl)
theorem f18_0 (E : Env) (h : ∀ b ∈ cut18.fs, @BE.val E b = true) : @BE.val E ((.cmp .leq (.lit 0) (.atom 2800))) = true := h _ (List.mem_of_getElem? (i := 0) rfl)
theorem f18_1 (E : Env) (h : ∀ b ∈ cut18.fs, @BE.val E b = true) : @BE.val E ((.cmp .eql (.len (.latom 2814)) (.nat (.atom 8)))) = true := h _ (List.mem_of_getElem? (i := 1) rfl)
theorem f18_3 (E : Env) (h : ∀ b ∈ cut18.fs, @BE.val E b = true) : @BE.val E ((.cmp .lss (.atom 2800) (.op .add .i64 (.op .mul .i64 (.lit 2) (.atom 2)) (.lit 1)))) = true := h _ (List.mem_of_getElem? (i := 3) rfl)
theorem f18_26 (E : Env) (h : ∀ b ∈ cut18.fs, @BE.val E b = true) : @BE.val E ((.cmp .neq (.fn 1 cfgL) (.lit 0))) = true := h _ (List.mem_of_getElem? (i := 26) rfl)
theorem f19_0 (E : Env) (h : ∀ b ∈ cut19.fs, @BE.val E b = true) : @BE.val E ((.cmp .leq (.lit 0) (.atom 4929))) = true := h _ (List.mem_of_getElem? (i := 0) rfl)
theorem f19_1 (E : Env) (h : ∀ b ∈ cut19.fs, @BE.val E b = true) : @BE.val E ((.cmp .lss (.atom 4929) (.op .add .i64 (.op .mul .i64 (.lit 2) (.atom 2)) (.lit 1)))) = true := h _ (List.mem_of_getElem? (i := 1) rfl)
theorem f19_2 (E : Env) (h : ∀ b ∈ cut19.fs, @BE.val E b = true) : @BE.val E ((.cmp .eql (.len (.latom 4945)) (.nat (.atom 8)))) = true := h _ (List.mem_of_getElem? (i := 2) rfl)
theorem f19_25 (E : Env) (h : ∀ b ∈ cut19.fs, @BE.val E b = true) : @BE.val E ((.cmp .neq (.fn 1 cfgL) (.lit 0))) = true := h _ (List.mem_of_getElem? (i := 25) rfl)
theorem f20_0 (E : Env) (h : ∀ b ∈ cut20.fs, @BE.val E b = true) : @BE.val E ((.cmp .leq (.lit 0) (.atom 5044))) = true := h _ (List.mem_of_getElem? (i := 0) rfl)
theorem f20_1 (E : Env) (h : ∀ b ∈ cut20.fs, @BE.val E b = true) : @BE.val E ((.cmp .lss (.atom 5044) (.op .add .i64 (.op .mul .i64 (.lit 2) (.atom 2)) (.lit 1)))) = true := h _ (List.mem_of_getElem? (i := 1) rfl)
theorem f20_2 (E : Env) (h : ∀ b ∈ cut20.fs, @BE.val E b = true) : @BE.val E ((.cmp .eql (.len (.latom 5058)) (.nat (.atom 8)))) = true := h _ (List.mem_of_getElem? (i := 2) rfl)
theorem f20_25 (E : Env) (h : ∀ b ∈ cut20.fs, @BE.val E b = true) : @BE.val E ((.cmp .neq (.fn 1 cfgL) (.lit 0))) = true := h _ (List.mem_of_getElem? (i := 25) rfl)
theorem f21_0 (E : Env) (h : ∀ b ∈ cut21.fs, @BE.val E b = true) : @BE.val E ((.cmp .leq (.lit 0) (.atom 3400))) = true := h _ (List.mem_of_getElem? (i := 0) rfl)
theorem f21_1 (E : Env) (h : ∀ b ∈ cut21.fs, @BE.val E b = true) : @BE.val E ((.cmp .eql (.len (.latom 3414)) (.nat (.atom 8)))) = true := h _ (List.mem_of_getElem? (i := 1) rfl)
theorem f21_3 (E : Env) (h : ∀ b ∈ cut21.fs, @BE.val E b = true) : @BE.val E ((.cmp .lss (.atom 3400) (.op .add .i64 (.op .mul .i64 (.lit 2) (.atom 2)) (.lit 1)))) = true := h _ (List.mem_of_getElem? (i := 3) rfl)
theorem f21_26 (E : Env) (h : ∀ b ∈ cut21.fs, @BE.val E b = true) : @BE.val E ((.cmp .neq (.fn 1 cfgL) (.lit 0))) = true := h _ (List.mem_of_getElem? (i := 26) rfl)
theorem f22_0 (E : Env) (h : ∀ b ∈ cut22.fs, @BE.val E b = true) : @BE.val E ((.cmp .leq (.lit 0) (.atom 5529))) = true := h _ (List.mem_of_getElem? (i := 0) rfl)
theorem f22_1 (E : Env) (h : ∀ b ∈ cut22.fs, @BE.val E b = true) : @BE.val E ((.cmp .lss (.atom 5529) (.op .add .i64 (.op .mul .i64 (.lit 2) (.atom 2)) (.lit 1)))) = true := h _ (List.mem_of_getElem? (i := 1) rfl)
theorem f22_2 (E : Env) (h : ∀ b ∈ cut22.fs, @BE.val E b = true) : @BE.val E ((.cmp .eql (.len (.latom 5545)) (.nat (.atom 8)))) = true := h _ (List.mem_of_getElem? (i := 2) rfl)
theorem f22_25 (E : Env) (h : ∀ b ∈ cut22.fs, @BE.val E b = true) : @BE.val E ((.cmp .neq (.fn 1 cfgL) (.lit 0))) = true := h _ (List.mem_of_getElem? (i := 25) rfl)
theorem f23_0 (E : Env) (h : ∀ b ∈ cut23.fs, @BE.val E b = true) : @BE.val E ((.cmp .leq (.lit 0) (.atom 5644))) = true := h _ (List.mem_of_getElem? (i := 0) rfl)
theorem f23_1 (E : Env) (h : ∀ b ∈ cut23.fs, @BE.val E b = true) : @BE.val E ((.cmp .lss (.atom 5644) (.op .add .i64 (.op .mul .i64 (.lit 2) (.atom 2)) (.lit 1)))) = true := h _ (List.mem_of_getElem? (i := 1) rfl)
theorem f23_2 (E : Env) (h : ∀ b ∈ cut23.fs, @BE.val E b = true) : @BE.val E ((.cmp .eql (.len (.latom 5658)) (.nat (.atom 8)))) = true := h _ (List.mem_of_getElem? (i := 2) rfl)
theorem f23_25 (E : Env) (h : ∀ b ∈ cut23.fs, @BE.val E b = true) : @BE.val E ((.cmp .neq (.fn 1 cfgL) (.lit 0))) = true := h _ (List.mem_of_getElem? (i := 25) rfl)
theorem f24_0 (E : Env) (h : ∀ b ∈ cut24.fs, @BE.val E b = true) : @BE.val E ((.cmp .leq (.lit 0) (.atom 3600))) = true := h _ (List.mem_of_getElem? (i := 0) rfl)
theorem f24_1 (E : Env) (h : ∀ b ∈ cut24.fs, @BE.val E b = true) : @BE.val E ((.cmp .eql (.len (.latom 3616)) (.nat (.atom 8)))) = true := h _ (List.mem_of_getElem? (i := 1) rfl)
theorem f24_3 (E : Env) (h : ∀ b ∈ cut24.fs, @BE.val E b = true) : @BE.val E ((.cmp .lss (.atom 3600) (.op .add .i64 (.op .mul .i64 (.lit 2) (.atom 2)) (.lit 1)))) = true := h _ (List.mem_of_getElem? (i := 3) rfl)
theorem f24_26 (E : Env) (h : ∀ b ∈ cut24.fs, @BE.val E b = true) : @BE.val E ((.cmp .neq (.fn 1 cfgL) (.lit 0))) = true := h _ (List.mem_of_getElem? (i := 26) rfl)
theorem f25_0 (E : Env) (h : ∀ b ∈ cut25.fs, @BE.val E b = true) : @BE.val E ((.cmp .leq (.lit 0) (.atom 6145))) = true := h _ (List.mem_of_getElem? (i := 0) rfl)
theorem f25_1 (E : Env) (h : ∀ b ∈ cut25.fs, @BE.val E b = true) : @BE.val E ((.cmp .lss (.atom 6145) (.op .add .i64 (.op .mul .i64 (.lit 2) (.atom 2)) (.lit 1)))) = true := h _ (List.mem_of_getElem? (i := 1) rfl)
theorem f25_2 (E : Env) (h : ∀ b ∈ cut25.fs, @BE.val E b = true) : @BE.val E ((.cmp .eql (.len (.latom 6163)) (.nat (.atom 8)))) = true := h _ (List.mem_of_getElem? (i := 2) rfl)
theorem f25_25 (E : Env) (h : ∀ b ∈ cut25.fs, @BE.val E b = true) : @BE.val E ((.cmp .neq (.fn 1 cfgL) (.lit 0))) = true := h _ (List.mem_of_getElem? (i := 25) rfl)
theorem f26_0 (E : Env) (h : ∀ b ∈ cut26.fs, @BE.val E b = true) : @BE.val E ((.cmp .leq (.lit 0) (.atom 6250))) = true := h _ (List.mem_of_getElem? (i := 0) rfl)
theorem f26_1 (E : Env) (h : ∀ b ∈ cut26.fs, @BE.val E b = true) : @BE.val E ((.cmp .lss (.atom 6250) (.op .add .i64 (.op .mul .i64 (.lit 2) (.atom 2)) (.lit 1)))) = true := h _ (List.mem_of_getElem? (i := 1) rfl)
theorem f26_2 (E : Env) (h : ∀ b ∈ cut26.fs, @BE.val E b = true) : @BE.val E ((.cmp .eql (.len (.latom 6266)) (.nat (.atom 8)))) = true := h _ (List.mem_of_getElem? (i := 2) rfl)
theorem f26_25 (E : Env) (h : ∀ b ∈ cut26.fs, @BE.val E b = true) : @BE.val E ((.cmp .neq (.fn 1 cfgL) (.lit 0))) = true := h _ (List.mem_of_getElem? (i := 25) rfl)
def Phi : Nat → Env → Prop
  | 0, E => LkC E (E.i 1035) (E.i 1036) ∧ LkC E (E.i 1038) (E.i 1039) ∧ RngL (E.l 1046) ∧ True ∧ True ∧ True
  | 1, E => TkC E (E.i 1239) (E.i 1240) (E.i 1241) ∧ LkC E (E.i 1242) (E.i 1243) ∧ RngL (E.l 1250) ∧ True ∧ True ∧ True
  | 2, E => NlC E (E.i 1472) (E.l 1484) ∧ LkC E (E.i 1474) (E.i 1475) ∧ RngL (E.l 1484) ∧ True ∧ True ∧ True
  | 3, E => LkC E (E.i 1639) (E.i 1640) ∧ TkC E (E.i 1642) (E.i 1643) (E.i 1644) ∧ RngL (E.l 1650) ∧ True ∧ True ∧ True
  | 4, E => LkC E (E.i 1869) (E.i 1870) ∧ NlC E (E.i 1875) (E.l 1884) ∧ RngL (E.l 1884) ∧ True ∧ True ∧ True
  | 5, E => TkC E (E.i 2004) (E.i 2005) (E.i 2006) ∧ TkC E (E.i 2007) (E.i 2008) (E.i 2009) ∧ RngL (E.l 1100) ∧ True ∧ True ∧ True
  | 6, E => TkC E (E.i 2229) (E.i 2230) (E.i 2231) ∧ NlC E (E.i 2235) (E.l 2244) ∧ RngL (E.l 2244) ∧ True ∧ True ∧ True
  | 7, E => NlC E (E.i 2437) (E.l 2449) ∧ TkC E (E.i 2439) (E.i 2440) (E.i 2441) ∧ RngL (E.l 2449) ∧ True ∧ True ∧ True
  | 8, E => NlC E (E.i 2639) (E.l 2653) ∧ NlC E (E.i 2644) (E.l 2653) ∧ RngL (E.l 2653) ∧ DsC (E.i 2639) (E.i 2644) ∧ True ∧ True
  | 9, E => LkC E (E.i 2801) (E.i 2802) ∧ LkC E (E.i 2804) (E.i 2805) ∧ RngL (E.l 2814) ∧ True ∧ 2 * (E.i 2 - (E.i 2802)) + ((E.i 2800)) ≤ 2 * E.i 2 ∧ 2 * (E.i 2 - (E.i 2805)) + ((E.i 2800)) ≤ 2 * E.i 2
  | 10, E => TkC E (E.i 3001) (E.i 3002) (E.i 3003) ∧ LkC E (E.i 3004) (E.i 3005) ∧ RngL (E.l 3014) ∧ True ∧ 2 * (E.i 2 - (E.i 3002)) - 1 + ((E.i 3000)) ≤ 2 * E.i 2 ∧ 2 * (E.i 2 - (E.i 3005)) + ((E.i 3000)) ≤ 2 * E.i 2
  | 11, E => NlC E (E.i 3204) (E.l 3216) ∧ LkC E (E.i 3206) (E.i 3207) ∧ RngL (E.l 3216) ∧ True ∧ True ∧ 2 * (E.i 2 - (E.i 3207)) + ((E.i 3200)) ≤ 2 * E.i 2
  | 12, E => LkC E (E.i 3401) (E.i 3402) ∧ TkC E (E.i 3404) (E.i 3405) (E.i 3406) ∧ RngL (E.l 3414) ∧ True ∧ 2 * (E.i 2 - (E.i 3402)) + ((E.i 3400)) ≤ 2 * E.i 2 ∧ 2 * (E.i 2 - (E.i 3405)) - 1 + ((E.i 3400)) ≤ 2 * E.i 2
  | 13, E => LkC E (E.i 3601) (E.i 3602) ∧ NlC E (E.i 3607) (E.l 3616) ∧ RngL (E.l 3616) ∧ True ∧ 2 * (E.i 2 - (E.i 3602)) + ((E.i 3600)) ≤ 2 * E.i 2 ∧ True
  | 14, E => TkC E (E.i 3801) (E.i 3802) (E.i 3803) ∧ TkC E (E.i 3804) (E.i 3805) (E.i 3806) ∧ RngL (E.l 3812) ∧ True ∧ 2 * (E.i 2 - (E.i 3802)) - 1 + ((E.i 3800)) ≤ 2 * E.i 2 ∧ 2 * (E.i 2 - (E.i 3805)) - 1 + ((E.i 3800)) ≤ 2 * E.i 2
  | 15, E => TkC E (E.i 4001) (E.i 4002) (E.i 4003) ∧ NlC E (E.i 4007) (E.l 4016) ∧ RngL (E.l 4016) ∧ True ∧ 2 * (E.i 2 - (E.i 4002)) - 1 + ((E.i 4000)) ≤ 2 * E.i 2 ∧ True
  | 16, E => NlC E (E.i 4204) (E.l 4216) ∧ TkC E (E.i 4206) (E.i 4207) (E.i 4208) ∧ RngL (E.l 4216) ∧ True ∧ True ∧ 2 * (E.i 2 - (E.i 4207)) - 1 + ((E.i 4200)) ≤ 2 * E.i 2
  | 17, E => NlC E (E.i 4404) (E.l 4418) ∧ NlC E (E.i 4409) (E.l 4418) ∧ RngL (E.l 4418) ∧ DsC (E.i 4404) (E.i 4409) ∧ True ∧ True
  | 18, E => TkC E (begunF (E.i 2801) 1 (E.i 2)) (E.i 2802) (hadF (cellE E (begunF (E.i 2801) 1 (E.i 2)) 0) (E.l 2814)) ∧ LkC E (E.i 2804) (E.i 2805) ∧ RngL (E.l 2814) ∧ True ∧ 2 * (E.i 2 - (E.i 2802)) - 1 + ((E.i 2800) + 1) ≤ 2 * E.i 2 ∧ 2 * (E.i 2 - (E.i 2805)) + ((E.i 2800)) ≤ 2 * E.i 2
  | 19, E => NlC E (E.i 4933) (E.l 4945) ∧ LkC E (E.i 4935) (E.i 4936) ∧ RngL (E.l 4945) ∧ True ∧ True ∧ 2 * (E.i 2 - (E.i 4936)) + ((E.i 4929)) ≤ 2 * E.i 2
  | 20, E => LkC E (E.i 5045) (E.i 5046) ∧ LkC E (E.i 5048) (E.i 5049) ∧ RngL (E.l 5058) ∧ True ∧ 2 * (E.i 2 - (E.i 5046)) + ((E.i 5044) + 1) ≤ 2 * E.i 2 ∧ 2 * (E.i 2 - (E.i 5049)) + ((E.i 5044)) ≤ 2 * E.i 2
  | 21, E => TkC E (begunF (E.i 3401) 1 (E.i 2)) (E.i 3402) (hadF (cellE E (begunF (E.i 3401) 1 (E.i 2)) 0) (E.l 3414)) ∧ TkC E (E.i 3404) (E.i 3405) (E.i 3406) ∧ RngL (E.l 3414) ∧ True ∧ 2 * (E.i 2 - (E.i 3402)) - 1 + ((E.i 3400) + 1) ≤ 2 * E.i 2 ∧ 2 * (E.i 2 - (E.i 3405)) - 1 + ((E.i 3400)) ≤ 2 * E.i 2
  | 22, E => NlC E (E.i 5533) (E.l 5545) ∧ TkC E (E.i 5535) (E.i 5536) (E.i 5537) ∧ RngL (E.l 5545) ∧ True ∧ True ∧ 2 * (E.i 2 - (E.i 5536)) - 1 + ((E.i 5529)) ≤ 2 * E.i 2
  | 23, E => LkC E (E.i 5645) (E.i 5646) ∧ TkC E (E.i 5648) (E.i 5649) (E.i 5650) ∧ RngL (E.l 5658) ∧ True ∧ 2 * (E.i 2 - (E.i 5646)) + ((E.i 5644) + 1) ≤ 2 * E.i 2 ∧ 2 * (E.i 2 - (E.i 5649)) - 1 + ((E.i 5644)) ≤ 2 * E.i 2
  | 24, E => TkC E (begunF (E.i 3601) 1 (E.i 2)) (E.i 3602) (hadF (cellE E (begunF (E.i 3601) 1 (E.i 2)) 0) (E.l 3616)) ∧ NlC E (E.i 3607) (E.l 3616) ∧ RngL (E.l 3616) ∧ True ∧ 2 * (E.i 2 - (E.i 3602)) - 1 + ((E.i 3600) + 1) ≤ 2 * E.i 2 ∧ True
  | 25, E => NlC E (E.i 6149) (E.l 6163) ∧ NlC E (E.i 6154) (E.l 6163) ∧ RngL (E.l 6163) ∧ DsC (E.i 6149) (E.i 6154) ∧ True ∧ True
  | 26, E => LkC E (E.i 6251) (E.i 6252) ∧ NlC E (E.i 6257) (E.l 6266) ∧ RngL (E.l 6266) ∧ True ∧ 2 * (E.i 2 - (E.i 6252)) + ((E.i 6250) + 1) ≤ 2 * E.i 2 ∧ True
  | _, _ => True

theorem twoC {E : Env} (hr : rightE E) : IntKind.i64.wrap (IntKind.i64.wrap (2 * E.i 2) + 1) = 2 * E.i 2 + 1 := by
  have c := capC hr
  rw [wrap64_small (x := 2 * E.i 2) (by omega) (by omega), wrap64_small (by omega) (by omega)]
theorem ds_ne {E : Env} {g h : Int} {R : List Int} (ha : NlC E g R) (hD : DsC g h) (hg : g ≠ 0) : g % 4294967296 ≠ h % 4294967296 := by
  rcases ha with q | ⟨i, i1, i2, i3, _⟩
  · exact absurd q hg
  · rcases hD with q | q | q
    · exact absurd q hg
    · rw [q, i3]
      omega
    · exact q
theorem t0 {E : Env} (h : TabR (tabsOf pks 0) E) : ∀ i, WordP (E.t 0 i 0) := fun i => by
  have := h (0, 0, 0, 18446744073709551615) (List.mem_of_getElem? (i := 0) rfl) i
  exact ⟨this.1, Int.lt_of_le_of_lt this.2 (by decide)⟩
theorem runS (E : Env) (h1 : symRng E pks 0 0) : ObsOk E Phi obS := by
  have htab := tabsOf_ok E h1
  refine ⟨fun hc => ?_, trivial⟩
  have hr : rightE E := right_of hc.2.2.2.1
  have c := capC hr
  have z : LkC E 0 0 := ⟨Int.le_refl 0, by omega, Int.le_refl 0, by omega⟩
  exact ⟨z, z, ofTab_rng (t := fun i => E.t 0 i 0) (t0 htab) _, trivial, trivial, trivial⟩
theorem run0_0 (E : Env) (hfs : ∀ b ∈ cut0.fs, @BE.val E b = true) (hphi : Phi 0 E) (htab : TabR (tabsOf pks 0) E) : ObsOk E Phi ob0_0 := by
  have hr : rightE E := right_of (f0_24 E hfs)
  obtain ⟨ha, hb, hR, hD, hBa, hBb⟩ : LkC E (E.i 1035) (E.i 1036) ∧ LkC E (E.i 1038) (E.i 1039) ∧ RngL (E.l 1046) ∧ True ∧ True ∧ True := id hphi
  have hlen : (((E.l 1046)).length : Int) = ((E.i 8).toNat : Int) := eq_of_beq (f0_1 E hfs)
  refine ⟨fun hc => ?_, fun hc => ?_, fun hc => ?_, fun hc => ?_, fun hc => ?_, fun hc => ?_, fun hc => ?_, trivial⟩
  · exact decide_eq_true (show 0 ≤ (hadF (cellE E (begunF (E.i 1035) 1 (E.i 2)) 0) (E.l 1046)) from (hR _).1)
  · exact decide_eq_true (show (hadF (cellE E (begunF (E.i 1035) 1 (E.i 2)) 0) (E.l 1046)) < 18446744073709551616 from (hR _).2)
  · exact nzC hr _
  · exact ⟨lk_tk hr 1 ha hR hc.1, hb, hR, trivial, trivial, trivial⟩
  · exact ⟨nl0, hb, hR, trivial, trivial, trivial⟩
  · exact ⟨lk_go hr 1 ha hc.1, hb, hR, trivial, trivial, trivial⟩
  · exact ⟨ha, hb, hR, trivial, (by have q := ha; show 2 * (E.i 2 - (E.i 1036)) + (0) ≤ 2 * E.i 2; have c := capC hr; have k0 := q.2.2.1; have k1 := q.2.2.2; omega), (by have q := hb; show 2 * (E.i 2 - (E.i 1039)) + (0) ≤ 2 * E.i 2; have c := capC hr; have k0 := q.2.2.1; have k1 := q.2.2.2; omega)⟩
theorem run0_1 (E : Env) (hfs : ∀ b ∈ cut0.fs, @BE.val E b = true) (hphi : Phi 0 E) (htab : TabR (tabsOf pks 0) E) : ObsOk E Phi ob0_1 := by
  have hr : rightE E := right_of (f0_24 E hfs)
  obtain ⟨ha, hb, hR, hD, hBa, hBb⟩ : LkC E (E.i 1035) (E.i 1036) ∧ LkC E (E.i 1038) (E.i 1039) ∧ RngL (E.l 1046) ∧ True ∧ True ∧ True := id hphi
  have hlen : (((E.l 1046)).length : Int) = ((E.i 8).toNat : Int) := eq_of_beq (f0_1 E hfs)
  refine ⟨fun hc => ?_, fun hc => ?_, fun hc => ?_, fun hc => ?_, fun hc => ?_, fun hc => ?_, fun hc => ?_, trivial⟩
  · exact decide_eq_true (show 0 ≤ (hadF (cellE E (begunF (E.i 1038) 2 (E.i 2)) 0) (E.l 1046)) from (hR _).1)
  · exact decide_eq_true (show (hadF (cellE E (begunF (E.i 1038) 2 (E.i 2)) 0) (E.l 1046)) < 18446744073709551616 from (hR _).2)
  · exact nzC hr _
  · exact ⟨ha, lk_tk hr 2 hb hR hc.1, hR, trivial, trivial, trivial⟩
  · exact ⟨ha, nl0, hR, trivial, trivial, trivial⟩
  · exact ⟨ha, lk_go hr 2 hb hc.1, hR, trivial, trivial, trivial⟩
  · exact ⟨ha, hb, hR, trivial, (by have q := ha; show 2 * (E.i 2 - (E.i 1036)) + (0) ≤ 2 * E.i 2; have c := capC hr; have k0 := q.2.2.1; have k1 := q.2.2.2; omega), (by have q := hb; show 2 * (E.i 2 - (E.i 1039)) + (0) ≤ 2 * E.i 2; have c := capC hr; have k0 := q.2.2.1; have k1 := q.2.2.2; omega)⟩
theorem run1_0 (E : Env) (hfs : ∀ b ∈ cut1.fs, @BE.val E b = true) (hphi : Phi 1 E) (htab : TabR (tabsOf pks 0) E) : ObsOk E Phi ob1_0 := by
  have hr : rightE E := right_of (f1_24 E hfs)
  obtain ⟨ha, hb, hR, hD, hBa, hBb⟩ : TkC E (E.i 1239) (E.i 1240) (E.i 1241) ∧ LkC E (E.i 1242) (E.i 1243) ∧ RngL (E.l 1250) ∧ True ∧ True ∧ True := id hphi
  have hlen : (((E.l 1250)).length : Int) = ((E.i 8).toNat : Int) := eq_of_beq (f1_1 E hfs)
  refine ⟨fun hc => ?_, fun hc => ?_, fun hc => ?_, fun hc => ?_, fun hc => ?_, fun hc => ?_, fun hc => ?_, fun hc => ?_, trivial⟩
  · exact decide_eq_true (show 0 ≤ (E.i 1241) from ha.2.2.2.2.1)
  · exact decide_eq_true (show (E.i 1241) < 18446744073709551616 from ha.2.2.2.2.2.1)
  · exact nzC hr _
  · exact nzC hr _
  · exact ⟨nl0, hb, tk_row ha hR, trivial, trivial, trivial⟩
  · exact ⟨tk_go hr ha hc.1, hb, tk_row ha hR, trivial, trivial, trivial⟩
  · exact ⟨tk_nl hr ha hc.1, hb, tk_row ha hR, trivial, trivial, trivial⟩
  · exact ⟨ha, hb, hR, trivial, (by have q := ha; show 2 * (E.i 2 - (E.i 1240)) - 1 + (0) ≤ 2 * E.i 2; have c := capC hr; have k0 := q.2.2.1; have k1 := q.2.2.2.1; omega), (by have q := hb; show 2 * (E.i 2 - (E.i 1243)) + (0) ≤ 2 * E.i 2; have c := capC hr; have k0 := q.2.2.1; have k1 := q.2.2.2; omega)⟩
theorem run1_1 (E : Env) (hfs : ∀ b ∈ cut1.fs, @BE.val E b = true) (hphi : Phi 1 E) (htab : TabR (tabsOf pks 0) E) : ObsOk E Phi ob1_1 := by
  have hr : rightE E := right_of (f1_24 E hfs)
  obtain ⟨ha, hb, hR, hD, hBa, hBb⟩ : TkC E (E.i 1239) (E.i 1240) (E.i 1241) ∧ LkC E (E.i 1242) (E.i 1243) ∧ RngL (E.l 1250) ∧ True ∧ True ∧ True := id hphi
  have hlen : (((E.l 1250)).length : Int) = ((E.i 8).toNat : Int) := eq_of_beq (f1_1 E hfs)
  refine ⟨fun hc => ?_, fun hc => ?_, fun hc => ?_, fun hc => ?_, fun hc => ?_, fun hc => ?_, fun hc => ?_, trivial⟩
  · exact decide_eq_true (show 0 ≤ (hadF (cellE E (begunF (E.i 1242) 2 (E.i 2)) 0) (E.l 1250)) from (hR _).1)
  · exact decide_eq_true (show (hadF (cellE E (begunF (E.i 1242) 2 (E.i 2)) 0) (E.l 1250)) < 18446744073709551616 from (hR _).2)
  · exact nzC hr _
  · exact ⟨ha, lk_tk hr 2 hb hR hc.1, hR, trivial, trivial, trivial⟩
  · exact ⟨ha, nl0, hR, trivial, trivial, trivial⟩
  · exact ⟨ha, lk_go hr 2 hb hc.1, hR, trivial, trivial, trivial⟩
  · exact ⟨ha, hb, hR, trivial, (by have q := ha; show 2 * (E.i 2 - (E.i 1240)) - 1 + (0) ≤ 2 * E.i 2; have c := capC hr; have k0 := q.2.2.1; have k1 := q.2.2.2.1; omega), (by have q := hb; show 2 * (E.i 2 - (E.i 1243)) + (0) ≤ 2 * E.i 2; have c := capC hr; have k0 := q.2.2.1; have k1 := q.2.2.2; omega)⟩
theorem run2_0 (E : Env) (hfs : ∀ b ∈ cut2.fs, @BE.val E b = true) (hphi : Phi 2 E) (htab : TabR (tabsOf pks 0) E) : ObsOk E Phi ob2_0 := by
  have hr : rightE E := right_of (f2_24 E hfs)
  obtain ⟨ha, hb, hR, hD, hBa, hBb⟩ : NlC E (E.i 1472) (E.l 1484) ∧ LkC E (E.i 1474) (E.i 1475) ∧ RngL (E.l 1484) ∧ True ∧ True ∧ True := id hphi
  have hlen : (((E.l 1484)).length : Int) = ((E.i 8).toNat : Int) := eq_of_beq (f2_1 E hfs)
  refine ⟨fun hc => ?_, fun hc => ?_, fun hc => ?_, fun hc => ?_, fun hc => ?_, fun hc => ?_, fun hc => ?_, fun hc => ?_, trivial⟩
  · exact ⟨ha, hb, hR, trivial, trivial, trivial⟩
  · exact decide_eq_true (show 0 ≤ (hadF (cellE E (begunF (E.i 1474) 2 (E.i 2)) 0) (E.l 1484)) from (hR _).1)
  · exact decide_eq_true (show (hadF (cellE E (begunF (E.i 1474) 2 (E.i 2)) 0) (E.l 1484)) < 18446744073709551616 from (hR _).2)
  · exact nzC hr _
  · exact ⟨ha, lk_tk hr 2 hb hR hc.1, hR, trivial, trivial, trivial⟩
  · exact ⟨ha, nl0, hR, .inr (.inl rfl), trivial, trivial⟩
  · exact ⟨ha, lk_go hr 2 hb hc.1, hR, trivial, trivial, trivial⟩
  · exact ⟨ha, hb, hR, trivial, trivial, (by have q := hb; show 2 * (E.i 2 - (E.i 1475)) + (0) ≤ 2 * E.i 2; have c := capC hr; have k0 := q.2.2.1; have k1 := q.2.2.2; omega)⟩
theorem run3_0 (E : Env) (hfs : ∀ b ∈ cut3.fs, @BE.val E b = true) (hphi : Phi 3 E) (htab : TabR (tabsOf pks 0) E) : ObsOk E Phi ob3_0 := by
  have hr : rightE E := right_of (f3_24 E hfs)
  obtain ⟨ha, hb, hR, hD, hBa, hBb⟩ : LkC E (E.i 1639) (E.i 1640) ∧ TkC E (E.i 1642) (E.i 1643) (E.i 1644) ∧ RngL (E.l 1650) ∧ True ∧ True ∧ True := id hphi
  have hlen : (((E.l 1650)).length : Int) = ((E.i 8).toNat : Int) := eq_of_beq (f3_1 E hfs)
  refine ⟨fun hc => ?_, fun hc => ?_, fun hc => ?_, fun hc => ?_, fun hc => ?_, fun hc => ?_, fun hc => ?_, trivial⟩
  · exact decide_eq_true (show 0 ≤ (hadF (cellE E (begunF (E.i 1639) 1 (E.i 2)) 0) (E.l 1650)) from (hR _).1)
  · exact decide_eq_true (show (hadF (cellE E (begunF (E.i 1639) 1 (E.i 2)) 0) (E.l 1650)) < 18446744073709551616 from (hR _).2)
  · exact nzC hr _
  · exact ⟨lk_tk hr 1 ha hR hc.1, hb, hR, trivial, trivial, trivial⟩
  · exact ⟨nl0, hb, hR, trivial, trivial, trivial⟩
  · exact ⟨lk_go hr 1 ha hc.1, hb, hR, trivial, trivial, trivial⟩
  · exact ⟨ha, hb, hR, trivial, (by have q := ha; show 2 * (E.i 2 - (E.i 1640)) + (0) ≤ 2 * E.i 2; have c := capC hr; have k0 := q.2.2.1; have k1 := q.2.2.2; omega), (by have q := hb; show 2 * (E.i 2 - (E.i 1643)) - 1 + (0) ≤ 2 * E.i 2; have c := capC hr; have k0 := q.2.2.1; have k1 := q.2.2.2.1; omega)⟩
theorem run3_1 (E : Env) (hfs : ∀ b ∈ cut3.fs, @BE.val E b = true) (hphi : Phi 3 E) (htab : TabR (tabsOf pks 0) E) : ObsOk E Phi ob3_1 := by
  have hr : rightE E := right_of (f3_24 E hfs)
  obtain ⟨ha, hb, hR, hD, hBa, hBb⟩ : LkC E (E.i 1639) (E.i 1640) ∧ TkC E (E.i 1642) (E.i 1643) (E.i 1644) ∧ RngL (E.l 1650) ∧ True ∧ True ∧ True := id hphi
  have hlen : (((E.l 1650)).length : Int) = ((E.i 8).toNat : Int) := eq_of_beq (f3_1 E hfs)
  refine ⟨fun hc => ?_, fun hc => ?_, fun hc => ?_, fun hc => ?_, fun hc => ?_, fun hc => ?_, fun hc => ?_, fun hc => ?_, trivial⟩
  · exact decide_eq_true (show 0 ≤ (E.i 1644) from hb.2.2.2.2.1)
  · exact decide_eq_true (show (E.i 1644) < 18446744073709551616 from hb.2.2.2.2.2.1)
  · exact nzC hr _
  · exact nzC hr _
  · exact ⟨ha, nl0, tk_row hb hR, trivial, trivial, trivial⟩
  · exact ⟨ha, tk_go hr hb hc.1, tk_row hb hR, trivial, trivial, trivial⟩
  · exact ⟨ha, tk_nl hr hb hc.1, tk_row hb hR, trivial, trivial, trivial⟩
  · exact ⟨ha, hb, hR, trivial, (by have q := ha; show 2 * (E.i 2 - (E.i 1640)) + (0) ≤ 2 * E.i 2; have c := capC hr; have k0 := q.2.2.1; have k1 := q.2.2.2; omega), (by have q := hb; show 2 * (E.i 2 - (E.i 1643)) - 1 + (0) ≤ 2 * E.i 2; have c := capC hr; have k0 := q.2.2.1; have k1 := q.2.2.2.1; omega)⟩
theorem run4_0 (E : Env) (hfs : ∀ b ∈ cut4.fs, @BE.val E b = true) (hphi : Phi 4 E) (htab : TabR (tabsOf pks 0) E) : ObsOk E Phi ob4_0 := by
  have hr : rightE E := right_of (f4_24 E hfs)
  obtain ⟨ha, hb, hR, hD, hBa, hBb⟩ : LkC E (E.i 1869) (E.i 1870) ∧ NlC E (E.i 1875) (E.l 1884) ∧ RngL (E.l 1884) ∧ True ∧ True ∧ True := id hphi
  have hlen : (((E.l 1884)).length : Int) = ((E.i 8).toNat : Int) := eq_of_beq (f4_1 E hfs)
  refine ⟨fun hc => ?_, fun hc => ?_, fun hc => ?_, fun hc => ?_, fun hc => ?_, fun hc => ?_, fun hc => ?_, fun hc => ?_, trivial⟩
  · exact decide_eq_true (show 0 ≤ (hadF (cellE E (begunF (E.i 1869) 1 (E.i 2)) 0) (E.l 1884)) from (hR _).1)
  · exact decide_eq_true (show (hadF (cellE E (begunF (E.i 1869) 1 (E.i 2)) 0) (E.l 1884)) < 18446744073709551616 from (hR _).2)
  · exact nzC hr _
  · exact ⟨lk_tk hr 1 ha hR hc.1, hb, hR, trivial, trivial, trivial⟩
  · exact ⟨nl0, hb, hR, .inl rfl, trivial, trivial⟩
  · exact ⟨lk_go hr 1 ha hc.1, hb, hR, trivial, trivial, trivial⟩
  · exact ⟨ha, hb, hR, trivial, trivial, trivial⟩
  · exact ⟨ha, hb, hR, trivial, (by have q := ha; show 2 * (E.i 2 - (E.i 1870)) + (0) ≤ 2 * E.i 2; have c := capC hr; have k0 := q.2.2.1; have k1 := q.2.2.2; omega), trivial⟩
theorem run5_0 (E : Env) (hfs : ∀ b ∈ cut5.fs, @BE.val E b = true) (hphi : Phi 5 E) (htab : TabR (tabsOf pks 0) E) : ObsOk E Phi ob5_0 := by
  have hr : rightE E := right_of (f5_24 E hfs)
  obtain ⟨ha, hb, hR, hD, hBa, hBb⟩ : TkC E (E.i 2004) (E.i 2005) (E.i 2006) ∧ TkC E (E.i 2007) (E.i 2008) (E.i 2009) ∧ RngL (E.l 1100) ∧ True ∧ True ∧ True := id hphi
  have hlen : (((E.l 1100)).length : Int) = ((E.i 8).toNat : Int) := eq_of_beq (f5_1 E hfs)
  refine ⟨fun hc => ?_, fun hc => ?_, fun hc => ?_, fun hc => ?_, fun hc => ?_, fun hc => ?_, fun hc => ?_, fun hc => ?_, trivial⟩
  · exact decide_eq_true (show 0 ≤ (E.i 2006) from ha.2.2.2.2.1)
  · exact decide_eq_true (show (E.i 2006) < 18446744073709551616 from ha.2.2.2.2.2.1)
  · exact nzC hr _
  · exact nzC hr _
  · exact ⟨nl0, hb, tk_row ha hR, trivial, trivial, trivial⟩
  · exact ⟨tk_go hr ha hc.1, hb, tk_row ha hR, trivial, trivial, trivial⟩
  · exact ⟨tk_nl hr ha hc.1, hb, tk_row ha hR, trivial, trivial, trivial⟩
  · exact ⟨ha, hb, hR, trivial, (by have q := ha; show 2 * (E.i 2 - (E.i 2005)) - 1 + (0) ≤ 2 * E.i 2; have c := capC hr; have k0 := q.2.2.1; have k1 := q.2.2.2.1; omega), (by have q := hb; show 2 * (E.i 2 - (E.i 2008)) - 1 + (0) ≤ 2 * E.i 2; have c := capC hr; have k0 := q.2.2.1; have k1 := q.2.2.2.1; omega)⟩
theorem run5_1 (E : Env) (hfs : ∀ b ∈ cut5.fs, @BE.val E b = true) (hphi : Phi 5 E) (htab : TabR (tabsOf pks 0) E) : ObsOk E Phi ob5_1 := by
  have hr : rightE E := right_of (f5_24 E hfs)
  obtain ⟨ha, hb, hR, hD, hBa, hBb⟩ : TkC E (E.i 2004) (E.i 2005) (E.i 2006) ∧ TkC E (E.i 2007) (E.i 2008) (E.i 2009) ∧ RngL (E.l 1100) ∧ True ∧ True ∧ True := id hphi
  have hlen : (((E.l 1100)).length : Int) = ((E.i 8).toNat : Int) := eq_of_beq (f5_1 E hfs)
  refine ⟨fun hc => ?_, fun hc => ?_, fun hc => ?_, fun hc => ?_, fun hc => ?_, fun hc => ?_, fun hc => ?_, fun hc => ?_, trivial⟩
  · exact decide_eq_true (show 0 ≤ (E.i 2009) from hb.2.2.2.2.1)
  · exact decide_eq_true (show (E.i 2009) < 18446744073709551616 from hb.2.2.2.2.2.1)
  · exact nzC hr _
  · exact nzC hr _
  · exact ⟨ha, nl0, tk_row hb hR, trivial, trivial, trivial⟩
  · exact ⟨ha, tk_go hr hb hc.1, tk_row hb hR, trivial, trivial, trivial⟩
  · exact ⟨ha, tk_nl hr hb hc.1, tk_row hb hR, trivial, trivial, trivial⟩
  · exact ⟨ha, hb, hR, trivial, (by have q := ha; show 2 * (E.i 2 - (E.i 2005)) - 1 + (0) ≤ 2 * E.i 2; have c := capC hr; have k0 := q.2.2.1; have k1 := q.2.2.2.1; omega), (by have q := hb; show 2 * (E.i 2 - (E.i 2008)) - 1 + (0) ≤ 2 * E.i 2; have c := capC hr; have k0 := q.2.2.1; have k1 := q.2.2.2.1; omega)⟩
theorem run6_0 (E : Env) (hfs : ∀ b ∈ cut6.fs, @BE.val E b = true) (hphi : Phi 6 E) (htab : TabR (tabsOf pks 0) E) : ObsOk E Phi ob6_0 := by
  have hr : rightE E := right_of (f6_24 E hfs)
  obtain ⟨ha, hb, hR, hD, hBa, hBb⟩ : TkC E (E.i 2229) (E.i 2230) (E.i 2231) ∧ NlC E (E.i 2235) (E.l 2244) ∧ RngL (E.l 2244) ∧ True ∧ True ∧ True := id hphi
  have hlen : (((E.l 2244)).length : Int) = ((E.i 8).toNat : Int) := eq_of_beq (f6_1 E hfs)
  refine ⟨fun hc => ?_, fun hc => ?_, fun hc => ?_, fun hc => ?_, fun hc => ?_, fun hc => ?_, fun hc => ?_, fun hc => ?_, fun hc => ?_, trivial⟩
  · exact decide_eq_true (show 0 ≤ (E.i 2231) from ha.2.2.2.2.1)
  · exact decide_eq_true (show (E.i 2231) < 18446744073709551616 from ha.2.2.2.2.2.1)
  · exact nzC hr _
  · exact nzC hr _
  · exact ⟨nl0, nl_keep hr ha hb, tk_row ha hR, .inl rfl, trivial, trivial⟩
  · exact ⟨tk_go hr ha hc.1, nl_keep hr ha hb, tk_row ha hR, trivial, trivial, trivial⟩
  · exact ⟨tk_nl hr ha hc.1, nl_keep hr ha hb, tk_row ha hR, ds_new hr ha hc.1 hb, trivial, trivial⟩
  · exact ⟨ha, hb, hR, trivial, trivial, trivial⟩
  · exact ⟨ha, hb, hR, trivial, (by have q := ha; show 2 * (E.i 2 - (E.i 2230)) - 1 + (0) ≤ 2 * E.i 2; have c := capC hr; have k0 := q.2.2.1; have k1 := q.2.2.2.1; omega), trivial⟩
theorem run7_0 (E : Env) (hfs : ∀ b ∈ cut7.fs, @BE.val E b = true) (hphi : Phi 7 E) (htab : TabR (tabsOf pks 0) E) : ObsOk E Phi ob7_0 := by
  have hr : rightE E := right_of (f7_24 E hfs)
  obtain ⟨ha, hb, hR, hD, hBa, hBb⟩ : NlC E (E.i 2437) (E.l 2449) ∧ TkC E (E.i 2439) (E.i 2440) (E.i 2441) ∧ RngL (E.l 2449) ∧ True ∧ True ∧ True := id hphi
  have hlen : (((E.l 2449)).length : Int) = ((E.i 8).toNat : Int) := eq_of_beq (f7_1 E hfs)
  refine ⟨fun hc => ?_, fun hc => ?_, fun hc => ?_, fun hc => ?_, fun hc => ?_, fun hc => ?_, fun hc => ?_, fun hc => ?_, fun hc => ?_, trivial⟩
  · exact ⟨ha, hb, hR, trivial, trivial, trivial⟩
  · exact decide_eq_true (show 0 ≤ (E.i 2441) from hb.2.2.2.2.1)
  · exact decide_eq_true (show (E.i 2441) < 18446744073709551616 from hb.2.2.2.2.2.1)
  · exact nzC hr _
  · exact nzC hr _
  · exact ⟨nl_keep hr hb ha, nl0, tk_row hb hR, .inr (.inl rfl), trivial, trivial⟩
  · exact ⟨nl_keep hr hb ha, tk_go hr hb hc.1, tk_row hb hR, trivial, trivial, trivial⟩
  · exact ⟨nl_keep hr hb ha, tk_nl hr hb hc.1, tk_row hb hR, ds_sym (ds_new hr hb hc.1 ha), trivial, trivial⟩
  · exact ⟨ha, hb, hR, trivial, trivial, (by have q := hb; show 2 * (E.i 2 - (E.i 2440)) - 1 + (0) ≤ 2 * E.i 2; have c := capC hr; have k0 := q.2.2.1; have k1 := q.2.2.2.1; omega)⟩
theorem run8_0 (E : Env) (hfs : ∀ b ∈ cut8.fs, @BE.val E b = true) (hphi : Phi 8 E) (htab : TabR (tabsOf pks 0) E) : ObsOk E Phi ob8_0 := by
  have hr : rightE E := right_of (f8_24 E hfs)
  obtain ⟨ha, hb, hR, hD, hBa, hBb⟩ : NlC E (E.i 2639) (E.l 2653) ∧ NlC E (E.i 2644) (E.l 2653) ∧ RngL (E.l 2653) ∧ DsC (E.i 2639) (E.i 2644) ∧ True ∧ True := id hphi
  have hlen : (((E.l 2653)).length : Int) = ((E.i 8).toNat : Int) := eq_of_beq (f8_1 E hfs)
  refine ⟨fun hc => ?_, fun hc => ?_, fun hc => ?_, trivial⟩
  · exact ⟨ha, hb, hR, hD, trivial, trivial⟩
  · exact ⟨ha, hb, hR, hD, trivial, trivial⟩
  · exact ⟨ha, hb, hR, hD, trivial, trivial⟩
theorem run9_0 (E : Env) (hfs : ∀ b ∈ cut9.fs, @BE.val E b = true) (hphi : Phi 9 E) (htab : TabR (tabsOf pks 0) E) : ObsOk E Phi ob9_0 := by
  have hr : rightE E := right_of (f9_24 E hfs)
  obtain ⟨ha, hb, hR, hD, hBa, hBb⟩ : LkC E (E.i 2801) (E.i 2802) ∧ LkC E (E.i 2804) (E.i 2805) ∧ RngL (E.l 2814) ∧ True ∧ 2 * (E.i 2 - (E.i 2802)) + ((E.i 2800)) ≤ 2 * E.i 2 ∧ 2 * (E.i 2 - (E.i 2805)) + ((E.i 2800)) ≤ 2 * E.i 2 := id hphi
  have hlen : (((E.l 2814)).length : Int) = ((E.i 8).toNat : Int) := eq_of_beq (f9_1 E hfs)
  refine ⟨fun hc => ?_, fun hc => ?_, fun hc => ?_, fun hc => ?_, fun hc => ?_, fun hc => ?_, fun hc => ?_, trivial⟩
  · exact decide_eq_true (show 0 ≤ (hadF (cellE E (begunF (E.i 2801) 1 (E.i 2)) 0) (E.l 2814)) from (hR _).1)
  · exact decide_eq_true (show (hadF (cellE E (begunF (E.i 2801) 1 (E.i 2)) 0) (E.l 2814)) < 18446744073709551616 from (hR _).2)
  · exact nzC hr _
  · exact ⟨lk_tk hr 1 ha hR hc.1, hb, hR, trivial, (by have q := ha; show 2 * (E.i 2 - (E.i 2802)) - 1 + ((E.i 2800) + 1) ≤ 2 * E.i 2; have c := capC hr; have b := hBa; have k0 := q.2.2.1; have k1 := q.2.2.2; omega), (by have q := hb; show 2 * (E.i 2 - (E.i 2805)) + ((E.i 2800)) ≤ 2 * E.i 2; have c := capC hr; have b := hBb; have k0 := q.2.2.1; have k1 := q.2.2.2; omega)⟩
  · exact ⟨nl0, hb, hR, trivial, trivial, (by have q := hb; show 2 * (E.i 2 - (E.i 2805)) + ((E.i 2800)) ≤ 2 * E.i 2; have c := capC hr; have b := hBb; have k0 := q.2.2.1; have k1 := q.2.2.2; omega)⟩
  · exact ⟨lk_go hr 1 ha hc.1, hb, hR, trivial, (by have q := ha; show 2 * (E.i 2 - (IntKind.i64.wrap ((E.i 2802) + 1))) + ((E.i 2800) + 1) ≤ 2 * E.i 2; rw [upC hr q.2.2.1 q.2.2.2]; have c := capC hr; have b := hBa; have k0 := q.2.2.1; have k1 := q.2.2.2; omega), (by have q := hb; show 2 * (E.i 2 - (E.i 2805)) + ((E.i 2800)) ≤ 2 * E.i 2; have c := capC hr; have b := hBb; have k0 := q.2.2.1; have k1 := q.2.2.2; omega)⟩
  · exfalso
    have h1 : IntKind.i64.wrap (IntKind.i64.wrap (2 * E.i 2) + 1) ≤ (E.i 2800) := of_decide_eq_true hc.1
    rw [twoC hr] at h1
    have q := ha
    have b := hBa
    have q4 := q.2.2.2
    omega
theorem run10_0 (E : Env) (hfs : ∀ b ∈ cut10.fs, @BE.val E b = true) (hphi : Phi 10 E) (htab : TabR (tabsOf pks 0) E) : ObsOk E Phi ob10_0 := by
  have hr : rightE E := right_of (f10_24 E hfs)
  obtain ⟨ha, hb, hR, hD, hBa, hBb⟩ : TkC E (E.i 3001) (E.i 3002) (E.i 3003) ∧ LkC E (E.i 3004) (E.i 3005) ∧ RngL (E.l 3014) ∧ True ∧ 2 * (E.i 2 - (E.i 3002)) - 1 + ((E.i 3000)) ≤ 2 * E.i 2 ∧ 2 * (E.i 2 - (E.i 3005)) + ((E.i 3000)) ≤ 2 * E.i 2 := id hphi
  have hlen : (((E.l 3014)).length : Int) = ((E.i 8).toNat : Int) := eq_of_beq (f10_1 E hfs)
  refine ⟨fun hc => ?_, fun hc => ?_, fun hc => ?_, fun hc => ?_, fun hc => ?_, fun hc => ?_, fun hc => ?_, fun hc => ?_, trivial⟩
  · exact decide_eq_true (show 0 ≤ (E.i 3003) from ha.2.2.2.2.1)
  · exact decide_eq_true (show (E.i 3003) < 18446744073709551616 from ha.2.2.2.2.2.1)
  · exact nzC hr _
  · exact nzC hr _
  · exact ⟨nl0, hb, tk_row ha hR, trivial, trivial, (by have q := hb; show 2 * (E.i 2 - (E.i 3005)) + ((E.i 3000)) ≤ 2 * E.i 2; have c := capC hr; have b := hBb; have k0 := q.2.2.1; have k1 := q.2.2.2; omega)⟩
  · exact ⟨tk_go hr ha hc.1, hb, tk_row ha hR, trivial, (by have q := ha; show 2 * (E.i 2 - (IntKind.i64.wrap ((E.i 3002) + 1))) + ((E.i 3000) + 1) ≤ 2 * E.i 2; rw [upC hr q.2.2.1 q.2.2.2.1]; have c := capC hr; have b := hBa; have k0 := q.2.2.1; have k1 := q.2.2.2.1; omega), (by have q := hb; show 2 * (E.i 2 - (E.i 3005)) + ((E.i 3000)) ≤ 2 * E.i 2; have c := capC hr; have b := hBb; have k0 := q.2.2.1; have k1 := q.2.2.2; omega)⟩
  · exact ⟨tk_nl hr ha hc.1, hb, tk_row ha hR, trivial, trivial, (by have q := hb; show 2 * (E.i 2 - (E.i 3005)) + ((E.i 3000)) ≤ 2 * E.i 2; have c := capC hr; have b := hBb; have k0 := q.2.2.1; have k1 := q.2.2.2; omega)⟩
  · exfalso
    have h1 : IntKind.i64.wrap (IntKind.i64.wrap (2 * E.i 2) + 1) ≤ (E.i 3000) := of_decide_eq_true hc.1
    rw [twoC hr] at h1
    have q := ha
    have b := hBa
    obtain ⟨_, _, _, q4, _⟩ := q
    omega
theorem run11_0 (E : Env) (hfs : ∀ b ∈ cut11.fs, @BE.val E b = true) (hphi : Phi 11 E) (htab : TabR (tabsOf pks 0) E) : ObsOk E Phi ob11_0 := by
  have hr : rightE E := right_of (f11_24 E hfs)
  obtain ⟨ha, hb, hR, hD, hBa, hBb⟩ : NlC E (E.i 3204) (E.l 3216) ∧ LkC E (E.i 3206) (E.i 3207) ∧ RngL (E.l 3216) ∧ True ∧ True ∧ 2 * (E.i 2 - (E.i 3207)) + ((E.i 3200)) ≤ 2 * E.i 2 := id hphi
  have hlen : (((E.l 3216)).length : Int) = ((E.i 8).toNat : Int) := eq_of_beq (f11_1 E hfs)
  refine ⟨fun hc => ?_, fun hc => ?_, trivial⟩
  · exact ⟨ha, hb, hR, trivial, trivial, (by have q := hb; show 2 * (E.i 2 - (E.i 3207)) + ((E.i 3200)) ≤ 2 * E.i 2; have c := capC hr; have b := hBb; have k0 := q.2.2.1; have k1 := q.2.2.2; omega)⟩
  · exfalso
    have h1 : IntKind.i64.wrap (IntKind.i64.wrap (2 * E.i 2) + 1) ≤ (E.i 3200) := of_decide_eq_true hc.1
    rw [twoC hr] at h1
    have q := hb
    have b := hBb
    have q4 := q.2.2.2
    omega
theorem run12_0 (E : Env) (hfs : ∀ b ∈ cut12.fs, @BE.val E b = true) (hphi : Phi 12 E) (htab : TabR (tabsOf pks 0) E) : ObsOk E Phi ob12_0 := by
  have hr : rightE E := right_of (f12_24 E hfs)
  obtain ⟨ha, hb, hR, hD, hBa, hBb⟩ : LkC E (E.i 3401) (E.i 3402) ∧ TkC E (E.i 3404) (E.i 3405) (E.i 3406) ∧ RngL (E.l 3414) ∧ True ∧ 2 * (E.i 2 - (E.i 3402)) + ((E.i 3400)) ≤ 2 * E.i 2 ∧ 2 * (E.i 2 - (E.i 3405)) - 1 + ((E.i 3400)) ≤ 2 * E.i 2 := id hphi
  have hlen : (((E.l 3414)).length : Int) = ((E.i 8).toNat : Int) := eq_of_beq (f12_1 E hfs)
  refine ⟨fun hc => ?_, fun hc => ?_, fun hc => ?_, fun hc => ?_, fun hc => ?_, fun hc => ?_, fun hc => ?_, trivial⟩
  · exact decide_eq_true (show 0 ≤ (hadF (cellE E (begunF (E.i 3401) 1 (E.i 2)) 0) (E.l 3414)) from (hR _).1)
  · exact decide_eq_true (show (hadF (cellE E (begunF (E.i 3401) 1 (E.i 2)) 0) (E.l 3414)) < 18446744073709551616 from (hR _).2)
  · exact nzC hr _
  · exact ⟨lk_tk hr 1 ha hR hc.1, hb, hR, trivial, (by have q := ha; show 2 * (E.i 2 - (E.i 3402)) - 1 + ((E.i 3400) + 1) ≤ 2 * E.i 2; have c := capC hr; have b := hBa; have k0 := q.2.2.1; have k1 := q.2.2.2; omega), (by have q := hb; show 2 * (E.i 2 - (E.i 3405)) - 1 + ((E.i 3400)) ≤ 2 * E.i 2; have c := capC hr; have b := hBb; have k0 := q.2.2.1; have k1 := q.2.2.2.1; omega)⟩
  · exact ⟨nl0, hb, hR, trivial, trivial, (by have q := hb; show 2 * (E.i 2 - (E.i 3405)) - 1 + ((E.i 3400)) ≤ 2 * E.i 2; have c := capC hr; have b := hBb; have k0 := q.2.2.1; have k1 := q.2.2.2.1; omega)⟩
  · exact ⟨lk_go hr 1 ha hc.1, hb, hR, trivial, (by have q := ha; show 2 * (E.i 2 - (IntKind.i64.wrap ((E.i 3402) + 1))) + ((E.i 3400) + 1) ≤ 2 * E.i 2; rw [upC hr q.2.2.1 q.2.2.2]; have c := capC hr; have b := hBa; have k0 := q.2.2.1; have k1 := q.2.2.2; omega), (by have q := hb; show 2 * (E.i 2 - (E.i 3405)) - 1 + ((E.i 3400)) ≤ 2 * E.i 2; have c := capC hr; have b := hBb; have k0 := q.2.2.1; have k1 := q.2.2.2.1; omega)⟩
  · exfalso
    have h1 : IntKind.i64.wrap (IntKind.i64.wrap (2 * E.i 2) + 1) ≤ (E.i 3400) := of_decide_eq_true hc.1
    rw [twoC hr] at h1
    have q := ha
    have b := hBa
    have q4 := q.2.2.2
    omega
theorem run13_0 (E : Env) (hfs : ∀ b ∈ cut13.fs, @BE.val E b = true) (hphi : Phi 13 E) (htab : TabR (tabsOf pks 0) E) : ObsOk E Phi ob13_0 := by
  have hr : rightE E := right_of (f13_24 E hfs)
  obtain ⟨ha, hb, hR, hD, hBa, hBb⟩ : LkC E (E.i 3601) (E.i 3602) ∧ NlC E (E.i 3607) (E.l 3616) ∧ RngL (E.l 3616) ∧ True ∧ 2 * (E.i 2 - (E.i 3602)) + ((E.i 3600)) ≤ 2 * E.i 2 ∧ True := id hphi
  have hlen : (((E.l 3616)).length : Int) = ((E.i 8).toNat : Int) := eq_of_beq (f13_1 E hfs)
  refine ⟨fun hc => ?_, fun hc => ?_, fun hc => ?_, fun hc => ?_, fun hc => ?_, fun hc => ?_, fun hc => ?_, trivial⟩
  · exact decide_eq_true (show 0 ≤ (hadF (cellE E (begunF (E.i 3601) 1 (E.i 2)) 0) (E.l 3616)) from (hR _).1)
  · exact decide_eq_true (show (hadF (cellE E (begunF (E.i 3601) 1 (E.i 2)) 0) (E.l 3616)) < 18446744073709551616 from (hR _).2)
  · exact nzC hr _
  · exact ⟨lk_tk hr 1 ha hR hc.1, hb, hR, trivial, (by have q := ha; show 2 * (E.i 2 - (E.i 3602)) - 1 + ((E.i 3600) + 1) ≤ 2 * E.i 2; have c := capC hr; have b := hBa; have k0 := q.2.2.1; have k1 := q.2.2.2; omega), trivial⟩
  · exact ⟨nl0, hb, hR, .inl rfl, trivial, trivial⟩
  · exact ⟨lk_go hr 1 ha hc.1, hb, hR, trivial, (by have q := ha; show 2 * (E.i 2 - (IntKind.i64.wrap ((E.i 3602) + 1))) + ((E.i 3600) + 1) ≤ 2 * E.i 2; rw [upC hr q.2.2.1 q.2.2.2]; have c := capC hr; have b := hBa; have k0 := q.2.2.1; have k1 := q.2.2.2; omega), trivial⟩
  · exfalso
    have h1 : IntKind.i64.wrap (IntKind.i64.wrap (2 * E.i 2) + 1) ≤ (E.i 3600) := of_decide_eq_true hc.1
    rw [twoC hr] at h1
    have q := ha
    have b := hBa
    have q4 := q.2.2.2
    omega
theorem run14_0 (E : Env) (hfs : ∀ b ∈ cut14.fs, @BE.val E b = true) (hphi : Phi 14 E) (htab : TabR (tabsOf pks 0) E) : ObsOk E Phi ob14_0 := by
  have hr : rightE E := right_of (f14_24 E hfs)
  obtain ⟨ha, hb, hR, hD, hBa, hBb⟩ : TkC E (E.i 3801) (E.i 3802) (E.i 3803) ∧ TkC E (E.i 3804) (E.i 3805) (E.i 3806) ∧ RngL (E.l 3812) ∧ True ∧ 2 * (E.i 2 - (E.i 3802)) - 1 + ((E.i 3800)) ≤ 2 * E.i 2 ∧ 2 * (E.i 2 - (E.i 3805)) - 1 + ((E.i 3800)) ≤ 2 * E.i 2 := id hphi
  have hlen : (((E.l 3812)).length : Int) = ((E.i 8).toNat : Int) := eq_of_beq (f14_1 E hfs)
  refine ⟨fun hc => ?_, fun hc => ?_, fun hc => ?_, fun hc => ?_, fun hc => ?_, fun hc => ?_, fun hc => ?_, fun hc => ?_, trivial⟩
  · exact decide_eq_true (show 0 ≤ (E.i 3803) from ha.2.2.2.2.1)
  · exact decide_eq_true (show (E.i 3803) < 18446744073709551616 from ha.2.2.2.2.2.1)
  · exact nzC hr _
  · exact nzC hr _
  · exact ⟨nl0, hb, tk_row ha hR, trivial, trivial, (by have q := hb; show 2 * (E.i 2 - (E.i 3805)) - 1 + ((E.i 3800)) ≤ 2 * E.i 2; have c := capC hr; have b := hBb; have k0 := q.2.2.1; have k1 := q.2.2.2.1; omega)⟩
  · exact ⟨tk_go hr ha hc.1, hb, tk_row ha hR, trivial, (by have q := ha; show 2 * (E.i 2 - (IntKind.i64.wrap ((E.i 3802) + 1))) + ((E.i 3800) + 1) ≤ 2 * E.i 2; rw [upC hr q.2.2.1 q.2.2.2.1]; have c := capC hr; have b := hBa; have k0 := q.2.2.1; have k1 := q.2.2.2.1; omega), (by have q := hb; show 2 * (E.i 2 - (E.i 3805)) - 1 + ((E.i 3800)) ≤ 2 * E.i 2; have c := capC hr; have b := hBb; have k0 := q.2.2.1; have k1 := q.2.2.2.1; omega)⟩
  · exact ⟨tk_nl hr ha hc.1, hb, tk_row ha hR, trivial, trivial, (by have q := hb; show 2 * (E.i 2 - (E.i 3805)) - 1 + ((E.i 3800)) ≤ 2 * E.i 2; have c := capC hr; have b := hBb; have k0 := q.2.2.1; have k1 := q.2.2.2.1; omega)⟩
  · exfalso
    have h1 : IntKind.i64.wrap (IntKind.i64.wrap (2 * E.i 2) + 1) ≤ (E.i 3800) := of_decide_eq_true hc.1
    rw [twoC hr] at h1
    have q := ha
    have b := hBa
    obtain ⟨_, _, _, q4, _⟩ := q
    omega
theorem run15_0 (E : Env) (hfs : ∀ b ∈ cut15.fs, @BE.val E b = true) (hphi : Phi 15 E) (htab : TabR (tabsOf pks 0) E) : ObsOk E Phi ob15_0 := by
  have hr : rightE E := right_of (f15_24 E hfs)
  obtain ⟨ha, hb, hR, hD, hBa, hBb⟩ : TkC E (E.i 4001) (E.i 4002) (E.i 4003) ∧ NlC E (E.i 4007) (E.l 4016) ∧ RngL (E.l 4016) ∧ True ∧ 2 * (E.i 2 - (E.i 4002)) - 1 + ((E.i 4000)) ≤ 2 * E.i 2 ∧ True := id hphi
  have hlen : (((E.l 4016)).length : Int) = ((E.i 8).toNat : Int) := eq_of_beq (f15_1 E hfs)
  refine ⟨fun hc => ?_, fun hc => ?_, fun hc => ?_, fun hc => ?_, fun hc => ?_, fun hc => ?_, fun hc => ?_, fun hc => ?_, trivial⟩
  · exact decide_eq_true (show 0 ≤ (E.i 4003) from ha.2.2.2.2.1)
  · exact decide_eq_true (show (E.i 4003) < 18446744073709551616 from ha.2.2.2.2.2.1)
  · exact nzC hr _
  · exact nzC hr _
  · exact ⟨nl0, nl_keep hr ha hb, tk_row ha hR, .inl rfl, trivial, trivial⟩
  · exact ⟨tk_go hr ha hc.1, nl_keep hr ha hb, tk_row ha hR, trivial, (by have q := ha; show 2 * (E.i 2 - (IntKind.i64.wrap ((E.i 4002) + 1))) + ((E.i 4000) + 1) ≤ 2 * E.i 2; rw [upC hr q.2.2.1 q.2.2.2.1]; have c := capC hr; have b := hBa; have k0 := q.2.2.1; have k1 := q.2.2.2.1; omega), trivial⟩
  · exact ⟨tk_nl hr ha hc.1, nl_keep hr ha hb, tk_row ha hR, ds_new hr ha hc.1 hb, trivial, trivial⟩
  · exfalso
    have h1 : IntKind.i64.wrap (IntKind.i64.wrap (2 * E.i 2) + 1) ≤ (E.i 4000) := of_decide_eq_true hc.1
    rw [twoC hr] at h1
    have q := ha
    have b := hBa
    obtain ⟨_, _, _, q4, _⟩ := q
    omega
theorem run16_0 (E : Env) (hfs : ∀ b ∈ cut16.fs, @BE.val E b = true) (hphi : Phi 16 E) (htab : TabR (tabsOf pks 0) E) : ObsOk E Phi ob16_0 := by
  have hr : rightE E := right_of (f16_24 E hfs)
  obtain ⟨ha, hb, hR, hD, hBa, hBb⟩ : NlC E (E.i 4204) (E.l 4216) ∧ TkC E (E.i 4206) (E.i 4207) (E.i 4208) ∧ RngL (E.l 4216) ∧ True ∧ True ∧ 2 * (E.i 2 - (E.i 4207)) - 1 + ((E.i 4200)) ≤ 2 * E.i 2 := id hphi
  have hlen : (((E.l 4216)).length : Int) = ((E.i 8).toNat : Int) := eq_of_beq (f16_1 E hfs)
  refine ⟨fun hc => ?_, fun hc => ?_, trivial⟩
  · exact ⟨ha, hb, hR, trivial, trivial, (by have q := hb; show 2 * (E.i 2 - (E.i 4207)) - 1 + ((E.i 4200)) ≤ 2 * E.i 2; have c := capC hr; have b := hBb; have k0 := q.2.2.1; have k1 := q.2.2.2.1; omega)⟩
  · exfalso
    have h1 : IntKind.i64.wrap (IntKind.i64.wrap (2 * E.i 2) + 1) ≤ (E.i 4200) := of_decide_eq_true hc.1
    rw [twoC hr] at h1
    have q := hb
    have b := hBb
    obtain ⟨_, _, _, q4, _⟩ := q
    omega
theorem run17_0 (E : Env) (hfs : ∀ b ∈ cut17.fs, @BE.val E b = true) (hphi : Phi 17 E) (htab : TabR (tabsOf pks 0) E) : ObsOk E Phi ob17_0 := by
  have hr : rightE E := right_of (f17_24 E hfs)
  obtain ⟨ha, hb, hR, hD, hBa, hBb⟩ : NlC E (E.i 4404) (E.l 4418) ∧ NlC E (E.i 4409) (E.l 4418) ∧ RngL (E.l 4418) ∧ DsC (E.i 4404) (E.i 4409) ∧ True ∧ True := id hphi
  have hlen : (((E.l 4418)).length : Int) = ((E.i 8).toNat : Int) := eq_of_beq (f17_1 E hfs)
  refine ⟨fun hc => ?_, fun hc => ?_, trivial⟩
  · exact ⟨ha, hb, hR, hD, trivial, trivial⟩
  · exact bne_iff_ne.2 (show (E.i 4404) % 4294967296 ≠ (E.i 4409) % 4294967296 from ds_ne ha hD (bne_iff_ne.1 (show ((E.i 4404) != 0) = true from hc.1)))
theorem run18_0 (E : Env) (hfs : ∀ b ∈ cut18.fs, @BE.val E b = true) (hphi : Phi 18 E) (htab : TabR (tabsOf pks 0) E) : ObsOk E Phi ob18_0 := by
  have hr : rightE E := right_of (f18_26 E hfs)
  obtain ⟨ha, hb, hR, hD, hBa, hBb⟩ : TkC E (begunF (E.i 2801) 1 (E.i 2)) (E.i 2802) (hadF (cellE E (begunF (E.i 2801) 1 (E.i 2)) 0) (E.l 2814)) ∧ LkC E (E.i 2804) (E.i 2805) ∧ RngL (E.l 2814) ∧ True ∧ 2 * (E.i 2 - (E.i 2802)) - 1 + ((E.i 2800) + 1) ≤ 2 * E.i 2 ∧ 2 * (E.i 2 - (E.i 2805)) + ((E.i 2800)) ≤ 2 * E.i 2 := id hphi
  have hlen : (((E.l 2814)).length : Int) = ((E.i 8).toNat : Int) := eq_of_beq (f18_1 E hfs)
  have hn0 : 0 ≤ (E.i 2800) := of_decide_eq_true (f18_0 E hfs)
  have hn : (E.i 2800) < IntKind.i64.wrap (IntKind.i64.wrap (2 * E.i 2) + 1) := of_decide_eq_true (f18_3 E hfs)
  rw [twoC hr] at hn
  have hup : IntKind.i64.wrap ((E.i 2800) + 1) = (E.i 2800) + 1 := by have c := capC hr; exact wrap64_small (by omega) (by omega)
  refine ⟨fun hc => ?_, fun hc => ?_, fun hc => ?_, fun hc => ?_, fun hc => ?_, fun hc => ?_, trivial⟩
  · exact decide_eq_true (show 0 ≤ (hadF (cellE E (begunF (E.i 2804) 2 (E.i 2)) 0) (E.l 2814)) from (hR _).1)
  · exact decide_eq_true (show (hadF (cellE E (begunF (E.i 2804) 2 (E.i 2)) 0) (E.l 2814)) < 18446744073709551616 from (hR _).2)
  · exact nzC hr _
  · exact ⟨ha, lk_tk hr 2 hb hR hc.1, hR, trivial, (by have q := ha; show 2 * (E.i 2 - (E.i 2802)) - 1 + ((IntKind.i64.wrap ((E.i 2800) + 1))) ≤ 2 * E.i 2; rw [hup]; have c := capC hr; have b := hBa; have k0 := q.2.2.1; have k1 := q.2.2.2.1; omega), (by have q := hb; show 2 * (E.i 2 - (E.i 2805)) - 1 + ((IntKind.i64.wrap ((E.i 2800) + 1))) ≤ 2 * E.i 2; rw [hup]; have c := capC hr; have b := hBb; have k0 := q.2.2.1; have k1 := q.2.2.2; omega)⟩
  · exact ⟨ha, nl0, hR, trivial, (by have q := ha; show 2 * (E.i 2 - (E.i 2802)) - 1 + ((IntKind.i64.wrap ((E.i 2800) + 1))) ≤ 2 * E.i 2; rw [hup]; have c := capC hr; have b := hBa; have k0 := q.2.2.1; have k1 := q.2.2.2.1; omega), trivial⟩
  · exact ⟨ha, lk_go hr 2 hb hc.1, hR, trivial, (by have q := ha; show 2 * (E.i 2 - (E.i 2802)) - 1 + ((IntKind.i64.wrap ((E.i 2800) + 1))) ≤ 2 * E.i 2; rw [hup]; have c := capC hr; have b := hBa; have k0 := q.2.2.1; have k1 := q.2.2.2.1; omega), (by have q := hb; show 2 * (E.i 2 - (IntKind.i64.wrap ((E.i 2805) + 1))) + ((IntKind.i64.wrap ((E.i 2800) + 1))) ≤ 2 * E.i 2; rw [upC hr q.2.2.1 q.2.2.2]; rw [hup]; have c := capC hr; have b := hBb; have k0 := q.2.2.1; have k1 := q.2.2.2; omega)⟩
theorem run19_0 (E : Env) (hfs : ∀ b ∈ cut19.fs, @BE.val E b = true) (hphi : Phi 19 E) (htab : TabR (tabsOf pks 0) E) : ObsOk E Phi ob19_0 := by
  have hr : rightE E := right_of (f19_25 E hfs)
  obtain ⟨ha, hb, hR, hD, hBa, hBb⟩ : NlC E (E.i 4933) (E.l 4945) ∧ LkC E (E.i 4935) (E.i 4936) ∧ RngL (E.l 4945) ∧ True ∧ True ∧ 2 * (E.i 2 - (E.i 4936)) + ((E.i 4929)) ≤ 2 * E.i 2 := id hphi
  have hlen : (((E.l 4945)).length : Int) = ((E.i 8).toNat : Int) := eq_of_beq (f19_2 E hfs)
  have hn0 : 0 ≤ (E.i 4929) := of_decide_eq_true (f19_0 E hfs)
  have hn : (E.i 4929) < IntKind.i64.wrap (IntKind.i64.wrap (2 * E.i 2) + 1) := of_decide_eq_true (f19_1 E hfs)
  rw [twoC hr] at hn
  have hup : IntKind.i64.wrap ((E.i 4929) + 1) = (E.i 4929) + 1 := by have c := capC hr; exact wrap64_small (by omega) (by omega)
  refine ⟨fun hc => ?_, fun hc => ?_, fun hc => ?_, fun hc => ?_, fun hc => ?_, fun hc => ?_, trivial⟩
  · exact decide_eq_true (show 0 ≤ (hadF (cellE E (begunF (E.i 4935) 2 (E.i 2)) 0) (E.l 4945)) from (hR _).1)
  · exact decide_eq_true (show (hadF (cellE E (begunF (E.i 4935) 2 (E.i 2)) 0) (E.l 4945)) < 18446744073709551616 from (hR _).2)
  · exact nzC hr _
  · exact ⟨ha, lk_tk hr 2 hb hR hc.1, hR, trivial, trivial, (by have q := hb; show 2 * (E.i 2 - (E.i 4936)) - 1 + ((IntKind.i64.wrap ((E.i 4929) + 1))) ≤ 2 * E.i 2; rw [hup]; have c := capC hr; have b := hBb; have k0 := q.2.2.1; have k1 := q.2.2.2; omega)⟩
  · exact ⟨ha, nl0, hR, .inr (.inl rfl), trivial, trivial⟩
  · exact ⟨ha, lk_go hr 2 hb hc.1, hR, trivial, trivial, (by have q := hb; show 2 * (E.i 2 - (IntKind.i64.wrap ((E.i 4936) + 1))) + ((IntKind.i64.wrap ((E.i 4929) + 1))) ≤ 2 * E.i 2; rw [upC hr q.2.2.1 q.2.2.2]; rw [hup]; have c := capC hr; have b := hBb; have k0 := q.2.2.1; have k1 := q.2.2.2; omega)⟩
theorem run20_0 (E : Env) (hfs : ∀ b ∈ cut20.fs, @BE.val E b = true) (hphi : Phi 20 E) (htab : TabR (tabsOf pks 0) E) : ObsOk E Phi ob20_0 := by
  have hr : rightE E := right_of (f20_25 E hfs)
  obtain ⟨ha, hb, hR, hD, hBa, hBb⟩ : LkC E (E.i 5045) (E.i 5046) ∧ LkC E (E.i 5048) (E.i 5049) ∧ RngL (E.l 5058) ∧ True ∧ 2 * (E.i 2 - (E.i 5046)) + ((E.i 5044) + 1) ≤ 2 * E.i 2 ∧ 2 * (E.i 2 - (E.i 5049)) + ((E.i 5044)) ≤ 2 * E.i 2 := id hphi
  have hlen : (((E.l 5058)).length : Int) = ((E.i 8).toNat : Int) := eq_of_beq (f20_2 E hfs)
  have hn0 : 0 ≤ (E.i 5044) := of_decide_eq_true (f20_0 E hfs)
  have hn : (E.i 5044) < IntKind.i64.wrap (IntKind.i64.wrap (2 * E.i 2) + 1) := of_decide_eq_true (f20_1 E hfs)
  rw [twoC hr] at hn
  have hup : IntKind.i64.wrap ((E.i 5044) + 1) = (E.i 5044) + 1 := by have c := capC hr; exact wrap64_small (by omega) (by omega)
  refine ⟨fun hc => ?_, fun hc => ?_, fun hc => ?_, fun hc => ?_, fun hc => ?_, fun hc => ?_, trivial⟩
  · exact decide_eq_true (show 0 ≤ (hadF (cellE E (begunF (E.i 5048) 2 (E.i 2)) 0) (E.l 5058)) from (hR _).1)
  · exact decide_eq_true (show (hadF (cellE E (begunF (E.i 5048) 2 (E.i 2)) 0) (E.l 5058)) < 18446744073709551616 from (hR _).2)
  · exact nzC hr _
  · exact ⟨ha, lk_tk hr 2 hb hR hc.1, hR, trivial, (by have q := ha; show 2 * (E.i 2 - (E.i 5046)) + ((IntKind.i64.wrap ((E.i 5044) + 1))) ≤ 2 * E.i 2; rw [hup]; have c := capC hr; have b := hBa; have k0 := q.2.2.1; have k1 := q.2.2.2; omega), (by have q := hb; show 2 * (E.i 2 - (E.i 5049)) - 1 + ((IntKind.i64.wrap ((E.i 5044) + 1))) ≤ 2 * E.i 2; rw [hup]; have c := capC hr; have b := hBb; have k0 := q.2.2.1; have k1 := q.2.2.2; omega)⟩
  · exact ⟨ha, nl0, hR, trivial, (by have q := ha; show 2 * (E.i 2 - (E.i 5046)) + ((IntKind.i64.wrap ((E.i 5044) + 1))) ≤ 2 * E.i 2; rw [hup]; have c := capC hr; have b := hBa; have k0 := q.2.2.1; have k1 := q.2.2.2; omega), trivial⟩
  · exact ⟨ha, lk_go hr 2 hb hc.1, hR, trivial, (by have q := ha; show 2 * (E.i 2 - (E.i 5046)) + ((IntKind.i64.wrap ((E.i 5044) + 1))) ≤ 2 * E.i 2; rw [hup]; have c := capC hr; have b := hBa; have k0 := q.2.2.1; have k1 := q.2.2.2; omega), (by have q := hb; show 2 * (E.i 2 - (IntKind.i64.wrap ((E.i 5049) + 1))) + ((IntKind.i64.wrap ((E.i 5044) + 1))) ≤ 2 * E.i 2; rw [upC hr q.2.2.1 q.2.2.2]; rw [hup]; have c := capC hr; have b := hBb; have k0 := q.2.2.1; have k1 := q.2.2.2; omega)⟩
theorem run21_0 (E : Env) (hfs : ∀ b ∈ cut21.fs, @BE.val E b = true) (hphi : Phi 21 E) (htab : TabR (tabsOf pks 0) E) : ObsOk E Phi ob21_0 := by
  have hr : rightE E := right_of (f21_26 E hfs)
  obtain ⟨ha, hb, hR, hD, hBa, hBb⟩ : TkC E (begunF (E.i 3401) 1 (E.i 2)) (E.i 3402) (hadF (cellE E (begunF (E.i 3401) 1 (E.i 2)) 0) (E.l 3414)) ∧ TkC E (E.i 3404) (E.i 3405) (E.i 3406) ∧ RngL (E.l 3414) ∧ True ∧ 2 * (E.i 2 - (E.i 3402)) - 1 + ((E.i 3400) + 1) ≤ 2 * E.i 2 ∧ 2 * (E.i 2 - (E.i 3405)) - 1 + ((E.i 3400)) ≤ 2 * E.i 2 := id hphi
  have hlen : (((E.l 3414)).length : Int) = ((E.i 8).toNat : Int) := eq_of_beq (f21_1 E hfs)
  have hn0 : 0 ≤ (E.i 3400) := of_decide_eq_true (f21_0 E hfs)
  have hn : (E.i 3400) < IntKind.i64.wrap (IntKind.i64.wrap (2 * E.i 2) + 1) := of_decide_eq_true (f21_3 E hfs)
  rw [twoC hr] at hn
  have hup : IntKind.i64.wrap ((E.i 3400) + 1) = (E.i 3400) + 1 := by have c := capC hr; exact wrap64_small (by omega) (by omega)
  refine ⟨fun hc => ?_, fun hc => ?_, fun hc => ?_, fun hc => ?_, fun hc => ?_, fun hc => ?_, fun hc => ?_, trivial⟩
  · exact decide_eq_true (show 0 ≤ (E.i 3406) from hb.2.2.2.2.1)
  · exact decide_eq_true (show (E.i 3406) < 18446744073709551616 from hb.2.2.2.2.2.1)
  · exact nzC hr _
  · exact nzC hr _
  · exact ⟨ha, nl0, tk_row hb hR, trivial, (by have q := ha; show 2 * (E.i 2 - (E.i 3402)) - 1 + ((IntKind.i64.wrap ((E.i 3400) + 1))) ≤ 2 * E.i 2; rw [hup]; have c := capC hr; have b := hBa; have k0 := q.2.2.1; have k1 := q.2.2.2.1; omega), trivial⟩
  · exact ⟨ha, tk_go hr hb hc.1, tk_row hb hR, trivial, (by have q := ha; show 2 * (E.i 2 - (E.i 3402)) - 1 + ((IntKind.i64.wrap ((E.i 3400) + 1))) ≤ 2 * E.i 2; rw [hup]; have c := capC hr; have b := hBa; have k0 := q.2.2.1; have k1 := q.2.2.2.1; omega), (by have q := hb; show 2 * (E.i 2 - (IntKind.i64.wrap ((E.i 3405) + 1))) + ((IntKind.i64.wrap ((E.i 3400) + 1))) ≤ 2 * E.i 2; rw [upC hr q.2.2.1 q.2.2.2.1]; rw [hup]; have c := capC hr; have b := hBb; have k0 := q.2.2.1; have k1 := q.2.2.2.1; omega)⟩
  · exact ⟨ha, tk_nl hr hb hc.1, tk_row hb hR, trivial, (by have q := ha; show 2 * (E.i 2 - (E.i 3402)) - 1 + ((IntKind.i64.wrap ((E.i 3400) + 1))) ≤ 2 * E.i 2; rw [hup]; have c := capC hr; have b := hBa; have k0 := q.2.2.1; have k1 := q.2.2.2.1; omega), trivial⟩
theorem run22_0 (E : Env) (hfs : ∀ b ∈ cut22.fs, @BE.val E b = true) (hphi : Phi 22 E) (htab : TabR (tabsOf pks 0) E) : ObsOk E Phi ob22_0 := by
  have hr : rightE E := right_of (f22_25 E hfs)
  obtain ⟨ha, hb, hR, hD, hBa, hBb⟩ : NlC E (E.i 5533) (E.l 5545) ∧ TkC E (E.i 5535) (E.i 5536) (E.i 5537) ∧ RngL (E.l 5545) ∧ True ∧ True ∧ 2 * (E.i 2 - (E.i 5536)) - 1 + ((E.i 5529)) ≤ 2 * E.i 2 := id hphi
  have hlen : (((E.l 5545)).length : Int) = ((E.i 8).toNat : Int) := eq_of_beq (f22_2 E hfs)
  have hn0 : 0 ≤ (E.i 5529) := of_decide_eq_true (f22_0 E hfs)
  have hn : (E.i 5529) < IntKind.i64.wrap (IntKind.i64.wrap (2 * E.i 2) + 1) := of_decide_eq_true (f22_1 E hfs)
  rw [twoC hr] at hn
  have hup : IntKind.i64.wrap ((E.i 5529) + 1) = (E.i 5529) + 1 := by have c := capC hr; exact wrap64_small (by omega) (by omega)
  refine ⟨fun hc => ?_, fun hc => ?_, fun hc => ?_, fun hc => ?_, fun hc => ?_, fun hc => ?_, fun hc => ?_, trivial⟩
  · exact decide_eq_true (show 0 ≤ (E.i 5537) from hb.2.2.2.2.1)
  · exact decide_eq_true (show (E.i 5537) < 18446744073709551616 from hb.2.2.2.2.2.1)
  · exact nzC hr _
  · exact nzC hr _
  · exact ⟨nl_keep hr hb ha, nl0, tk_row hb hR, .inr (.inl rfl), trivial, trivial⟩
  · exact ⟨nl_keep hr hb ha, tk_go hr hb hc.1, tk_row hb hR, trivial, trivial, (by have q := hb; show 2 * (E.i 2 - (IntKind.i64.wrap ((E.i 5536) + 1))) + ((IntKind.i64.wrap ((E.i 5529) + 1))) ≤ 2 * E.i 2; rw [upC hr q.2.2.1 q.2.2.2.1]; rw [hup]; have c := capC hr; have b := hBb; have k0 := q.2.2.1; have k1 := q.2.2.2.1; omega)⟩
  · exact ⟨nl_keep hr hb ha, tk_nl hr hb hc.1, tk_row hb hR, ds_sym (ds_new hr hb hc.1 ha), trivial, trivial⟩
theorem run23_0 (E : Env) (hfs : ∀ b ∈ cut23.fs, @BE.val E b = true) (hphi : Phi 23 E) (htab : TabR (tabsOf pks 0) E) : ObsOk E Phi ob23_0 := by
  have hr : rightE E := right_of (f23_25 E hfs)
  obtain ⟨ha, hb, hR, hD, hBa, hBb⟩ : LkC E (E.i 5645) (E.i 5646) ∧ TkC E (E.i 5648) (E.i 5649) (E.i 5650) ∧ RngL (E.l 5658) ∧ True ∧ 2 * (E.i 2 - (E.i 5646)) + ((E.i 5644) + 1) ≤ 2 * E.i 2 ∧ 2 * (E.i 2 - (E.i 5649)) - 1 + ((E.i 5644)) ≤ 2 * E.i 2 := id hphi
  have hlen : (((E.l 5658)).length : Int) = ((E.i 8).toNat : Int) := eq_of_beq (f23_2 E hfs)
  have hn0 : 0 ≤ (E.i 5644) := of_decide_eq_true (f23_0 E hfs)
  have hn : (E.i 5644) < IntKind.i64.wrap (IntKind.i64.wrap (2 * E.i 2) + 1) := of_decide_eq_true (f23_1 E hfs)
  rw [twoC hr] at hn
  have hup : IntKind.i64.wrap ((E.i 5644) + 1) = (E.i 5644) + 1 := by have c := capC hr; exact wrap64_small (by omega) (by omega)
  refine ⟨fun hc => ?_, fun hc => ?_, fun hc => ?_, fun hc => ?_, fun hc => ?_, fun hc => ?_, fun hc => ?_, trivial⟩
  · exact decide_eq_true (show 0 ≤ (E.i 5650) from hb.2.2.2.2.1)
  · exact decide_eq_true (show (E.i 5650) < 18446744073709551616 from hb.2.2.2.2.2.1)
  · exact nzC hr _
  · exact nzC hr _
  · exact ⟨ha, nl0, tk_row hb hR, trivial, (by have q := ha; show 2 * (E.i 2 - (E.i 5646)) + ((IntKind.i64.wrap ((E.i 5644) + 1))) ≤ 2 * E.i 2; rw [hup]; have c := capC hr; have b := hBa; have k0 := q.2.2.1; have k1 := q.2.2.2; omega), trivial⟩
  · exact ⟨ha, tk_go hr hb hc.1, tk_row hb hR, trivial, (by have q := ha; show 2 * (E.i 2 - (E.i 5646)) + ((IntKind.i64.wrap ((E.i 5644) + 1))) ≤ 2 * E.i 2; rw [hup]; have c := capC hr; have b := hBa; have k0 := q.2.2.1; have k1 := q.2.2.2; omega), (by have q := hb; show 2 * (E.i 2 - (IntKind.i64.wrap ((E.i 5649) + 1))) + ((IntKind.i64.wrap ((E.i 5644) + 1))) ≤ 2 * E.i 2; rw [upC hr q.2.2.1 q.2.2.2.1]; rw [hup]; have c := capC hr; have b := hBb; have k0 := q.2.2.1; have k1 := q.2.2.2.1; omega)⟩
  · exact ⟨ha, tk_nl hr hb hc.1, tk_row hb hR, trivial, (by have q := ha; show 2 * (E.i 2 - (E.i 5646)) + ((IntKind.i64.wrap ((E.i 5644) + 1))) ≤ 2 * E.i 2; rw [hup]; have c := capC hr; have b := hBa; have k0 := q.2.2.1; have k1 := q.2.2.2; omega), trivial⟩
theorem run24_0 (E : Env) (hfs : ∀ b ∈ cut24.fs, @BE.val E b = true) (hphi : Phi 24 E) (htab : TabR (tabsOf pks 0) E) : ObsOk E Phi ob24_0 := by
  have hr : rightE E := right_of (f24_26 E hfs)
  obtain ⟨ha, hb, hR, hD, hBa, hBb⟩ : TkC E (begunF (E.i 3601) 1 (E.i 2)) (E.i 3602) (hadF (cellE E (begunF (E.i 3601) 1 (E.i 2)) 0) (E.l 3616)) ∧ NlC E (E.i 3607) (E.l 3616) ∧ RngL (E.l 3616) ∧ True ∧ 2 * (E.i 2 - (E.i 3602)) - 1 + ((E.i 3600) + 1) ≤ 2 * E.i 2 ∧ True := id hphi
  have hlen : (((E.l 3616)).length : Int) = ((E.i 8).toNat : Int) := eq_of_beq (f24_1 E hfs)
  have hn0 : 0 ≤ (E.i 3600) := of_decide_eq_true (f24_0 E hfs)
  have hn : (E.i 3600) < IntKind.i64.wrap (IntKind.i64.wrap (2 * E.i 2) + 1) := of_decide_eq_true (f24_3 E hfs)
  rw [twoC hr] at hn
  have hup : IntKind.i64.wrap ((E.i 3600) + 1) = (E.i 3600) + 1 := by have c := capC hr; exact wrap64_small (by omega) (by omega)
  refine ⟨fun hc => ?_, trivial⟩
  · exact ⟨ha, hb, hR, trivial, (by have q := ha; show 2 * (E.i 2 - (E.i 3602)) - 1 + ((IntKind.i64.wrap ((E.i 3600) + 1))) ≤ 2 * E.i 2; rw [hup]; have c := capC hr; have b := hBa; have k0 := q.2.2.1; have k1 := q.2.2.2.1; omega), trivial⟩
theorem run25_0 (E : Env) (hfs : ∀ b ∈ cut25.fs, @BE.val E b = true) (hphi : Phi 25 E) (htab : TabR (tabsOf pks 0) E) : ObsOk E Phi ob25_0 := by
  have hr : rightE E := right_of (f25_25 E hfs)
  obtain ⟨ha, hb, hR, hD, hBa, hBb⟩ : NlC E (E.i 6149) (E.l 6163) ∧ NlC E (E.i 6154) (E.l 6163) ∧ RngL (E.l 6163) ∧ DsC (E.i 6149) (E.i 6154) ∧ True ∧ True := id hphi
  have hlen : (((E.l 6163)).length : Int) = ((E.i 8).toNat : Int) := eq_of_beq (f25_2 E hfs)
  have hn0 : 0 ≤ (E.i 6145) := of_decide_eq_true (f25_0 E hfs)
  have hn : (E.i 6145) < IntKind.i64.wrap (IntKind.i64.wrap (2 * E.i 2) + 1) := of_decide_eq_true (f25_1 E hfs)
  rw [twoC hr] at hn
  have hup : IntKind.i64.wrap ((E.i 6145) + 1) = (E.i 6145) + 1 := by have c := capC hr; exact wrap64_small (by omega) (by omega)
  refine ⟨fun hc => ?_, trivial⟩
  · exact ⟨ha, hb, hR, hD, trivial, trivial⟩
theorem run26_0 (E : Env) (hfs : ∀ b ∈ cut26.fs, @BE.val E b = true) (hphi : Phi 26 E) (htab : TabR (tabsOf pks 0) E) : ObsOk E Phi ob26_0 := by
  have hr : rightE E := right_of (f26_25 E hfs)
  obtain ⟨ha, hb, hR, hD, hBa, hBb⟩ : LkC E (E.i 6251) (E.i 6252) ∧ NlC E (E.i 6257) (E.l 6266) ∧ RngL (E.l 6266) ∧ True ∧ 2 * (E.i 2 - (E.i 6252)) + ((E.i 6250) + 1) ≤ 2 * E.i 2 ∧ True := id hphi
  have hlen : (((E.l 6266)).length : Int) = ((E.i 8).toNat : Int) := eq_of_beq (f26_2 E hfs)
  have hn0 : 0 ≤ (E.i 6250) := of_decide_eq_true (f26_0 E hfs)
  have hn : (E.i 6250) < IntKind.i64.wrap (IntKind.i64.wrap (2 * E.i 2) + 1) := of_decide_eq_true (f26_1 E hfs)
  rw [twoC hr] at hn
  have hup : IntKind.i64.wrap ((E.i 6250) + 1) = (E.i 6250) + 1 := by have c := capC hr; exact wrap64_small (by omega) (by omega)
  refine ⟨fun hc => ?_, trivial⟩
  · exact ⟨ha, hb, hR, trivial, (by have q := ha; show 2 * (E.i 2 - (E.i 6252)) + ((IntKind.i64.wrap ((E.i 6250) + 1))) ≤ 2 * E.i 2; rw [hup]; have c := capC hr; have b := hBa; have k0 := q.2.2.1; have k1 := q.2.2.2; omega), trivial⟩
theorem part0 (E : Env) (hfs : ∀ b ∈ cut0.fs, @BE.val E b = true) (hphi : Phi 0 E) (htab : TabR (tabsOf pks 0) E) : ∃ (ex : List BE) (rw : List (IE × IE)), (∀ b ∈ ex, @BE.val E b = true) ∧ Owed E Phi (oweAtR (tabsOf pks 0) ths [] Try.prog Try.f3 (rootOf Try.f3) base10 (extraS Try.prog) cuts cut0 ex rw) :=
  have hh : ∃ ex : List BE, (∀ b ∈ ex, @BE.val E b = true) ∧ Owed E Phi (oweAtR (tabsOf pks 0) ths [] Try.prog Try.f3 (rootOf Try.f3) base10 (extraS Try.prog) cuts cut0 ex rw0) := partsI (Q := fun ex => Owed E Phi (oweAtR (tabsOf pks 0) ths [] Try.prog Try.f3 (rootOf Try.f3) base10 (extraS Try.prog) cuts cut0 ex rw0)) (.tab 1 (.atom 1034) 0) 1 fun k hk => by
    match k, hk with
    | 0, _ => exact Owed.eq (@e0_0 E) (run0_0 E hfs hphi htab)
    | 1, _ => exact Owed.eq (@e0_1 E) (run0_1 E hfs hphi htab)
    | _ + 2, hk => exact absurd hk (Nat.not_le.2 (Nat.lt_of_lt_of_le (Nat.lt_succ_self 1) (Nat.le_add_left 2 _)))
  hh.elim fun ex h => ⟨ex, rw0, h⟩
theorem part1 (E : Env) (hfs : ∀ b ∈ cut1.fs, @BE.val E b = true) (hphi : Phi 1 E) (htab : TabR (tabsOf pks 0) E) : ∃ (ex : List BE) (rw : List (IE × IE)), (∀ b ∈ ex, @BE.val E b = true) ∧ Owed E Phi (oweAtR (tabsOf pks 0) ths [] Try.prog Try.f3 (rootOf Try.f3) base10 (extraS Try.prog) cuts cut1 ex rw) :=
  have hh : ∃ ex : List BE, (∀ b ∈ ex, @BE.val E b = true) ∧ Owed E Phi (oweAtR (tabsOf pks 0) ths [] Try.prog Try.f3 (rootOf Try.f3) base10 (extraS Try.prog) cuts cut1 ex rw1) := partsI (Q := fun ex => Owed E Phi (oweAtR (tabsOf pks 0) ths [] Try.prog Try.f3 (rootOf Try.f3) base10 (extraS Try.prog) cuts cut1 ex rw1)) (.tab 1 (.atom 1238) 0) 1 fun k hk => by
    match k, hk with
    | 0, _ => exact Owed.eq (@e1_0 E) (run1_0 E hfs hphi htab)
    | 1, _ => exact Owed.eq (@e1_1 E) (run1_1 E hfs hphi htab)
    | _ + 2, hk => exact absurd hk (Nat.not_le.2 (Nat.lt_of_lt_of_le (Nat.lt_succ_self 1) (Nat.le_add_left 2 _)))
  hh.elim fun ex h => ⟨ex, rw1, h⟩
theorem part2 (E : Env) (hfs : ∀ b ∈ cut2.fs, @BE.val E b = true) (hphi : Phi 2 E) (htab : TabR (tabsOf pks 0) E) : ∃ (ex : List BE) (rw : List (IE × IE)), (∀ b ∈ ex, @BE.val E b = true) ∧ Owed E Phi (oweAtR (tabsOf pks 0) ths [] Try.prog Try.f3 (rootOf Try.f3) base10 (extraS Try.prog) cuts cut2 ex rw) :=
  ⟨[], rw2, Bk.nn, Owed.eq (@e2_0 E) (run2_0 E hfs hphi htab)⟩
theorem part3 (E : Env) (hfs : ∀ b ∈ cut3.fs, @BE.val E b = true) (hphi : Phi 3 E) (htab : TabR (tabsOf pks 0) E) : ∃ (ex : List BE) (rw : List (IE × IE)), (∀ b ∈ ex, @BE.val E b = true) ∧ Owed E Phi (oweAtR (tabsOf pks 0) ths [] Try.prog Try.f3 (rootOf Try.f3) base10 (extraS Try.prog) cuts cut3 ex rw) :=
  have hh : ∃ ex : List BE, (∀ b ∈ ex, @BE.val E b = true) ∧ Owed E Phi (oweAtR (tabsOf pks 0) ths [] Try.prog Try.f3 (rootOf Try.f3) base10 (extraS Try.prog) cuts cut3 ex rw3) := partsI (Q := fun ex => Owed E Phi (oweAtR (tabsOf pks 0) ths [] Try.prog Try.f3 (rootOf Try.f3) base10 (extraS Try.prog) cuts cut3 ex rw3)) (.tab 1 (.atom 1638) 0) 1 fun k hk => by
    match k, hk with
    | 0, _ => exact Owed.eq (@e3_0 E) (run3_0 E hfs hphi htab)
    | 1, _ => exact Owed.eq (@e3_1 E) (run3_1 E hfs hphi htab)
    | _ + 2, hk => exact absurd hk (Nat.not_le.2 (Nat.lt_of_lt_of_le (Nat.lt_succ_self 1) (Nat.le_add_left 2 _)))
  hh.elim fun ex h => ⟨ex, rw3, h⟩
theorem part4 (E : Env) (hfs : ∀ b ∈ cut4.fs, @BE.val E b = true) (hphi : Phi 4 E) (htab : TabR (tabsOf pks 0) E) : ∃ (ex : List BE) (rw : List (IE × IE)), (∀ b ∈ ex, @BE.val E b = true) ∧ Owed E Phi (oweAtR (tabsOf pks 0) ths [] Try.prog Try.f3 (rootOf Try.f3) base10 (extraS Try.prog) cuts cut4 ex rw) :=
  ⟨[], rw4, Bk.nn, Owed.eq (@e4_0 E) (run4_0 E hfs hphi htab)⟩
theorem part5 (E : Env) (hfs : ∀ b ∈ cut5.fs, @BE.val E b = true) (hphi : Phi 5 E) (htab : TabR (tabsOf pks 0) E) : ∃ (ex : List BE) (rw : List (IE × IE)), (∀ b ∈ ex, @BE.val E b = true) ∧ Owed E Phi (oweAtR (tabsOf pks 0) ths [] Try.prog Try.f3 (rootOf Try.f3) base10 (extraS Try.prog) cuts cut5 ex rw) :=
  have hh : ∃ ex : List BE, (∀ b ∈ ex, @BE.val E b = true) ∧ Owed E Phi (oweAtR (tabsOf pks 0) ths [] Try.prog Try.f3 (rootOf Try.f3) base10 (extraS Try.prog) cuts cut5 ex rw5) := partsI (Q := fun ex => Owed E Phi (oweAtR (tabsOf pks 0) ths [] Try.prog Try.f3 (rootOf Try.f3) base10 (extraS Try.prog) cuts cut5 ex rw5)) (.tab 1 (.atom 2003) 0) 1 fun k hk => by
    match k, hk with
    | 0, _ => exact Owed.eq (@e5_0 E) (run5_0 E hfs hphi htab)
    | 1, _ => exact Owed.eq (@e5_1 E) (run5_1 E hfs hphi htab)
    | _ + 2, hk => exact absurd hk (Nat.not_le.2 (Nat.lt_of_lt_of_le (Nat.lt_succ_self 1) (Nat.le_add_left 2 _)))
  hh.elim fun ex h => ⟨ex, rw5, h⟩
theorem part6 (E : Env) (hfs : ∀ b ∈ cut6.fs, @BE.val E b = true) (hphi : Phi 6 E) (htab : TabR (tabsOf pks 0) E) : ∃ (ex : List BE) (rw : List (IE × IE)), (∀ b ∈ ex, @BE.val E b = true) ∧ Owed E Phi (oweAtR (tabsOf pks 0) ths [] Try.prog Try.f3 (rootOf Try.f3) base10 (extraS Try.prog) cuts cut6 ex rw) :=
  ⟨[], rw6, Bk.nn, Owed.eq (@e6_0 E) (run6_0 E hfs hphi htab)⟩
theorem part7 (E : Env) (hfs : ∀ b ∈ cut7.fs, @BE.val E b = true) (hphi : Phi 7 E) (htab : TabR (tabsOf pks 0) E) : ∃ (ex : List BE) (rw : List (IE × IE)), (∀ b ∈ ex, @BE.val E b = true) ∧ Owed E Phi (oweAtR (tabsOf pks 0) ths [] Try.prog Try.f3 (rootOf Try.f3) base10 (extraS Try.prog) cuts cut7 ex rw) :=
  ⟨[], rw7, Bk.nn, Owed.eq (@e7_0 E) (run7_0 E hfs hphi htab)⟩
theorem part8 (E : Env) (hfs : ∀ b ∈ cut8.fs, @BE.val E b = true) (hphi : Phi 8 E) (htab : TabR (tabsOf pks 0) E) : ∃ (ex : List BE) (rw : List (IE × IE)), (∀ b ∈ ex, @BE.val E b = true) ∧ Owed E Phi (oweAtR (tabsOf pks 0) ths [] Try.prog Try.f3 (rootOf Try.f3) base10 (extraS Try.prog) cuts cut8 ex rw) :=
  ⟨[], rw8, Bk.nn, Owed.eq (@e8_0 E) (run8_0 E hfs hphi htab)⟩
theorem part9 (E : Env) (hfs : ∀ b ∈ cut9.fs, @BE.val E b = true) (hphi : Phi 9 E) (htab : TabR (tabsOf pks 0) E) : ∃ (ex : List BE) (rw : List (IE × IE)), (∀ b ∈ ex, @BE.val E b = true) ∧ Owed E Phi (oweAtR (tabsOf pks 0) ths [] Try.prog Try.f3 (rootOf Try.f3) base10 (extraS Try.prog) cuts cut9 ex rw) :=
  ⟨[], rw9, Bk.nn, Owed.eq (@e9_0 E) (run9_0 E hfs hphi htab)⟩
theorem part10 (E : Env) (hfs : ∀ b ∈ cut10.fs, @BE.val E b = true) (hphi : Phi 10 E) (htab : TabR (tabsOf pks 0) E) : ∃ (ex : List BE) (rw : List (IE × IE)), (∀ b ∈ ex, @BE.val E b = true) ∧ Owed E Phi (oweAtR (tabsOf pks 0) ths [] Try.prog Try.f3 (rootOf Try.f3) base10 (extraS Try.prog) cuts cut10 ex rw) :=
  ⟨[], rw10, Bk.nn, Owed.eq (@e10_0 E) (run10_0 E hfs hphi htab)⟩
theorem part11 (E : Env) (hfs : ∀ b ∈ cut11.fs, @BE.val E b = true) (hphi : Phi 11 E) (htab : TabR (tabsOf pks 0) E) : ∃ (ex : List BE) (rw : List (IE × IE)), (∀ b ∈ ex, @BE.val E b = true) ∧ Owed E Phi (oweAtR (tabsOf pks 0) ths [] Try.prog Try.f3 (rootOf Try.f3) base10 (extraS Try.prog) cuts cut11 ex rw) :=
  ⟨[], rw11, Bk.nn, Owed.eq (@e11_0 E) (run11_0 E hfs hphi htab)⟩
theorem part12 (E : Env) (hfs : ∀ b ∈ cut12.fs, @BE.val E b = true) (hphi : Phi 12 E) (htab : TabR (tabsOf pks 0) E) : ∃ (ex : List BE) (rw : List (IE × IE)), (∀ b ∈ ex, @BE.val E b = true) ∧ Owed E Phi (oweAtR (tabsOf pks 0) ths [] Try.prog Try.f3 (rootOf Try.f3) base10 (extraS Try.prog) cuts cut12 ex rw) :=
  ⟨[], rw12, Bk.nn, Owed.eq (@e12_0 E) (run12_0 E hfs hphi htab)⟩
theorem part13 (E : Env) (hfs : ∀ b ∈ cut13.fs, @BE.val E b = true) (hphi : Phi 13 E) (htab : TabR (tabsOf pks 0) E) : ∃ (ex : List BE) (rw : List (IE × IE)), (∀ b ∈ ex, @BE.val E b = true) ∧ Owed E Phi (oweAtR (tabsOf pks 0) ths [] Try.prog Try.f3 (rootOf Try.f3) base10 (extraS Try.prog) cuts cut13 ex rw) :=
  ⟨[], rw13, Bk.nn, Owed.eq (@e13_0 E) (run13_0 E hfs hphi htab)⟩
theorem part14 (E : Env) (hfs : ∀ b ∈ cut14.fs, @BE.val E b = true) (hphi : Phi 14 E) (htab : TabR (tabsOf pks 0) E) : ∃ (ex : List BE) (rw : List (IE × IE)), (∀ b ∈ ex, @BE.val E b = true) ∧ Owed E Phi (oweAtR (tabsOf pks 0) ths [] Try.prog Try.f3 (rootOf Try.f3) base10 (extraS Try.prog) cuts cut14 ex rw) :=
  ⟨[], rw14, Bk.nn, Owed.eq (@e14_0 E) (run14_0 E hfs hphi htab)⟩
theorem part15 (E : Env) (hfs : ∀ b ∈ cut15.fs, @BE.val E b = true) (hphi : Phi 15 E) (htab : TabR (tabsOf pks 0) E) : ∃ (ex : List BE) (rw : List (IE × IE)), (∀ b ∈ ex, @BE.val E b = true) ∧ Owed E Phi (oweAtR (tabsOf pks 0) ths [] Try.prog Try.f3 (rootOf Try.f3) base10 (extraS Try.prog) cuts cut15 ex rw) :=
  ⟨[], rw15, Bk.nn, Owed.eq (@e15_0 E) (run15_0 E hfs hphi htab)⟩
theorem part16 (E : Env) (hfs : ∀ b ∈ cut16.fs, @BE.val E b = true) (hphi : Phi 16 E) (htab : TabR (tabsOf pks 0) E) : ∃ (ex : List BE) (rw : List (IE × IE)), (∀ b ∈ ex, @BE.val E b = true) ∧ Owed E Phi (oweAtR (tabsOf pks 0) ths [] Try.prog Try.f3 (rootOf Try.f3) base10 (extraS Try.prog) cuts cut16 ex rw) :=
  ⟨[], rw16, Bk.nn, Owed.eq (@e16_0 E) (run16_0 E hfs hphi htab)⟩
theorem part17 (E : Env) (hfs : ∀ b ∈ cut17.fs, @BE.val E b = true) (hphi : Phi 17 E) (htab : TabR (tabsOf pks 0) E) : ∃ (ex : List BE) (rw : List (IE × IE)), (∀ b ∈ ex, @BE.val E b = true) ∧ Owed E Phi (oweAtR (tabsOf pks 0) ths [] Try.prog Try.f3 (rootOf Try.f3) base10 (extraS Try.prog) cuts cut17 ex rw) :=
  ⟨[], rw17, Bk.nn, Owed.eq (@e17_0 E) (run17_0 E hfs hphi htab)⟩
theorem part18 (E : Env) (hfs : ∀ b ∈ cut18.fs, @BE.val E b = true) (hphi : Phi 18 E) (htab : TabR (tabsOf pks 0) E) : ∃ (ex : List BE) (rw : List (IE × IE)), (∀ b ∈ ex, @BE.val E b = true) ∧ Owed E Phi (oweAtR (tabsOf pks 0) ths [] Try.prog Try.f3 (rootOf Try.f3) base10 (extraS Try.prog) cuts cut18 ex rw) :=
  ⟨[], rw18, Bk.nn, Owed.eq (@e18_0 E) (run18_0 E hfs hphi htab)⟩
theorem part19 (E : Env) (hfs : ∀ b ∈ cut19.fs, @BE.val E b = true) (hphi : Phi 19 E) (htab : TabR (tabsOf pks 0) E) : ∃ (ex : List BE) (rw : List (IE × IE)), (∀ b ∈ ex, @BE.val E b = true) ∧ Owed E Phi (oweAtR (tabsOf pks 0) ths [] Try.prog Try.f3 (rootOf Try.f3) base10 (extraS Try.prog) cuts cut19 ex rw) :=
  ⟨[], rw19, Bk.nn, Owed.eq (@e19_0 E) (run19_0 E hfs hphi htab)⟩
theorem part20 (E : Env) (hfs : ∀ b ∈ cut20.fs, @BE.val E b = true) (hphi : Phi 20 E) (htab : TabR (tabsOf pks 0) E) : ∃ (ex : List BE) (rw : List (IE × IE)), (∀ b ∈ ex, @BE.val E b = true) ∧ Owed E Phi (oweAtR (tabsOf pks 0) ths [] Try.prog Try.f3 (rootOf Try.f3) base10 (extraS Try.prog) cuts cut20 ex rw) :=
  ⟨[], rw20, Bk.nn, Owed.eq (@e20_0 E) (run20_0 E hfs hphi htab)⟩
theorem part21 (E : Env) (hfs : ∀ b ∈ cut21.fs, @BE.val E b = true) (hphi : Phi 21 E) (htab : TabR (tabsOf pks 0) E) : ∃ (ex : List BE) (rw : List (IE × IE)), (∀ b ∈ ex, @BE.val E b = true) ∧ Owed E Phi (oweAtR (tabsOf pks 0) ths [] Try.prog Try.f3 (rootOf Try.f3) base10 (extraS Try.prog) cuts cut21 ex rw) :=
  ⟨[], rw21, Bk.nn, Owed.eq (@e21_0 E) (run21_0 E hfs hphi htab)⟩
theorem part22 (E : Env) (hfs : ∀ b ∈ cut22.fs, @BE.val E b = true) (hphi : Phi 22 E) (htab : TabR (tabsOf pks 0) E) : ∃ (ex : List BE) (rw : List (IE × IE)), (∀ b ∈ ex, @BE.val E b = true) ∧ Owed E Phi (oweAtR (tabsOf pks 0) ths [] Try.prog Try.f3 (rootOf Try.f3) base10 (extraS Try.prog) cuts cut22 ex rw) :=
  ⟨[], rw22, Bk.nn, Owed.eq (@e22_0 E) (run22_0 E hfs hphi htab)⟩
theorem part23 (E : Env) (hfs : ∀ b ∈ cut23.fs, @BE.val E b = true) (hphi : Phi 23 E) (htab : TabR (tabsOf pks 0) E) : ∃ (ex : List BE) (rw : List (IE × IE)), (∀ b ∈ ex, @BE.val E b = true) ∧ Owed E Phi (oweAtR (tabsOf pks 0) ths [] Try.prog Try.f3 (rootOf Try.f3) base10 (extraS Try.prog) cuts cut23 ex rw) :=
  ⟨[], rw23, Bk.nn, Owed.eq (@e23_0 E) (run23_0 E hfs hphi htab)⟩
theorem part24 (E : Env) (hfs : ∀ b ∈ cut24.fs, @BE.val E b = true) (hphi : Phi 24 E) (htab : TabR (tabsOf pks 0) E) : ∃ (ex : List BE) (rw : List (IE × IE)), (∀ b ∈ ex, @BE.val E b = true) ∧ Owed E Phi (oweAtR (tabsOf pks 0) ths [] Try.prog Try.f3 (rootOf Try.f3) base10 (extraS Try.prog) cuts cut24 ex rw) :=
  ⟨[], rw24, Bk.nn, Owed.eq (@e24_0 E) (run24_0 E hfs hphi htab)⟩
theorem part25 (E : Env) (hfs : ∀ b ∈ cut25.fs, @BE.val E b = true) (hphi : Phi 25 E) (htab : TabR (tabsOf pks 0) E) : ∃ (ex : List BE) (rw : List (IE × IE)), (∀ b ∈ ex, @BE.val E b = true) ∧ Owed E Phi (oweAtR (tabsOf pks 0) ths [] Try.prog Try.f3 (rootOf Try.f3) base10 (extraS Try.prog) cuts cut25 ex rw) :=
  ⟨[], rw25, Bk.nn, Owed.eq (@e25_0 E) (run25_0 E hfs hphi htab)⟩
theorem part26 (E : Env) (hfs : ∀ b ∈ cut26.fs, @BE.val E b = true) (hphi : Phi 26 E) (htab : TabR (tabsOf pks 0) E) : ∃ (ex : List BE) (rw : List (IE × IE)), (∀ b ∈ ex, @BE.val E b = true) ∧ Owed E Phi (oweAtR (tabsOf pks 0) ths [] Try.prog Try.f3 (rootOf Try.f3) base10 (extraS Try.prog) cuts cut26 ex rw) :=
  ⟨[], rw26, Bk.nn, Owed.eq (@e26_0 E) (run26_0 E hfs hphi htab)⟩
theorem runsM (E : Env) (i : Nat) (k : Cut) (hi : cuts[i]? = some k) (hfs : ∀ b ∈ k.fs, @BE.val E b = true) (hphi : Phi i E) (htab : TabR (tabsOf pks 0) E) : ∃ (ex : List BE) (rw : List (IE × IE)), (∀ b ∈ ex, @BE.val E b = true) ∧ Owed E Phi (oweAtR (tabsOf pks 0) ths [] Try.prog Try.f3 (rootOf Try.f3) base10 (extraS Try.prog) cuts k ex rw) := by
  match i, hi with
  | 0, hi => obtain rfl : cut0 = k := Option.some.inj (show some cut0 = some k from hi); exact part0 E hfs hphi htab
  | 1, hi => obtain rfl : cut1 = k := Option.some.inj (show some cut1 = some k from hi); exact part1 E hfs hphi htab
  | 2, hi => obtain rfl : cut2 = k := Option.some.inj (show some cut2 = some k from hi); exact part2 E hfs hphi htab
  | 3, hi => obtain rfl : cut3 = k := Option.some.inj (show some cut3 = some k from hi); exact part3 E hfs hphi htab
  | 4, hi => obtain rfl : cut4 = k := Option.some.inj (show some cut4 = some k from hi); exact part4 E hfs hphi htab
  | 5, hi => obtain rfl : cut5 = k := Option.some.inj (show some cut5 = some k from hi); exact part5 E hfs hphi htab
  | 6, hi => obtain rfl : cut6 = k := Option.some.inj (show some cut6 = some k from hi); exact part6 E hfs hphi htab
  | 7, hi => obtain rfl : cut7 = k := Option.some.inj (show some cut7 = some k from hi); exact part7 E hfs hphi htab
  | 8, hi => obtain rfl : cut8 = k := Option.some.inj (show some cut8 = some k from hi); exact part8 E hfs hphi htab
  | 9, hi => obtain rfl : cut9 = k := Option.some.inj (show some cut9 = some k from hi); exact part9 E hfs hphi htab
  | 10, hi => obtain rfl : cut10 = k := Option.some.inj (show some cut10 = some k from hi); exact part10 E hfs hphi htab
  | 11, hi => obtain rfl : cut11 = k := Option.some.inj (show some cut11 = some k from hi); exact part11 E hfs hphi htab
  | 12, hi => obtain rfl : cut12 = k := Option.some.inj (show some cut12 = some k from hi); exact part12 E hfs hphi htab
  | 13, hi => obtain rfl : cut13 = k := Option.some.inj (show some cut13 = some k from hi); exact part13 E hfs hphi htab
  | 14, hi => obtain rfl : cut14 = k := Option.some.inj (show some cut14 = some k from hi); exact part14 E hfs hphi htab
  | 15, hi => obtain rfl : cut15 = k := Option.some.inj (show some cut15 = some k from hi); exact part15 E hfs hphi htab
  | 16, hi => obtain rfl : cut16 = k := Option.some.inj (show some cut16 = some k from hi); exact part16 E hfs hphi htab
  | 17, hi => obtain rfl : cut17 = k := Option.some.inj (show some cut17 = some k from hi); exact part17 E hfs hphi htab
  | 18, hi => obtain rfl : cut18 = k := Option.some.inj (show some cut18 = some k from hi); exact part18 E hfs hphi htab
  | 19, hi => obtain rfl : cut19 = k := Option.some.inj (show some cut19 = some k from hi); exact part19 E hfs hphi htab
  | 20, hi => obtain rfl : cut20 = k := Option.some.inj (show some cut20 = some k from hi); exact part20 E hfs hphi htab
  | 21, hi => obtain rfl : cut21 = k := Option.some.inj (show some cut21 = some k from hi); exact part21 E hfs hphi htab
  | 22, hi => obtain rfl : cut22 = k := Option.some.inj (show some cut22 = some k from hi); exact part22 E hfs hphi htab
  | 23, hi => obtain rfl : cut23 = k := Option.some.inj (show some cut23 = some k from hi); exact part23 E hfs hphi htab
  | 24, hi => obtain rfl : cut24 = k := Option.some.inj (show some cut24 = some k from hi); exact part24 E hfs hphi htab
  | 25, hi => obtain rfl : cut25 = k := Option.some.inj (show some cut25 = some k from hi); exact part25 E hfs hphi htab
  | 26, hi => obtain rfl : cut26 = k := Option.some.inj (show some cut26 = some k from hi); exact part26 E hfs hphi htab
  | n + 27, hi => exact absurd hi (by simp [cuts])
theorem startM (E : Env) (h1 : symRng E pks 0 0) : Owed E Phi (oweStartR (tabsOf pks 0) ths [] Try.prog Try.f3 (rootOf Try.f3) base10 (extraS Try.prog) cuts (rngFacts pks 0) (symArgs pks 0 0) (symHeap pks 0 0)) := Owed.eq (@eS E) (runS E h1)
theorem trOk : ∀ i ∈ ([] : List Nat), ∀ E, Phi i E := fun i hi E => by cases hi
theorem bodyOk : Try.f3.body = some (rootOf Try.f3) := by kernel_rfl
theorem law (E : Env) (ρ : Rho) (F : Nat → Nat → Prop) (w : World) (argv : Array Value) (h1 : symRng E pks 0 0) (h2 : @HeapOk E Empty _ ρ F (symHeap pks 0 0) w) (h3 : All2 (@SV.is E ρ) (symArgs pks 0 0) argv.toList) :
    Calls Try.prog 3 argv w fun e w' => e = .returned (.bool true) ∧ ∃ ρ' F', Reach ρ F w ρ' F' w' :=
  floydRM (ts := tabsOf pks 0) mixed_ok (c := @base10) @base10_ok (x := extraS Try.prog) (fun {_} => extraS_ok _) Try.func3 bodyOk ths_ok (tr := []) (Φ := Phi) trOk heads runsM E (tabsOf_ok E h1) (rngFacts_ok E h1) (startM E h1) h2 h3
end Go.Proofs.Ytafemlljemhkhaa.Sx.LClaimTwo
