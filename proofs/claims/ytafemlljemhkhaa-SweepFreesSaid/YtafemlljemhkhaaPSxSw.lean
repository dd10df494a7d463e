import Derived.Test.YtafemlljemhkhaaPSxMx
import Derived.Test.YtafemlljemhkhaaPSxCv
namespace Go.Proofs.Ytafemlljemhkhaa.Sx
open Go
set_option linter.unusedSectionVars false
set_option linter.unusedVariables false
set_option linter.unusedSimpArgs false
set_option maxRecDepth 1000000
namespace Sw
open Bk Sm
def cfgA : IE := .consL (.atom 1020) (.consL (.atom 1021) (.consL (.atom 1022) (.consL (.atom 1023) (.consL (.atom 1024) (.consL (.atom 1025) (.consL (.atom 1026) .nilL))))))
def F0 : IE := .latom 1100
def X : IE := .consL (.atom 1020) (.consL (.atom 1021) (.consL (.atom 1022) (.consL (.atom 1023) (.consL (.atom 1024) (.consL (.atom 1025) (.consL (.atom 1026) (.consL (.atom 1050) (.consL (.atom 1051) (.consL (.atom 1052)
  (.consL (.atom 1001) (.consL (.atom 1061) (.consL (.atom 1062) (.consL (.atom 1063) (.consL (.atom 1064) (.consL (.atom 1065) (.consL (.atom 1066) (.consL (.len F0) (.catL F0 R))))))))))))))))))
def bnk (c k e v o n : SC) (d : SC) : SO Empty := .cells 130 [.b (.sl 202 (.lit 0) (.len R) (.len R)), c, k, e, v, o, n, d] 0
def grd (a b : SC) : SO Empty := .cells 105 [a, b, xi 1052] 0
def xb (i : Nat) : SC := .b (.bool (.atom i))
def restB (b : SO Empty) (r : IE) (g : SO Empty) : Heap Empty := [(198, mem0), (200, b), (202, .row .u64 27 r), (210, g)]
def rest : Heap Empty := restB (bnk (xi 1001) (xi 1061) (xi 1062) (xu 1063) (xu 1064) (xu 1065) (xb 1066)) R (grd (xi 1050) (xu 1051))
def m0' : SV := .w (.one (.b (.ptr 198 (.lit 0))))
def g0 : SV := .w (.one (.b (.ptr 210 (.lit 0))))
def right : BE := .cmp .neq (.fn 1 cfgA) (.lit 0)
def wordsB (l : IE) : BE := .cmp .neq (.fn 7999 l) (.lit 0)
theorem words_of {E : Env} {l : IE} (h : @BE.val E (wordsB l) = true) : wordsP (@IE.lst E l) := of_decide_eq_true ((ofP_ne _).symm.trans h)
def Cx (E : Env) : Cfg := ⟨E.i 1020, E.i 1021, E.i 1022, E.i 1023, E.i 1024, E.i 1025, E.i 1026⟩
def Gx (E : Env) : Grd := ⟨E.i 1050, E.i 1051, E.i 1052⟩
def Bx (E : Env) : Bnk := ⟨E.i 1001, E.i 1061, E.i 1062, E.i 1063, E.i 1064, E.i 1065, E.i 1066 != 0, E.l 1000⟩
theorem right_of {E : Env} (h : @BE.val E right = true) : (Cx E).right := by
  have h : ((if rightP (E.i 1020) (E.i 1021) (E.i 1022) (E.i 1023) (E.i 1024) (E.i 1025) (E.i 1026) then 1 else 0 : Int) != 0) = true := h
  by_cases hr : rightP (E.i 1020) (E.i 1021) (E.i 1022) (E.i 1023) (E.i 1024) (E.i 1025) (E.i 1026)
  · exact hr
  · rw [if_neg hr] at h; cases h
def p0 : SV := .w (.one (.b (.ptr 300 (.lit 0))))
def it (l : IE) : Nat × SO Empty := (300, .mach 0 (.consL (.lit 1003) l))
def L206 : IE := .latom 1100
def a_new_1 : IE := (.consL (.lit 1003) (.consL (.lit 0) (.consL (.lit 0) (.consL (.len (.latom 1100)) (.consL (.lit 0) (.latom 1100))))))
def told_new : Tree (SV × Heap Empty) := (.req (.cmp .leq (.len (.latom 1100)) (.lit 24000000000000)) (.leaf ((.w (.one (.b (.ptr 131080 (.lit 0))))), [(131080, (.mach 0 a_new_1)), (206, (.mach 4 (.latom 1100)))])))
def t_new_0 : Tree (SV × Heap Empty) := (.req (.cmp .leq (.len (.latom 1100)) (.lit 24000000000000)) (.leaf ((.w (.one (.b (.ptr 131080 (.lit 0))))), [(131080, (.mach 0 a_new_1)), (206, (.mach 4 (.latom 1100)))])))
theorem e_new_0 [Env] : (baseC 41 [.w (.one (.b (.ref 206)))] [] (([(206, .mach 4 L206)] : Heap Empty)) 1).bind (foldsL (namesH (([(206, .mach 4 L206)] : Heap Empty))) [.mach .ret 1003, .own, .drop]) = t_new_0 := by kernel_rfl
theorem p_new_0 (E : Env) (Q : SV × Heap Empty → Prop) (hQ : @Tree.holds E _ Q told_new) : @Tree.holds E _ (fun r => ∃ r2, Q r2 ∧ Eqv E r r2) t_new_0 := by
  refine ⟨?_, ?_⟩
  · skip
    exact hQ.1
  · skip
    exact ⟨_, hQ.2, Eqv.of (q := ⟨[], [], []⟩) ⟨nn, nn, nn⟩ (by kernel_rfl)⟩
def s_new : Summ := ⟨41, [.w (.one (.b (.ref 206)))], ([(206, .mach 4 L206)] : Heap Empty), told_new⟩
theorem ok_new : s_new.ok Try.prog := Summ.conv (Summ.foldsC (c := @baseC) @baseC_ok (Bk.enters_of Try.func41 (by kernel_rfl)) [.mach .ret 1003, .own, .drop] (@e_new_0)) fun E K hK => p_new_0 E K hK
def a_done_1 : IE := (.consL (.len (.latom 5000)) (.consL (.lit 0) (.latom 5000)))
def a_done_2 : IE := (.consL (.lit 0) (.consL (.len (.latom 5000)) (.consL (.len (.latom 5001)) (.catL (.latom 5000) (.latom 5001)))))
def told_done : Tree (SV × Heap Empty) := (.leaf ((.w (.one (.b (.bool (.cmp .eql (.get (.latom 1100) (.lit 0) 0) (.lit 3)))))), [(300, (.mach 0 (.consL (.lit 1003) (.latom 1100))))]))
def t_done_0 : Tree (SV × Heap Empty) := (.leaf ((.w (.one (.b (.bool (.lit false))))), [(300, (.mach 0 (.consL (.lit 1003) (.consL (.lit 0) (.consL (.atom 5001) a_done_1)))))]))
theorem e_done_0 [Env] : (baseC 45 [p0] [] (((Lay.sweep).getD 0 ⟨0, [], .nilL, []⟩).hp ++ (([] : Heap Empty))) 1).bind (foldsL (300 :: namesH (([] : Heap Empty))) [.mach (.nm 300) 1003, .drop]) = t_done_0 := by kernel_rfl
theorem p_done_0 (E : Env) (Q : SV × Heap Empty → Prop) (ha : E.l 1100 = @IE.lst E ((Lay.sweep).getD 0 ⟨0, [], .nilL, []⟩).row) (hi : ∀ b ∈ ((Lay.sweep).getD 0 ⟨0, [], .nilL, []⟩).inv, @BE.val E b = true) (hQ : @Tree.holds E _ Q told_done) : @Tree.holds E _ (fun r => ∃ r2, Q r2 ∧ Eqv E r r2) t_done_0 := by
  have ha0 := ha
  have ha : E.l 1100 = (⟨0, E.i 5001, E.l 5000, [], []⟩ : Swp).enc := ha0.trans (by simp [Lay.sweep, Lay.row, Lay.li, Lay.ai, Lay.al, IE.lst, IE.val, Swp.enc])
  exact ⟨_, hQ, Eqv.of (q := ⟨[], [((.consL (.lit 1003) (.consL (.lit 0) (.consL (.atom 5001) a_done_1))), (.consL (.lit 1003) (.latom 1100)))], [((.lit false), (.cmp .eql (.get (.latom 1100) (.lit 0) 0) (.lit 3)))]⟩) ⟨nn, (cc (congrArg (List.cons _) ha0.symm) nn), (cc (by show _ = ((E.l 1100).getD 0 0 == 3); rw [ha]; rfl) nn)⟩ (by kernel_rfl)⟩
def t_done_1 : Tree (SV × Heap Empty) := (.leaf ((.w (.one (.b (.bool (.lit false))))), [(300, (.mach 0 (.consL (.lit 1003) (.consL (.lit 1) (.consL (.lit 0) a_done_1)))))]))
theorem e_done_1 [Env] : (baseC 45 [p0] [] (((Lay.sweep).getD 1 ⟨0, [], .nilL, []⟩).hp ++ (([] : Heap Empty))) 1).bind (foldsL (300 :: namesH (([] : Heap Empty))) [.mach (.nm 300) 1003, .drop]) = t_done_1 := by kernel_rfl
theorem p_done_1 (E : Env) (Q : SV × Heap Empty → Prop) (ha : E.l 1100 = @IE.lst E ((Lay.sweep).getD 1 ⟨0, [], .nilL, []⟩).row) (hi : ∀ b ∈ ((Lay.sweep).getD 1 ⟨0, [], .nilL, []⟩).inv, @BE.val E b = true) (hQ : @Tree.holds E _ Q told_done) : @Tree.holds E _ (fun r => ∃ r2, Q r2 ∧ Eqv E r r2) t_done_1 := by
  have ha0 := ha
  have ha : E.l 1100 = (⟨1, 0, E.l 5000, [], []⟩ : Swp).enc := ha0.trans (by simp [Lay.sweep, Lay.row, Lay.li, Lay.ai, Lay.al, IE.lst, IE.val, Swp.enc])
  exact ⟨_, hQ, Eqv.of (q := ⟨[], [((.consL (.lit 1003) (.consL (.lit 1) (.consL (.lit 0) a_done_1))), (.consL (.lit 1003) (.latom 1100)))], [((.lit false), (.cmp .eql (.get (.latom 1100) (.lit 0) 0) (.lit 3)))]⟩) ⟨nn, (cc (congrArg (List.cons _) ha0.symm) nn), (cc (by show _ = ((E.l 1100).getD 0 0 == 3); rw [ha]; rfl) nn)⟩ (by kernel_rfl)⟩
def t_done_2 : Tree (SV × Heap Empty) := (.leaf ((.w (.one (.b (.bool (.lit false))))), [(300, (.mach 0 (.consL (.lit 1003) (.consL (.lit 1) a_done_2))))]))
theorem e_done_2 [Env] : (baseC 45 [p0] [] (((Lay.sweep).getD 2 ⟨0, [], .nilL, []⟩).hp ++ (([] : Heap Empty))) 1).bind (foldsL (300 :: namesH (([] : Heap Empty))) [.mach (.nm 300) 1003, .drop]) = t_done_2 := by kernel_rfl
theorem p_done_2 (E : Env) (Q : SV × Heap Empty → Prop) (ha : E.l 1100 = @IE.lst E ((Lay.sweep).getD 2 ⟨0, [], .nilL, []⟩).row) (hi : ∀ b ∈ ((Lay.sweep).getD 2 ⟨0, [], .nilL, []⟩).inv, @BE.val E b = true) (hQ : @Tree.holds E _ Q told_done) : @Tree.holds E _ (fun r => ∃ r2, Q r2 ∧ Eqv E r r2) t_done_2 := by
  have ha0 := ha
  have ha : E.l 1100 = (⟨1, 0, E.l 5000, E.l 5001, []⟩ : Swp).enc := ha0.trans (by simp [Lay.sweep, Lay.row, Lay.li, Lay.ai, Lay.al, IE.lst, IE.val, Swp.enc])
  exact ⟨_, hQ, Eqv.of (q := ⟨[], [((.consL (.lit 1003) (.consL (.lit 1) a_done_2)), (.consL (.lit 1003) (.latom 1100)))], [((.lit false), (.cmp .eql (.get (.latom 1100) (.lit 0) 0) (.lit 3)))]⟩) ⟨nn, (cc (congrArg (List.cons _) ha0.symm) nn), (cc (by show _ = ((E.l 1100).getD 0 0 == 3); rw [ha]; rfl) nn)⟩ (by kernel_rfl)⟩
def t_done_3 : Tree (SV × Heap Empty) := (.req (.cmp .lss (.lit 0) (.fn 50 (.consL (.len (.latom 5002)) (.consL (.lit 3) .nilL)))) (.req (.cmp .eql (.op .rem .i64 (.len (.latom 5002)) (.lit 3)) (.lit 0)) (.leaf ((.w (.one (.b (.bool (.lit false))))), [(300, (.mach 0 (.consL (.lit 1003) (.consL (.lit 2) (.consL (.lit 0) (.consL (.len (.latom 5000)) (.consL (.len (.latom 5001)) (.catL (.latom 5000) (.catL (.latom 5001) (.latom 5002))))))))))]))))
theorem e_done_3 [Env] : (baseC 45 [p0] [] (((Lay.sweep).getD 3 ⟨0, [], .nilL, []⟩).hp ++ (([] : Heap Empty))) 1).bind (foldsL (300 :: namesH (([] : Heap Empty))) [.mach (.nm 300) 1003, .drop]) = t_done_3 := by kernel_rfl
theorem p_done_3 (E : Env) (Q : SV × Heap Empty → Prop) (ha : E.l 1100 = @IE.lst E ((Lay.sweep).getD 3 ⟨0, [], .nilL, []⟩).row) (hi : ∀ b ∈ ((Lay.sweep).getD 3 ⟨0, [], .nilL, []⟩).inv, @BE.val E b = true) (hQ : @Tree.holds E _ Q told_done) : @Tree.holds E _ (fun r => ∃ r2, Q r2 ∧ Eqv E r r2) t_done_3 := by
  have ha0 := ha
  have ha : E.l 1100 = (⟨2, 0, E.l 5000, E.l 5001, E.l 5002⟩ : Swp).enc := ha0.trans (by simp [Lay.sweep, Lay.row, Lay.li, Lay.ai, Lay.al, IE.lst, IE.val, Swp.enc])
  refine ⟨?_, ?_⟩
  · skip
    exact hi _ (.head _)
  · skip
    refine ⟨?_, ?_⟩
    · skip
      exact hi _ (.tail _ (.head _))
    · skip
      exact ⟨_, hQ, Eqv.of (q := ⟨[], [((.consL (.lit 1003) (.consL (.lit 2) (.consL (.lit 0) (.consL (.len (.latom 5000)) (.consL (.len (.latom 5001)) (.catL (.latom 5000) (.catL (.latom 5001) (.latom 5002)))))))), (.consL (.lit 1003) (.latom 1100)))], [((.lit false), (.cmp .eql (.get (.latom 1100) (.lit 0) 0) (.lit 3)))]⟩) ⟨nn, (cc (congrArg (List.cons _) ha0.symm) nn), (cc (by show _ = ((E.l 1100).getD 0 0 == 3); rw [ha]; rfl) nn)⟩ (by kernel_rfl)⟩
def t_done_4 : Tree (SV × Heap Empty) := (.leaf ((.w (.one (.b (.bool (.lit true))))), [(300, (.mach 0 (.consL (.lit 1003) (.consL (.lit 3) (.consL (.lit 0) a_done_1)))))]))
theorem e_done_4 [Env] : (baseC 45 [p0] [] (((Lay.sweep).getD 4 ⟨0, [], .nilL, []⟩).hp ++ (([] : Heap Empty))) 1).bind (foldsL (300 :: namesH (([] : Heap Empty))) [.mach (.nm 300) 1003, .drop]) = t_done_4 := by kernel_rfl
theorem p_done_4 (E : Env) (Q : SV × Heap Empty → Prop) (ha : E.l 1100 = @IE.lst E ((Lay.sweep).getD 4 ⟨0, [], .nilL, []⟩).row) (hi : ∀ b ∈ ((Lay.sweep).getD 4 ⟨0, [], .nilL, []⟩).inv, @BE.val E b = true) (hQ : @Tree.holds E _ Q told_done) : @Tree.holds E _ (fun r => ∃ r2, Q r2 ∧ Eqv E r r2) t_done_4 := by
  have ha0 := ha
  have ha : E.l 1100 = (⟨3, 0, E.l 5000, [], []⟩ : Swp).enc := ha0.trans (by simp [Lay.sweep, Lay.row, Lay.li, Lay.ai, Lay.al, IE.lst, IE.val, Swp.enc])
  exact ⟨_, hQ, Eqv.of (q := ⟨[], [((.consL (.lit 1003) (.consL (.lit 3) (.consL (.lit 0) a_done_1))), (.consL (.lit 1003) (.latom 1100)))], [((.lit true), (.cmp .eql (.get (.latom 1100) (.lit 0) 0) (.lit 3)))]⟩) ⟨nn, (cc (congrArg (List.cons _) ha0.symm) nn), (cc (by show _ = ((E.l 1100).getD 0 0 == 3); rw [ha]; rfl) nn)⟩ (by kernel_rfl)⟩
def t_done_5 : Tree (SV × Heap Empty) := (.leaf ((.w (.one (.b (.bool (.lit true))))), [(300, (.mach 0 (.consL (.lit 1003) (.consL (.lit 3) a_done_2))))]))
theorem e_done_5 [Env] : (baseC 45 [p0] [] (((Lay.sweep).getD 5 ⟨0, [], .nilL, []⟩).hp ++ (([] : Heap Empty))) 1).bind (foldsL (300 :: namesH (([] : Heap Empty))) [.mach (.nm 300) 1003, .drop]) = t_done_5 := by kernel_rfl
theorem p_done_5 (E : Env) (Q : SV × Heap Empty → Prop) (ha : E.l 1100 = @IE.lst E ((Lay.sweep).getD 5 ⟨0, [], .nilL, []⟩).row) (hi : ∀ b ∈ ((Lay.sweep).getD 5 ⟨0, [], .nilL, []⟩).inv, @BE.val E b = true) (hQ : @Tree.holds E _ Q told_done) : @Tree.holds E _ (fun r => ∃ r2, Q r2 ∧ Eqv E r r2) t_done_5 := by
  have ha0 := ha
  have ha : E.l 1100 = (⟨3, 0, E.l 5000, E.l 5001, []⟩ : Swp).enc := ha0.trans (by simp [Lay.sweep, Lay.row, Lay.li, Lay.ai, Lay.al, IE.lst, IE.val, Swp.enc])
  exact ⟨_, hQ, Eqv.of (q := ⟨[], [((.consL (.lit 1003) (.consL (.lit 3) a_done_2)), (.consL (.lit 1003) (.latom 1100)))], [((.lit true), (.cmp .eql (.get (.latom 1100) (.lit 0) 0) (.lit 3)))]⟩) ⟨nn, (cc (congrArg (List.cons _) ha0.symm) nn), (cc (by show _ = ((E.l 1100).getD 0 0 == 3); rw [ha]; rfl) nn)⟩ (by kernel_rfl)⟩
def s_done : Summ := ⟨45, [p0], (300, .mach 0 (.consL (.lit 1003) (.latom 1100))) :: ([] : Heap Empty), told_done⟩
theorem ok_done : s_done.ok Try.prog := by
  refine Summ.mach (c := @baseC) @baseC_ok (t' := told_done) [.mach (.nm 300) 1003, .drop] (Bk.enters_of Try.func45 (by kernel_rfl)) (by decide) (by kernel_rfl) fun sh hs => ?_
  have hs : sh ∈ Lay.sweep := hs
  simp only [Lay.sweep, List.mem_cons, List.not_mem_nil, or_false] at hs
  rcases hs with rfl | rfl | rfl | rfl | rfl | rfl
  · exact ⟨by kernel_rfl, _, @e_done_0, p_done_0⟩
  · exact ⟨by kernel_rfl, _, @e_done_1, p_done_1⟩
  · exact ⟨by kernel_rfl, _, @e_done_2, p_done_2⟩
  · exact ⟨by kernel_rfl, _, @e_done_3, p_done_3⟩
  · exact ⟨by kernel_rfl, _, @e_done_4, p_done_4⟩
  · exact ⟨by kernel_rfl, _, @e_done_5, p_done_5⟩
def a_kept_1 : IE := (.consL (.len (.latom 5000)) (.consL (.lit 0) (.latom 5000)))
def a_kept_2 : IE := (.consL (.lit 0) (.consL (.len (.latom 5000)) (.consL (.len (.latom 5001)) (.catL (.latom 5000) (.latom 5001)))))
def told_kept : Tree (SV × Heap Empty) := (.req (.cmp .leq (.len (.latom 1100)) (.lit 1000000)) (.leaf ((.w (.one (.b (.ref 9000)))), [(9000, (.mach 4 (.fnL 7200 (.latom 1100)))), (300, (.mach 0 (.consL (.lit 1003) (.latom 1100))))])))
def t_kept_0 : Tree (SV × Heap Empty) := (.req (.cmp .leq (.len (.latom 5000)) (.lit 24000000000000)) (.leaf ((.w (.one (.b (.ref 9000)))), [(9000, (.mach 4 (.latom 5000))), (300, (.mach 0 (.consL (.lit 1003) (.consL (.lit 0) (.consL (.atom 5001) a_kept_1)))))])))
theorem e_kept_0 [Env] : (baseC 46 [p0] [] (((Lay.sweep).getD 0 ⟨0, [], .nilL, []⟩).hp ++ (([] : Heap Empty))) 1).bind (foldsL (300 :: namesH (([] : Heap Empty))) [.mach (.nm 300) 1003, .own, .drop]) = t_kept_0 := by kernel_rfl
theorem p_kept_0 (E : Env) (Q : SV × Heap Empty → Prop) (ha : E.l 1100 = @IE.lst E ((Lay.sweep).getD 0 ⟨0, [], .nilL, []⟩).row) (hi : ∀ b ∈ ((Lay.sweep).getD 0 ⟨0, [], .nilL, []⟩).inv, @BE.val E b = true) (hQ : @Tree.holds E _ Q told_kept) : @Tree.holds E _ (fun r => ∃ r2, Q r2 ∧ Eqv E r r2) t_kept_0 := by
  have ha0 := ha
  have ha : E.l 1100 = (⟨0, E.i 5001, E.l 5000, [], []⟩ : Swp).enc := ha0.trans (by simp [Lay.sweep, Lay.row, Lay.li, Lay.ai, Lay.al, IE.lst, IE.val, Swp.enc])
  have hS : ((((⟨0, E.i 5001, E.l 5000, [], []⟩ : Swp).enc).length : Nat) : Int) ≤ 1000000 := by have q : ((E.l 1100).length : Int) ≤ 1000000 := of_decide_eq_true hQ.1; rw [ha] at q; exact q
  simp only [Swp.enc, List.length_cons, List.length_append, List.length_nil] at hS
  refine ⟨?_, ?_⟩
  · skip
    exact decide_eq_true (by simp only [IE.val, IE.lst]; omega)
  · skip
    exact ⟨_, hQ.2, Eqv.of (q := ⟨[], [((.latom 5000), (.fnL 7200 (.latom 1100))), ((.consL (.lit 1003) (.consL (.lit 0) (.consL (.atom 5001) a_kept_1))), (.consL (.lit 1003) (.latom 1100)))], []⟩) ⟨nn, (cc ((funsL_list (by decide) _).trans (by show listM 2 0 (E.l 1100) = _; rw [ha]; simp only [listM, Swp.dec_enc]; rfl)).symm (cc (congrArg (List.cons _) ha0.symm) nn)), nn⟩ (by kernel_rfl)⟩
def t_kept_1 : Tree (SV × Heap Empty) := (.req (.cmp .leq (.len (.latom 5000)) (.lit 24000000000000)) (.leaf ((.w (.one (.b (.ref 9000)))), [(9000, (.mach 4 (.latom 5000))), (300, (.mach 0 (.consL (.lit 1003) (.consL (.lit 1) (.consL (.lit 0) a_kept_1)))))])))
theorem e_kept_1 [Env] : (baseC 46 [p0] [] (((Lay.sweep).getD 1 ⟨0, [], .nilL, []⟩).hp ++ (([] : Heap Empty))) 1).bind (foldsL (300 :: namesH (([] : Heap Empty))) [.mach (.nm 300) 1003, .own, .drop]) = t_kept_1 := by kernel_rfl
theorem p_kept_1 (E : Env) (Q : SV × Heap Empty → Prop) (ha : E.l 1100 = @IE.lst E ((Lay.sweep).getD 1 ⟨0, [], .nilL, []⟩).row) (hi : ∀ b ∈ ((Lay.sweep).getD 1 ⟨0, [], .nilL, []⟩).inv, @BE.val E b = true) (hQ : @Tree.holds E _ Q told_kept) : @Tree.holds E _ (fun r => ∃ r2, Q r2 ∧ Eqv E r r2) t_kept_1 := by
  have ha0 := ha
  have ha : E.l 1100 = (⟨1, 0, E.l 5000, [], []⟩ : Swp).enc := ha0.trans (by simp [Lay.sweep, Lay.row, Lay.li, Lay.ai, Lay.al, IE.lst, IE.val, Swp.enc])
  have hS : ((((⟨1, 0, E.l 5000, [], []⟩ : Swp).enc).length : Nat) : Int) ≤ 1000000 := by have q : ((E.l 1100).length : Int) ≤ 1000000 := of_decide_eq_true hQ.1; rw [ha] at q; exact q
  simp only [Swp.enc, List.length_cons, List.length_append, List.length_nil] at hS
  refine ⟨?_, ?_⟩
  · skip
    exact decide_eq_true (by simp only [IE.val, IE.lst]; omega)
  · skip
    exact ⟨_, hQ.2, Eqv.of (q := ⟨[], [((.latom 5000), (.fnL 7200 (.latom 1100))), ((.consL (.lit 1003) (.consL (.lit 1) (.consL (.lit 0) a_kept_1))), (.consL (.lit 1003) (.latom 1100)))], []⟩) ⟨nn, (cc ((funsL_list (by decide) _).trans (by show listM 2 0 (E.l 1100) = _; rw [ha]; simp only [listM, Swp.dec_enc]; rfl)).symm (cc (congrArg (List.cons _) ha0.symm) nn)), nn⟩ (by kernel_rfl)⟩
def t_kept_2 : Tree (SV × Heap Empty) := (.req (.cmp .leq (.len (.latom 5000)) (.lit 24000000000000)) (.leaf ((.w (.one (.b (.ref 9000)))), [(9000, (.mach 4 (.latom 5000))), (300, (.mach 0 (.consL (.lit 1003) (.consL (.lit 1) a_kept_2))))])))
theorem e_kept_2 [Env] : (baseC 46 [p0] [] (((Lay.sweep).getD 2 ⟨0, [], .nilL, []⟩).hp ++ (([] : Heap Empty))) 1).bind (foldsL (300 :: namesH (([] : Heap Empty))) [.mach (.nm 300) 1003, .own, .drop]) = t_kept_2 := by kernel_rfl
theorem p_kept_2 (E : Env) (Q : SV × Heap Empty → Prop) (ha : E.l 1100 = @IE.lst E ((Lay.sweep).getD 2 ⟨0, [], .nilL, []⟩).row) (hi : ∀ b ∈ ((Lay.sweep).getD 2 ⟨0, [], .nilL, []⟩).inv, @BE.val E b = true) (hQ : @Tree.holds E _ Q told_kept) : @Tree.holds E _ (fun r => ∃ r2, Q r2 ∧ Eqv E r r2) t_kept_2 := by
  have ha0 := ha
  have ha : E.l 1100 = (⟨1, 0, E.l 5000, E.l 5001, []⟩ : Swp).enc := ha0.trans (by simp [Lay.sweep, Lay.row, Lay.li, Lay.ai, Lay.al, IE.lst, IE.val, Swp.enc])
  have hS : ((((⟨1, 0, E.l 5000, E.l 5001, []⟩ : Swp).enc).length : Nat) : Int) ≤ 1000000 := by have q : ((E.l 1100).length : Int) ≤ 1000000 := of_decide_eq_true hQ.1; rw [ha] at q; exact q
  simp only [Swp.enc, List.length_cons, List.length_append, List.length_nil] at hS
  refine ⟨?_, ?_⟩
  · skip
    exact decide_eq_true (by simp only [IE.val, IE.lst]; omega)
  · skip
    exact ⟨_, hQ.2, Eqv.of (q := ⟨[], [((.latom 5000), (.fnL 7200 (.latom 1100))), ((.consL (.lit 1003) (.consL (.lit 1) a_kept_2)), (.consL (.lit 1003) (.latom 1100)))], []⟩) ⟨nn, (cc ((funsL_list (by decide) _).trans (by show listM 2 0 (E.l 1100) = _; rw [ha]; simp only [listM, Swp.dec_enc]; rfl)).symm (cc (congrArg (List.cons _) ha0.symm) nn)), nn⟩ (by kernel_rfl)⟩
def t_kept_3 : Tree (SV × Heap Empty) := (.req (.cmp .leq (.len (.latom 5000)) (.lit 24000000000000)) (.req (.cmp .lss (.lit 0) (.fn 50 (.consL (.len (.latom 5002)) (.consL (.lit 3) .nilL)))) (.req (.cmp .eql (.op .rem .i64 (.len (.latom 5002)) (.lit 3)) (.lit 0)) (.leaf ((.w (.one (.b (.ref 9000)))), [(9000, (.mach 4 (.latom 5000))), (300, (.mach 0 (.consL (.lit 1003) (.consL (.lit 2) (.consL (.lit 0) (.consL (.len (.latom 5000)) (.consL (.len (.latom 5001)) (.catL (.latom 5000) (.catL (.latom 5001) (.latom 5002))))))))))])))))
theorem e_kept_3 [Env] : (baseC 46 [p0] [] (((Lay.sweep).getD 3 ⟨0, [], .nilL, []⟩).hp ++ (([] : Heap Empty))) 1).bind (foldsL (300 :: namesH (([] : Heap Empty))) [.mach (.nm 300) 1003, .own, .drop]) = t_kept_3 := by kernel_rfl
theorem p_kept_3 (E : Env) (Q : SV × Heap Empty → Prop) (ha : E.l 1100 = @IE.lst E ((Lay.sweep).getD 3 ⟨0, [], .nilL, []⟩).row) (hi : ∀ b ∈ ((Lay.sweep).getD 3 ⟨0, [], .nilL, []⟩).inv, @BE.val E b = true) (hQ : @Tree.holds E _ Q told_kept) : @Tree.holds E _ (fun r => ∃ r2, Q r2 ∧ Eqv E r r2) t_kept_3 := by
  have ha0 := ha
  have ha : E.l 1100 = (⟨2, 0, E.l 5000, E.l 5001, E.l 5002⟩ : Swp).enc := ha0.trans (by simp [Lay.sweep, Lay.row, Lay.li, Lay.ai, Lay.al, IE.lst, IE.val, Swp.enc])
  have hS : ((((⟨2, 0, E.l 5000, E.l 5001, E.l 5002⟩ : Swp).enc).length : Nat) : Int) ≤ 1000000 := by have q : ((E.l 1100).length : Int) ≤ 1000000 := of_decide_eq_true hQ.1; rw [ha] at q; exact q
  simp only [Swp.enc, List.length_cons, List.length_append, List.length_nil] at hS
  refine ⟨?_, ?_⟩
  · skip
    exact decide_eq_true (by simp only [IE.val, IE.lst]; omega)
  · skip
    refine ⟨?_, ?_⟩
    · skip
      exact hi _ (.head _)
    · skip
      refine ⟨?_, ?_⟩
      · skip
        exact hi _ (.tail _ (.head _))
      · skip
        exact ⟨_, hQ.2, Eqv.of (q := ⟨[], [((.latom 5000), (.fnL 7200 (.latom 1100))), ((.consL (.lit 1003) (.consL (.lit 2) (.consL (.lit 0) (.consL (.len (.latom 5000)) (.consL (.len (.latom 5001)) (.catL (.latom 5000) (.catL (.latom 5001) (.latom 5002)))))))), (.consL (.lit 1003) (.latom 1100)))], []⟩) ⟨nn, (cc ((funsL_list (by decide) _).trans (by show listM 2 0 (E.l 1100) = _; rw [ha]; simp only [listM, Swp.dec_enc]; rfl)).symm (cc (congrArg (List.cons _) ha0.symm) nn)), nn⟩ (by kernel_rfl)⟩
def t_kept_4 : Tree (SV × Heap Empty) := (.req (.cmp .leq (.len (.latom 5000)) (.lit 24000000000000)) (.leaf ((.w (.one (.b (.ref 9000)))), [(9000, (.mach 4 (.latom 5000))), (300, (.mach 0 (.consL (.lit 1003) (.consL (.lit 3) (.consL (.lit 0) a_kept_1)))))])))
theorem e_kept_4 [Env] : (baseC 46 [p0] [] (((Lay.sweep).getD 4 ⟨0, [], .nilL, []⟩).hp ++ (([] : Heap Empty))) 1).bind (foldsL (300 :: namesH (([] : Heap Empty))) [.mach (.nm 300) 1003, .own, .drop]) = t_kept_4 := by kernel_rfl
theorem p_kept_4 (E : Env) (Q : SV × Heap Empty → Prop) (ha : E.l 1100 = @IE.lst E ((Lay.sweep).getD 4 ⟨0, [], .nilL, []⟩).row) (hi : ∀ b ∈ ((Lay.sweep).getD 4 ⟨0, [], .nilL, []⟩).inv, @BE.val E b = true) (hQ : @Tree.holds E _ Q told_kept) : @Tree.holds E _ (fun r => ∃ r2, Q r2 ∧ Eqv E r r2) t_kept_4 := by
  have ha0 := ha
  have ha : E.l 1100 = (⟨3, 0, E.l 5000, [], []⟩ : Swp).enc := ha0.trans (by simp [Lay.sweep, Lay.row, Lay.li, Lay.ai, Lay.al, IE.lst, IE.val, Swp.enc])
  have hS : ((((⟨3, 0, E.l 5000, [], []⟩ : Swp).enc).length : Nat) : Int) ≤ 1000000 := by have q : ((E.l 1100).length : Int) ≤ 1000000 := of_decide_eq_true hQ.1; rw [ha] at q; exact q
  simp only [Swp.enc, List.length_cons, List.length_append, List.length_nil] at hS
  refine ⟨?_, ?_⟩
  · skip
    exact decide_eq_true (by simp only [IE.val, IE.lst]; omega)
  · skip
    exact ⟨_, hQ.2, Eqv.of (q := ⟨[], [((.latom 5000), (.fnL 7200 (.latom 1100))), ((.consL (.lit 1003) (.consL (.lit 3) (.consL (.lit 0) a_kept_1))), (.consL (.lit 1003) (.latom 1100)))], []⟩) ⟨nn, (cc ((funsL_list (by decide) _).trans (by show listM 2 0 (E.l 1100) = _; rw [ha]; simp only [listM, Swp.dec_enc]; rfl)).symm (cc (congrArg (List.cons _) ha0.symm) nn)), nn⟩ (by kernel_rfl)⟩
def t_kept_5 : Tree (SV × Heap Empty) := (.req (.cmp .leq (.len (.latom 5000)) (.lit 24000000000000)) (.leaf ((.w (.one (.b (.ref 9000)))), [(9000, (.mach 4 (.latom 5000))), (300, (.mach 0 (.consL (.lit 1003) (.consL (.lit 3) a_kept_2))))])))
theorem e_kept_5 [Env] : (baseC 46 [p0] [] (((Lay.sweep).getD 5 ⟨0, [], .nilL, []⟩).hp ++ (([] : Heap Empty))) 1).bind (foldsL (300 :: namesH (([] : Heap Empty))) [.mach (.nm 300) 1003, .own, .drop]) = t_kept_5 := by kernel_rfl
theorem p_kept_5 (E : Env) (Q : SV × Heap Empty → Prop) (ha : E.l 1100 = @IE.lst E ((Lay.sweep).getD 5 ⟨0, [], .nilL, []⟩).row) (hi : ∀ b ∈ ((Lay.sweep).getD 5 ⟨0, [], .nilL, []⟩).inv, @BE.val E b = true) (hQ : @Tree.holds E _ Q told_kept) : @Tree.holds E _ (fun r => ∃ r2, Q r2 ∧ Eqv E r r2) t_kept_5 := by
  have ha0 := ha
  have ha : E.l 1100 = (⟨3, 0, E.l 5000, E.l 5001, []⟩ : Swp).enc := ha0.trans (by simp [Lay.sweep, Lay.row, Lay.li, Lay.ai, Lay.al, IE.lst, IE.val, Swp.enc])
  have hS : ((((⟨3, 0, E.l 5000, E.l 5001, []⟩ : Swp).enc).length : Nat) : Int) ≤ 1000000 := by have q : ((E.l 1100).length : Int) ≤ 1000000 := of_decide_eq_true hQ.1; rw [ha] at q; exact q
  simp only [Swp.enc, List.length_cons, List.length_append, List.length_nil] at hS
  refine ⟨?_, ?_⟩
  · skip
    exact decide_eq_true (by simp only [IE.val, IE.lst]; omega)
  · skip
    exact ⟨_, hQ.2, Eqv.of (q := ⟨[], [((.latom 5000), (.fnL 7200 (.latom 1100))), ((.consL (.lit 1003) (.consL (.lit 3) a_kept_2)), (.consL (.lit 1003) (.latom 1100)))], []⟩) ⟨nn, (cc ((funsL_list (by decide) _).trans (by show listM 2 0 (E.l 1100) = _; rw [ha]; simp only [listM, Swp.dec_enc]; rfl)).symm (cc (congrArg (List.cons _) ha0.symm) nn)), nn⟩ (by kernel_rfl)⟩
def s_kept : Summ := ⟨46, [p0], (300, .mach 0 (.consL (.lit 1003) (.latom 1100))) :: ([] : Heap Empty), told_kept⟩
theorem ok_kept : s_kept.ok Try.prog := by
  refine Summ.mach (c := @baseC) @baseC_ok (t' := told_kept) [.mach (.nm 300) 1003, .own, .drop] (Bk.enters_of Try.func46 (by kernel_rfl)) (by decide) (by kernel_rfl) fun sh hs => ?_
  have hs : sh ∈ Lay.sweep := hs
  simp only [Lay.sweep, List.mem_cons, List.not_mem_nil, or_false] at hs
  rcases hs with rfl | rfl | rfl | rfl | rfl | rfl
  · exact ⟨by kernel_rfl, _, @e_kept_0, p_kept_0⟩
  · exact ⟨by kernel_rfl, _, @e_kept_1, p_kept_1⟩
  · exact ⟨by kernel_rfl, _, @e_kept_2, p_kept_2⟩
  · exact ⟨by kernel_rfl, _, @e_kept_3, p_kept_3⟩
  · exact ⟨by kernel_rfl, _, @e_kept_4, p_kept_4⟩
  · exact ⟨by kernel_rfl, _, @e_kept_5, p_kept_5⟩
def a_seen_1 : IE := (.consL (.len (.latom 5000)) (.consL (.lit 0) (.latom 5000)))
def a_seen_2 : IE := (.consL (.lit 0) (.consL (.len (.latom 5000)) (.consL (.len (.latom 5001)) (.catL (.latom 5000) (.latom 5001)))))
def told_seen : Tree (SV × Heap Empty) := (.req (.cmp .leq (.len (.latom 1100)) (.lit 1000000)) (.leaf ((.w (.one (.b (.ref 9000)))), [(9000, (.mach 2 (.fnL 7201 (.latom 1100)))), (300, (.mach 0 (.consL (.lit 1003) (.latom 1100))))])))
def t_seen_0 : Tree (SV × Heap Empty) := (.leaf ((.w (.one (.b (.ref 9000)))), [(9000, (.mach 1 .nilL)), (300, (.mach 0 (.consL (.lit 1003) (.consL (.lit 0) (.consL (.atom 5001) a_seen_1)))))]))
theorem e_seen_0 [Env] : (baseC 48 [p0] [] (((Lay.sweep).getD 0 ⟨0, [], .nilL, []⟩).hp ++ (([] : Heap Empty))) 1).bind (foldsL (300 :: namesH (([] : Heap Empty))) [.mach (.nm 300) 1003, .own, .drop]) = t_seen_0 := by kernel_rfl
theorem p_seen_0 (E : Env) (Q : SV × Heap Empty → Prop) (ha : E.l 1100 = @IE.lst E ((Lay.sweep).getD 0 ⟨0, [], .nilL, []⟩).row) (hi : ∀ b ∈ ((Lay.sweep).getD 0 ⟨0, [], .nilL, []⟩).inv, @BE.val E b = true) (hQ : @Tree.holds E _ Q told_seen) : @Tree.holds E _ (fun r => ∃ r2, Q r2 ∧ Eqv E r r2) t_seen_0 := by
  have ha0 := ha
  have ha : E.l 1100 = (⟨0, E.i 5001, E.l 5000, [], []⟩ : Swp).enc := ha0.trans (by simp [Lay.sweep, Lay.row, Lay.li, Lay.ai, Lay.al, IE.lst, IE.val, Swp.enc])
  have hS : ((((⟨0, E.i 5001, E.l 5000, [], []⟩ : Swp).enc).length : Nat) : Int) ≤ 1000000 := by have q : ((E.l 1100).length : Int) ≤ 1000000 := of_decide_eq_true hQ.1; rw [ha] at q; exact q
  simp only [Swp.enc, List.length_cons, List.length_append, List.length_nil] at hS
  exact ⟨_, hQ.2, Eqv.of (q := ⟨[], [(.nilL, (.fnL 7201 (.latom 1100))), ((.consL (.lit 1003) (.consL (.lit 0) (.consL (.atom 5001) a_seen_1))), (.consL (.lit 1003) (.latom 1100)))], []⟩) ⟨nn, (cc ((funsL_list (by decide) _).trans (by show listM 2 1 (E.l 1100) = _; rw [ha]; simp only [listM, Swp.dec_enc]; rfl)).symm (cc (congrArg (List.cons _) ha0.symm) nn)), nn⟩ (by kernel_rfl)⟩
def t_seen_1 : Tree (SV × Heap Empty) := (.leaf ((.w (.one (.b (.ref 9000)))), [(9000, (.mach 1 .nilL)), (300, (.mach 0 (.consL (.lit 1003) (.consL (.lit 1) (.consL (.lit 0) a_seen_1)))))]))
theorem e_seen_1 [Env] : (baseC 48 [p0] [] (((Lay.sweep).getD 1 ⟨0, [], .nilL, []⟩).hp ++ (([] : Heap Empty))) 1).bind (foldsL (300 :: namesH (([] : Heap Empty))) [.mach (.nm 300) 1003, .own, .drop]) = t_seen_1 := by kernel_rfl
theorem p_seen_1 (E : Env) (Q : SV × Heap Empty → Prop) (ha : E.l 1100 = @IE.lst E ((Lay.sweep).getD 1 ⟨0, [], .nilL, []⟩).row) (hi : ∀ b ∈ ((Lay.sweep).getD 1 ⟨0, [], .nilL, []⟩).inv, @BE.val E b = true) (hQ : @Tree.holds E _ Q told_seen) : @Tree.holds E _ (fun r => ∃ r2, Q r2 ∧ Eqv E r r2) t_seen_1 := by
  have ha0 := ha
  have ha : E.l 1100 = (⟨1, 0, E.l 5000, [], []⟩ : Swp).enc := ha0.trans (by simp [Lay.sweep, Lay.row, Lay.li, Lay.ai, Lay.al, IE.lst, IE.val, Swp.enc])
  have hS : ((((⟨1, 0, E.l 5000, [], []⟩ : Swp).enc).length : Nat) : Int) ≤ 1000000 := by have q : ((E.l 1100).length : Int) ≤ 1000000 := of_decide_eq_true hQ.1; rw [ha] at q; exact q
  simp only [Swp.enc, List.length_cons, List.length_append, List.length_nil] at hS
  exact ⟨_, hQ.2, Eqv.of (q := ⟨[], [(.nilL, (.fnL 7201 (.latom 1100))), ((.consL (.lit 1003) (.consL (.lit 1) (.consL (.lit 0) a_seen_1))), (.consL (.lit 1003) (.latom 1100)))], []⟩) ⟨nn, (cc ((funsL_list (by decide) _).trans (by show listM 2 1 (E.l 1100) = _; rw [ha]; simp only [listM, Swp.dec_enc]; rfl)).symm (cc (congrArg (List.cons _) ha0.symm) nn)), nn⟩ (by kernel_rfl)⟩
def t_seen_2 : Tree (SV × Heap Empty) := (.req (.cmp .leq (.len (.latom 5001)) (.lit 1000000)) (.leaf ((.w (.one (.b (.ref 9000)))), [(9000, (.mach 2 (.latom 5001))), (300, (.mach 0 (.consL (.lit 1003) (.consL (.lit 1) a_seen_2))))])))
theorem e_seen_2 [Env] : (baseC 48 [p0] [] (((Lay.sweep).getD 2 ⟨0, [], .nilL, []⟩).hp ++ (([] : Heap Empty))) 1).bind (foldsL (300 :: namesH (([] : Heap Empty))) [.mach (.nm 300) 1003, .own, .drop]) = t_seen_2 := by kernel_rfl
theorem p_seen_2 (E : Env) (Q : SV × Heap Empty → Prop) (ha : E.l 1100 = @IE.lst E ((Lay.sweep).getD 2 ⟨0, [], .nilL, []⟩).row) (hi : ∀ b ∈ ((Lay.sweep).getD 2 ⟨0, [], .nilL, []⟩).inv, @BE.val E b = true) (hQ : @Tree.holds E _ Q told_seen) : @Tree.holds E _ (fun r => ∃ r2, Q r2 ∧ Eqv E r r2) t_seen_2 := by
  have ha0 := ha
  have ha : E.l 1100 = (⟨1, 0, E.l 5000, E.l 5001, []⟩ : Swp).enc := ha0.trans (by simp [Lay.sweep, Lay.row, Lay.li, Lay.ai, Lay.al, IE.lst, IE.val, Swp.enc])
  have hS : ((((⟨1, 0, E.l 5000, E.l 5001, []⟩ : Swp).enc).length : Nat) : Int) ≤ 1000000 := by have q : ((E.l 1100).length : Int) ≤ 1000000 := of_decide_eq_true hQ.1; rw [ha] at q; exact q
  simp only [Swp.enc, List.length_cons, List.length_append, List.length_nil] at hS
  refine ⟨?_, ?_⟩
  · skip
    exact decide_eq_true (by simp only [IE.val, IE.lst]; omega)
  · skip
    exact ⟨_, hQ.2, Eqv.of (q := ⟨[], [((.latom 5001), (.fnL 7201 (.latom 1100))), ((.consL (.lit 1003) (.consL (.lit 1) a_seen_2)), (.consL (.lit 1003) (.latom 1100)))], []⟩) ⟨nn, (cc ((funsL_list (by decide) _).trans (by show listM 2 1 (E.l 1100) = _; rw [ha]; simp only [listM, Swp.dec_enc]; rfl)).symm (cc (congrArg (List.cons _) ha0.symm) nn)), nn⟩ (by kernel_rfl)⟩
def t_seen_3 : Tree (SV × Heap Empty) := (.req (.cmp .leq (.len (.latom 5001)) (.lit 1000000)) (.req (.cmp .lss (.lit 0) (.fn 50 (.consL (.len (.latom 5002)) (.consL (.lit 3) .nilL)))) (.req (.cmp .eql (.op .rem .i64 (.len (.latom 5002)) (.lit 3)) (.lit 0)) (.leaf ((.w (.one (.b (.ref 9000)))), [(9000, (.mach 2 (.latom 5001))), (300, (.mach 0 (.consL (.lit 1003) (.consL (.lit 2) (.consL (.lit 0) (.consL (.len (.latom 5000)) (.consL (.len (.latom 5001)) (.catL (.latom 5000) (.catL (.latom 5001) (.latom 5002))))))))))])))))
theorem e_seen_3 [Env] : (baseC 48 [p0] [] (((Lay.sweep).getD 3 ⟨0, [], .nilL, []⟩).hp ++ (([] : Heap Empty))) 1).bind (foldsL (300 :: namesH (([] : Heap Empty))) [.mach (.nm 300) 1003, .own, .drop]) = t_seen_3 := by kernel_rfl
theorem p_seen_3 (E : Env) (Q : SV × Heap Empty → Prop) (ha : E.l 1100 = @IE.lst E ((Lay.sweep).getD 3 ⟨0, [], .nilL, []⟩).row) (hi : ∀ b ∈ ((Lay.sweep).getD 3 ⟨0, [], .nilL, []⟩).inv, @BE.val E b = true) (hQ : @Tree.holds E _ Q told_seen) : @Tree.holds E _ (fun r => ∃ r2, Q r2 ∧ Eqv E r r2) t_seen_3 := by
  have ha0 := ha
  have ha : E.l 1100 = (⟨2, 0, E.l 5000, E.l 5001, E.l 5002⟩ : Swp).enc := ha0.trans (by simp [Lay.sweep, Lay.row, Lay.li, Lay.ai, Lay.al, IE.lst, IE.val, Swp.enc])
  have hS : ((((⟨2, 0, E.l 5000, E.l 5001, E.l 5002⟩ : Swp).enc).length : Nat) : Int) ≤ 1000000 := by have q : ((E.l 1100).length : Int) ≤ 1000000 := of_decide_eq_true hQ.1; rw [ha] at q; exact q
  simp only [Swp.enc, List.length_cons, List.length_append, List.length_nil] at hS
  refine ⟨?_, ?_⟩
  · skip
    exact decide_eq_true (by simp only [IE.val, IE.lst]; omega)
  · skip
    refine ⟨?_, ?_⟩
    · skip
      exact hi _ (.head _)
    · skip
      refine ⟨?_, ?_⟩
      · skip
        exact hi _ (.tail _ (.head _))
      · skip
        exact ⟨_, hQ.2, Eqv.of (q := ⟨[], [((.latom 5001), (.fnL 7201 (.latom 1100))), ((.consL (.lit 1003) (.consL (.lit 2) (.consL (.lit 0) (.consL (.len (.latom 5000)) (.consL (.len (.latom 5001)) (.catL (.latom 5000) (.catL (.latom 5001) (.latom 5002)))))))), (.consL (.lit 1003) (.latom 1100)))], []⟩) ⟨nn, (cc ((funsL_list (by decide) _).trans (by show listM 2 1 (E.l 1100) = _; rw [ha]; simp only [listM, Swp.dec_enc]; rfl)).symm (cc (congrArg (List.cons _) ha0.symm) nn)), nn⟩ (by kernel_rfl)⟩
def t_seen_4 : Tree (SV × Heap Empty) := (.leaf ((.w (.one (.b (.ref 9000)))), [(9000, (.mach 1 .nilL)), (300, (.mach 0 (.consL (.lit 1003) (.consL (.lit 3) (.consL (.lit 0) a_seen_1)))))]))
theorem e_seen_4 [Env] : (baseC 48 [p0] [] (((Lay.sweep).getD 4 ⟨0, [], .nilL, []⟩).hp ++ (([] : Heap Empty))) 1).bind (foldsL (300 :: namesH (([] : Heap Empty))) [.mach (.nm 300) 1003, .own, .drop]) = t_seen_4 := by kernel_rfl
theorem p_seen_4 (E : Env) (Q : SV × Heap Empty → Prop) (ha : E.l 1100 = @IE.lst E ((Lay.sweep).getD 4 ⟨0, [], .nilL, []⟩).row) (hi : ∀ b ∈ ((Lay.sweep).getD 4 ⟨0, [], .nilL, []⟩).inv, @BE.val E b = true) (hQ : @Tree.holds E _ Q told_seen) : @Tree.holds E _ (fun r => ∃ r2, Q r2 ∧ Eqv E r r2) t_seen_4 := by
  have ha0 := ha
  have ha : E.l 1100 = (⟨3, 0, E.l 5000, [], []⟩ : Swp).enc := ha0.trans (by simp [Lay.sweep, Lay.row, Lay.li, Lay.ai, Lay.al, IE.lst, IE.val, Swp.enc])
  have hS : ((((⟨3, 0, E.l 5000, [], []⟩ : Swp).enc).length : Nat) : Int) ≤ 1000000 := by have q : ((E.l 1100).length : Int) ≤ 1000000 := of_decide_eq_true hQ.1; rw [ha] at q; exact q
  simp only [Swp.enc, List.length_cons, List.length_append, List.length_nil] at hS
  exact ⟨_, hQ.2, Eqv.of (q := ⟨[], [(.nilL, (.fnL 7201 (.latom 1100))), ((.consL (.lit 1003) (.consL (.lit 3) (.consL (.lit 0) a_seen_1))), (.consL (.lit 1003) (.latom 1100)))], []⟩) ⟨nn, (cc ((funsL_list (by decide) _).trans (by show listM 2 1 (E.l 1100) = _; rw [ha]; simp only [listM, Swp.dec_enc]; rfl)).symm (cc (congrArg (List.cons _) ha0.symm) nn)), nn⟩ (by kernel_rfl)⟩
def t_seen_5 : Tree (SV × Heap Empty) := (.req (.cmp .leq (.len (.latom 5001)) (.lit 1000000)) (.leaf ((.w (.one (.b (.ref 9000)))), [(9000, (.mach 2 (.latom 5001))), (300, (.mach 0 (.consL (.lit 1003) (.consL (.lit 3) a_seen_2))))])))
theorem e_seen_5 [Env] : (baseC 48 [p0] [] (((Lay.sweep).getD 5 ⟨0, [], .nilL, []⟩).hp ++ (([] : Heap Empty))) 1).bind (foldsL (300 :: namesH (([] : Heap Empty))) [.mach (.nm 300) 1003, .own, .drop]) = t_seen_5 := by kernel_rfl
theorem p_seen_5 (E : Env) (Q : SV × Heap Empty → Prop) (ha : E.l 1100 = @IE.lst E ((Lay.sweep).getD 5 ⟨0, [], .nilL, []⟩).row) (hi : ∀ b ∈ ((Lay.sweep).getD 5 ⟨0, [], .nilL, []⟩).inv, @BE.val E b = true) (hQ : @Tree.holds E _ Q told_seen) : @Tree.holds E _ (fun r => ∃ r2, Q r2 ∧ Eqv E r r2) t_seen_5 := by
  have ha0 := ha
  have ha : E.l 1100 = (⟨3, 0, E.l 5000, E.l 5001, []⟩ : Swp).enc := ha0.trans (by simp [Lay.sweep, Lay.row, Lay.li, Lay.ai, Lay.al, IE.lst, IE.val, Swp.enc])
  have hS : ((((⟨3, 0, E.l 5000, E.l 5001, []⟩ : Swp).enc).length : Nat) : Int) ≤ 1000000 := by have q : ((E.l 1100).length : Int) ≤ 1000000 := of_decide_eq_true hQ.1; rw [ha] at q; exact q
  simp only [Swp.enc, List.length_cons, List.length_append, List.length_nil] at hS
  refine ⟨?_, ?_⟩
  · skip
    exact decide_eq_true (by simp only [IE.val, IE.lst]; omega)
  · skip
    exact ⟨_, hQ.2, Eqv.of (q := ⟨[], [((.latom 5001), (.fnL 7201 (.latom 1100))), ((.consL (.lit 1003) (.consL (.lit 3) a_seen_2)), (.consL (.lit 1003) (.latom 1100)))], []⟩) ⟨nn, (cc ((funsL_list (by decide) _).trans (by show listM 2 1 (E.l 1100) = _; rw [ha]; simp only [listM, Swp.dec_enc]; rfl)).symm (cc (congrArg (List.cons _) ha0.symm) nn)), nn⟩ (by kernel_rfl)⟩
def s_seen : Summ := ⟨48, [p0], (300, .mach 0 (.consL (.lit 1003) (.latom 1100))) :: ([] : Heap Empty), told_seen⟩
theorem ok_seen : s_seen.ok Try.prog := by
  refine Summ.mach (c := @baseC) @baseC_ok (t' := told_seen) [.mach (.nm 300) 1003, .own, .drop] (Bk.enters_of Try.func48 (by kernel_rfl)) (by decide) (by kernel_rfl) fun sh hs => ?_
  have hs : sh ∈ Lay.sweep := hs
  simp only [Lay.sweep, List.mem_cons, List.not_mem_nil, or_false] at hs
  rcases hs with rfl | rfl | rfl | rfl | rfl | rfl
  · exact ⟨by kernel_rfl, _, @e_seen_0, p_seen_0⟩
  · exact ⟨by kernel_rfl, _, @e_seen_1, p_seen_1⟩
  · exact ⟨by kernel_rfl, _, @e_seen_2, p_seen_2⟩
  · exact ⟨by kernel_rfl, _, @e_seen_3, p_seen_3⟩
  · exact ⟨by kernel_rfl, _, @e_seen_4, p_seen_4⟩
  · exact ⟨by kernel_rfl, _, @e_seen_5, p_seen_5⟩
def a_step_1 : IE := (.consL (.len (.latom 5000)) (.consL (.lit 0) (.latom 5000)))
def a_step_2 : BE := (.cmp .leq (.at_ (.lit 0) (.lit 0) 0 1) (.len (.latom 5002)))
def a_step_3 : BE := (.cmp .lss (.op .add .i64 (.atom 5001) (.lit 1)) (.atom 1021))
def a_step_4 : BE := (.cmp .lss (.lit 1) (.op .mul .i64 (.atom 1020) (.atom 1021)))
def a_step_5 : IE := (.fn 50 (.consL (.len (.latom 5002)) (.consL (.lit 3) .nilL)))
def a_step_6 : BE := (.cmp .leq (.at_ (.len (.latom 5001)) (.lit 1) 1 0) (.lit 8796093022208))
def a_step_7 : BE := (.cmp .geq (.fn 50 (.consL (.len (.latom 5000)) (.consL (.lit 3) .nilL))) (.atom 1024))
def a_step_8 : BE := (.cmp .lss (.op .add .i64 (.len (.latom 5001)) (.lit 1)) (.op .mul .i64 (.atom 1020) (.atom 1021)))
def a_step_9 : IE := (.fn 23 (.consL (.fn 9 (.consL (.get (.latom 5002) (.lit 0) 0) .nilL)) (.consL (.atom 1026) .nilL)))
def a_step_10 : IE := (.consL (.lit 1003) (.consL (.lit 1) (.consL (.lit 0) a_step_1)))
def a_step_11 : IE := (.consL (.lit 1003) (.consL (.lit 3) (.consL (.lit 0) a_step_1)))
def a_step_12 : IE := (.subL (.latom 5002) (.at_ (.lit 0) (.lit 1) 3 0) (.dif a_step_5 (.lit 1)) 3)
def a_step_13 : IE := (.consL (.lit 1003) (.consL (.lit 0) (.consL (.op .add .i64 (.atom 5001) (.lit 1)) a_step_1)))
def a_step_14 : IE := (.consL (.lit 1003) (.consL (.lit 3) (.consL (.lit 0) (.consL (.len (.latom 5000)) (.consL (.len (.latom 5001)) (.catL (.latom 5000) (.latom 5001)))))))
def a_step_15 : IE := (.fn 3 (.consL (.atom 1020) (.consL (.atom 1021) (.consL (.atom 1022) (.consL (.atom 1023) (.consL (.atom 1024) (.consL (.atom 1025) (.consL (.atom 1026) (.consL (.atom 1052) (.consL (.atom 5001) .nilL))))))))))
def a_step_16 : IE := (.fn 4 (.consL (.atom 1020) (.consL (.atom 1021) (.consL (.atom 1022) (.consL (.atom 1023) (.consL (.atom 1024) (.consL (.atom 1025) (.consL (.atom 1026) (.consL (.fn 5 (.consL (.get (.latom 5002) (.lit 0) 0) .nilL)) (.consL (.lit 0) .nilL))))))))))
def a_step_17 : IE := (.fn 3 (.consL (.atom 1020) (.consL (.atom 1021) (.consL (.atom 1022) (.consL (.atom 1023) (.consL (.atom 1024) (.consL (.atom 1025) (.consL (.atom 1026) (.consL (.op .quo .i64 (.lit 0) (.atom 1021)) (.consL (.op .rem .i64 (.lit 0) (.atom 1021)) .nilL))))))))))
def a_step_18 : BE := (.cmp .neq (.fn 12 (.consL a_step_15 (.latom 1000))) (.lit 0))
def a_step_19 : IE := (.fn 3 (.consL (.atom 1020) (.consL (.atom 1021) (.consL (.atom 1022) (.consL (.atom 1023) (.consL (.atom 1024) (.consL (.atom 1025) (.consL (.atom 1026) (.consL (.op .quo .i64 (.len (.latom 5001)) (.atom 1021)) (.consL (.op .rem .i64 (.len (.latom 5001)) (.atom 1021)) .nilL))))))))))
def a_step_20 : IE := (.putL (.latom 1000) (.fn 13 (.consL a_step_15 (.latom 1000))) (.consL (.lit 0) .nilL))
def a_step_21 : BE := (.cmp .neq (.fn 12 (.consL a_step_16 (.latom 1000))) (.lit 0))
def a_step_22 : BE := (.cmp .neq (.fn 12 (.consL a_step_17 (.latom 1000))) (.lit 0))
def a_step_23 : BE := (.cmp .neq (.fn 12 (.consL a_step_19 (.latom 1000))) (.lit 0))
def a_step_24 : IE := (.catL (.latom 5001) (.consL (.fn 10 (.consL a_step_19 (.latom 1000))) .nilL))
def a_step_26 : IE := (.putL (.latom 1000) (.fn 13 (.consL a_step_16 (.latom 1000))) (.consL a_step_9 .nilL))
def a_step_27 : IE := (.consL (.len (.consL (.fn 10 (.consL a_step_17 (.latom 1000))) .nilL)) (.catL (.consL (.fn 10 (.consL a_step_17 (.latom 1000))) .nilL) (.latom 5000)))
def a_step_28 : IE := (.fn 50 (.consL (.len (.fnL 4 a_step_27)) (.consL (.lit 3) .nilL)))
def a_step_29 : IE := (.fnL 4 (.consL (.len a_step_24) (.catL a_step_24 (.latom 5000))))
def a_step_30 : IE := (.fnL 3 (.consL (.len a_step_24) (.catL a_step_24 (.latom 5000))))
def told_step : Tree (SV × Heap Empty) := (.req (.cmp .neq (.fn 1 cfgA) (.lit 0)) (.req (.cmp .leq (.len (.latom 1100)) (.lit 1000000)) (.req (.cmp .neq (.fn 7999 (.latom 1100)) (.lit 0)) (.leaf ((.tup []), [(300, (.mach 0 (.consL (.lit 1003) (.fnL 1200 X)))), (198, (.cells 122 [(.b (.int .i64 (.atom 1020))), (.b (.int .i64 (.atom 1021))), (.b (.int .i64 (.atom 1022))), (.b (.int .i64 (.atom 1023))), (.b (.int .i64 (.atom 1024))), (.b (.int .i64 (.atom 1025))), (.b (.int .i64 (.atom 1026))), (.b (.ptr 200 (.lit 0)))] 0)), (200, (.cells 130 [(.b (.sl 202 (.lit 0) (.len (.latom 1000)) (.len (.latom 1000)))), (.b (.int .i64 (.fn 1200 X))), (.b (.int .i64 (.fn 1201 X))), (.b (.int .i64 (.fn 1202 X))), (.b (.int .u64 (.fn 1203 X))), (.b (.int .u64 (.fn 1204 X))), (.b (.int .u64 (.fn 1205 X))), (.b (.bool (.cmp .neq (.fn 1206 X) (.lit 0))))] 0)), (202, (.row .u64 27 (.putL (.latom 1000) (.lit 0) (.fnL 1201 X)))), (210, (.cells 105 [(.b (.int .i64 (.fn 1207 X))), (.b (.int .u64 (.fn 1208 X))), (.b (.int .i64 (.atom 1052)))] 0))])))))
def t_step_0 : Tree (SV × Heap Empty) := (.br (.cmp .eql (.atom 5001) (.op .sub .i64 (.atom 1021) (.lit 1))) (.br a_step_3 (.leaf ((.tup []), [(300, (.mach 0 a_step_13)), (198, (.cells 122 [(.b (.int .i64 (.atom 1020))), (.b (.int .i64 (.atom 1021))), (.b (.int .i64 (.atom 1022))), (.b (.int .i64 (.atom 1023))), (.b (.int .i64 (.atom 1024))), (.b (.int .i64 (.atom 1025))), (.b (.int .i64 (.atom 1026))), (.b (.ptr 200 (.lit 0)))] 0)), (200, (.cells 130 [(.b (.sl 202 (.lit 0) (.len (.latom 1000)) (.len (.latom 1000)))), (.b (.int .i64 (.op .add .i64 (.atom 1001) (.lit 1)))), (.b (.int .i64 (.lit 2))), (.b (.int .i64 a_step_15)), (.b (.int .u64 (.lit 0))), (.b (.int .u64 (.fn 10 (.consL a_step_15 (.latom 1000))))), (.b (.int .u64 (.fn 14 (.consL (.lit 0) (.consL a_step_15 (.latom 1000)))))), (.b (.bool a_step_18))] 0)), (202, (.row .u64 27 a_step_20)), (210, (.cells 105 [(.b (.int .i64 (.lit 0))), (.b (.int .u64 (.lit 0))), (.b (.int .i64 (.atom 1052)))] 0))])) (.br a_step_7 (.leaf ((.tup []), [(300, (.mach 0 a_step_10)), (198, (.cells 122 [(.b (.int .i64 (.atom 1020))), (.b (.int .i64 (.atom 1021))), (.b (.int .i64 (.atom 1022))), (.b (.int .i64 (.atom 1023))), (.b (.int .i64 (.atom 1024))), (.b (.int .i64 (.atom 1025))), (.b (.int .i64 (.atom 1026))), (.b (.ptr 200 (.lit 0)))] 0)), (200, (.cells 130 [(.b (.sl 202 (.lit 0) (.len (.latom 1000)) (.len (.latom 1000)))), (.b (.int .i64 (.op .add .i64 (.atom 1001) (.lit 1)))), (.b (.int .i64 (.lit 2))), (.b (.int .i64 a_step_15)), (.b (.int .u64 (.lit 0))), (.b (.int .u64 (.fn 10 (.consL a_step_15 (.latom 1000))))), (.b (.int .u64 (.fn 14 (.consL (.lit 0) (.consL a_step_15 (.latom 1000)))))), (.b (.bool a_step_18))] 0)), (202, (.row .u64 27 a_step_20)), (210, (.cells 105 [(.b (.int .i64 (.lit 0))), (.b (.int .u64 (.lit 0))), (.b (.int .i64 (.atom 1052)))] 0))])) (.leaf ((.tup []), [(300, (.mach 0 a_step_11)), (198, (.cells 122 [(.b (.int .i64 (.atom 1020))), (.b (.int .i64 (.atom 1021))), (.b (.int .i64 (.atom 1022))), (.b (.int .i64 (.atom 1023))), (.b (.int .i64 (.atom 1024))), (.b (.int .i64 (.atom 1025))), (.b (.int .i64 (.atom 1026))), (.b (.ptr 200 (.lit 0)))] 0)), (200, (.cells 130 [(.b (.sl 202 (.lit 0) (.len (.latom 1000)) (.len (.latom 1000)))), (.b (.int .i64 (.op .add .i64 (.atom 1001) (.lit 1)))), (.b (.int .i64 (.lit 2))), (.b (.int .i64 a_step_15)), (.b (.int .u64 (.lit 0))), (.b (.int .u64 (.fn 10 (.consL a_step_15 (.latom 1000))))), (.b (.int .u64 (.fn 14 (.consL (.lit 0) (.consL a_step_15 (.latom 1000)))))), (.b (.bool a_step_18))] 0)), (202, (.row .u64 27 a_step_20)), (210, (.cells 105 [(.b (.int .i64 (.lit 0))), (.b (.int .u64 (.lit 0))), (.b (.int .i64 (.atom 1052)))] 0))])))) (.br a_step_3 (.leaf ((.tup []), [(300, (.mach 0 a_step_13)), (198, (.cells 122 [(.b (.int .i64 (.atom 1020))), (.b (.int .i64 (.atom 1021))), (.b (.int .i64 (.atom 1022))), (.b (.int .i64 (.atom 1023))), (.b (.int .i64 (.atom 1024))), (.b (.int .i64 (.atom 1025))), (.b (.int .i64 (.atom 1026))), (.b (.ptr 200 (.lit 0)))] 0)), (200, (.cells 130 [(.b (.sl 202 (.lit 0) (.len (.latom 1000)) (.len (.latom 1000)))), (.b (.int .i64 (.op .add .i64 (.atom 1001) (.lit 1)))), (.b (.int .i64 (.lit 2))), (.b (.int .i64 a_step_15)), (.b (.int .u64 (.lit 0))), (.b (.int .u64 (.fn 10 (.consL a_step_15 (.latom 1000))))), (.b (.int .u64 (.fn 14 (.consL (.lit 0) (.consL a_step_15 (.latom 1000)))))), (.b (.bool a_step_18))] 0)), (202, (.row .u64 27 a_step_20)), (210, (.cells 105 [(.b (.int .i64 (.atom 1050))), (.b (.int .u64 (.atom 1051))), (.b (.int .i64 (.atom 1052)))] 0))])) (.br a_step_7 (.leaf ((.tup []), [(300, (.mach 0 a_step_10)), (198, (.cells 122 [(.b (.int .i64 (.atom 1020))), (.b (.int .i64 (.atom 1021))), (.b (.int .i64 (.atom 1022))), (.b (.int .i64 (.atom 1023))), (.b (.int .i64 (.atom 1024))), (.b (.int .i64 (.atom 1025))), (.b (.int .i64 (.atom 1026))), (.b (.ptr 200 (.lit 0)))] 0)), (200, (.cells 130 [(.b (.sl 202 (.lit 0) (.len (.latom 1000)) (.len (.latom 1000)))), (.b (.int .i64 (.op .add .i64 (.atom 1001) (.lit 1)))), (.b (.int .i64 (.lit 2))), (.b (.int .i64 a_step_15)), (.b (.int .u64 (.lit 0))), (.b (.int .u64 (.fn 10 (.consL a_step_15 (.latom 1000))))), (.b (.int .u64 (.fn 14 (.consL (.lit 0) (.consL a_step_15 (.latom 1000)))))), (.b (.bool a_step_18))] 0)), (202, (.row .u64 27 a_step_20)), (210, (.cells 105 [(.b (.int .i64 (.atom 1050))), (.b (.int .u64 (.atom 1051))), (.b (.int .i64 (.atom 1052)))] 0))])) (.leaf ((.tup []), [(300, (.mach 0 a_step_11)), (198, (.cells 122 [(.b (.int .i64 (.atom 1020))), (.b (.int .i64 (.atom 1021))), (.b (.int .i64 (.atom 1022))), (.b (.int .i64 (.atom 1023))), (.b (.int .i64 (.atom 1024))), (.b (.int .i64 (.atom 1025))), (.b (.int .i64 (.atom 1026))), (.b (.ptr 200 (.lit 0)))] 0)), (200, (.cells 130 [(.b (.sl 202 (.lit 0) (.len (.latom 1000)) (.len (.latom 1000)))), (.b (.int .i64 (.op .add .i64 (.atom 1001) (.lit 1)))), (.b (.int .i64 (.lit 2))), (.b (.int .i64 a_step_15)), (.b (.int .u64 (.lit 0))), (.b (.int .u64 (.fn 10 (.consL a_step_15 (.latom 1000))))), (.b (.int .u64 (.fn 14 (.consL (.lit 0) (.consL a_step_15 (.latom 1000)))))), (.b (.bool a_step_18))] 0)), (202, (.row .u64 27 a_step_20)), (210, (.cells 105 [(.b (.int .i64 (.atom 1050))), (.b (.int .u64 (.atom 1051))), (.b (.int .i64 (.atom 1052)))] 0))])))))
theorem e_step_0 [Env] : (baseG5 53 [p0, m0', g0] [] (((Lay.sweep).getD 0 ⟨0, [], .nilL, []⟩).hp ++ (rest)) 1).bind (foldsL (300 :: namesH (rest)) [.mach (.nm 300) 1003, .drop]) = t_step_0 := by kernel_rfl
theorem p_step_0 (E : Env) (Q : SV × Heap Empty → Prop) (ha : E.l 1100 = @IE.lst E ((Lay.sweep).getD 0 ⟨0, [], .nilL, []⟩).row) (hi : ∀ b ∈ ((Lay.sweep).getD 0 ⟨0, [], .nilL, []⟩).inv, @BE.val E b = true) (hQ : @Tree.holds E _ Q told_step) : @Tree.holds E _ (fun r => ∃ r2, Q r2 ∧ Eqv E r r2) t_step_0 := by
  have ha0 := ha
  have ha : E.l 1100 = (⟨0, E.i 5001, E.l 5000, [], []⟩ : Swp).enc := ha0.trans (by simp [Lay.sweep, Lay.row, Lay.li, Lay.ai, Lay.al, IE.lst, IE.val, Swp.enc])
  have hX : decW (@IE.lst E X) = ⟨Cx E, Gx E, Bx E, (⟨0, E.i 5001, E.l 5000, [], []⟩ : Swp).enc⟩ := by rw [show decW (@IE.lst E X) = ⟨Cx E, Gx E, Bx E, (E.l 1100)⟩ from decW_eq _ _ _ _ _ _ _ _ _ _ _ _ _ _ _ _ _ _ _]; rw [ha]
  have e0 : E.i 1020 = (Cx E).t := rfl
  have e1 : E.i 1021 = (Cx E).s := rfl
  have hr := right_of hQ.1
  have hr1 : 1 ≤ (Cx E).s ∧ (Cx E).s ≤ 8 := ⟨hr.2.2.1, hr.2.2.2.1⟩
  have hr2 : 1 ≤ (Cx E).t ∧ (Cx E).t ≤ 8 := ⟨hr.1, hr.2.1⟩
  have hS : ((((⟨0, E.i 5001, E.l 5000, [], []⟩ : Swp).enc).length : Nat) : Int) ≤ 1000000 := by have q : ((E.l 1100).length : Int) ≤ 1000000 := of_decide_eq_true hQ.2.1; rw [ha] at q; exact q
  simp only [Swp.enc, List.length_cons, List.length_append, List.length_nil] at hS
  refine ⟨fun h1 => ?_, fun h1 => ?_⟩
  · skip
    refine ⟨fun h2 => ?_, fun h2 => ?_⟩
    · skip
      have k1 : E.i 5001 = (Go.IntKind.i64.wrap ((Cx E).s - (1 : Int))) := eq_of_beq h1
      have k2 : (Go.IntKind.i64.wrap (E.i 5001 + (1 : Int))) < (Cx E).s := of_decide_eq_true h2
      have hs : stepM 2 (decW (@IE.lst E X)) = ⟨Cx E, ⟨(0 : Int), (0 : Int), (Gx E).thread⟩, ⟨(Go.IntKind.i64.wrap ((Bx E).count + (1 : Int))), (2 : Int), ((Cx E).res ((Gx E).thread) (E.i 5001)), (0 : Int), (hadF (((Cx E).res ((Gx E).thread) (E.i 5001))) ((Bx E).row)), (if inF (((Cx E).res ((Gx E).thread) (E.i 5001))) ((Bx E).row) then (0 : Int) else 0), (decide (inF (((Cx E).res ((Gx E).thread) (E.i 5001))) ((Bx E).row))), (setF (((Cx E).res ((Gx E).thread) (E.i 5001))) ((0 : Int)) ((Bx E).row))⟩, ((0 : Int) :: ((Go.IntKind.i64.wrap (E.i 5001 + (1 : Int))) :: (((E.l 5000).length : Int) :: ((0 : Int) :: E.l 5000))))⟩ := by
        rw [hX]
        show Swp.stepW _ = _
        simp only [Swp.stepW, Swp.dec_enc]
        simp only [Swp.step, clrG, Swp.split, show ((1 : Int) = 0) = False from by decide, show ((2 : Int) = 0) = False from by decide, show ((2 : Int) = 1) = False from by decide, show ((3 : Int) = 0) = False from by decide, show ((3 : Int) = 1) = False from by decide, show ((3 : Int) = 2) = False from by decide, if_true, if_false, List.length_nil, List.nil_append, Int.natCast_zero, load_old, ← split_nil, show wI (0 + 1) = 1 from by decide, if_pos k1, if_pos k2]
        refine congrArg (Wd.mk _ _ _) ?_
        (try simp only [List.append_nil])
        (try simp only [Swp.enc, load_old, List.append_nil, List.nil_append, List.length_nil, Int.natCast_zero])
        all_goals (first | rfl | simp [Swp.enc])
      exact ⟨_, hQ.2.2.2, Eqv.of (q := ⟨[((.op .add .i64 (.atom 1001) (.lit 1)), (.fn 1200 X)), ((.lit 2), (.fn 1201 X)), (a_step_15, (.fn 1202 X)), ((.lit 0), (.fn 1203 X)), ((.fn 10 (.consL a_step_15 (.latom 1000))), (.fn 1204 X)), ((.fn 14 (.consL (.lit 0) (.consL a_step_15 (.latom 1000)))), (.fn 1205 X)), ((.lit 0), (.fn 1207 X)), ((.lit 0), (.fn 1208 X))], [(a_step_13, (.consL (.lit 1003) (.fnL 1200 X))), (a_step_20, (.putL (.latom 1000) (.lit 0) (.fnL 1201 X)))], [(a_step_18, (.cmp .neq (.fn 1206 X) (.lit 0)))]⟩) ⟨(cc (sI 2 0 hs rfl) (cc (sI 2 1 hs rfl) (cc (sI 2 2 hs rfl) (cc (sI 2 3 hs rfl) (cc (sI 2 4 hs rfl) (cc (sI 2 5 hs rfl) (cc (sI 2 7 hs rfl) (cc (sI 2 8 hs rfl) nn)))))))), (cc (congrArg (List.cons _) (sL 2 0 hs rfl)) (cc (sP 2 1 hs (by simp only [a_step_20, a_step_15, IE.val, IE.lst, putset, split3, split4]; rfl) (by first | rfl | exact setF_len _ _ _)) nn)), (cc (sD 2 hs (by first | rfl | exact ofP_ne _)) nn)⟩ (by kernel_rfl)⟩
    · skip
      refine ⟨fun h3 => ?_, fun h3 => ?_⟩
      · skip
        have k1 : E.i 5001 = (Go.IntKind.i64.wrap ((Cx E).s - (1 : Int))) := eq_of_beq h1
        have k2 : ¬ (Go.IntKind.i64.wrap (E.i 5001 + (1 : Int))) < (Cx E).s := of_decide_eq_false h2
        have k3 : ((((E.l 5000).length : Int)) / ((3 : Int))) ≥ (Cx E).k := of_decide_eq_true h3
        have hs : stepM 2 (decW (@IE.lst E X)) = ⟨Cx E, ⟨(0 : Int), (0 : Int), (Gx E).thread⟩, ⟨(Go.IntKind.i64.wrap ((Bx E).count + (1 : Int))), (2 : Int), ((Cx E).res ((Gx E).thread) (E.i 5001)), (0 : Int), (hadF (((Cx E).res ((Gx E).thread) (E.i 5001))) ((Bx E).row)), (if inF (((Cx E).res ((Gx E).thread) (E.i 5001))) ((Bx E).row) then (0 : Int) else 0), (decide (inF (((Cx E).res ((Gx E).thread) (E.i 5001))) ((Bx E).row))), (setF (((Cx E).res ((Gx E).thread) (E.i 5001))) ((0 : Int)) ((Bx E).row))⟩, ((1 : Int) :: ((0 : Int) :: (((E.l 5000).length : Int) :: ((0 : Int) :: E.l 5000))))⟩ := by
          rw [hX]
          show Swp.stepW _ = _
          simp only [Swp.stepW, Swp.dec_enc]
          simp only [Swp.step, clrG, Swp.split, show ((1 : Int) = 0) = False from by decide, show ((2 : Int) = 0) = False from by decide, show ((2 : Int) = 1) = False from by decide, show ((3 : Int) = 0) = False from by decide, show ((3 : Int) = 1) = False from by decide, show ((3 : Int) = 2) = False from by decide, if_true, if_false, List.length_nil, List.nil_append, Int.natCast_zero, load_old, ← split_nil, show wI (0 + 1) = 1 from by decide, if_pos k1, if_neg k2, if_pos k3]
          refine congrArg (Wd.mk _ _ _) ?_
          (try simp only [List.append_nil])
          (try simp only [Swp.enc, load_old, List.append_nil, List.nil_append, List.length_nil, Int.natCast_zero])
          all_goals (first | rfl | simp [Swp.enc])
        exact ⟨_, hQ.2.2.2, Eqv.of (q := ⟨[((.op .add .i64 (.atom 1001) (.lit 1)), (.fn 1200 X)), ((.lit 2), (.fn 1201 X)), (a_step_15, (.fn 1202 X)), ((.lit 0), (.fn 1203 X)), ((.fn 10 (.consL a_step_15 (.latom 1000))), (.fn 1204 X)), ((.fn 14 (.consL (.lit 0) (.consL a_step_15 (.latom 1000)))), (.fn 1205 X)), ((.lit 0), (.fn 1207 X)), ((.lit 0), (.fn 1208 X))], [(a_step_10, (.consL (.lit 1003) (.fnL 1200 X))), (a_step_20, (.putL (.latom 1000) (.lit 0) (.fnL 1201 X)))], [(a_step_18, (.cmp .neq (.fn 1206 X) (.lit 0)))]⟩) ⟨(cc (sI 2 0 hs rfl) (cc (sI 2 1 hs rfl) (cc (sI 2 2 hs rfl) (cc (sI 2 3 hs rfl) (cc (sI 2 4 hs rfl) (cc (sI 2 5 hs rfl) (cc (sI 2 7 hs rfl) (cc (sI 2 8 hs rfl) nn)))))))), (cc (congrArg (List.cons _) (sL 2 0 hs rfl)) (cc (sP 2 1 hs (by simp only [a_step_20, a_step_15, IE.val, IE.lst, putset, split3, split4]; rfl) (by first | rfl | exact setF_len _ _ _)) nn)), (cc (sD 2 hs (by first | rfl | exact ofP_ne _)) nn)⟩ (by kernel_rfl)⟩
      · skip
        have k1 : E.i 5001 = (Go.IntKind.i64.wrap ((Cx E).s - (1 : Int))) := eq_of_beq h1
        have k2 : ¬ (Go.IntKind.i64.wrap (E.i 5001 + (1 : Int))) < (Cx E).s := of_decide_eq_false h2
        have k3 : ¬ ((((E.l 5000).length : Int)) / ((3 : Int))) ≥ (Cx E).k := of_decide_eq_false h3
        have hs : stepM 2 (decW (@IE.lst E X)) = ⟨Cx E, ⟨(0 : Int), (0 : Int), (Gx E).thread⟩, ⟨(Go.IntKind.i64.wrap ((Bx E).count + (1 : Int))), (2 : Int), ((Cx E).res ((Gx E).thread) (E.i 5001)), (0 : Int), (hadF (((Cx E).res ((Gx E).thread) (E.i 5001))) ((Bx E).row)), (if inF (((Cx E).res ((Gx E).thread) (E.i 5001))) ((Bx E).row) then (0 : Int) else 0), (decide (inF (((Cx E).res ((Gx E).thread) (E.i 5001))) ((Bx E).row))), (setF (((Cx E).res ((Gx E).thread) (E.i 5001))) ((0 : Int)) ((Bx E).row))⟩, ((3 : Int) :: ((0 : Int) :: (((E.l 5000).length : Int) :: ((0 : Int) :: E.l 5000))))⟩ := by
          rw [hX]
          show Swp.stepW _ = _
          simp only [Swp.stepW, Swp.dec_enc]
          simp only [Swp.step, clrG, Swp.split, show ((1 : Int) = 0) = False from by decide, show ((2 : Int) = 0) = False from by decide, show ((2 : Int) = 1) = False from by decide, show ((3 : Int) = 0) = False from by decide, show ((3 : Int) = 1) = False from by decide, show ((3 : Int) = 2) = False from by decide, if_true, if_false, List.length_nil, List.nil_append, Int.natCast_zero, load_old, ← split_nil, show wI (0 + 1) = 1 from by decide, if_pos k1, if_neg k2, if_neg k3]
          refine congrArg (Wd.mk _ _ _) ?_
          (try simp only [List.append_nil])
          (try simp only [Swp.enc, load_old, List.append_nil, List.nil_append, List.length_nil, Int.natCast_zero])
          all_goals (first | rfl | simp [Swp.enc])
        exact ⟨_, hQ.2.2.2, Eqv.of (q := ⟨[((.op .add .i64 (.atom 1001) (.lit 1)), (.fn 1200 X)), ((.lit 2), (.fn 1201 X)), (a_step_15, (.fn 1202 X)), ((.lit 0), (.fn 1203 X)), ((.fn 10 (.consL a_step_15 (.latom 1000))), (.fn 1204 X)), ((.fn 14 (.consL (.lit 0) (.consL a_step_15 (.latom 1000)))), (.fn 1205 X)), ((.lit 0), (.fn 1207 X)), ((.lit 0), (.fn 1208 X))], [(a_step_11, (.consL (.lit 1003) (.fnL 1200 X))), (a_step_20, (.putL (.latom 1000) (.lit 0) (.fnL 1201 X)))], [(a_step_18, (.cmp .neq (.fn 1206 X) (.lit 0)))]⟩) ⟨(cc (sI 2 0 hs rfl) (cc (sI 2 1 hs rfl) (cc (sI 2 2 hs rfl) (cc (sI 2 3 hs rfl) (cc (sI 2 4 hs rfl) (cc (sI 2 5 hs rfl) (cc (sI 2 7 hs rfl) (cc (sI 2 8 hs rfl) nn)))))))), (cc (congrArg (List.cons _) (sL 2 0 hs rfl)) (cc (sP 2 1 hs (by simp only [a_step_20, a_step_15, IE.val, IE.lst, putset, split3, split4]; rfl) (by first | rfl | exact setF_len _ _ _)) nn)), (cc (sD 2 hs (by first | rfl | exact ofP_ne _)) nn)⟩ (by kernel_rfl)⟩
  · skip
    refine ⟨fun h4 => ?_, fun h4 => ?_⟩
    · skip
      have k1 : ¬ E.i 5001 = (Go.IntKind.i64.wrap ((Cx E).s - (1 : Int))) := ne_of_beq_false h1
      have k2 : (Go.IntKind.i64.wrap (E.i 5001 + (1 : Int))) < (Cx E).s := of_decide_eq_true h4
      have hs : stepM 2 (decW (@IE.lst E X)) = ⟨Cx E, ⟨(Gx E).many, (Gx E).latest, (Gx E).thread⟩, ⟨(Go.IntKind.i64.wrap ((Bx E).count + (1 : Int))), (2 : Int), ((Cx E).res ((Gx E).thread) (E.i 5001)), (0 : Int), (hadF (((Cx E).res ((Gx E).thread) (E.i 5001))) ((Bx E).row)), (if inF (((Cx E).res ((Gx E).thread) (E.i 5001))) ((Bx E).row) then (0 : Int) else 0), (decide (inF (((Cx E).res ((Gx E).thread) (E.i 5001))) ((Bx E).row))), (setF (((Cx E).res ((Gx E).thread) (E.i 5001))) ((0 : Int)) ((Bx E).row))⟩, ((0 : Int) :: ((Go.IntKind.i64.wrap (E.i 5001 + (1 : Int))) :: (((E.l 5000).length : Int) :: ((0 : Int) :: E.l 5000))))⟩ := by
        rw [hX]
        show Swp.stepW _ = _
        simp only [Swp.stepW, Swp.dec_enc]
        simp only [Swp.step, clrG, Swp.split, show ((1 : Int) = 0) = False from by decide, show ((2 : Int) = 0) = False from by decide, show ((2 : Int) = 1) = False from by decide, show ((3 : Int) = 0) = False from by decide, show ((3 : Int) = 1) = False from by decide, show ((3 : Int) = 2) = False from by decide, if_true, if_false, List.length_nil, List.nil_append, Int.natCast_zero, load_old, ← split_nil, show wI (0 + 1) = 1 from by decide, if_neg k1, if_pos k2]
        refine congrArg (Wd.mk _ _ _) ?_
        (try simp only [List.append_nil])
        (try simp only [Swp.enc, load_old, List.append_nil, List.nil_append, List.length_nil, Int.natCast_zero])
        all_goals (first | rfl | simp [Swp.enc])
      exact ⟨_, hQ.2.2.2, Eqv.of (q := ⟨[((.op .add .i64 (.atom 1001) (.lit 1)), (.fn 1200 X)), ((.lit 2), (.fn 1201 X)), (a_step_15, (.fn 1202 X)), ((.lit 0), (.fn 1203 X)), ((.fn 10 (.consL a_step_15 (.latom 1000))), (.fn 1204 X)), ((.fn 14 (.consL (.lit 0) (.consL a_step_15 (.latom 1000)))), (.fn 1205 X)), ((.atom 1050), (.fn 1207 X)), ((.atom 1051), (.fn 1208 X))], [(a_step_13, (.consL (.lit 1003) (.fnL 1200 X))), (a_step_20, (.putL (.latom 1000) (.lit 0) (.fnL 1201 X)))], [(a_step_18, (.cmp .neq (.fn 1206 X) (.lit 0)))]⟩) ⟨(cc (sI 2 0 hs rfl) (cc (sI 2 1 hs rfl) (cc (sI 2 2 hs rfl) (cc (sI 2 3 hs rfl) (cc (sI 2 4 hs rfl) (cc (sI 2 5 hs rfl) (cc (sI 2 7 hs rfl) (cc (sI 2 8 hs rfl) nn)))))))), (cc (congrArg (List.cons _) (sL 2 0 hs rfl)) (cc (sP 2 1 hs (by simp only [a_step_20, a_step_15, IE.val, IE.lst, putset, split3, split4]; rfl) (by first | rfl | exact setF_len _ _ _)) nn)), (cc (sD 2 hs (by first | rfl | exact ofP_ne _)) nn)⟩ (by kernel_rfl)⟩
    · skip
      refine ⟨fun h5 => ?_, fun h5 => ?_⟩
      · skip
        have k1 : ¬ E.i 5001 = (Go.IntKind.i64.wrap ((Cx E).s - (1 : Int))) := ne_of_beq_false h1
        have k2 : ¬ (Go.IntKind.i64.wrap (E.i 5001 + (1 : Int))) < (Cx E).s := of_decide_eq_false h4
        have k3 : ((((E.l 5000).length : Int)) / ((3 : Int))) ≥ (Cx E).k := of_decide_eq_true h5
        have hs : stepM 2 (decW (@IE.lst E X)) = ⟨Cx E, ⟨(Gx E).many, (Gx E).latest, (Gx E).thread⟩, ⟨(Go.IntKind.i64.wrap ((Bx E).count + (1 : Int))), (2 : Int), ((Cx E).res ((Gx E).thread) (E.i 5001)), (0 : Int), (hadF (((Cx E).res ((Gx E).thread) (E.i 5001))) ((Bx E).row)), (if inF (((Cx E).res ((Gx E).thread) (E.i 5001))) ((Bx E).row) then (0 : Int) else 0), (decide (inF (((Cx E).res ((Gx E).thread) (E.i 5001))) ((Bx E).row))), (setF (((Cx E).res ((Gx E).thread) (E.i 5001))) ((0 : Int)) ((Bx E).row))⟩, ((1 : Int) :: ((0 : Int) :: (((E.l 5000).length : Int) :: ((0 : Int) :: E.l 5000))))⟩ := by
          rw [hX]
          show Swp.stepW _ = _
          simp only [Swp.stepW, Swp.dec_enc]
          simp only [Swp.step, clrG, Swp.split, show ((1 : Int) = 0) = False from by decide, show ((2 : Int) = 0) = False from by decide, show ((2 : Int) = 1) = False from by decide, show ((3 : Int) = 0) = False from by decide, show ((3 : Int) = 1) = False from by decide, show ((3 : Int) = 2) = False from by decide, if_true, if_false, List.length_nil, List.nil_append, Int.natCast_zero, load_old, ← split_nil, show wI (0 + 1) = 1 from by decide, if_neg k1, if_neg k2, if_pos k3]
          refine congrArg (Wd.mk _ _ _) ?_
          (try simp only [List.append_nil])
          (try simp only [Swp.enc, load_old, List.append_nil, List.nil_append, List.length_nil, Int.natCast_zero])
          all_goals (first | rfl | simp [Swp.enc])
        exact ⟨_, hQ.2.2.2, Eqv.of (q := ⟨[((.op .add .i64 (.atom 1001) (.lit 1)), (.fn 1200 X)), ((.lit 2), (.fn 1201 X)), (a_step_15, (.fn 1202 X)), ((.lit 0), (.fn 1203 X)), ((.fn 10 (.consL a_step_15 (.latom 1000))), (.fn 1204 X)), ((.fn 14 (.consL (.lit 0) (.consL a_step_15 (.latom 1000)))), (.fn 1205 X)), ((.atom 1050), (.fn 1207 X)), ((.atom 1051), (.fn 1208 X))], [(a_step_10, (.consL (.lit 1003) (.fnL 1200 X))), (a_step_20, (.putL (.latom 1000) (.lit 0) (.fnL 1201 X)))], [(a_step_18, (.cmp .neq (.fn 1206 X) (.lit 0)))]⟩) ⟨(cc (sI 2 0 hs rfl) (cc (sI 2 1 hs rfl) (cc (sI 2 2 hs rfl) (cc (sI 2 3 hs rfl) (cc (sI 2 4 hs rfl) (cc (sI 2 5 hs rfl) (cc (sI 2 7 hs rfl) (cc (sI 2 8 hs rfl) nn)))))))), (cc (congrArg (List.cons _) (sL 2 0 hs rfl)) (cc (sP 2 1 hs (by simp only [a_step_20, a_step_15, IE.val, IE.lst, putset, split3, split4]; rfl) (by first | rfl | exact setF_len _ _ _)) nn)), (cc (sD 2 hs (by first | rfl | exact ofP_ne _)) nn)⟩ (by kernel_rfl)⟩
      · skip
        have k1 : ¬ E.i 5001 = (Go.IntKind.i64.wrap ((Cx E).s - (1 : Int))) := ne_of_beq_false h1
        have k2 : ¬ (Go.IntKind.i64.wrap (E.i 5001 + (1 : Int))) < (Cx E).s := of_decide_eq_false h4
        have k3 : ¬ ((((E.l 5000).length : Int)) / ((3 : Int))) ≥ (Cx E).k := of_decide_eq_false h5
        have hs : stepM 2 (decW (@IE.lst E X)) = ⟨Cx E, ⟨(Gx E).many, (Gx E).latest, (Gx E).thread⟩, ⟨(Go.IntKind.i64.wrap ((Bx E).count + (1 : Int))), (2 : Int), ((Cx E).res ((Gx E).thread) (E.i 5001)), (0 : Int), (hadF (((Cx E).res ((Gx E).thread) (E.i 5001))) ((Bx E).row)), (if inF (((Cx E).res ((Gx E).thread) (E.i 5001))) ((Bx E).row) then (0 : Int) else 0), (decide (inF (((Cx E).res ((Gx E).thread) (E.i 5001))) ((Bx E).row))), (setF (((Cx E).res ((Gx E).thread) (E.i 5001))) ((0 : Int)) ((Bx E).row))⟩, ((3 : Int) :: ((0 : Int) :: (((E.l 5000).length : Int) :: ((0 : Int) :: E.l 5000))))⟩ := by
          rw [hX]
          show Swp.stepW _ = _
          simp only [Swp.stepW, Swp.dec_enc]
          simp only [Swp.step, clrG, Swp.split, show ((1 : Int) = 0) = False from by decide, show ((2 : Int) = 0) = False from by decide, show ((2 : Int) = 1) = False from by decide, show ((3 : Int) = 0) = False from by decide, show ((3 : Int) = 1) = False from by decide, show ((3 : Int) = 2) = False from by decide, if_true, if_false, List.length_nil, List.nil_append, Int.natCast_zero, load_old, ← split_nil, show wI (0 + 1) = 1 from by decide, if_neg k1, if_neg k2, if_neg k3]
          refine congrArg (Wd.mk _ _ _) ?_
          (try simp only [List.append_nil])
          (try simp only [Swp.enc, load_old, List.append_nil, List.nil_append, List.length_nil, Int.natCast_zero])
          all_goals (first | rfl | simp [Swp.enc])
        exact ⟨_, hQ.2.2.2, Eqv.of (q := ⟨[((.op .add .i64 (.atom 1001) (.lit 1)), (.fn 1200 X)), ((.lit 2), (.fn 1201 X)), (a_step_15, (.fn 1202 X)), ((.lit 0), (.fn 1203 X)), ((.fn 10 (.consL a_step_15 (.latom 1000))), (.fn 1204 X)), ((.fn 14 (.consL (.lit 0) (.consL a_step_15 (.latom 1000)))), (.fn 1205 X)), ((.atom 1050), (.fn 1207 X)), ((.atom 1051), (.fn 1208 X))], [(a_step_11, (.consL (.lit 1003) (.fnL 1200 X))), (a_step_20, (.putL (.latom 1000) (.lit 0) (.fnL 1201 X)))], [(a_step_18, (.cmp .neq (.fn 1206 X) (.lit 0)))]⟩) ⟨(cc (sI 2 0 hs rfl) (cc (sI 2 1 hs rfl) (cc (sI 2 2 hs rfl) (cc (sI 2 3 hs rfl) (cc (sI 2 4 hs rfl) (cc (sI 2 5 hs rfl) (cc (sI 2 7 hs rfl) (cc (sI 2 8 hs rfl) nn)))))))), (cc (congrArg (List.cons _) (sL 2 0 hs rfl)) (cc (sP 2 1 hs (by simp only [a_step_20, a_step_15, IE.val, IE.lst, putset, split3, split4]; rfl) (by first | rfl | exact setF_len _ _ _)) nn)), (cc (sD 2 hs (by first | rfl | exact ofP_ne _)) nn)⟩ (by kernel_rfl)⟩
def t_step_1 : Tree (SV × Heap Empty) := (.req (.not (.and (.cmp .neq (.atom 1021) (.lit 0)) (.and (.not a_step_4) (.not (.cmp .leq (.len (.consL (.fn 10 (.consL a_step_17 (.latom 1000))) .nilL)) (.lit 1073741824)))))) (.req (.not (.and (.cmp .neq (.atom 1021) (.lit 0)) (.and (.not a_step_4) (.not (.cmp .leq (.len (.latom 5000)) (.lit 300000000)))))) (.req (.cmp .neq (.atom 1021) (.lit 0)) (.br a_step_4 (.leaf ((.tup []), [(300, (.mach 0 (.consL (.lit 1003) (.consL (.lit 1) (.consL (.lit 0) (.consL (.len (.latom 5000)) (.consL (.len (.consL (.fn 10 (.consL a_step_17 (.latom 1000))) .nilL)) (.catL (.latom 5000) (.consL (.fn 10 (.consL a_step_17 (.latom 1000))) .nilL))))))))), (198, (.cells 122 [(.b (.int .i64 (.atom 1020))), (.b (.int .i64 (.atom 1021))), (.b (.int .i64 (.atom 1022))), (.b (.int .i64 (.atom 1023))), (.b (.int .i64 (.atom 1024))), (.b (.int .i64 (.atom 1025))), (.b (.int .i64 (.atom 1026))), (.b (.ptr 200 (.lit 0)))] 0)), (200, (.cells 130 [(.b (.sl 202 (.lit 0) (.len (.latom 1000)) (.len (.latom 1000)))), (.b (.int .i64 (.op .add .i64 (.atom 1001) (.lit 1)))), (.b (.int .i64 (.lit 1))), (.b (.int .i64 a_step_17)), (.b (.int .u64 (.lit 0))), (.b (.int .u64 (.fn 10 (.consL a_step_17 (.latom 1000))))), (.b (.int .u64 (.fn 10 (.consL a_step_17 (.latom 1000))))), (.b (.bool a_step_22))] 0)), (202, (.row .u64 27 (.latom 1000))), (210, (.cells 105 [(.b (.int .i64 (.atom 1050))), (.b (.int .u64 (.atom 1051))), (.b (.int .i64 (.atom 1052)))] 0))])) (.br (.cmp .eql a_step_28 (.lit 0)) (.leaf ((.tup []), [(300, (.mach 0 (.consL (.lit 1003) (.consL (.lit 3) (.consL (.lit 0) (.consL (.len (.fnL 3 a_step_27)) (.consL (.len (.consL (.fn 10 (.consL a_step_17 (.latom 1000))) .nilL)) (.catL (.fnL 3 a_step_27) (.consL (.fn 10 (.consL a_step_17 (.latom 1000))) .nilL))))))))), (198, (.cells 122 [(.b (.int .i64 (.atom 1020))), (.b (.int .i64 (.atom 1021))), (.b (.int .i64 (.atom 1022))), (.b (.int .i64 (.atom 1023))), (.b (.int .i64 (.atom 1024))), (.b (.int .i64 (.atom 1025))), (.b (.int .i64 (.atom 1026))), (.b (.ptr 200 (.lit 0)))] 0)), (200, (.cells 130 [(.b (.sl 202 (.lit 0) (.len (.latom 1000)) (.len (.latom 1000)))), (.b (.int .i64 (.op .add .i64 (.atom 1001) (.lit 1)))), (.b (.int .i64 (.lit 1))), (.b (.int .i64 a_step_17)), (.b (.int .u64 (.lit 0))), (.b (.int .u64 (.fn 10 (.consL a_step_17 (.latom 1000))))), (.b (.int .u64 (.fn 10 (.consL a_step_17 (.latom 1000))))), (.b (.bool a_step_22))] 0)), (202, (.row .u64 27 (.latom 1000))), (210, (.cells 105 [(.b (.int .i64 (.atom 1050))), (.b (.int .u64 (.atom 1051))), (.b (.int .i64 (.atom 1052)))] 0))])) (.req (.cmp .lss (.lit 0) a_step_28) (.req (.cmp .eql (.op .rem .i64 (.len (.fnL 4 a_step_27)) (.lit 3)) (.lit 0)) (.leaf ((.tup []), [(300, (.mach 0 (.consL (.lit 1003) (.consL (.lit 2) (.consL (.lit 0) (.consL (.len (.fnL 3 a_step_27)) (.consL (.len (.consL (.fn 10 (.consL a_step_17 (.latom 1000))) .nilL)) (.catL (.fnL 3 a_step_27) (.catL (.consL (.fn 10 (.consL a_step_17 (.latom 1000))) .nilL) (.fnL 4 a_step_27)))))))))), (198, (.cells 122 [(.b (.int .i64 (.atom 1020))), (.b (.int .i64 (.atom 1021))), (.b (.int .i64 (.atom 1022))), (.b (.int .i64 (.atom 1023))), (.b (.int .i64 (.atom 1024))), (.b (.int .i64 (.atom 1025))), (.b (.int .i64 (.atom 1026))), (.b (.ptr 200 (.lit 0)))] 0)), (200, (.cells 130 [(.b (.sl 202 (.lit 0) (.len (.latom 1000)) (.len (.latom 1000)))), (.b (.int .i64 (.op .add .i64 (.atom 1001) (.lit 1)))), (.b (.int .i64 (.lit 1))), (.b (.int .i64 a_step_17)), (.b (.int .u64 (.lit 0))), (.b (.int .u64 (.fn 10 (.consL a_step_17 (.latom 1000))))), (.b (.int .u64 (.fn 10 (.consL a_step_17 (.latom 1000))))), (.b (.bool a_step_22))] 0)), (202, (.row .u64 27 (.latom 1000))), (210, (.cells 105 [(.b (.int .i64 (.atom 1050))), (.b (.int .u64 (.atom 1051))), (.b (.int .i64 (.atom 1052)))] 0))])))))))))
theorem e_step_1 [Env] : (baseG5 53 [p0, m0', g0] [] (((Lay.sweep).getD 1 ⟨0, [], .nilL, []⟩).hp ++ (rest)) 1).bind (foldsL (300 :: namesH (rest)) [.mach (.nm 300) 1003, .drop]) = t_step_1 := by kernel_rfl
theorem p_step_1 (E : Env) (Q : SV × Heap Empty → Prop) (ha : E.l 1100 = @IE.lst E ((Lay.sweep).getD 1 ⟨0, [], .nilL, []⟩).row) (hi : ∀ b ∈ ((Lay.sweep).getD 1 ⟨0, [], .nilL, []⟩).inv, @BE.val E b = true) (hQ : @Tree.holds E _ Q told_step) : @Tree.holds E _ (fun r => ∃ r2, Q r2 ∧ Eqv E r r2) t_step_1 := by
  have ha0 := ha
  have ha : E.l 1100 = (⟨1, 0, E.l 5000, [], []⟩ : Swp).enc := ha0.trans (by simp [Lay.sweep, Lay.row, Lay.li, Lay.ai, Lay.al, IE.lst, IE.val, Swp.enc])
  have hX : decW (@IE.lst E X) = ⟨Cx E, Gx E, Bx E, (⟨1, 0, E.l 5000, [], []⟩ : Swp).enc⟩ := by rw [show decW (@IE.lst E X) = ⟨Cx E, Gx E, Bx E, (E.l 1100)⟩ from decW_eq _ _ _ _ _ _ _ _ _ _ _ _ _ _ _ _ _ _ _]; rw [ha]
  have e0 : E.i 1020 = (Cx E).t := rfl
  have e1 : E.i 1021 = (Cx E).s := rfl
  have hr := right_of hQ.1
  have hr1 : 1 ≤ (Cx E).s ∧ (Cx E).s ≤ 8 := ⟨hr.2.2.1, hr.2.2.2.1⟩
  have hr2 : 1 ≤ (Cx E).t ∧ (Cx E).t ≤ 8 := ⟨hr.1, hr.2.1⟩
  have hS : ((((⟨1, 0, E.l 5000, [], []⟩ : Swp).enc).length : Nat) : Int) ≤ 1000000 := by have q : ((E.l 1100).length : Int) ≤ 1000000 := of_decide_eq_true hQ.2.1; rw [ha] at q; exact q
  simp only [Swp.enc, List.length_cons, List.length_append, List.length_nil] at hS
  have hsp := fun e => splM3 false e (E.l 5000)
  refine ⟨?_, ?_⟩
  · skip
    suffices hc : (!(((Cx E).s != (0 : Int)) && ((!(decide ((1 : Int) < (Go.IntKind.i64.wrap ((Cx E).t * (Cx E).s))))) && (!(decide (((((hadF (((Cx E).res ((Go.IntKind.i64.wrap (Int.tdiv ((0 : Int)) ((Cx E).s)))) ((Int.tmod ((0 : Int)) ((Cx E).s))))) ((Bx E).row)) :: [])).length : Int) ≤ (1073741824 : Int))))))) = true from (by first | exact hc | (simp only [a_step_4, a_step_17, BE.val, IE.val, IE.lst, putset, split3, split4]; exact hc))
    refine Classical.byContradiction fun hn => ?_
    simp only [Bool.not_eq_true, Bool.not_eq_false, Bool.not_eq_true', Bool.not_eq_false', Bool.and_eq_true, Bool.and_eq_false_imp, decide_eq_true_eq, decide_eq_false_iff_not, beq_iff_eq, beq_eq_false_iff_ne, bne_iff_ne, bne_eq_false_iff_eq, ne_eq, Decidable.not_not, not_and, Classical.not_imp] at hn
    (try simp only [List.length_cons, List.length_nil, List.length_append, tmod3, splM3, Int.toNat_zero, Nat.add_zero] at *)
    omega
  · skip
    refine ⟨?_, ?_⟩
    · skip
      suffices hc : (!(((Cx E).s != (0 : Int)) && ((!(decide ((1 : Int) < (Go.IntKind.i64.wrap ((Cx E).t * (Cx E).s))))) && (!(decide (((E.l 5000).length : Int) ≤ (300000000 : Int))))))) = true from (by first | exact hc | (simp only [a_step_4, BE.val, IE.val, IE.lst, putset, split3, split4]; exact hc))
      refine Classical.byContradiction fun hn => ?_
      simp only [Bool.not_eq_true, Bool.not_eq_false, Bool.not_eq_true', Bool.not_eq_false', Bool.and_eq_true, Bool.and_eq_false_imp, decide_eq_true_eq, decide_eq_false_iff_not, beq_iff_eq, beq_eq_false_iff_ne, bne_iff_ne, bne_eq_false_iff_eq, ne_eq, Decidable.not_not, not_and, Classical.not_imp] at hn
      (try simp only [List.length_cons, List.length_nil, List.length_append, tmod3, splM3, Int.toNat_zero, Nat.add_zero] at *)
      omega
    · skip
      refine ⟨?_, ?_⟩
      · skip
        suffices hc : ((Cx E).s != (0 : Int)) = true from (by first | exact hc | (simp only [BE.val, IE.val, IE.lst, putset, split3, split4]; exact hc))
        refine Classical.byContradiction fun hn => ?_
        simp only [Bool.not_eq_true, Bool.not_eq_false, Bool.not_eq_true', Bool.not_eq_false', Bool.and_eq_true, Bool.and_eq_false_imp, decide_eq_true_eq, decide_eq_false_iff_not, beq_iff_eq, beq_eq_false_iff_ne, bne_iff_ne, bne_eq_false_iff_eq, ne_eq, Decidable.not_not, not_and, Classical.not_imp] at hn
        (try simp only [List.length_cons, List.length_nil, List.length_append, tmod3, splM3, Int.toNat_zero, Nat.add_zero] at *)
        omega
      · skip
        refine ⟨fun h1 => ?_, fun h1 => ?_⟩
        · skip
          have k1 : (1 : Int) < (Go.IntKind.i64.wrap ((Cx E).t * (Cx E).s)) := of_decide_eq_true h1
          have hs : stepM 2 (decW (@IE.lst E X)) = ⟨Cx E, ⟨(Gx E).many, (Gx E).latest, (Gx E).thread⟩, ⟨(Go.IntKind.i64.wrap ((Bx E).count + (1 : Int))), (1 : Int), ((Cx E).res ((Go.IntKind.i64.wrap (Int.tdiv ((0 : Int)) ((Cx E).s)))) ((Int.tmod ((0 : Int)) ((Cx E).s)))), (0 : Int), (hadF (((Cx E).res ((Go.IntKind.i64.wrap (Int.tdiv ((0 : Int)) ((Cx E).s)))) ((Int.tmod ((0 : Int)) ((Cx E).s))))) ((Bx E).row)), (hadF (((Cx E).res ((Go.IntKind.i64.wrap (Int.tdiv ((0 : Int)) ((Cx E).s)))) ((Int.tmod ((0 : Int)) ((Cx E).s))))) ((Bx E).row)), (decide (inF (((Cx E).res ((Go.IntKind.i64.wrap (Int.tdiv ((0 : Int)) ((Cx E).s)))) ((Int.tmod ((0 : Int)) ((Cx E).s))))) ((Bx E).row))), (Bx E).row⟩, ((1 : Int) :: ((0 : Int) :: (((E.l 5000).length : Int) :: (((((hadF (((Cx E).res ((Go.IntKind.i64.wrap (Int.tdiv ((0 : Int)) ((Cx E).s)))) ((Int.tmod ((0 : Int)) ((Cx E).s))))) ((Bx E).row)) :: [])).length : Int) :: (E.l 5000 ++ ((hadF (((Cx E).res ((Go.IntKind.i64.wrap (Int.tdiv ((0 : Int)) ((Cx E).s)))) ((Int.tmod ((0 : Int)) ((Cx E).s))))) ((Bx E).row)) :: []))))))⟩ := by
            rw [hX]
            show Swp.stepW _ = _
            simp only [Swp.stepW, Swp.dec_enc]
            simp only [Swp.step, clrG, Swp.split, show ((1 : Int) = 0) = False from by decide, show ((2 : Int) = 0) = False from by decide, show ((2 : Int) = 1) = False from by decide, show ((3 : Int) = 0) = False from by decide, show ((3 : Int) = 1) = False from by decide, show ((3 : Int) = 2) = False from by decide, if_true, if_false, List.length_nil, List.nil_append, Int.natCast_zero, load_old, ← split_nil, show wI (0 + 1) = 1 from by decide, if_pos k1]
            refine congrArg (Wd.mk _ _ _) ?_
            (try simp only [List.append_nil])
            (try simp only [Swp.enc, load_old, List.append_nil, List.nil_append, List.length_nil, Int.natCast_zero])
            all_goals (first | rfl | simp [Swp.enc])
          exact ⟨_, hQ.2.2.2, Eqv.of (q := ⟨[((.op .add .i64 (.atom 1001) (.lit 1)), (.fn 1200 X)), ((.lit 1), (.fn 1201 X)), (a_step_17, (.fn 1202 X)), ((.lit 0), (.fn 1203 X)), ((.fn 10 (.consL a_step_17 (.latom 1000))), (.fn 1204 X)), ((.fn 10 (.consL a_step_17 (.latom 1000))), (.fn 1205 X)), ((.atom 1050), (.fn 1207 X)), ((.atom 1051), (.fn 1208 X))], [((.consL (.lit 1003) (.consL (.lit 1) (.consL (.lit 0) (.consL (.len (.latom 5000)) (.consL (.len (.consL (.fn 10 (.consL a_step_17 (.latom 1000))) .nilL)) (.catL (.latom 5000) (.consL (.fn 10 (.consL a_step_17 (.latom 1000))) .nilL))))))), (.consL (.lit 1003) (.fnL 1200 X))), ((.latom 1000), (.putL (.latom 1000) (.lit 0) (.fnL 1201 X)))], [(a_step_22, (.cmp .neq (.fn 1206 X) (.lit 0)))]⟩) ⟨(cc (sI 2 0 hs rfl) (cc (sI 2 1 hs rfl) (cc (sI 2 2 hs rfl) (cc (sI 2 3 hs rfl) (cc (sI 2 4 hs rfl) (cc (sI 2 5 hs rfl) (cc (sI 2 7 hs rfl) (cc (sI 2 8 hs rfl) nn)))))))), (cc (congrArg (List.cons _) (sL 2 0 hs rfl)) (cc (sP 2 1 hs rfl (by first | rfl | exact setF_len _ _ _)) nn)), (cc (sD 2 hs (by first | rfl | exact ofP_ne _)) nn)⟩ (by kernel_rfl)⟩
        · skip
          refine ⟨fun h2 => ?_, fun h2 => ?_⟩
          · skip
            have k1 : ¬ (1 : Int) < (Go.IntKind.i64.wrap ((Cx E).t * (Cx E).s)) := of_decide_eq_false h1
            have k2 : (((((splitF false (((hadF (((Cx E).res ((Go.IntKind.i64.wrap (Int.tdiv ((0 : Int)) ((Cx E).s)))) ((Int.tmod ((0 : Int)) ((Cx E).s))))) ((Bx E).row)) :: [])) (E.l 5000))).length : Int)) / ((3 : Int))) = (0 : Int) := (by have q := eq_of_beq h2; first | exact q | (simp only [a_step_28, a_step_27, a_step_17, IE.val, IE.lst, putset, split3, split4] at q; exact q))
            have hs : stepM 2 (decW (@IE.lst E X)) = ⟨Cx E, ⟨(Gx E).many, (Gx E).latest, (Gx E).thread⟩, ⟨(Go.IntKind.i64.wrap ((Bx E).count + (1 : Int))), (1 : Int), ((Cx E).res ((Go.IntKind.i64.wrap (Int.tdiv ((0 : Int)) ((Cx E).s)))) ((Int.tmod ((0 : Int)) ((Cx E).s)))), (0 : Int), (hadF (((Cx E).res ((Go.IntKind.i64.wrap (Int.tdiv ((0 : Int)) ((Cx E).s)))) ((Int.tmod ((0 : Int)) ((Cx E).s))))) ((Bx E).row)), (hadF (((Cx E).res ((Go.IntKind.i64.wrap (Int.tdiv ((0 : Int)) ((Cx E).s)))) ((Int.tmod ((0 : Int)) ((Cx E).s))))) ((Bx E).row)), (decide (inF (((Cx E).res ((Go.IntKind.i64.wrap (Int.tdiv ((0 : Int)) ((Cx E).s)))) ((Int.tmod ((0 : Int)) ((Cx E).s))))) ((Bx E).row))), (Bx E).row⟩, ((3 : Int) :: ((0 : Int) :: ((((splitF true (((hadF (((Cx E).res ((Go.IntKind.i64.wrap (Int.tdiv ((0 : Int)) ((Cx E).s)))) ((Int.tmod ((0 : Int)) ((Cx E).s))))) ((Bx E).row)) :: [])) (E.l 5000))).length : Int) :: (((((hadF (((Cx E).res ((Go.IntKind.i64.wrap (Int.tdiv ((0 : Int)) ((Cx E).s)))) ((Int.tmod ((0 : Int)) ((Cx E).s))))) ((Bx E).row)) :: [])).length : Int) :: ((splitF true (((hadF (((Cx E).res ((Go.IntKind.i64.wrap (Int.tdiv ((0 : Int)) ((Cx E).s)))) ((Int.tmod ((0 : Int)) ((Cx E).s))))) ((Bx E).row)) :: [])) (E.l 5000)) ++ ((hadF (((Cx E).res ((Go.IntKind.i64.wrap (Int.tdiv ((0 : Int)) ((Cx E).s)))) ((Int.tmod ((0 : Int)) ((Cx E).s))))) ((Bx E).row)) :: []))))))⟩ := by
              rw [hX]
              show Swp.stepW _ = _
              simp only [Swp.stepW, Swp.dec_enc]
              simp only [Swp.step, clrG, Swp.split, show ((1 : Int) = 0) = False from by decide, show ((2 : Int) = 0) = False from by decide, show ((2 : Int) = 1) = False from by decide, show ((3 : Int) = 0) = False from by decide, show ((3 : Int) = 1) = False from by decide, show ((3 : Int) = 2) = False from by decide, if_true, if_false, List.length_nil, List.nil_append, Int.natCast_zero, load_old, ← split_nil, show wI (0 + 1) = 1 from by decide, if_neg k1, if_pos k2]
              refine congrArg (Wd.mk _ _ _) ?_
              (try simp only [List.append_nil])
              (try simp only [Swp.enc, load_old, List.append_nil, List.nil_append, List.length_nil, Int.natCast_zero, split_nil.1 k2])
              all_goals (first | rfl | simp [Swp.enc])
            exact ⟨_, hQ.2.2.2, Eqv.of (q := ⟨[((.op .add .i64 (.atom 1001) (.lit 1)), (.fn 1200 X)), ((.lit 1), (.fn 1201 X)), (a_step_17, (.fn 1202 X)), ((.lit 0), (.fn 1203 X)), ((.fn 10 (.consL a_step_17 (.latom 1000))), (.fn 1204 X)), ((.fn 10 (.consL a_step_17 (.latom 1000))), (.fn 1205 X)), ((.atom 1050), (.fn 1207 X)), ((.atom 1051), (.fn 1208 X))], [((.consL (.lit 1003) (.consL (.lit 3) (.consL (.lit 0) (.consL (.len (.fnL 3 a_step_27)) (.consL (.len (.consL (.fn 10 (.consL a_step_17 (.latom 1000))) .nilL)) (.catL (.fnL 3 a_step_27) (.consL (.fn 10 (.consL a_step_17 (.latom 1000))) .nilL))))))), (.consL (.lit 1003) (.fnL 1200 X))), ((.latom 1000), (.putL (.latom 1000) (.lit 0) (.fnL 1201 X)))], [(a_step_22, (.cmp .neq (.fn 1206 X) (.lit 0)))]⟩) ⟨(cc (sI 2 0 hs rfl) (cc (sI 2 1 hs rfl) (cc (sI 2 2 hs rfl) (cc (sI 2 3 hs rfl) (cc (sI 2 4 hs rfl) (cc (sI 2 5 hs rfl) (cc (sI 2 7 hs rfl) (cc (sI 2 8 hs rfl) nn)))))))), (cc (congrArg (List.cons _) (sL 2 0 hs (by simp only [a_step_27, a_step_17, IE.val, IE.lst, putset, split3, split4]; rfl))) (cc (sP 2 1 hs rfl (by first | rfl | exact setF_len _ _ _)) nn)), (cc (sD 2 hs (by first | rfl | exact ofP_ne _)) nn)⟩ (by kernel_rfl)⟩
          · skip
            refine ⟨?_, ?_⟩
            · skip
              have k1 : ¬ (1 : Int) < (Go.IntKind.i64.wrap ((Cx E).t * (Cx E).s)) := of_decide_eq_false h1
              have k2 : ¬ (((((splitF false (((hadF (((Cx E).res ((Go.IntKind.i64.wrap (Int.tdiv ((0 : Int)) ((Cx E).s)))) ((Int.tmod ((0 : Int)) ((Cx E).s))))) ((Bx E).row)) :: [])) (E.l 5000))).length : Int)) / ((3 : Int))) = (0 : Int) := (by have q := ne_of_beq_false h2; first | exact q | (simp only [a_step_28, a_step_27, a_step_17, IE.val, IE.lst, putset, split3, split4] at q; exact q))
              suffices hc : (decide ((0 : Int) < (((((splitF false (((hadF (((Cx E).res ((Go.IntKind.i64.wrap (Int.tdiv ((0 : Int)) ((Cx E).s)))) ((Int.tmod ((0 : Int)) ((Cx E).s))))) ((Bx E).row)) :: [])) (E.l 5000))).length : Int)) / ((3 : Int))))) = true from (by first | exact hc | (simp only [a_step_28, a_step_27, a_step_17, BE.val, IE.val, IE.lst, putset, split3, split4]; exact hc))
              refine Classical.byContradiction fun hn => ?_
              simp only [Bool.not_eq_true, Bool.not_eq_false, Bool.not_eq_true', Bool.not_eq_false', Bool.and_eq_true, Bool.and_eq_false_imp, decide_eq_true_eq, decide_eq_false_iff_not, beq_iff_eq, beq_eq_false_iff_ne, bne_iff_ne, bne_eq_false_iff_eq, ne_eq, Decidable.not_not, not_and, Classical.not_imp] at hn
              (try simp only [List.length_cons, List.length_nil, List.length_append, tmod3, splM3, Int.toNat_zero, Nat.add_zero] at *)
              omega
            · skip
              refine ⟨?_, ?_⟩
              · skip
                have k1 : ¬ (1 : Int) < (Go.IntKind.i64.wrap ((Cx E).t * (Cx E).s)) := of_decide_eq_false h1
                have k2 : ¬ (((((splitF false (((hadF (((Cx E).res ((Go.IntKind.i64.wrap (Int.tdiv ((0 : Int)) ((Cx E).s)))) ((Int.tmod ((0 : Int)) ((Cx E).s))))) ((Bx E).row)) :: [])) (E.l 5000))).length : Int)) / ((3 : Int))) = (0 : Int) := (by have q := ne_of_beq_false h2; first | exact q | (simp only [a_step_28, a_step_27, a_step_17, IE.val, IE.lst, putset, split3, split4] at q; exact q))
                suffices hc : ((Int.tmod ((((splitF false (((hadF (((Cx E).res ((Go.IntKind.i64.wrap (Int.tdiv ((0 : Int)) ((Cx E).s)))) ((Int.tmod ((0 : Int)) ((Cx E).s))))) ((Bx E).row)) :: [])) (E.l 5000))).length : Int)) ((3 : Int))) == (0 : Int)) = true from (by first | exact hc | (simp only [a_step_27, a_step_17, BE.val, IE.val, IE.lst, putset, split3, split4]; exact hc))
                refine Classical.byContradiction fun hn => ?_
                simp only [Bool.not_eq_true, Bool.not_eq_false, Bool.not_eq_true', Bool.not_eq_false', Bool.and_eq_true, Bool.and_eq_false_imp, decide_eq_true_eq, decide_eq_false_iff_not, beq_iff_eq, beq_eq_false_iff_ne, bne_iff_ne, bne_eq_false_iff_eq, ne_eq, Decidable.not_not, not_and, Classical.not_imp] at hn
                (try simp only [List.length_cons, List.length_nil, List.length_append, tmod3, splM3, Int.toNat_zero, Nat.add_zero] at *)
                omega
              · skip
                have k1 : ¬ (1 : Int) < (Go.IntKind.i64.wrap ((Cx E).t * (Cx E).s)) := of_decide_eq_false h1
                have k2 : ¬ (((((splitF false (((hadF (((Cx E).res ((Go.IntKind.i64.wrap (Int.tdiv ((0 : Int)) ((Cx E).s)))) ((Int.tmod ((0 : Int)) ((Cx E).s))))) ((Bx E).row)) :: [])) (E.l 5000))).length : Int)) / ((3 : Int))) = (0 : Int) := (by have q := ne_of_beq_false h2; first | exact q | (simp only [a_step_28, a_step_27, a_step_17, IE.val, IE.lst, putset, split3, split4] at q; exact q))
                have hs : stepM 2 (decW (@IE.lst E X)) = ⟨Cx E, ⟨(Gx E).many, (Gx E).latest, (Gx E).thread⟩, ⟨(Go.IntKind.i64.wrap ((Bx E).count + (1 : Int))), (1 : Int), ((Cx E).res ((Go.IntKind.i64.wrap (Int.tdiv ((0 : Int)) ((Cx E).s)))) ((Int.tmod ((0 : Int)) ((Cx E).s)))), (0 : Int), (hadF (((Cx E).res ((Go.IntKind.i64.wrap (Int.tdiv ((0 : Int)) ((Cx E).s)))) ((Int.tmod ((0 : Int)) ((Cx E).s))))) ((Bx E).row)), (hadF (((Cx E).res ((Go.IntKind.i64.wrap (Int.tdiv ((0 : Int)) ((Cx E).s)))) ((Int.tmod ((0 : Int)) ((Cx E).s))))) ((Bx E).row)), (decide (inF (((Cx E).res ((Go.IntKind.i64.wrap (Int.tdiv ((0 : Int)) ((Cx E).s)))) ((Int.tmod ((0 : Int)) ((Cx E).s))))) ((Bx E).row))), (Bx E).row⟩, ((2 : Int) :: ((0 : Int) :: ((((splitF true (((hadF (((Cx E).res ((Go.IntKind.i64.wrap (Int.tdiv ((0 : Int)) ((Cx E).s)))) ((Int.tmod ((0 : Int)) ((Cx E).s))))) ((Bx E).row)) :: [])) (E.l 5000))).length : Int) :: (((((hadF (((Cx E).res ((Go.IntKind.i64.wrap (Int.tdiv ((0 : Int)) ((Cx E).s)))) ((Int.tmod ((0 : Int)) ((Cx E).s))))) ((Bx E).row)) :: [])).length : Int) :: ((splitF true (((hadF (((Cx E).res ((Go.IntKind.i64.wrap (Int.tdiv ((0 : Int)) ((Cx E).s)))) ((Int.tmod ((0 : Int)) ((Cx E).s))))) ((Bx E).row)) :: [])) (E.l 5000)) ++ (((hadF (((Cx E).res ((Go.IntKind.i64.wrap (Int.tdiv ((0 : Int)) ((Cx E).s)))) ((Int.tmod ((0 : Int)) ((Cx E).s))))) ((Bx E).row)) :: []) ++ (splitF false (((hadF (((Cx E).res ((Go.IntKind.i64.wrap (Int.tdiv ((0 : Int)) ((Cx E).s)))) ((Int.tmod ((0 : Int)) ((Cx E).s))))) ((Bx E).row)) :: [])) (E.l 5000))))))))⟩ := by
                  rw [hX]
                  show Swp.stepW _ = _
                  simp only [Swp.stepW, Swp.dec_enc]
                  simp only [Swp.step, clrG, Swp.split, show ((1 : Int) = 0) = False from by decide, show ((2 : Int) = 0) = False from by decide, show ((2 : Int) = 1) = False from by decide, show ((3 : Int) = 0) = False from by decide, show ((3 : Int) = 1) = False from by decide, show ((3 : Int) = 2) = False from by decide, if_true, if_false, List.length_nil, List.nil_append, Int.natCast_zero, load_old, ← split_nil, show wI (0 + 1) = 1 from by decide, if_neg k1, if_neg k2]
                  refine congrArg (Wd.mk _ _ _) ?_
                  (try simp only [List.append_nil])
                  (try simp only [Swp.enc, load_old, List.append_nil, List.nil_append, List.length_nil, Int.natCast_zero])
                  all_goals (first | rfl | simp [Swp.enc])
                exact ⟨_, hQ.2.2.2, Eqv.of (q := ⟨[((.op .add .i64 (.atom 1001) (.lit 1)), (.fn 1200 X)), ((.lit 1), (.fn 1201 X)), (a_step_17, (.fn 1202 X)), ((.lit 0), (.fn 1203 X)), ((.fn 10 (.consL a_step_17 (.latom 1000))), (.fn 1204 X)), ((.fn 10 (.consL a_step_17 (.latom 1000))), (.fn 1205 X)), ((.atom 1050), (.fn 1207 X)), ((.atom 1051), (.fn 1208 X))], [((.consL (.lit 1003) (.consL (.lit 2) (.consL (.lit 0) (.consL (.len (.fnL 3 a_step_27)) (.consL (.len (.consL (.fn 10 (.consL a_step_17 (.latom 1000))) .nilL)) (.catL (.fnL 3 a_step_27) (.catL (.consL (.fn 10 (.consL a_step_17 (.latom 1000))) .nilL) (.fnL 4 a_step_27)))))))), (.consL (.lit 1003) (.fnL 1200 X))), ((.latom 1000), (.putL (.latom 1000) (.lit 0) (.fnL 1201 X)))], [(a_step_22, (.cmp .neq (.fn 1206 X) (.lit 0)))]⟩) ⟨(cc (sI 2 0 hs rfl) (cc (sI 2 1 hs rfl) (cc (sI 2 2 hs rfl) (cc (sI 2 3 hs rfl) (cc (sI 2 4 hs rfl) (cc (sI 2 5 hs rfl) (cc (sI 2 7 hs rfl) (cc (sI 2 8 hs rfl) nn)))))))), (cc (congrArg (List.cons _) (sL 2 0 hs (by simp only [a_step_27, a_step_17, IE.val, IE.lst, putset, split3, split4]; rfl))) (cc (sP 2 1 hs rfl (by first | rfl | exact setF_len _ _ _)) nn)), (cc (sD 2 hs (by first | rfl | exact ofP_ne _)) nn)⟩ (by kernel_rfl)⟩
def t_step_2 : Tree (SV × Heap Empty) := (.req (.not (.and (.cmp .neq (.atom 1021) (.lit 0)) (.and a_step_6 (.and (.not a_step_8) (.not (.cmp .leq (.len a_step_24) (.lit 1073741824))))))) (.req (.not (.and (.cmp .neq (.atom 1021) (.lit 0)) (.and a_step_6 (.and (.not a_step_8) (.not (.cmp .leq (.len (.latom 5000)) (.lit 300000000))))))) (.req (.not (.and (.cmp .neq (.atom 1021) (.lit 0)) (.not a_step_6))) (.req (.cmp .neq (.atom 1021) (.lit 0)) (.br a_step_8 (.leaf ((.tup []), [(300, (.mach 0 (.consL (.lit 1003) (.consL (.lit 1) (.consL (.lit 0) (.consL (.len (.latom 5000)) (.consL (.len a_step_24) (.catL (.latom 5000) a_step_24)))))))), (198, (.cells 122 [(.b (.int .i64 (.atom 1020))), (.b (.int .i64 (.atom 1021))), (.b (.int .i64 (.atom 1022))), (.b (.int .i64 (.atom 1023))), (.b (.int .i64 (.atom 1024))), (.b (.int .i64 (.atom 1025))), (.b (.int .i64 (.atom 1026))), (.b (.ptr 200 (.lit 0)))] 0)), (200, (.cells 130 [(.b (.sl 202 (.lit 0) (.len (.latom 1000)) (.len (.latom 1000)))), (.b (.int .i64 (.op .add .i64 (.atom 1001) (.lit 1)))), (.b (.int .i64 (.lit 1))), (.b (.int .i64 a_step_19)), (.b (.int .u64 (.lit 0))), (.b (.int .u64 (.fn 10 (.consL a_step_19 (.latom 1000))))), (.b (.int .u64 (.fn 10 (.consL a_step_19 (.latom 1000))))), (.b (.bool a_step_23))] 0)), (202, (.row .u64 27 (.latom 1000))), (210, (.cells 105 [(.b (.int .i64 (.atom 1050))), (.b (.int .u64 (.atom 1051))), (.b (.int .i64 (.atom 1052)))] 0))])) (.br (.cmp .eql (.fn 50 (.consL (.len a_step_29) (.consL (.lit 3) .nilL))) (.lit 0)) (.leaf ((.tup []), [(300, (.mach 0 (.consL (.lit 1003) (.consL (.lit 3) (.consL (.lit 0) (.consL (.len a_step_30) (.consL (.len a_step_24) (.catL a_step_30 a_step_24)))))))), (198, (.cells 122 [(.b (.int .i64 (.atom 1020))), (.b (.int .i64 (.atom 1021))), (.b (.int .i64 (.atom 1022))), (.b (.int .i64 (.atom 1023))), (.b (.int .i64 (.atom 1024))), (.b (.int .i64 (.atom 1025))), (.b (.int .i64 (.atom 1026))), (.b (.ptr 200 (.lit 0)))] 0)), (200, (.cells 130 [(.b (.sl 202 (.lit 0) (.len (.latom 1000)) (.len (.latom 1000)))), (.b (.int .i64 (.op .add .i64 (.atom 1001) (.lit 1)))), (.b (.int .i64 (.lit 1))), (.b (.int .i64 a_step_19)), (.b (.int .u64 (.lit 0))), (.b (.int .u64 (.fn 10 (.consL a_step_19 (.latom 1000))))), (.b (.int .u64 (.fn 10 (.consL a_step_19 (.latom 1000))))), (.b (.bool a_step_23))] 0)), (202, (.row .u64 27 (.latom 1000))), (210, (.cells 105 [(.b (.int .i64 (.atom 1050))), (.b (.int .u64 (.atom 1051))), (.b (.int .i64 (.atom 1052)))] 0))])) (.req (.cmp .lss (.lit 0) (.fn 50 (.consL (.len a_step_29) (.consL (.lit 3) .nilL)))) (.req (.cmp .eql (.op .rem .i64 (.len a_step_29) (.lit 3)) (.lit 0)) (.leaf ((.tup []), [(300, (.mach 0 (.consL (.lit 1003) (.consL (.lit 2) (.consL (.lit 0) (.consL (.len a_step_30) (.consL (.len a_step_24) (.catL a_step_30 (.catL a_step_24 a_step_29))))))))), (198, (.cells 122 [(.b (.int .i64 (.atom 1020))), (.b (.int .i64 (.atom 1021))), (.b (.int .i64 (.atom 1022))), (.b (.int .i64 (.atom 1023))), (.b (.int .i64 (.atom 1024))), (.b (.int .i64 (.atom 1025))), (.b (.int .i64 (.atom 1026))), (.b (.ptr 200 (.lit 0)))] 0)), (200, (.cells 130 [(.b (.sl 202 (.lit 0) (.len (.latom 1000)) (.len (.latom 1000)))), (.b (.int .i64 (.op .add .i64 (.atom 1001) (.lit 1)))), (.b (.int .i64 (.lit 1))), (.b (.int .i64 a_step_19)), (.b (.int .u64 (.lit 0))), (.b (.int .u64 (.fn 10 (.consL a_step_19 (.latom 1000))))), (.b (.int .u64 (.fn 10 (.consL a_step_19 (.latom 1000))))), (.b (.bool a_step_23))] 0)), (202, (.row .u64 27 (.latom 1000))), (210, (.cells 105 [(.b (.int .i64 (.atom 1050))), (.b (.int .u64 (.atom 1051))), (.b (.int .i64 (.atom 1052)))] 0))]))))))))))
theorem e_step_2 [Env] : (baseG5 53 [p0, m0', g0] [] (((Lay.sweep).getD 2 ⟨0, [], .nilL, []⟩).hp ++ (rest)) 1).bind (foldsL (300 :: namesH (rest)) [.mach (.nm 300) 1003, .drop]) = t_step_2 := by kernel_rfl
theorem p_step_2 (E : Env) (Q : SV × Heap Empty → Prop) (ha : E.l 1100 = @IE.lst E ((Lay.sweep).getD 2 ⟨0, [], .nilL, []⟩).row) (hi : ∀ b ∈ ((Lay.sweep).getD 2 ⟨0, [], .nilL, []⟩).inv, @BE.val E b = true) (hQ : @Tree.holds E _ Q told_step) : @Tree.holds E _ (fun r => ∃ r2, Q r2 ∧ Eqv E r r2) t_step_2 := by
  have ha0 := ha
  have ha : E.l 1100 = (⟨1, 0, E.l 5000, E.l 5001, []⟩ : Swp).enc := ha0.trans (by simp [Lay.sweep, Lay.row, Lay.li, Lay.ai, Lay.al, IE.lst, IE.val, Swp.enc])
  have hX : decW (@IE.lst E X) = ⟨Cx E, Gx E, Bx E, (⟨1, 0, E.l 5000, E.l 5001, []⟩ : Swp).enc⟩ := by rw [show decW (@IE.lst E X) = ⟨Cx E, Gx E, Bx E, (E.l 1100)⟩ from decW_eq _ _ _ _ _ _ _ _ _ _ _ _ _ _ _ _ _ _ _]; rw [ha]
  have e0 : E.i 1020 = (Cx E).t := rfl
  have e1 : E.i 1021 = (Cx E).s := rfl
  have hr := right_of hQ.1
  have hr1 : 1 ≤ (Cx E).s ∧ (Cx E).s ≤ 8 := ⟨hr.2.2.1, hr.2.2.2.1⟩
  have hr2 : 1 ≤ (Cx E).t ∧ (Cx E).t ≤ 8 := ⟨hr.1, hr.2.1⟩
  have hS : ((((⟨1, 0, E.l 5000, E.l 5001, []⟩ : Swp).enc).length : Nat) : Int) ≤ 1000000 := by have q : ((E.l 1100).length : Int) ≤ 1000000 := of_decide_eq_true hQ.2.1; rw [ha] at q; exact q
  simp only [Swp.enc, List.length_cons, List.length_append, List.length_nil] at hS
  have hsp := fun e => splM3 false e (E.l 5000)
  refine ⟨?_, ?_⟩
  · skip
    suffices hc : (!(((Cx E).s != (0 : Int)) && ((decide (((((((E.l 5001).length : Int)).toNat + ((1 : Int)).toNat * 1 + 0 : Nat)) : Int) ≤ (8796093022208 : Int))) && ((!(decide ((Go.IntKind.i64.wrap (((E.l 5001).length : Int) + (1 : Int))) < (Go.IntKind.i64.wrap ((Cx E).t * (Cx E).s))))) && (!(decide ((((E.l 5001 ++ ((hadF (((Cx E).res ((Go.IntKind.i64.wrap (Int.tdiv (((E.l 5001).length : Int)) ((Cx E).s)))) ((Int.tmod (((E.l 5001).length : Int)) ((Cx E).s))))) ((Bx E).row)) :: []))).length : Int) ≤ (1073741824 : Int)))))))) = true from (by first | exact hc | (simp only [a_step_6, a_step_8, a_step_24, a_step_19, BE.val, IE.val, IE.lst, putset, split3, split4]; exact hc))
    refine Classical.byContradiction fun hn => ?_
    simp only [Bool.not_eq_true, Bool.not_eq_false, Bool.not_eq_true', Bool.not_eq_false', Bool.and_eq_true, Bool.and_eq_false_imp, decide_eq_true_eq, decide_eq_false_iff_not, beq_iff_eq, beq_eq_false_iff_ne, bne_iff_ne, bne_eq_false_iff_eq, ne_eq, Decidable.not_not, not_and, Classical.not_imp] at hn
    (try simp only [List.length_cons, List.length_nil, List.length_append, tmod3, splM3, Int.toNat_zero, Nat.add_zero] at *)
    omega
  · skip
    refine ⟨?_, ?_⟩
    · skip
      suffices hc : (!(((Cx E).s != (0 : Int)) && ((decide (((((((E.l 5001).length : Int)).toNat + ((1 : Int)).toNat * 1 + 0 : Nat)) : Int) ≤ (8796093022208 : Int))) && ((!(decide ((Go.IntKind.i64.wrap (((E.l 5001).length : Int) + (1 : Int))) < (Go.IntKind.i64.wrap ((Cx E).t * (Cx E).s))))) && (!(decide (((E.l 5000).length : Int) ≤ (300000000 : Int)))))))) = true from (by first | exact hc | (simp only [a_step_6, a_step_8, BE.val, IE.val, IE.lst, putset, split3, split4]; exact hc))
      refine Classical.byContradiction fun hn => ?_
      simp only [Bool.not_eq_true, Bool.not_eq_false, Bool.not_eq_true', Bool.not_eq_false', Bool.and_eq_true, Bool.and_eq_false_imp, decide_eq_true_eq, decide_eq_false_iff_not, beq_iff_eq, beq_eq_false_iff_ne, bne_iff_ne, bne_eq_false_iff_eq, ne_eq, Decidable.not_not, not_and, Classical.not_imp] at hn
      (try simp only [List.length_cons, List.length_nil, List.length_append, tmod3, splM3, Int.toNat_zero, Nat.add_zero] at *)
      omega
    · skip
      refine ⟨?_, ?_⟩
      · skip
        suffices hc : (!(((Cx E).s != (0 : Int)) && (!(decide (((((((E.l 5001).length : Int)).toNat + ((1 : Int)).toNat * 1 + 0 : Nat)) : Int) ≤ (8796093022208 : Int)))))) = true from (by first | exact hc | (simp only [a_step_6, BE.val, IE.val, IE.lst, putset, split3, split4]; exact hc))
        refine Classical.byContradiction fun hn => ?_
        simp only [Bool.not_eq_true, Bool.not_eq_false, Bool.not_eq_true', Bool.not_eq_false', Bool.and_eq_true, Bool.and_eq_false_imp, decide_eq_true_eq, decide_eq_false_iff_not, beq_iff_eq, beq_eq_false_iff_ne, bne_iff_ne, bne_eq_false_iff_eq, ne_eq, Decidable.not_not, not_and, Classical.not_imp] at hn
        (try simp only [List.length_cons, List.length_nil, List.length_append, tmod3, splM3, Int.toNat_zero, Nat.add_zero] at *)
        omega
      · skip
        refine ⟨?_, ?_⟩
        · skip
          suffices hc : ((Cx E).s != (0 : Int)) = true from (by first | exact hc | (simp only [BE.val, IE.val, IE.lst, putset, split3, split4]; exact hc))
          refine Classical.byContradiction fun hn => ?_
          simp only [Bool.not_eq_true, Bool.not_eq_false, Bool.not_eq_true', Bool.not_eq_false', Bool.and_eq_true, Bool.and_eq_false_imp, decide_eq_true_eq, decide_eq_false_iff_not, beq_iff_eq, beq_eq_false_iff_ne, bne_iff_ne, bne_eq_false_iff_eq, ne_eq, Decidable.not_not, not_and, Classical.not_imp] at hn
          (try simp only [List.length_cons, List.length_nil, List.length_append, tmod3, splM3, Int.toNat_zero, Nat.add_zero] at *)
          omega
        · skip
          refine ⟨fun h1 => ?_, fun h1 => ?_⟩
          · skip
            have k1 : (Go.IntKind.i64.wrap (((E.l 5001).length : Int) + (1 : Int))) < (Go.IntKind.i64.wrap ((Cx E).t * (Cx E).s)) := of_decide_eq_true h1
            have hs : stepM 2 (decW (@IE.lst E X)) = ⟨Cx E, ⟨(Gx E).many, (Gx E).latest, (Gx E).thread⟩, ⟨(Go.IntKind.i64.wrap ((Bx E).count + (1 : Int))), (1 : Int), ((Cx E).res ((Go.IntKind.i64.wrap (Int.tdiv (((E.l 5001).length : Int)) ((Cx E).s)))) ((Int.tmod (((E.l 5001).length : Int)) ((Cx E).s)))), (0 : Int), (hadF (((Cx E).res ((Go.IntKind.i64.wrap (Int.tdiv (((E.l 5001).length : Int)) ((Cx E).s)))) ((Int.tmod (((E.l 5001).length : Int)) ((Cx E).s))))) ((Bx E).row)), (hadF (((Cx E).res ((Go.IntKind.i64.wrap (Int.tdiv (((E.l 5001).length : Int)) ((Cx E).s)))) ((Int.tmod (((E.l 5001).length : Int)) ((Cx E).s))))) ((Bx E).row)), (decide (inF (((Cx E).res ((Go.IntKind.i64.wrap (Int.tdiv (((E.l 5001).length : Int)) ((Cx E).s)))) ((Int.tmod (((E.l 5001).length : Int)) ((Cx E).s))))) ((Bx E).row))), (Bx E).row⟩, ((1 : Int) :: ((0 : Int) :: (((E.l 5000).length : Int) :: ((((E.l 5001 ++ ((hadF (((Cx E).res ((Go.IntKind.i64.wrap (Int.tdiv (((E.l 5001).length : Int)) ((Cx E).s)))) ((Int.tmod (((E.l 5001).length : Int)) ((Cx E).s))))) ((Bx E).row)) :: []))).length : Int) :: (E.l 5000 ++ (E.l 5001 ++ ((hadF (((Cx E).res ((Go.IntKind.i64.wrap (Int.tdiv (((E.l 5001).length : Int)) ((Cx E).s)))) ((Int.tmod (((E.l 5001).length : Int)) ((Cx E).s))))) ((Bx E).row)) :: [])))))))⟩ := by
              rw [hX]
              show Swp.stepW _ = _
              simp only [Swp.stepW, Swp.dec_enc]
              simp only [Swp.step, clrG, Swp.split, show ((1 : Int) = 0) = False from by decide, show ((2 : Int) = 0) = False from by decide, show ((2 : Int) = 1) = False from by decide, show ((3 : Int) = 0) = False from by decide, show ((3 : Int) = 1) = False from by decide, show ((3 : Int) = 2) = False from by decide, if_true, if_false, List.length_nil, List.nil_append, Int.natCast_zero, load_old, ← split_nil, show wI (0 + 1) = 1 from by decide, if_pos k1]
              refine congrArg (Wd.mk _ _ _) ?_
              (try simp only [List.append_nil])
              (try simp only [Swp.enc, load_old, List.append_nil, List.nil_append, List.length_nil, Int.natCast_zero])
              all_goals (first | rfl | simp [Swp.enc])
            exact ⟨_, hQ.2.2.2, Eqv.of (q := ⟨[((.op .add .i64 (.atom 1001) (.lit 1)), (.fn 1200 X)), ((.lit 1), (.fn 1201 X)), (a_step_19, (.fn 1202 X)), ((.lit 0), (.fn 1203 X)), ((.fn 10 (.consL a_step_19 (.latom 1000))), (.fn 1204 X)), ((.fn 10 (.consL a_step_19 (.latom 1000))), (.fn 1205 X)), ((.atom 1050), (.fn 1207 X)), ((.atom 1051), (.fn 1208 X))], [((.consL (.lit 1003) (.consL (.lit 1) (.consL (.lit 0) (.consL (.len (.latom 5000)) (.consL (.len a_step_24) (.catL (.latom 5000) a_step_24)))))), (.consL (.lit 1003) (.fnL 1200 X))), ((.latom 1000), (.putL (.latom 1000) (.lit 0) (.fnL 1201 X)))], [(a_step_23, (.cmp .neq (.fn 1206 X) (.lit 0)))]⟩) ⟨(cc (sI 2 0 hs rfl) (cc (sI 2 1 hs rfl) (cc (sI 2 2 hs rfl) (cc (sI 2 3 hs rfl) (cc (sI 2 4 hs rfl) (cc (sI 2 5 hs rfl) (cc (sI 2 7 hs rfl) (cc (sI 2 8 hs rfl) nn)))))))), (cc (congrArg (List.cons _) (sL 2 0 hs rfl)) (cc (sP 2 1 hs rfl (by first | rfl | exact setF_len _ _ _)) nn)), (cc (sD 2 hs (by first | rfl | exact ofP_ne _)) nn)⟩ (by kernel_rfl)⟩
          · skip
            refine ⟨fun h2 => ?_, fun h2 => ?_⟩
            · skip
              have k1 : ¬ (Go.IntKind.i64.wrap (((E.l 5001).length : Int) + (1 : Int))) < (Go.IntKind.i64.wrap ((Cx E).t * (Cx E).s)) := of_decide_eq_false h1
              have k2 : (((((splitF false ((E.l 5001 ++ ((hadF (((Cx E).res ((Go.IntKind.i64.wrap (Int.tdiv (((E.l 5001).length : Int)) ((Cx E).s)))) ((Int.tmod (((E.l 5001).length : Int)) ((Cx E).s))))) ((Bx E).row)) :: []))) (E.l 5000))).length : Int)) / ((3 : Int))) = (0 : Int) := (by have q := eq_of_beq h2; first | exact q | (simp only [a_step_29, a_step_24, a_step_19, IE.val, IE.lst, putset, split3, split4] at q; exact q))
              have hs : stepM 2 (decW (@IE.lst E X)) = ⟨Cx E, ⟨(Gx E).many, (Gx E).latest, (Gx E).thread⟩, ⟨(Go.IntKind.i64.wrap ((Bx E).count + (1 : Int))), (1 : Int), ((Cx E).res ((Go.IntKind.i64.wrap (Int.tdiv (((E.l 5001).length : Int)) ((Cx E).s)))) ((Int.tmod (((E.l 5001).length : Int)) ((Cx E).s)))), (0 : Int), (hadF (((Cx E).res ((Go.IntKind.i64.wrap (Int.tdiv (((E.l 5001).length : Int)) ((Cx E).s)))) ((Int.tmod (((E.l 5001).length : Int)) ((Cx E).s))))) ((Bx E).row)), (hadF (((Cx E).res ((Go.IntKind.i64.wrap (Int.tdiv (((E.l 5001).length : Int)) ((Cx E).s)))) ((Int.tmod (((E.l 5001).length : Int)) ((Cx E).s))))) ((Bx E).row)), (decide (inF (((Cx E).res ((Go.IntKind.i64.wrap (Int.tdiv (((E.l 5001).length : Int)) ((Cx E).s)))) ((Int.tmod (((E.l 5001).length : Int)) ((Cx E).s))))) ((Bx E).row))), (Bx E).row⟩, ((3 : Int) :: ((0 : Int) :: ((((splitF true ((E.l 5001 ++ ((hadF (((Cx E).res ((Go.IntKind.i64.wrap (Int.tdiv (((E.l 5001).length : Int)) ((Cx E).s)))) ((Int.tmod (((E.l 5001).length : Int)) ((Cx E).s))))) ((Bx E).row)) :: []))) (E.l 5000))).length : Int) :: ((((E.l 5001 ++ ((hadF (((Cx E).res ((Go.IntKind.i64.wrap (Int.tdiv (((E.l 5001).length : Int)) ((Cx E).s)))) ((Int.tmod (((E.l 5001).length : Int)) ((Cx E).s))))) ((Bx E).row)) :: []))).length : Int) :: ((splitF true ((E.l 5001 ++ ((hadF (((Cx E).res ((Go.IntKind.i64.wrap (Int.tdiv (((E.l 5001).length : Int)) ((Cx E).s)))) ((Int.tmod (((E.l 5001).length : Int)) ((Cx E).s))))) ((Bx E).row)) :: []))) (E.l 5000)) ++ (E.l 5001 ++ ((hadF (((Cx E).res ((Go.IntKind.i64.wrap (Int.tdiv (((E.l 5001).length : Int)) ((Cx E).s)))) ((Int.tmod (((E.l 5001).length : Int)) ((Cx E).s))))) ((Bx E).row)) :: [])))))))⟩ := by
                rw [hX]
                show Swp.stepW _ = _
                simp only [Swp.stepW, Swp.dec_enc]
                simp only [Swp.step, clrG, Swp.split, show ((1 : Int) = 0) = False from by decide, show ((2 : Int) = 0) = False from by decide, show ((2 : Int) = 1) = False from by decide, show ((3 : Int) = 0) = False from by decide, show ((3 : Int) = 1) = False from by decide, show ((3 : Int) = 2) = False from by decide, if_true, if_false, List.length_nil, List.nil_append, Int.natCast_zero, load_old, ← split_nil, show wI (0 + 1) = 1 from by decide, if_neg k1, if_pos k2]
                refine congrArg (Wd.mk _ _ _) ?_
                (try simp only [List.append_nil])
                (try simp only [Swp.enc, load_old, List.append_nil, List.nil_append, List.length_nil, Int.natCast_zero, split_nil.1 k2])
                all_goals (first | rfl | simp [Swp.enc])
              exact ⟨_, hQ.2.2.2, Eqv.of (q := ⟨[((.op .add .i64 (.atom 1001) (.lit 1)), (.fn 1200 X)), ((.lit 1), (.fn 1201 X)), (a_step_19, (.fn 1202 X)), ((.lit 0), (.fn 1203 X)), ((.fn 10 (.consL a_step_19 (.latom 1000))), (.fn 1204 X)), ((.fn 10 (.consL a_step_19 (.latom 1000))), (.fn 1205 X)), ((.atom 1050), (.fn 1207 X)), ((.atom 1051), (.fn 1208 X))], [((.consL (.lit 1003) (.consL (.lit 3) (.consL (.lit 0) (.consL (.len a_step_30) (.consL (.len a_step_24) (.catL a_step_30 a_step_24)))))), (.consL (.lit 1003) (.fnL 1200 X))), ((.latom 1000), (.putL (.latom 1000) (.lit 0) (.fnL 1201 X)))], [(a_step_23, (.cmp .neq (.fn 1206 X) (.lit 0)))]⟩) ⟨(cc (sI 2 0 hs rfl) (cc (sI 2 1 hs rfl) (cc (sI 2 2 hs rfl) (cc (sI 2 3 hs rfl) (cc (sI 2 4 hs rfl) (cc (sI 2 5 hs rfl) (cc (sI 2 7 hs rfl) (cc (sI 2 8 hs rfl) nn)))))))), (cc (congrArg (List.cons _) (sL 2 0 hs (by simp only [a_step_30, a_step_24, a_step_19, IE.val, IE.lst, putset, split3, split4]; rfl))) (cc (sP 2 1 hs rfl (by first | rfl | exact setF_len _ _ _)) nn)), (cc (sD 2 hs (by first | rfl | exact ofP_ne _)) nn)⟩ (by kernel_rfl)⟩
            · skip
              refine ⟨?_, ?_⟩
              · skip
                have k1 : ¬ (Go.IntKind.i64.wrap (((E.l 5001).length : Int) + (1 : Int))) < (Go.IntKind.i64.wrap ((Cx E).t * (Cx E).s)) := of_decide_eq_false h1
                have k2 : ¬ (((((splitF false ((E.l 5001 ++ ((hadF (((Cx E).res ((Go.IntKind.i64.wrap (Int.tdiv (((E.l 5001).length : Int)) ((Cx E).s)))) ((Int.tmod (((E.l 5001).length : Int)) ((Cx E).s))))) ((Bx E).row)) :: []))) (E.l 5000))).length : Int)) / ((3 : Int))) = (0 : Int) := (by have q := ne_of_beq_false h2; first | exact q | (simp only [a_step_29, a_step_24, a_step_19, IE.val, IE.lst, putset, split3, split4] at q; exact q))
                suffices hc : (decide ((0 : Int) < (((((splitF false ((E.l 5001 ++ ((hadF (((Cx E).res ((Go.IntKind.i64.wrap (Int.tdiv (((E.l 5001).length : Int)) ((Cx E).s)))) ((Int.tmod (((E.l 5001).length : Int)) ((Cx E).s))))) ((Bx E).row)) :: []))) (E.l 5000))).length : Int)) / ((3 : Int))))) = true from (by first | exact hc | (simp only [a_step_29, a_step_24, a_step_19, BE.val, IE.val, IE.lst, putset, split3, split4]; exact hc))
                refine Classical.byContradiction fun hn => ?_
                simp only [Bool.not_eq_true, Bool.not_eq_false, Bool.not_eq_true', Bool.not_eq_false', Bool.and_eq_true, Bool.and_eq_false_imp, decide_eq_true_eq, decide_eq_false_iff_not, beq_iff_eq, beq_eq_false_iff_ne, bne_iff_ne, bne_eq_false_iff_eq, ne_eq, Decidable.not_not, not_and, Classical.not_imp] at hn
                (try simp only [List.length_cons, List.length_nil, List.length_append, tmod3, splM3, Int.toNat_zero, Nat.add_zero] at *)
                omega
              · skip
                refine ⟨?_, ?_⟩
                · skip
                  have k1 : ¬ (Go.IntKind.i64.wrap (((E.l 5001).length : Int) + (1 : Int))) < (Go.IntKind.i64.wrap ((Cx E).t * (Cx E).s)) := of_decide_eq_false h1
                  have k2 : ¬ (((((splitF false ((E.l 5001 ++ ((hadF (((Cx E).res ((Go.IntKind.i64.wrap (Int.tdiv (((E.l 5001).length : Int)) ((Cx E).s)))) ((Int.tmod (((E.l 5001).length : Int)) ((Cx E).s))))) ((Bx E).row)) :: []))) (E.l 5000))).length : Int)) / ((3 : Int))) = (0 : Int) := (by have q := ne_of_beq_false h2; first | exact q | (simp only [a_step_29, a_step_24, a_step_19, IE.val, IE.lst, putset, split3, split4] at q; exact q))
                  suffices hc : ((Int.tmod ((((splitF false ((E.l 5001 ++ ((hadF (((Cx E).res ((Go.IntKind.i64.wrap (Int.tdiv (((E.l 5001).length : Int)) ((Cx E).s)))) ((Int.tmod (((E.l 5001).length : Int)) ((Cx E).s))))) ((Bx E).row)) :: []))) (E.l 5000))).length : Int)) ((3 : Int))) == (0 : Int)) = true from (by first | exact hc | (simp only [a_step_29, a_step_24, a_step_19, BE.val, IE.val, IE.lst, putset, split3, split4]; exact hc))
                  refine Classical.byContradiction fun hn => ?_
                  simp only [Bool.not_eq_true, Bool.not_eq_false, Bool.not_eq_true', Bool.not_eq_false', Bool.and_eq_true, Bool.and_eq_false_imp, decide_eq_true_eq, decide_eq_false_iff_not, beq_iff_eq, beq_eq_false_iff_ne, bne_iff_ne, bne_eq_false_iff_eq, ne_eq, Decidable.not_not, not_and, Classical.not_imp] at hn
                  (try simp only [List.length_cons, List.length_nil, List.length_append, tmod3, splM3, Int.toNat_zero, Nat.add_zero] at *)
                  omega
                · skip
                  have k1 : ¬ (Go.IntKind.i64.wrap (((E.l 5001).length : Int) + (1 : Int))) < (Go.IntKind.i64.wrap ((Cx E).t * (Cx E).s)) := of_decide_eq_false h1
                  have k2 : ¬ (((((splitF false ((E.l 5001 ++ ((hadF (((Cx E).res ((Go.IntKind.i64.wrap (Int.tdiv (((E.l 5001).length : Int)) ((Cx E).s)))) ((Int.tmod (((E.l 5001).length : Int)) ((Cx E).s))))) ((Bx E).row)) :: []))) (E.l 5000))).length : Int)) / ((3 : Int))) = (0 : Int) := (by have q := ne_of_beq_false h2; first | exact q | (simp only [a_step_29, a_step_24, a_step_19, IE.val, IE.lst, putset, split3, split4] at q; exact q))
                  have hs : stepM 2 (decW (@IE.lst E X)) = ⟨Cx E, ⟨(Gx E).many, (Gx E).latest, (Gx E).thread⟩, ⟨(Go.IntKind.i64.wrap ((Bx E).count + (1 : Int))), (1 : Int), ((Cx E).res ((Go.IntKind.i64.wrap (Int.tdiv (((E.l 5001).length : Int)) ((Cx E).s)))) ((Int.tmod (((E.l 5001).length : Int)) ((Cx E).s)))), (0 : Int), (hadF (((Cx E).res ((Go.IntKind.i64.wrap (Int.tdiv (((E.l 5001).length : Int)) ((Cx E).s)))) ((Int.tmod (((E.l 5001).length : Int)) ((Cx E).s))))) ((Bx E).row)), (hadF (((Cx E).res ((Go.IntKind.i64.wrap (Int.tdiv (((E.l 5001).length : Int)) ((Cx E).s)))) ((Int.tmod (((E.l 5001).length : Int)) ((Cx E).s))))) ((Bx E).row)), (decide (inF (((Cx E).res ((Go.IntKind.i64.wrap (Int.tdiv (((E.l 5001).length : Int)) ((Cx E).s)))) ((Int.tmod (((E.l 5001).length : Int)) ((Cx E).s))))) ((Bx E).row))), (Bx E).row⟩, ((2 : Int) :: ((0 : Int) :: ((((splitF true ((E.l 5001 ++ ((hadF (((Cx E).res ((Go.IntKind.i64.wrap (Int.tdiv (((E.l 5001).length : Int)) ((Cx E).s)))) ((Int.tmod (((E.l 5001).length : Int)) ((Cx E).s))))) ((Bx E).row)) :: []))) (E.l 5000))).length : Int) :: ((((E.l 5001 ++ ((hadF (((Cx E).res ((Go.IntKind.i64.wrap (Int.tdiv (((E.l 5001).length : Int)) ((Cx E).s)))) ((Int.tmod (((E.l 5001).length : Int)) ((Cx E).s))))) ((Bx E).row)) :: []))).length : Int) :: ((splitF true ((E.l 5001 ++ ((hadF (((Cx E).res ((Go.IntKind.i64.wrap (Int.tdiv (((E.l 5001).length : Int)) ((Cx E).s)))) ((Int.tmod (((E.l 5001).length : Int)) ((Cx E).s))))) ((Bx E).row)) :: []))) (E.l 5000)) ++ ((E.l 5001 ++ ((hadF (((Cx E).res ((Go.IntKind.i64.wrap (Int.tdiv (((E.l 5001).length : Int)) ((Cx E).s)))) ((Int.tmod (((E.l 5001).length : Int)) ((Cx E).s))))) ((Bx E).row)) :: [])) ++ (splitF false ((E.l 5001 ++ ((hadF (((Cx E).res ((Go.IntKind.i64.wrap (Int.tdiv (((E.l 5001).length : Int)) ((Cx E).s)))) ((Int.tmod (((E.l 5001).length : Int)) ((Cx E).s))))) ((Bx E).row)) :: []))) (E.l 5000))))))))⟩ := by
                    rw [hX]
                    show Swp.stepW _ = _
                    simp only [Swp.stepW, Swp.dec_enc]
                    simp only [Swp.step, clrG, Swp.split, show ((1 : Int) = 0) = False from by decide, show ((2 : Int) = 0) = False from by decide, show ((2 : Int) = 1) = False from by decide, show ((3 : Int) = 0) = False from by decide, show ((3 : Int) = 1) = False from by decide, show ((3 : Int) = 2) = False from by decide, if_true, if_false, List.length_nil, List.nil_append, Int.natCast_zero, load_old, ← split_nil, show wI (0 + 1) = 1 from by decide, if_neg k1, if_neg k2]
                    refine congrArg (Wd.mk _ _ _) ?_
                    (try simp only [List.append_nil])
                    (try simp only [Swp.enc, load_old, List.append_nil, List.nil_append, List.length_nil, Int.natCast_zero])
                    all_goals (first | rfl | simp [Swp.enc])
                  exact ⟨_, hQ.2.2.2, Eqv.of (q := ⟨[((.op .add .i64 (.atom 1001) (.lit 1)), (.fn 1200 X)), ((.lit 1), (.fn 1201 X)), (a_step_19, (.fn 1202 X)), ((.lit 0), (.fn 1203 X)), ((.fn 10 (.consL a_step_19 (.latom 1000))), (.fn 1204 X)), ((.fn 10 (.consL a_step_19 (.latom 1000))), (.fn 1205 X)), ((.atom 1050), (.fn 1207 X)), ((.atom 1051), (.fn 1208 X))], [((.consL (.lit 1003) (.consL (.lit 2) (.consL (.lit 0) (.consL (.len a_step_30) (.consL (.len a_step_24) (.catL a_step_30 (.catL a_step_24 a_step_29))))))), (.consL (.lit 1003) (.fnL 1200 X))), ((.latom 1000), (.putL (.latom 1000) (.lit 0) (.fnL 1201 X)))], [(a_step_23, (.cmp .neq (.fn 1206 X) (.lit 0)))]⟩) ⟨(cc (sI 2 0 hs rfl) (cc (sI 2 1 hs rfl) (cc (sI 2 2 hs rfl) (cc (sI 2 3 hs rfl) (cc (sI 2 4 hs rfl) (cc (sI 2 5 hs rfl) (cc (sI 2 7 hs rfl) (cc (sI 2 8 hs rfl) nn)))))))), (cc (congrArg (List.cons _) (sL 2 0 hs (by simp only [a_step_30, a_step_24, a_step_19, a_step_29, IE.val, IE.lst, putset, split3, split4]; rfl))) (cc (sP 2 1 hs rfl (by first | rfl | exact setF_len _ _ _)) nn)), (cc (sD 2 hs (by first | rfl | exact ofP_ne _)) nn)⟩ (by kernel_rfl)⟩
def t_step_3 : Tree (SV × Heap Empty) := (.req (.not (.and (.cmp .lss (.lit 0) a_step_5) (.and a_step_2 (.not (.cmp .geq (.get (.latom 5002) (.lit 0) 0) (.lit 0)))))) (.req (.not (.and (.cmp .lss (.lit 0) a_step_5) (.and a_step_2 (.not (.cmp .lss (.get (.latom 5002) (.lit 0) 0) (.lit 18446744073709551616)))))) (.req (.not (.and (.cmp .lss (.lit 0) a_step_5) (.not a_step_2))) (.req (.cmp .lss (.lit 0) a_step_5) (.br (.cmp .eql (.fn 50 (.consL (.len a_step_12) (.consL (.lit 3) .nilL))) (.lit 0)) (.leaf ((.tup []), [(300, (.mach 0 a_step_14)), (198, (.cells 122 [(.b (.int .i64 (.atom 1020))), (.b (.int .i64 (.atom 1021))), (.b (.int .i64 (.atom 1022))), (.b (.int .i64 (.atom 1023))), (.b (.int .i64 (.atom 1024))), (.b (.int .i64 (.atom 1025))), (.b (.int .i64 (.atom 1026))), (.b (.ptr 200 (.lit 0)))] 0)), (200, (.cells 130 [(.b (.sl 202 (.lit 0) (.len (.latom 1000)) (.len (.latom 1000)))), (.b (.int .i64 (.op .add .i64 (.atom 1001) (.lit 1)))), (.b (.int .i64 (.lit 2))), (.b (.int .i64 a_step_16)), (.b (.int .u64 (.lit 0))), (.b (.int .u64 (.fn 10 (.consL a_step_16 (.latom 1000))))), (.b (.int .u64 (.fn 14 (.consL a_step_9 (.consL a_step_16 (.latom 1000)))))), (.b (.bool a_step_21))] 0)), (202, (.row .u64 27 a_step_26)), (210, (.cells 105 [(.b (.int .i64 (.atom 1050))), (.b (.int .u64 (.atom 1051))), (.b (.int .i64 (.atom 1052)))] 0))])) (.req (.cmp .lss (.lit 0) (.fn 50 (.consL (.len a_step_12) (.consL (.lit 3) .nilL)))) (.req (.cmp .eql (.op .rem .i64 (.len a_step_12) (.lit 3)) (.lit 0)) (.leaf ((.tup []), [(300, (.mach 0 (.consL (.lit 1003) (.consL (.lit 2) (.consL (.lit 0) (.consL (.len (.latom 5000)) (.consL (.len (.latom 5001)) (.catL (.latom 5000) (.catL (.latom 5001) a_step_12))))))))), (198, (.cells 122 [(.b (.int .i64 (.atom 1020))), (.b (.int .i64 (.atom 1021))), (.b (.int .i64 (.atom 1022))), (.b (.int .i64 (.atom 1023))), (.b (.int .i64 (.atom 1024))), (.b (.int .i64 (.atom 1025))), (.b (.int .i64 (.atom 1026))), (.b (.ptr 200 (.lit 0)))] 0)), (200, (.cells 130 [(.b (.sl 202 (.lit 0) (.len (.latom 1000)) (.len (.latom 1000)))), (.b (.int .i64 (.op .add .i64 (.atom 1001) (.lit 1)))), (.b (.int .i64 (.lit 2))), (.b (.int .i64 a_step_16)), (.b (.int .u64 (.lit 0))), (.b (.int .u64 (.fn 10 (.consL a_step_16 (.latom 1000))))), (.b (.int .u64 (.fn 14 (.consL a_step_9 (.consL a_step_16 (.latom 1000)))))), (.b (.bool a_step_21))] 0)), (202, (.row .u64 27 a_step_26)), (210, (.cells 105 [(.b (.int .i64 (.atom 1050))), (.b (.int .u64 (.atom 1051))), (.b (.int .i64 (.atom 1052)))] 0))])))))))))
theorem e_step_3 [Env] : (baseG5 53 [p0, m0', g0] [] (((Lay.sweep).getD 3 ⟨0, [], .nilL, []⟩).hp ++ (rest)) 1).bind (foldsL (300 :: namesH (rest)) [.mach (.nm 300) 1003, .drop]) = t_step_3 := by kernel_rfl
theorem p_step_3 (E : Env) (Q : SV × Heap Empty → Prop) (ha : E.l 1100 = @IE.lst E ((Lay.sweep).getD 3 ⟨0, [], .nilL, []⟩).row) (hi : ∀ b ∈ ((Lay.sweep).getD 3 ⟨0, [], .nilL, []⟩).inv, @BE.val E b = true) (hQ : @Tree.holds E _ Q told_step) : @Tree.holds E _ (fun r => ∃ r2, Q r2 ∧ Eqv E r r2) t_step_3 := by
  have ha0 := ha
  have ha : E.l 1100 = (⟨2, 0, E.l 5000, E.l 5001, E.l 5002⟩ : Swp).enc := ha0.trans (by simp [Lay.sweep, Lay.row, Lay.li, Lay.ai, Lay.al, IE.lst, IE.val, Swp.enc])
  have hX : decW (@IE.lst E X) = ⟨Cx E, Gx E, Bx E, (⟨2, 0, E.l 5000, E.l 5001, E.l 5002⟩ : Swp).enc⟩ := by rw [show decW (@IE.lst E X) = ⟨Cx E, Gx E, Bx E, (E.l 1100)⟩ from decW_eq _ _ _ _ _ _ _ _ _ _ _ _ _ _ _ _ _ _ _]; rw [ha]
  have e0 : E.i 1020 = (Cx E).t := rfl
  have e1 : E.i 1021 = (Cx E).s := rfl
  have hr := right_of hQ.1
  have hr1 : 1 ≤ (Cx E).s ∧ (Cx E).s ≤ 8 := ⟨hr.2.2.1, hr.2.2.2.1⟩
  have hr2 : 1 ≤ (Cx E).t ∧ (Cx E).t ≤ 8 := ⟨hr.1, hr.2.1⟩
  have hS : ((((⟨2, 0, E.l 5000, E.l 5001, E.l 5002⟩ : Swp).enc).length : Nat) : Int) ≤ 1000000 := by have q : ((E.l 1100).length : Int) ≤ 1000000 := of_decide_eq_true hQ.2.1; rw [ha] at q; exact q
  simp only [Swp.enc, List.length_cons, List.length_append, List.length_nil] at hS
  have i0 : 0 < ((E.l 5002).length : Int) / 3 := of_decide_eq_true (hi _ (.head _))
  have i1 : ((E.l 5002).length : Int) % 3 = 0 := by
    have q : Int.tmod ((E.l 5002).length : Int) 3 = 0 := eq_of_beq (hi _ (.tail _ (.head _)))
    rwa [Int.tmod_eq_emod_of_nonneg (by omega)] at q
  have hsub := drop_sub i1 i0
  have hw : 0 ≤ (E.l 5002).getD 0 0 ∧ (E.l 5002).getD 0 0 < 18446744073709551616 := by
    have q := words_of hQ.2.2.1
    have q : wordsP (E.l 1100) := q
    rw [ha] at q
    obtain ⟨x, l, hl⟩ : ∃ x l, E.l 5002 = x :: l := by
      cases hc : E.l 5002 with
      | nil => rw [hc] at i0; simp at i0
      | cons x l => exact ⟨x, l, rfl⟩
    have := q x (by simp [Swp.enc, hl])
    rw [hl]; exact this
  refine ⟨?_, ?_⟩
  · skip
    suffices hc : (!((decide ((0 : Int) < ((((E.l 5002).length : Int)) / ((3 : Int))))) && ((decide ((((((0 : Int)).toNat + ((0 : Int)).toNat * 0 + 1 : Nat)) : Int) ≤ ((E.l 5002).length : Int))) && (!(decide (((E.l 5002).getD (((0 : Int)).toNat + 0) 0) ≥ (0 : Int))))))) = true from (by first | exact hc | (simp only [a_step_5, a_step_2, BE.val, IE.val, IE.lst, putset, split3, split4]; exact hc))
    refine Classical.byContradiction fun hn => ?_
    simp only [Bool.not_eq_true, Bool.not_eq_false, Bool.not_eq_true', Bool.not_eq_false', Bool.and_eq_true, Bool.and_eq_false_imp, decide_eq_true_eq, decide_eq_false_iff_not, beq_iff_eq, beq_eq_false_iff_ne, bne_iff_ne, bne_eq_false_iff_eq, ne_eq, Decidable.not_not, not_and, Classical.not_imp] at hn
    (try simp only [hsub, List.length_drop] at hn)
    (try simp only [hsub, List.length_drop] at k1)
    (try simp only [tmod3, Int.toNat_zero, Nat.add_zero] at hn)
    omega
  · skip
    refine ⟨?_, ?_⟩
    · skip
      suffices hc : (!((decide ((0 : Int) < ((((E.l 5002).length : Int)) / ((3 : Int))))) && ((decide ((((((0 : Int)).toNat + ((0 : Int)).toNat * 0 + 1 : Nat)) : Int) ≤ ((E.l 5002).length : Int))) && (!(decide (((E.l 5002).getD (((0 : Int)).toNat + 0) 0) < (18446744073709551616 : Int))))))) = true from (by first | exact hc | (simp only [a_step_5, a_step_2, BE.val, IE.val, IE.lst, putset, split3, split4]; exact hc))
      refine Classical.byContradiction fun hn => ?_
      simp only [Bool.not_eq_true, Bool.not_eq_false, Bool.not_eq_true', Bool.not_eq_false', Bool.and_eq_true, Bool.and_eq_false_imp, decide_eq_true_eq, decide_eq_false_iff_not, beq_iff_eq, beq_eq_false_iff_ne, bne_iff_ne, bne_eq_false_iff_eq, ne_eq, Decidable.not_not, not_and, Classical.not_imp] at hn
      (try simp only [hsub, List.length_drop] at hn)
      (try simp only [hsub, List.length_drop] at k1)
      (try simp only [tmod3, Int.toNat_zero, Nat.add_zero] at hn)
      omega
    · skip
      refine ⟨?_, ?_⟩
      · skip
        suffices hc : (!((decide ((0 : Int) < ((((E.l 5002).length : Int)) / ((3 : Int))))) && (!(decide ((((((0 : Int)).toNat + ((0 : Int)).toNat * 0 + 1 : Nat)) : Int) ≤ ((E.l 5002).length : Int)))))) = true from (by first | exact hc | (simp only [a_step_5, a_step_2, BE.val, IE.val, IE.lst, putset, split3, split4]; exact hc))
        refine Classical.byContradiction fun hn => ?_
        simp only [Bool.not_eq_true, Bool.not_eq_false, Bool.not_eq_true', Bool.not_eq_false', Bool.and_eq_true, Bool.and_eq_false_imp, decide_eq_true_eq, decide_eq_false_iff_not, beq_iff_eq, beq_eq_false_iff_ne, bne_iff_ne, bne_eq_false_iff_eq, ne_eq, Decidable.not_not, not_and, Classical.not_imp] at hn
        (try simp only [hsub, List.length_drop] at hn)
        (try simp only [hsub, List.length_drop] at k1)
        (try simp only [tmod3, Int.toNat_zero, Nat.add_zero] at hn)
        omega
      · skip
        refine ⟨?_, ?_⟩
        · skip
          suffices hc : (decide ((0 : Int) < ((((E.l 5002).length : Int)) / ((3 : Int))))) = true from (by first | exact hc | (simp only [a_step_5, BE.val, IE.val, IE.lst, putset, split3, split4]; exact hc))
          refine Classical.byContradiction fun hn => ?_
          simp only [Bool.not_eq_true, Bool.not_eq_false, Bool.not_eq_true', Bool.not_eq_false', Bool.and_eq_true, Bool.and_eq_false_imp, decide_eq_true_eq, decide_eq_false_iff_not, beq_iff_eq, beq_eq_false_iff_ne, bne_iff_ne, bne_eq_false_iff_eq, ne_eq, Decidable.not_not, not_and, Classical.not_imp] at hn
          (try simp only [hsub, List.length_drop] at hn)
          (try simp only [hsub, List.length_drop] at k1)
          (try simp only [tmod3, Int.toNat_zero, Nat.add_zero] at hn)
          omega
        · skip
          refine ⟨fun h1 => ?_, fun h1 => ?_⟩
          · skip
            have k1 : (((((((E.l 5002).drop ((((((0 : Int)).toNat + ((1 : Int)).toNat * 3 + 0 : Nat)) : Int)).toNat).take (((((((((E.l 5002).length : Int)) / ((3 : Int)))).toNat - ((1 : Int)).toNat : Nat) : Int)).toNat * 3))).length : Int)) / ((3 : Int))) = (0 : Int) := eq_of_beq h1
            have hs : stepM 2 (decW (@IE.lst E X)) = ⟨Cx E, ⟨(Gx E).many, (Gx E).latest, (Gx E).thread⟩, ⟨(Go.IntKind.i64.wrap ((Bx E).count + (1 : Int))), (2 : Int), ((Cx E).cell (((((E.l 5002).getD (((0 : Int)).toNat + 0) 0)) % 4294967296)) ((0 : Int))), (0 : Int), (hadF (((Cx E).cell (((((E.l 5002).getD (((0 : Int)).toNat + 0) 0)) % 4294967296)) ((0 : Int)))) ((Bx E).row)), (if inF (((Cx E).cell (((((E.l 5002).getD (((0 : Int)).toNat + 0) 0)) % 4294967296)) ((0 : Int)))) ((Bx E).row) then (afterF (((((E.l 5002).getD (((0 : Int)).toNat + 0) 0)) / 4294967296 % 1073741824)) ((Cx E).l)) else 0), (decide (inF (((Cx E).cell (((((E.l 5002).getD (((0 : Int)).toNat + 0) 0)) % 4294967296)) ((0 : Int)))) ((Bx E).row))), (setF (((Cx E).cell (((((E.l 5002).getD (((0 : Int)).toNat + 0) 0)) % 4294967296)) ((0 : Int)))) ((afterF (((((E.l 5002).getD (((0 : Int)).toNat + 0) 0)) / 4294967296 % 1073741824)) ((Cx E).l))) ((Bx E).row))⟩, ((3 : Int) :: ((0 : Int) :: (((E.l 5000).length : Int) :: (((E.l 5001).length : Int) :: (E.l 5000 ++ E.l 5001)))))⟩ := by
              rw [hX]
              rw [hsub, drop3_nil i1] at k1
              show Swp.stepW _ = _
              simp only [Swp.stepW, Swp.dec_enc]
              simp only [Swp.step, clrG, Swp.split, show ((1 : Int) = 0) = False from by decide, show ((2 : Int) = 0) = False from by decide, show ((2 : Int) = 1) = False from by decide, show ((3 : Int) = 0) = False from by decide, show ((3 : Int) = 1) = False from by decide, show ((3 : Int) = 2) = False from by decide, if_true, if_false, List.length_nil, List.nil_append, Int.natCast_zero, load_old, ← split_nil, show wI (0 + 1) = 1 from by decide, if_pos k1]
              refine congrArg (Wd.mk _ _ _) ?_
              (try simp only [hsub, List.drop_eq_nil_iff])
              (try simp only [Swp.enc, load_old, List.append_nil, List.nil_append, List.length_nil, Int.natCast_zero, k1])
              all_goals (first | rfl | simp [Swp.enc])
            exact ⟨_, hQ.2.2.2, Eqv.of (q := ⟨[((.op .add .i64 (.atom 1001) (.lit 1)), (.fn 1200 X)), ((.lit 2), (.fn 1201 X)), (a_step_16, (.fn 1202 X)), ((.lit 0), (.fn 1203 X)), ((.fn 10 (.consL a_step_16 (.latom 1000))), (.fn 1204 X)), ((.fn 14 (.consL a_step_9 (.consL a_step_16 (.latom 1000)))), (.fn 1205 X)), ((.atom 1050), (.fn 1207 X)), ((.atom 1051), (.fn 1208 X))], [(a_step_14, (.consL (.lit 1003) (.fnL 1200 X))), (a_step_26, (.putL (.latom 1000) (.lit 0) (.fnL 1201 X)))], [(a_step_21, (.cmp .neq (.fn 1206 X) (.lit 0)))]⟩) ⟨(cc (sI 2 0 hs rfl) (cc (sI 2 1 hs rfl) (cc (sI 2 2 hs rfl) (cc (sI 2 3 hs rfl) (cc (sI 2 4 hs rfl) (cc (sI 2 5 hs rfl) (cc (sI 2 7 hs rfl) (cc (sI 2 8 hs rfl) nn)))))))), (cc (congrArg (List.cons _) (sL 2 0 hs rfl)) (cc (sP 2 1 hs (by simp only [a_step_26, a_step_16, a_step_9, IE.val, IE.lst, putset, split3, split4]; rfl) (by first | rfl | exact setF_len _ _ _)) nn)), (cc (sD 2 hs (by first | rfl | exact ofP_ne _)) nn)⟩ (by kernel_rfl)⟩
          · skip
            refine ⟨?_, ?_⟩
            · skip
              have k1 : ¬ (((((((E.l 5002).drop ((((((0 : Int)).toNat + ((1 : Int)).toNat * 3 + 0 : Nat)) : Int)).toNat).take (((((((((E.l 5002).length : Int)) / ((3 : Int)))).toNat - ((1 : Int)).toNat : Nat) : Int)).toNat * 3))).length : Int)) / ((3 : Int))) = (0 : Int) := ne_of_beq_false h1
              suffices hc : (decide ((0 : Int) < (((((((E.l 5002).drop ((((((0 : Int)).toNat + ((1 : Int)).toNat * 3 + 0 : Nat)) : Int)).toNat).take (((((((((E.l 5002).length : Int)) / ((3 : Int)))).toNat - ((1 : Int)).toNat : Nat) : Int)).toNat * 3))).length : Int)) / ((3 : Int))))) = true from (by first | exact hc | (simp only [a_step_12, a_step_5, BE.val, IE.val, IE.lst, putset, split3, split4]; exact hc))
              refine Classical.byContradiction fun hn => ?_
              simp only [Bool.not_eq_true, Bool.not_eq_false, Bool.not_eq_true', Bool.not_eq_false', Bool.and_eq_true, Bool.and_eq_false_imp, decide_eq_true_eq, decide_eq_false_iff_not, beq_iff_eq, beq_eq_false_iff_ne, bne_iff_ne, bne_eq_false_iff_eq, ne_eq, Decidable.not_not, not_and, Classical.not_imp] at hn
              (try simp only [hsub, List.length_drop] at hn)
              (try simp only [hsub, List.length_drop] at k1)
              (try simp only [tmod3, Int.toNat_zero, Nat.add_zero] at hn)
              omega
            · skip
              refine ⟨?_, ?_⟩
              · skip
                have k1 : ¬ (((((((E.l 5002).drop ((((((0 : Int)).toNat + ((1 : Int)).toNat * 3 + 0 : Nat)) : Int)).toNat).take (((((((((E.l 5002).length : Int)) / ((3 : Int)))).toNat - ((1 : Int)).toNat : Nat) : Int)).toNat * 3))).length : Int)) / ((3 : Int))) = (0 : Int) := ne_of_beq_false h1
                suffices hc : ((Int.tmod ((((((E.l 5002).drop ((((((0 : Int)).toNat + ((1 : Int)).toNat * 3 + 0 : Nat)) : Int)).toNat).take (((((((((E.l 5002).length : Int)) / ((3 : Int)))).toNat - ((1 : Int)).toNat : Nat) : Int)).toNat * 3))).length : Int)) ((3 : Int))) == (0 : Int)) = true from (by first | exact hc | (simp only [a_step_12, a_step_5, BE.val, IE.val, IE.lst, putset, split3, split4]; exact hc))
                refine Classical.byContradiction fun hn => ?_
                simp only [Bool.not_eq_true, Bool.not_eq_false, Bool.not_eq_true', Bool.not_eq_false', Bool.and_eq_true, Bool.and_eq_false_imp, decide_eq_true_eq, decide_eq_false_iff_not, beq_iff_eq, beq_eq_false_iff_ne, bne_iff_ne, bne_eq_false_iff_eq, ne_eq, Decidable.not_not, not_and, Classical.not_imp] at hn
                (try simp only [hsub, List.length_drop] at hn)
                (try simp only [hsub, List.length_drop] at k1)
                (try simp only [tmod3, Int.toNat_zero, Nat.add_zero] at hn)
                omega
              · skip
                have k1 : ¬ (((((((E.l 5002).drop ((((((0 : Int)).toNat + ((1 : Int)).toNat * 3 + 0 : Nat)) : Int)).toNat).take (((((((((E.l 5002).length : Int)) / ((3 : Int)))).toNat - ((1 : Int)).toNat : Nat) : Int)).toNat * 3))).length : Int)) / ((3 : Int))) = (0 : Int) := ne_of_beq_false h1
                have hs : stepM 2 (decW (@IE.lst E X)) = ⟨Cx E, ⟨(Gx E).many, (Gx E).latest, (Gx E).thread⟩, ⟨(Go.IntKind.i64.wrap ((Bx E).count + (1 : Int))), (2 : Int), ((Cx E).cell (((((E.l 5002).getD (((0 : Int)).toNat + 0) 0)) % 4294967296)) ((0 : Int))), (0 : Int), (hadF (((Cx E).cell (((((E.l 5002).getD (((0 : Int)).toNat + 0) 0)) % 4294967296)) ((0 : Int)))) ((Bx E).row)), (if inF (((Cx E).cell (((((E.l 5002).getD (((0 : Int)).toNat + 0) 0)) % 4294967296)) ((0 : Int)))) ((Bx E).row) then (afterF (((((E.l 5002).getD (((0 : Int)).toNat + 0) 0)) / 4294967296 % 1073741824)) ((Cx E).l)) else 0), (decide (inF (((Cx E).cell (((((E.l 5002).getD (((0 : Int)).toNat + 0) 0)) % 4294967296)) ((0 : Int)))) ((Bx E).row))), (setF (((Cx E).cell (((((E.l 5002).getD (((0 : Int)).toNat + 0) 0)) % 4294967296)) ((0 : Int)))) ((afterF (((((E.l 5002).getD (((0 : Int)).toNat + 0) 0)) / 4294967296 % 1073741824)) ((Cx E).l))) ((Bx E).row))⟩, ((2 : Int) :: ((0 : Int) :: (((E.l 5000).length : Int) :: (((E.l 5001).length : Int) :: (E.l 5000 ++ (E.l 5001 ++ (((E.l 5002).drop ((((((0 : Int)).toNat + ((1 : Int)).toNat * 3 + 0 : Nat)) : Int)).toNat).take (((((((((E.l 5002).length : Int)) / ((3 : Int)))).toNat - ((1 : Int)).toNat : Nat) : Int)).toNat * 3))))))))⟩ := by
                  rw [hX]
                  rw [hsub, drop3_nil i1] at k1
                  show Swp.stepW _ = _
                  simp only [Swp.stepW, Swp.dec_enc]
                  simp only [Swp.step, clrG, Swp.split, show ((1 : Int) = 0) = False from by decide, show ((2 : Int) = 0) = False from by decide, show ((2 : Int) = 1) = False from by decide, show ((3 : Int) = 0) = False from by decide, show ((3 : Int) = 1) = False from by decide, show ((3 : Int) = 2) = False from by decide, if_true, if_false, List.length_nil, List.nil_append, Int.natCast_zero, load_old, ← split_nil, show wI (0 + 1) = 1 from by decide, if_neg k1]
                  refine congrArg (Wd.mk _ _ _) ?_
                  (try simp only [hsub, List.drop_eq_nil_iff])
                  (try simp only [Swp.enc, load_old, List.append_nil, List.nil_append, List.length_nil, Int.natCast_zero])
                  all_goals (first | rfl | simp [Swp.enc])
                exact ⟨_, hQ.2.2.2, Eqv.of (q := ⟨[((.op .add .i64 (.atom 1001) (.lit 1)), (.fn 1200 X)), ((.lit 2), (.fn 1201 X)), (a_step_16, (.fn 1202 X)), ((.lit 0), (.fn 1203 X)), ((.fn 10 (.consL a_step_16 (.latom 1000))), (.fn 1204 X)), ((.fn 14 (.consL a_step_9 (.consL a_step_16 (.latom 1000)))), (.fn 1205 X)), ((.atom 1050), (.fn 1207 X)), ((.atom 1051), (.fn 1208 X))], [((.consL (.lit 1003) (.consL (.lit 2) (.consL (.lit 0) (.consL (.len (.latom 5000)) (.consL (.len (.latom 5001)) (.catL (.latom 5000) (.catL (.latom 5001) a_step_12))))))), (.consL (.lit 1003) (.fnL 1200 X))), (a_step_26, (.putL (.latom 1000) (.lit 0) (.fnL 1201 X)))], [(a_step_21, (.cmp .neq (.fn 1206 X) (.lit 0)))]⟩) ⟨(cc (sI 2 0 hs rfl) (cc (sI 2 1 hs rfl) (cc (sI 2 2 hs rfl) (cc (sI 2 3 hs rfl) (cc (sI 2 4 hs rfl) (cc (sI 2 5 hs rfl) (cc (sI 2 7 hs rfl) (cc (sI 2 8 hs rfl) nn)))))))), (cc (congrArg (List.cons _) (sL 2 0 hs rfl)) (cc (sP 2 1 hs (by simp only [a_step_26, a_step_16, a_step_9, IE.val, IE.lst, putset, split3, split4]; rfl) (by first | rfl | exact setF_len _ _ _)) nn)), (cc (sD 2 hs (by first | rfl | exact ofP_ne _)) nn)⟩ (by kernel_rfl)⟩
def t_step_4 : Tree (SV × Heap Empty) := (.leaf ((.tup []), [(300, (.mach 0 a_step_11)), (198, (.cells 122 [(.b (.int .i64 (.atom 1020))), (.b (.int .i64 (.atom 1021))), (.b (.int .i64 (.atom 1022))), (.b (.int .i64 (.atom 1023))), (.b (.int .i64 (.atom 1024))), (.b (.int .i64 (.atom 1025))), (.b (.int .i64 (.atom 1026))), (.b (.ptr 200 (.lit 0)))] 0)), (200, (.cells 130 [(.b (.sl 202 (.lit 0) (.len (.latom 1000)) (.len (.latom 1000)))), (.b (.int .i64 (.atom 1001))), (.b (.int .i64 (.atom 1061))), (.b (.int .i64 (.atom 1062))), (.b (.int .u64 (.atom 1063))), (.b (.int .u64 (.atom 1064))), (.b (.int .u64 (.atom 1065))), (.b (.bool (.atom 1066)))] 0)), (202, (.row .u64 27 (.latom 1000))), (210, (.cells 105 [(.b (.int .i64 (.atom 1050))), (.b (.int .u64 (.atom 1051))), (.b (.int .i64 (.atom 1052)))] 0))]))
theorem e_step_4 [Env] : (baseG5 53 [p0, m0', g0] [] (((Lay.sweep).getD 4 ⟨0, [], .nilL, []⟩).hp ++ (rest)) 1).bind (foldsL (300 :: namesH (rest)) [.mach (.nm 300) 1003, .drop]) = t_step_4 := by kernel_rfl
theorem p_step_4 (E : Env) (Q : SV × Heap Empty → Prop) (ha : E.l 1100 = @IE.lst E ((Lay.sweep).getD 4 ⟨0, [], .nilL, []⟩).row) (hi : ∀ b ∈ ((Lay.sweep).getD 4 ⟨0, [], .nilL, []⟩).inv, @BE.val E b = true) (hQ : @Tree.holds E _ Q told_step) : @Tree.holds E _ (fun r => ∃ r2, Q r2 ∧ Eqv E r r2) t_step_4 := by
  have ha0 := ha
  have ha : E.l 1100 = (⟨3, 0, E.l 5000, [], []⟩ : Swp).enc := ha0.trans (by simp [Lay.sweep, Lay.row, Lay.li, Lay.ai, Lay.al, IE.lst, IE.val, Swp.enc])
  have hX : decW (@IE.lst E X) = ⟨Cx E, Gx E, Bx E, (⟨3, 0, E.l 5000, [], []⟩ : Swp).enc⟩ := by rw [show decW (@IE.lst E X) = ⟨Cx E, Gx E, Bx E, (E.l 1100)⟩ from decW_eq _ _ _ _ _ _ _ _ _ _ _ _ _ _ _ _ _ _ _]; rw [ha]
  have e0 : E.i 1020 = (Cx E).t := rfl
  have e1 : E.i 1021 = (Cx E).s := rfl
  have hr := right_of hQ.1
  have hr1 : 1 ≤ (Cx E).s ∧ (Cx E).s ≤ 8 := ⟨hr.2.2.1, hr.2.2.2.1⟩
  have hr2 : 1 ≤ (Cx E).t ∧ (Cx E).t ≤ 8 := ⟨hr.1, hr.2.1⟩
  have hS : ((((⟨3, 0, E.l 5000, [], []⟩ : Swp).enc).length : Nat) : Int) ≤ 1000000 := by have q : ((E.l 1100).length : Int) ≤ 1000000 := of_decide_eq_true hQ.2.1; rw [ha] at q; exact q
  simp only [Swp.enc, List.length_cons, List.length_append, List.length_nil] at hS
  have hs : stepM 2 (decW (@IE.lst E X)) = ⟨Cx E, ⟨(Gx E).many, (Gx E).latest, (Gx E).thread⟩, ⟨(Bx E).count, (Bx E).kind, (Bx E).cell, (Bx E).via, (Bx E).old, (Bx E).new, (Bx E).done, (Bx E).row⟩, ((3 : Int) :: ((0 : Int) :: (((E.l 5000).length : Int) :: ((0 : Int) :: E.l 5000))))⟩ := by
    rw [hX]
    show Swp.stepW _ = _
    simp only [Swp.stepW, Swp.dec_enc]
    simp only [Swp.step, clrG, Swp.split, show ((1 : Int) = 0) = False from by decide, show ((2 : Int) = 0) = False from by decide, show ((2 : Int) = 1) = False from by decide, show ((3 : Int) = 0) = False from by decide, show ((3 : Int) = 1) = False from by decide, show ((3 : Int) = 2) = False from by decide, if_true, if_false, List.length_nil, List.nil_append, Int.natCast_zero, load_old, ← split_nil, show wI (0 + 1) = 1 from by decide]
    refine congrArg (Wd.mk _ _ _) ?_
    (try simp only [List.append_nil])
    (try simp only [Swp.enc, load_old, List.append_nil, List.nil_append, List.length_nil, Int.natCast_zero])
    all_goals (first | rfl | simp [Swp.enc])
  exact ⟨_, hQ.2.2.2, Eqv.of (q := ⟨[((.atom 1001), (.fn 1200 X)), ((.atom 1061), (.fn 1201 X)), ((.atom 1062), (.fn 1202 X)), ((.atom 1063), (.fn 1203 X)), ((.atom 1064), (.fn 1204 X)), ((.atom 1065), (.fn 1205 X)), ((.atom 1050), (.fn 1207 X)), ((.atom 1051), (.fn 1208 X))], [(a_step_11, (.consL (.lit 1003) (.fnL 1200 X))), ((.latom 1000), (.putL (.latom 1000) (.lit 0) (.fnL 1201 X)))], [((.atom 1066), (.cmp .neq (.fn 1206 X) (.lit 0)))]⟩) ⟨(cc (sI 2 0 hs rfl) (cc (sI 2 1 hs rfl) (cc (sI 2 2 hs rfl) (cc (sI 2 3 hs rfl) (cc (sI 2 4 hs rfl) (cc (sI 2 5 hs rfl) (cc (sI 2 7 hs rfl) (cc (sI 2 8 hs rfl) nn)))))))), (cc (congrArg (List.cons _) (sL 2 0 hs rfl)) (cc (sP 2 1 hs rfl (by first | rfl | exact setF_len _ _ _)) nn)), (cc (sD 2 hs (by first | rfl | exact ofP_ne _)) nn)⟩ (by kernel_rfl)⟩
def t_step_5 : Tree (SV × Heap Empty) := (.leaf ((.tup []), [(300, (.mach 0 a_step_14)), (198, (.cells 122 [(.b (.int .i64 (.atom 1020))), (.b (.int .i64 (.atom 1021))), (.b (.int .i64 (.atom 1022))), (.b (.int .i64 (.atom 1023))), (.b (.int .i64 (.atom 1024))), (.b (.int .i64 (.atom 1025))), (.b (.int .i64 (.atom 1026))), (.b (.ptr 200 (.lit 0)))] 0)), (200, (.cells 130 [(.b (.sl 202 (.lit 0) (.len (.latom 1000)) (.len (.latom 1000)))), (.b (.int .i64 (.atom 1001))), (.b (.int .i64 (.atom 1061))), (.b (.int .i64 (.atom 1062))), (.b (.int .u64 (.atom 1063))), (.b (.int .u64 (.atom 1064))), (.b (.int .u64 (.atom 1065))), (.b (.bool (.atom 1066)))] 0)), (202, (.row .u64 27 (.latom 1000))), (210, (.cells 105 [(.b (.int .i64 (.atom 1050))), (.b (.int .u64 (.atom 1051))), (.b (.int .i64 (.atom 1052)))] 0))]))
theorem e_step_5 [Env] : (baseG5 53 [p0, m0', g0] [] (((Lay.sweep).getD 5 ⟨0, [], .nilL, []⟩).hp ++ (rest)) 1).bind (foldsL (300 :: namesH (rest)) [.mach (.nm 300) 1003, .drop]) = t_step_5 := by kernel_rfl
theorem p_step_5 (E : Env) (Q : SV × Heap Empty → Prop) (ha : E.l 1100 = @IE.lst E ((Lay.sweep).getD 5 ⟨0, [], .nilL, []⟩).row) (hi : ∀ b ∈ ((Lay.sweep).getD 5 ⟨0, [], .nilL, []⟩).inv, @BE.val E b = true) (hQ : @Tree.holds E _ Q told_step) : @Tree.holds E _ (fun r => ∃ r2, Q r2 ∧ Eqv E r r2) t_step_5 := by
  have ha0 := ha
  have ha : E.l 1100 = (⟨3, 0, E.l 5000, E.l 5001, []⟩ : Swp).enc := ha0.trans (by simp [Lay.sweep, Lay.row, Lay.li, Lay.ai, Lay.al, IE.lst, IE.val, Swp.enc])
  have hX : decW (@IE.lst E X) = ⟨Cx E, Gx E, Bx E, (⟨3, 0, E.l 5000, E.l 5001, []⟩ : Swp).enc⟩ := by rw [show decW (@IE.lst E X) = ⟨Cx E, Gx E, Bx E, (E.l 1100)⟩ from decW_eq _ _ _ _ _ _ _ _ _ _ _ _ _ _ _ _ _ _ _]; rw [ha]
  have e0 : E.i 1020 = (Cx E).t := rfl
  have e1 : E.i 1021 = (Cx E).s := rfl
  have hr := right_of hQ.1
  have hr1 : 1 ≤ (Cx E).s ∧ (Cx E).s ≤ 8 := ⟨hr.2.2.1, hr.2.2.2.1⟩
  have hr2 : 1 ≤ (Cx E).t ∧ (Cx E).t ≤ 8 := ⟨hr.1, hr.2.1⟩
  have hS : ((((⟨3, 0, E.l 5000, E.l 5001, []⟩ : Swp).enc).length : Nat) : Int) ≤ 1000000 := by have q : ((E.l 1100).length : Int) ≤ 1000000 := of_decide_eq_true hQ.2.1; rw [ha] at q; exact q
  simp only [Swp.enc, List.length_cons, List.length_append, List.length_nil] at hS
  have hs : stepM 2 (decW (@IE.lst E X)) = ⟨Cx E, ⟨(Gx E).many, (Gx E).latest, (Gx E).thread⟩, ⟨(Bx E).count, (Bx E).kind, (Bx E).cell, (Bx E).via, (Bx E).old, (Bx E).new, (Bx E).done, (Bx E).row⟩, ((3 : Int) :: ((0 : Int) :: (((E.l 5000).length : Int) :: (((E.l 5001).length : Int) :: (E.l 5000 ++ E.l 5001)))))⟩ := by
    rw [hX]
    show Swp.stepW _ = _
    simp only [Swp.stepW, Swp.dec_enc]
    simp only [Swp.step, clrG, Swp.split, show ((1 : Int) = 0) = False from by decide, show ((2 : Int) = 0) = False from by decide, show ((2 : Int) = 1) = False from by decide, show ((3 : Int) = 0) = False from by decide, show ((3 : Int) = 1) = False from by decide, show ((3 : Int) = 2) = False from by decide, if_true, if_false, List.length_nil, List.nil_append, Int.natCast_zero, load_old, ← split_nil, show wI (0 + 1) = 1 from by decide]
    refine congrArg (Wd.mk _ _ _) ?_
    (try simp only [List.append_nil])
    (try simp only [Swp.enc, load_old, List.append_nil, List.nil_append, List.length_nil, Int.natCast_zero])
    all_goals (first | rfl | simp [Swp.enc])
  exact ⟨_, hQ.2.2.2, Eqv.of (q := ⟨[((.atom 1001), (.fn 1200 X)), ((.atom 1061), (.fn 1201 X)), ((.atom 1062), (.fn 1202 X)), ((.atom 1063), (.fn 1203 X)), ((.atom 1064), (.fn 1204 X)), ((.atom 1065), (.fn 1205 X)), ((.atom 1050), (.fn 1207 X)), ((.atom 1051), (.fn 1208 X))], [(a_step_14, (.consL (.lit 1003) (.fnL 1200 X))), ((.latom 1000), (.putL (.latom 1000) (.lit 0) (.fnL 1201 X)))], [((.atom 1066), (.cmp .neq (.fn 1206 X) (.lit 0)))]⟩) ⟨(cc (sI 2 0 hs rfl) (cc (sI 2 1 hs rfl) (cc (sI 2 2 hs rfl) (cc (sI 2 3 hs rfl) (cc (sI 2 4 hs rfl) (cc (sI 2 5 hs rfl) (cc (sI 2 7 hs rfl) (cc (sI 2 8 hs rfl) nn)))))))), (cc (congrArg (List.cons _) (sL 2 0 hs rfl)) (cc (sP 2 1 hs rfl (by first | rfl | exact setF_len _ _ _)) nn)), (cc (sD 2 hs (by first | rfl | exact ofP_ne _)) nn)⟩ (by kernel_rfl)⟩
def s_step : Summ := ⟨53, [p0, m0', g0], (300, .mach 0 (.consL (.lit 1003) (.latom 1100))) :: rest, told_step⟩
theorem ok_step : s_step.ok Try.prog := by
  refine Summ.mach (c := @baseG5) @baseG5_ok (t' := told_step) [.mach (.nm 300) 1003, .drop] (Bk.enters_of Try.func53 (by kernel_rfl)) (by decide) (by kernel_rfl) fun sh hs => ?_
  have hs : sh ∈ Lay.sweep := hs
  simp only [Lay.sweep, List.mem_cons, List.not_mem_nil, or_false] at hs
  rcases hs with rfl | rfl | rfl | rfl | rfl | rfl
  · exact ⟨by kernel_rfl, _, @e_step_0, p_step_0⟩
  · exact ⟨by kernel_rfl, _, @e_step_1, p_step_1⟩
  · exact ⟨by kernel_rfl, _, @e_step_2, p_step_2⟩
  · exact ⟨by kernel_rfl, _, @e_step_3, p_step_3⟩
  · exact ⟨by kernel_rfl, _, @e_step_4, p_step_4⟩
  · exact ⟨by kernel_rfl, _, @e_step_5, p_step_5⟩
def sums : List Summ := [s_new, s_done, s_kept, s_seen, s_step]
theorem sums_ok : ∀ σ ∈ sums, σ.ok Try.prog := Bk.cc ok_new (Bk.cc ok_done (Bk.cc ok_kept (Bk.cc ok_seen (Bk.cc ok_step (Bk.nn)))))
end Sw
def sumsS : List Summ := Sw.sums ++ sumsG5
theorem sumsS_ok : ∀ σ ∈ sumsS, σ.ok Try.prog := fun σ h => (List.mem_append.1 h).elim (Sw.sums_ok σ) (sumsG5_ok σ)
noncomputable def baseS [Env] : CallF Empty := callF Try.prog (withS sumsS sums3) (extraG Try.prog) noL 100 50
theorem baseS_ok [Env] : CallOk Try.prog baseS := callF_ok ⟨mixed_ok, (withS_ok sumsS_ok sums3_ok).2, names_ok, (withS_ok sumsS_ok sums3_ok).1, extraG_ok _, fun _ _ _ _ _ _ _ _ _ _ _ _ _ _ _ _ h => (by cases h)⟩ 100 50
end Go.Proofs.Ytafemlljemhkhaa.Sx
