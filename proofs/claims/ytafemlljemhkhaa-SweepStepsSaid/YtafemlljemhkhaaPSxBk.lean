import Derived.Test.YtafemlljemhkhaaPSxEqq
import Derived.Test.YtafemlljemhkhaaPSxUw
namespace Go.Proofs.Ytafemlljemhkhaa.Sx
open Go
set_option linter.unusedSectionVars false
set_option linter.unusedVariables false
set_option linter.unusedSimpArgs false
set_option maxRecDepth 1000000
namespace Bk
def xi (i : Nat) : SC := .b (.int .i64 (.atom i))
def xu (i : Nat) : SC := .b (.int .u64 (.atom i))
def uk : SC := .b .unk
def wi (i : Nat) : SV := .w (.one (xi i))
def wu (i : Nat) : SV := .w (.one (xu i))
def R : IE := .latom 1000
def hp : Heap Empty := [(200, .cells 130 [.b (.sl 202 (.lit 0) (.len R) (.len R)),xi 1001,uk,uk,uk,uk,uk,uk] 0),(202, .row .u64 27 R)]
def hr : Heap Empty := [(202, .row .u64 27 R)]
def b0 : SV := .w (.one (.b (.ptr 200 (.lit 0))))
def r0 : SV := .w (.agg [.b (.isl 202 (.lit 0) (.len R)),xi 1001,uk,uk,uk,uk,uk,uk])
def ca : IE := .atom 1010
def a2 : IE := .atom 1012
def a3 : IE := .atom 1013
def cR : IE := .consL ca R
def fHad : IE := .fn 10 cR
def fIn : BE := .cmp .neq (.fn 12 cR) (.lit 0)
def fAt : IE := .fn 13 cR
def put1 (v : IE) : IE := .putL R fAt (.consL v .nilL)
def nS : IE := .fn 14 (.consL a2 cR)
def nW : IE := .fn 15 (.consL a2 (.consL a3 cR))
def dW : BE := .cmp .neq (.fn 16 (.consL a2 cR)) (.lit 0)
def chS : BE := .cmp .neq (.fn 18 (.consL a2 cR)) (.lit 0)
def chW : BE := .cmp .neq (.fn 19 (.consL a2 (.consL a3 cR))) (.lit 0)
def cnt : SC := .b (.int .i64 (.op .add .i64 (.atom 1001) (.lit 1)))
def ru (e : IE) : SV := .w (.one (.b (.int .u64 e)))
def rb (d : BE) : SV := .w (.one (.b (.bool d)))
def hSame (row : IE) : Heap Empty := [(202, .row .u64 27 row)]
def hNew (nm : Nat) (row : IE) : Heap Empty := [(nm, .row .u64 27 row),(202, .row .u64 27 R)]
def short (c : BE) (t : Tree (SV × Heap Empty)) : Tree (SV × Heap Empty) := .req (.cmp .leq (.len R) (.lit 31274997412295)) t
section
variable [E : Env]
theorem v_had : fHad.val = hadF (Env.i 1010) (Env.l 1000) := rfl
theorem v_in : fIn.val = decide (inF (Env.i 1010) (Env.l 1000)) := by
  have h0 : fIn.val = (ofP (inF (Env.i 1010) (Env.l 1000)) != 0) := rfl
  rw [h0,ofP_ne]
theorem v_at : fAt.val = if inF (Env.i 1010) (Env.l 1000) then Env.i 1010 else (Env.l 1000).length := rfl
theorem v_nS : nS.val = if inF (Env.i 1010) (Env.l 1000) then Env.i 1012 else 0 := rfl
theorem v_nW : nW.val = if inF (Env.i 1010) (Env.l 1000) then (if hadF (Env.i 1010) (Env.l 1000) = Env.i 1012 then Env.i 1013 else hadF (Env.i 1010) (Env.l 1000)) else 0 := rfl
theorem v_dW : dW.val = decide (inF (Env.i 1010) (Env.l 1000) ∧ hadF (Env.i 1010) (Env.l 1000) = Env.i 1012) := by
  have h0 : dW.val = (ofP (inF (Env.i 1010) (Env.l 1000) ∧ hadF (Env.i 1010) (Env.l 1000) = Env.i 1012) != 0) := rfl
  rw [h0,ofP_ne]
theorem v_chS : chS.val = decide (inF (Env.i 1010) (Env.l 1000) ∧ Env.i 1012 ≠ hadF (Env.i 1010) (Env.l 1000)) := by
  have h0 : chS.val = (ofP (inF (Env.i 1010) (Env.l 1000) ∧ Env.i 1012 ≠ hadF (Env.i 1010) (Env.l 1000)) != 0) := rfl
  rw [h0,ofP_ne]
theorem v_chW : chW.val = decide (inF (Env.i 1010) (Env.l 1000) ∧ hadF (Env.i 1010) (Env.l 1000) = Env.i 1012 ∧ Env.i 1013 ≠ hadF (Env.i 1010) (Env.l 1000)) := by
  have h0 : chW.val = (ofP (inF (Env.i 1010) (Env.l 1000) ∧ hadF (Env.i 1010) (Env.l 1000) = Env.i 1012 ∧ Env.i 1013 ≠ hadF (Env.i 1010) (Env.l 1000)) != 0) := rfl
  rw [h0,ofP_ne]
theorem l_put (v : IE) : (put1 v).lst = if inF (Env.i 1010) (Env.l 1000) then (Env.l 1000).set (Env.i 1010).toNat v.val else Env.l 1000 := by
  show writeL (Env.l 1000) fAt.val.toNat [v.val] = _
  rw [v_at]
  simp only [writeL]
  by_cases h : inF (Env.i 1010) (Env.l 1000)
  · rw [if_pos h,if_pos h]
  · rw [if_neg h, if_neg h]
    exact List.set_eq_of_length_le (by simp)
def gt : IE := .get R (.at_ (.lit 0) ca 1 0) 0
theorem v_gt (h : inF (Env.i 1010) (Env.l 1000)) : gt.val = hadF (Env.i 1010) (Env.l 1000) := by
  unfold hadF
  rw [if_pos h]
  show (Env.l 1000).getD (((0 : Int).toNat + (Env.i 1010).toNat * 1 + 0 : Nat) + 0 : Nat) 0 = _
  simp
theorem set_had (h : inF (Env.i 1010) (Env.l 1000)) : (Env.l 1000).set (Env.i 1010).toNat (hadF (Env.i 1010) (Env.l 1000)) = Env.l 1000 := by
  unfold hadF
  rw [if_pos h]
  have := h.2
  have h2 : (Env.i 1010).toNat < (Env.l 1000).length := by have := h.1; omega
  rw [List.getD_eq_getElem?_getD,List.getElem?_eq_getElem h2,Option.getD_some,List.set_getElem_self]
end
def ge : BE := .cmp .geq ca (.lit 0)
def lt : BE := .cmp .lss ca (.len R)
def iin (x y : IE) : IE := .ite ge.toI (.ite lt.toI x y) y
def din : BE := .and ge lt
def had0 : IE := iin gt (.lit 0)
def at0 : IE := .at_ (.lit 0) ca 1 0
def putG (v : IE) : IE := .putL R at0 (.consL v .nilL)
def lastX (k : Int) (o n : IE) (d : BE) : List SC := [cnt, .b (.int .i64 (.lit k)),xi 1010,xu 1011, .b (.int .u64 o), .b (.int .u64 n), .b (.bool d)]
def hpX (k : Int) (o n : IE) (d : BE) (row : IE) : Heap Empty := [(200, .cells 130 (.b (.sl 202 (.lit 0) (.len R) (.len R)) :: lastX k o n d) 0),(202, .row .u64 27 row)]
def w0 : IE := .ite (.cmpI .neq gt a2) gt a3
def dw0 : BE := .and ge (.and lt (.not (.cmp .neq gt a2)))
def s0 : IE := .op .add .u64 gt a2
theorem e_pL [Env] : base 72 [b0,wi 1010,wu 1011] [] hp 1 = .leaf (ru had0,hpX 1 had0 had0 din R) := by kernel_rfl
theorem e_pS [Env] : base 78 [b0,wi 1010,wu 1011,wu 1012] [] hp 1 = .leaf (.tup [],hpX 2 had0 (iin a2 (.lit 0)) din (iin (putG a2) R)) := by kernel_rfl
theorem e_pW [Env] : base 132 [b0,wi 1010,wu 1011,wu 1012,wu 1013] [] hp 1 = .leaf (rb dw0,hpX 3 had0 (iin w0 (.lit 0)) dw0 (iin (putG w0) R)) := by kernel_rfl
def bkX (nm : Nat) (k : Int) (o n : IE) (d : BE) : List SC := .b (.isl nm (.lit 0) (.len R)) :: lastX k o n d
def big : BE := .not (.cmp .leq (.nat (.len R)) (.lit 31274997412295))
def ch0 (v : IE) : BE := .cmp .neq v gt
def eq0 : BE := .cmp .eql gt a2
def nmS : Nat := 17181442188
def nmW : Nat := 17181966476
theorem e_rL [Env] : base 115 [r0,wi 1010,wu 1011] [] hr 1 = .leaf (.tup [.agg (bkX 202 1 had0 had0 din), .one (.b (.int .u64 had0))],hr) := by kernel_rfl
theorem e_rS [Env] : base 114 [r0, wi 1010, wu 1011, wu 1012] [] hr 1 =
  .req (.not (.and ge (.and lt (.and (ch0 a2) big)))) (.br ge (.br lt (.br (ch0 a2) (.leaf (.w (.agg (bkX nmS 2 gt a2 (.lit true))),hNew nmS (putG a2))) (.leaf (.w (.agg (bkX 202 2 gt a2 (.lit true))),hr))) (.leaf (.w (.agg (bkX 202 2 (.lit 0) (.lit 0) (.lit false))),hr))) (.leaf (.w (.agg (bkX 202 2 (.lit 0) (.lit 0) (.lit false))),hr))) := by kernel_rfl
theorem e_rW [Env] : base 117 [r0, wi 1010, wu 1011, wu 1012, wu 1013] [] hr 1 =
  .req (.not (.and ge (.and lt (.and eq0 (.and (ch0 a3) big))))) (.br ge (.br lt (.br eq0 (.br (ch0 a3) (.leaf (.tup [.agg (bkX nmW 3 gt a3 eq0), .one (.b (.bool eq0))], hNew nmW (putG a3))) (.leaf (.tup [.agg (bkX 202 3 gt a3 eq0), .one (.b (.bool eq0))], hr)))
    (.leaf (.tup [.agg (bkX 202 3 gt gt eq0), .one (.b (.bool eq0))],hr))) (.leaf (.tup [.agg (bkX 202 3 (.lit 0) (.lit 0) (.lit false)), .one (.b (.bool (.lit false)))],hr))) (.leaf (.tup [.agg (bkX 202 3 (.lit 0) (.lit 0) (.lit false)), .one (.b (.bool (.lit false)))],hr))) := by kernel_rfl
section
variable [E : Env]
theorem ge_val : ge.val = decide (0 ≤ Env.i 1010) := rfl
theorem lt_val : lt.val = decide (Env.i 1010 < (Env.l 1000).length) := rfl
theorem iin_val (x y : IE) : (iin x y).val = if inF (Env.i 1010) (Env.l 1000) then x.val else y.val := by
  unfold iin
  simp only [IE.val,BE.toI_val,ge_val,lt_val,iteI]
  by_cases h1 : 0 ≤ Env.i 1010 <;> by_cases h2 : Env.i 1010 < (Env.l 1000).length <;> simp [inF,h1,h2,ofB]
theorem iin_lst (x y : IE) : (iin x y).lst = if inF (Env.i 1010) (Env.l 1000) then x.lst else y.lst := by
  unfold iin
  simp only [IE.lst,BE.toI_val,ge_val,lt_val,iteI]
  by_cases h1 : 0 ≤ Env.i 1010 <;> by_cases h2 : Env.i 1010 < (Env.l 1000).length <;> simp [inF,h1,h2,ofB]
theorem din_val : din.val = decide (inF (Env.i 1010) (Env.l 1000)) := by
  show (ge.val && lt.val) = _
  rw [ge_val,lt_val]
  by_cases h1 : 0 ≤ Env.i 1010 <;> by_cases h2 : Env.i 1010 < (Env.l 1000).length <;> simp [inF,h1,h2]
theorem had0_val : had0.val = fHad.val := by
  rw [had0,iin_val,v_had]
  by_cases h : inF (Env.i 1010) (Env.l 1000)
  · rw [if_pos h,v_gt h]
  · rw [if_neg h]; unfold hadF; rw [if_neg h]; rfl
theorem putG_lst (v : IE) (h : inF (Env.i 1010) (Env.l 1000)) : (putG v).lst = (Env.l 1000).set (Env.i 1010).toNat v.val := by
  show writeL (Env.l 1000) ((((0 : Int).toNat + (Env.i 1010).toNat * 1 + 0 : Nat) : Int)).toNat [v.val] = _
  simp only [writeL]
  congr 1
  simp
  omega
theorem iinPut (v v' : IE) (h : inF (Env.i 1010) (Env.l 1000) → v.val = v'.val) : (iin (putG v) R).lst = (put1 v').lst := by
  rw [iin_lst,l_put]
  by_cases hi : inF (Env.i 1010) (Env.l 1000)
  · rw [if_pos hi,if_pos hi,putG_lst _ hi,h hi]
  · rw [if_neg hi,if_neg hi]; rfl
theorem iinNew (v v' : IE) (h : inF (Env.i 1010) (Env.l 1000) → v.val = v'.val) (h2 : ¬ inF (Env.i 1010) (Env.l 1000) → v'.val = 0) : (iin v (.lit 0)).val = v'.val := by
  rw [iin_val]
  by_cases hi : inF (Env.i 1010) (Env.l 1000)
  · rw [if_pos hi,h hi]
  · rw [if_neg hi,h2 hi]; rfl
theorem gt0 (h : inF (Env.i 1010) (Env.l 1000)) : gt.val = fHad.val := v_gt h
theorem had_out (h : ¬ inF (Env.i 1010) (Env.l 1000)) : fHad.val = 0 := by rw [v_had]; unfold hadF; rw [if_neg h]
theorem w0_val (h : inF (Env.i 1010) (Env.l 1000)) : w0.val = nW.val := by
  rw [v_nW,if_pos h]
  show iteI (ofB (cmpVal .neq gt.val (Env.i 1012))) gt.val (Env.i 1013) = _
  rw [v_gt h]
  by_cases e : hadF (Env.i 1010) (Env.l 1000) = Env.i 1012 <;> simp [cmpVal,ofB,iteI,e]
theorem dw0_val : dw0.val = dW.val := by
  rw [v_dW]
  show (ge.val && (lt.val && !(cmpVal .neq gt.val (Env.i 1012)))) = _
  rw [ge_val,lt_val]
  by_cases hi : inF (Env.i 1010) (Env.l 1000)
  · rw [v_gt hi]
    have h1 := hi.1
    have h2 := hi.2
    by_cases e : hadF (Env.i 1010) (Env.l 1000) = Env.i 1012 <;> simp [cmpVal,h1,h2,e,hi]
  · have : ¬ (0 ≤ Env.i 1010 ∧ Env.i 1010 < (Env.l 1000).length) := hi
    by_cases h1 : 0 ≤ Env.i 1010
    · have h2 : ¬ Env.i 1010 < (Env.l 1000).length := fun h => this ⟨h1, h⟩
      simp [hi,h1,h2]
    · simp [hi,h1]
theorem nS_in (h : inF (Env.i 1010) (Env.l 1000)) : a2.val = nS.val := by rw [v_nS,if_pos h]; rfl
theorem nS_out (h : ¬ inF (Env.i 1010) (Env.l 1000)) : nS.val = 0 := by rw [v_nS,if_neg h]
theorem nW_out (h : ¬ inF (Env.i 1010) (Env.l 1000)) : nW.val = 0 := by rw [v_nW,if_neg h]
theorem inF_of (h1 : ge.val = true) (h2 : lt.val = true) : inF (Env.i 1010) (Env.l 1000) := ⟨of_decide_eq_true h1,of_decide_eq_true h2⟩
theorem out_lt (h2 : lt.val = false) : ¬ inF (Env.i 1010) (Env.l 1000) := fun h => of_decide_eq_false h2 h.2
theorem out_ge (h2 : ge.val = false) : ¬ inF (Env.i 1010) (Env.l 1000) := fun h => of_decide_eq_false h2 h.1
theorem in_true (h : inF (Env.i 1010) (Env.l 1000)) : (BE.lit true).val = fIn.val := by rw [v_in,decide_eq_true h]; rfl
theorem in_false (h : ¬ inF (Env.i 1010) (Env.l 1000)) : (BE.lit false).val = fIn.val := by rw [v_in,decide_eq_false h]; rfl
theorem put_out (v : IE) (h : ¬ inF (Env.i 1010) (Env.l 1000)) : R.lst = (put1 v).lst := by rw [l_put,if_neg h]; rfl
theorem put_same (v : IE) (h : inF (Env.i 1010) (Env.l 1000)) (hv : v.val = hadF (Env.i 1010) (Env.l 1000)) : R.lst = (put1 v).lst := by rw [l_put,if_pos h,hv,set_had h]; rfl
theorem put_in (v v' : IE) (h : inF (Env.i 1010) (Env.l 1000)) (hv : v.val = v'.val) : (putG v).lst = (put1 v').lst := by rw [l_put,if_pos h,putG_lst _ h,hv]
theorem req_ok (a b c : BE) (h : (BE.cmp .leq (.len R) (.lit 31274997412295)).val = true) : ∀ d : BE, d.val = false → (BE.not (.and a (.and b (.and c d)))).val = true := by
  intro d hd
  show (!(a.val && (b.val && (c.val && d.val)))) = true
  rw [hd]; simp
theorem big_false (h : (BE.cmp .leq (.len R) (.lit 31274997412295)).val = true) : big.val = false := by
  have h' : ((Env.l 1000).length : Int) ≤ 31274997412295 := of_decide_eq_true h
  show (!(decide ((((Env.l 1000).length : Int).toNat : Int) ≤ 31274997412295))) = false
  rw [decide_eq_true (by omega)]; rfl
theorem ch0_val (v : IE) (h : inF (Env.i 1010) (Env.l 1000)) : (ch0 v).val = decide (v.val ≠ hadF (Env.i 1010) (Env.l 1000)) := by
  show (v.val != gt.val) = _
  rw [v_gt h]
  by_cases e : v.val = hadF (Env.i 1010) (Env.l 1000) <;> simp [e]
theorem eq0_val (h : inF (Env.i 1010) (Env.l 1000)) : eq0.val = dW.val := by
  rw [v_dW]
  show (gt.val == Env.i 1012) = _
  rw [v_gt h]
  by_cases e : hadF (Env.i 1010) (Env.l 1000) = Env.i 1012 <;> simp [e,h]
end
theorem nn {α : Type} {P : α → Prop} : ∀ p ∈ ([] : List α),P p := fun _ h => by cases h
theorem cc {α : Type} {P : α → Prop} {a : α} {l : List α} (h : P a) (t : ∀ p ∈ l,P p) : ∀ p ∈ a :: l,P p := List.forall_mem_cons.2 ⟨h,t⟩
theorem enters_of {g : Nat} {f : Func} (h : Try.prog.funcs[g]? = some f) (hb : f.body.isNone = false) : enters Try.prog g := ⟨f,h,names_ok _ _ h,hb⟩
def tpL : Tree (SV × Heap Empty) := .leaf (ru fHad,hpX 1 fHad fHad fIn R)
def tpS : Tree (SV × Heap Empty) := .leaf (.tup [],hpX 2 fHad nS fIn (put1 a2))
def tpW : Tree (SV × Heap Empty) := .leaf (rb dW,hpX 3 fHad nW dW (put1 nW))
def sp (g : Nat) (n : Nat) (t : Tree (SV × Heap Empty)) : Summ := ⟨g, [b0,wi 1010,wu 1011,wu 1012,wu 1013].take n,hp,t⟩
theorem pL_ok : (sp 72 3 tpL).ok Try.prog :=
  Summ.conv (Summ.of (c := @base) @base_ok (enters_of Try.func72 (by kernel_rfl)) @e_pL) fun E K hK =>
    ⟨_,hK,Eqv.of (q := ⟨[(had0,fHad)], [], [(din,fIn)]⟩) ⟨cc had0_val nn,nn,cc (by rw [v_in]; exact din_val) nn⟩ (by kernel_rfl)⟩
theorem pS_ok : (sp 78 4 tpS).ok Try.prog :=
  Summ.conv (Summ.of (c := @base) @base_ok (enters_of Try.func78 (by kernel_rfl)) @e_pS) fun E K hK =>
    ⟨_,hK,Eqv.of (q := ⟨[(had0,fHad),(iin a2 (.lit 0),nS)], [(iin (putG a2) R,put1 a2)], [(din,fIn)]⟩) ⟨cc had0_val (cc (iinNew _ _ nS_in nS_out) nn),cc (iinPut _ _ fun _ => rfl) nn,cc (by rw [v_in]; exact din_val) nn⟩ (by kernel_rfl)⟩
theorem pW_ok : (sp 132 5 tpW).ok Try.prog :=
  Summ.conv (Summ.of (c := @base) @base_ok (enters_of Try.func132 (by kernel_rfl)) @e_pW) fun E K hK =>
    ⟨_,hK,Eqv.of (q := ⟨[(had0,fHad),(iin w0 (.lit 0),nW)], [(iin (putG w0) R,put1 nW)], [(dw0,dW)]⟩) ⟨cc had0_val (cc (iinNew _ _ w0_val nW_out) nn),cc (iinPut _ _ w0_val) nn,cc dw0_val nn⟩ (by kernel_rfl)⟩
def trL : Tree (SV × Heap Empty) := .leaf (.tup [.agg (bkX 202 1 fHad fHad fIn), .one (.b (.int .u64 fHad))],hr)
def trS : Tree (SV × Heap Empty) := short fIn (.br chS (.leaf (.w (.agg (bkX nmS 2 fHad nS fIn)),hNew nmS (put1 a2))) (.leaf (.w (.agg (bkX 202 2 fHad nS fIn)),hSame (put1 a2))))
def trW : Tree (SV × Heap Empty) := short fIn (.br chW (.leaf (.tup [.agg (bkX nmW 3 fHad nW dW), .one (.b (.bool dW))],hNew nmW (put1 nW))) (.leaf (.tup [.agg (bkX 202 3 fHad nW dW), .one (.b (.bool dW))],hSame (put1 nW))))
def sr (g : Nat) (n : Nat) (t : Tree (SV × Heap Empty)) : Summ := ⟨g, [r0,wi 1010,wu 1011,wu 1012,wu 1013].take n,hr,t⟩
theorem rL_ok : (sr 115 3 trL).ok Try.prog :=
  Summ.conv (Summ.of (c := @base) @base_ok (enters_of Try.func115 (by kernel_rfl)) @e_rL) fun E K hK =>
    ⟨_,hK,Eqv.of (q := ⟨[(had0,fHad)], [], [(din,fIn)]⟩) ⟨cc had0_val nn,nn,cc (by rw [v_in]; exact din_val) nn⟩ (by kernel_rfl)⟩
theorem rS_ok : (sr 114 4 trS).ok Try.prog :=
  Summ.conv (Summ.of (c := @base) @base_ok (enters_of Try.func114 (by kernel_rfl)) @e_rS) fun E K hK => by
    obtain ⟨hs,h1,h2⟩ := hK
    refine ⟨req_ok ge lt (ch0 a2) hs _ (big_false hs),fun g1 => ⟨fun g2 => ⟨fun g3 => ?_,fun g3 => ?_⟩,fun g2 => ?_⟩,fun g1 => ?_⟩
    · have hi := inF_of g1 g2
      rw [ch0_val _ hi] at g3
      exact ⟨_,h1 (by rw [v_chS]; exact decide_eq_true ⟨hi,of_decide_eq_true g3⟩),Eqv.of (q := ⟨[(gt,fHad),(a2,nS)], [(putG a2,put1 a2)], [(.lit true,fIn)]⟩) ⟨cc (gt0 hi) (cc (nS_in hi) nn),cc (put_in _ _ hi rfl) nn,cc (in_true hi) nn⟩ (by kernel_rfl)⟩
    · have hi := inF_of g1 g2
      rw [ch0_val _ hi] at g3
      have hv : a2.val = hadF (Env.i 1010) (Env.l 1000) := Classical.byContradiction fun h => of_decide_eq_false g3 h
      exact ⟨_,h2 (by rw [v_chS]; exact decide_eq_false fun h => h.2 hv),Eqv.of (q := ⟨[(gt,fHad),(a2,nS)], [(R,put1 a2)], [(.lit true,fIn)]⟩) ⟨cc (gt0 hi) (cc (nS_in hi) nn),cc (put_same _ hi hv) nn,cc (in_true hi) nn⟩ (by kernel_rfl)⟩
    · have hi := out_lt g2
      exact ⟨_,h2 (by rw [v_chS]; exact decide_eq_false fun h => hi h.1),Eqv.of (q := ⟨[(.lit 0,fHad),(.lit 0,nS)], [(R,put1 a2)], [(.lit false,fIn)]⟩) ⟨cc (had_out hi).symm (cc (nS_out hi).symm nn),cc (put_out _ hi) nn,cc (in_false hi) nn⟩ (by kernel_rfl)⟩
    · have hi := out_ge g1
      exact ⟨_,h2 (by rw [v_chS]; exact decide_eq_false fun h => hi h.1),Eqv.of (q := ⟨[(.lit 0,fHad),(.lit 0,nS)], [(R,put1 a2)], [(.lit false,fIn)]⟩) ⟨cc (had_out hi).symm (cc (nS_out hi).symm nn),cc (put_out _ hi) nn,cc (in_false hi) nn⟩ (by kernel_rfl)⟩
theorem dW_out [Env] (h : ¬ inF (Env.i 1010) (Env.l 1000)) : (BE.lit false).val = dW.val := by rw [v_dW,decide_eq_false fun e => h e.1]; rfl
theorem rW_ok : (sr 117 5 trW).ok Try.prog :=
  Summ.conv (Summ.of (c := @base) @base_ok (enters_of Try.func117 (by kernel_rfl)) @e_rW) fun E K hK => by
    obtain ⟨hs,h1,h2⟩ := hK
    refine ⟨?_,fun g1 => ⟨fun g2 => ⟨fun g3 => ⟨fun g4 => ?_,fun g4 => ?_⟩,fun g3 => ?_⟩,fun g2 => ?_⟩,fun g1 => ?_⟩
    · show (!(ge.val && (lt.val && (eq0.val && ((ch0 a3).val && big.val))))) = true
      rw [big_false hs]; simp
    · have hi := inF_of g1 g2
      have heq : hadF (Env.i 1010) (Env.l 1000) = Env.i 1012 := by rw [eq0_val hi,v_dW] at g3; exact (of_decide_eq_true g3).2
      rw [ch0_val _ hi] at g4
      have hn := v_nW (E := E)
      rw [if_pos hi,if_pos heq] at hn
      exact ⟨_,h1 (by rw [v_chW]; exact decide_eq_true ⟨hi,heq,of_decide_eq_true g4⟩),Eqv.of (q := ⟨[(gt,fHad),(a3,nW)], [(putG a3,put1 nW)], [(eq0,dW)]⟩) ⟨cc (gt0 hi) (cc hn.symm nn),cc (put_in _ _ hi hn.symm) nn,cc (eq0_val hi) nn⟩ (by kernel_rfl)⟩
    · have hi := inF_of g1 g2
      have heq : hadF (Env.i 1010) (Env.l 1000) = Env.i 1012 := by rw [eq0_val hi,v_dW] at g3; exact (of_decide_eq_true g3).2
      rw [ch0_val _ hi] at g4
      have hv : a3.val = hadF (Env.i 1010) (Env.l 1000) := Classical.byContradiction fun h => of_decide_eq_false g4 h
      have hn := v_nW (E := E)
      rw [if_pos hi,if_pos heq] at hn
      exact ⟨_,h2 (by rw [v_chW]; exact decide_eq_false fun h => h.2.2 hv),Eqv.of (q := ⟨[(gt,fHad),(a3,nW)], [(R,put1 nW)], [(eq0,dW)]⟩) ⟨cc (gt0 hi) (cc hn.symm nn),cc (put_same _ hi (hn.trans hv)) nn,cc (eq0_val hi) nn⟩ (by kernel_rfl)⟩
    · have hi := inF_of g1 g2
      have heq : ¬ hadF (Env.i 1010) (Env.l 1000) = Env.i 1012 := fun h => by rw [eq0_val hi,v_dW] at g3; exact of_decide_eq_false g3 ⟨hi,h⟩
      have hn := v_nW (E := E)
      rw [if_pos hi,if_neg heq] at hn
      exact ⟨_,h2 (by rw [v_chW]; exact decide_eq_false fun h => heq h.2.1),Eqv.of (q := ⟨[(gt,fHad),(gt,nW)], [(R,put1 nW)], [(eq0,dW)]⟩) ⟨cc (gt0 hi) (cc ((v_gt hi).trans hn.symm) nn),cc (put_same _ hi hn) nn,cc (eq0_val hi) nn⟩ (by kernel_rfl)⟩
    · have hi := out_lt g2
      exact ⟨_,h2 (by rw [v_chW]; exact decide_eq_false fun h => hi h.1),Eqv.of (q := ⟨[(.lit 0,fHad),(.lit 0,nW)], [(R,put1 nW)], [(.lit false,dW)]⟩) ⟨cc (had_out hi).symm (cc (nW_out hi).symm nn),cc (put_out _ hi) nn,cc (dW_out hi) nn⟩ (by kernel_rfl)⟩
    · have hi := out_ge g1
      exact ⟨_,h2 (by rw [v_chW]; exact decide_eq_false fun h => hi h.1),Eqv.of (q := ⟨[(.lit 0,fHad),(.lit 0,nW)], [(R,put1 nW)], [(.lit false,dW)]⟩) ⟨cc (had_out hi).symm (cc (nW_out hi).symm nn),cc (put_out _ hi) nn,cc (dW_out hi) nn⟩ (by kernel_rfl)⟩
def su0 : List Summ := []
theorem su0_ok : ∀ σ ∈ su0, σ.ok Try.prog := nn
def su1 : List Summ := sp 72 3 tpL :: su0
theorem su1_ok : ∀ σ ∈ su1, σ.ok Try.prog := cc pL_ok su0_ok
def su2 : List Summ := sp 78 4 tpS :: su1
theorem su2_ok : ∀ σ ∈ su2, σ.ok Try.prog := cc pS_ok su1_ok
def su3 : List Summ := sp 132 5 tpW :: su2
theorem su3_ok : ∀ σ ∈ su3, σ.ok Try.prog := cc pW_ok su2_ok
def su4 : List Summ := su3
theorem su4_ok : ∀ σ ∈ su4, σ.ok Try.prog := su3_ok
def su5 : List Summ := sr 115 3 trL :: su4
theorem su5_ok : ∀ σ ∈ su5, σ.ok Try.prog := cc rL_ok su4_ok
def su6 : List Summ := sr 114 4 trS :: su5
theorem su6_ok : ∀ σ ∈ su6, σ.ok Try.prog := cc rS_ok su5_ok
def su7 : List Summ := sr 117 5 trW :: su6
theorem su7_ok : ∀ σ ∈ su7, σ.ok Try.prog := cc rW_ok su6_ok
def su8 : List Summ := su7
theorem su8_ok : ∀ σ ∈ su8, σ.ok Try.prog := su7_ok
def sums : List Summ := su8
theorem sums_ok : ∀ σ ∈ sums, σ.ok Try.prog := su8_ok
end Bk
end Go.Proofs.Ytafemlljemhkhaa.Sx
