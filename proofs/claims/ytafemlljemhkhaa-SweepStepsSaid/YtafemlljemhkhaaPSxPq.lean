import Derived.Test.YtafemlljemhkhaaPSxSh
import Derived.Test.YtafemlljemhkhaaPSxCl2
import Derived.Test.YtafemlljemhkhaaPSxFe
namespace Go.Proofs.Ytafemlljemhkhaa.Sx
open Go
set_option linter.unusedSectionVars false
set_option linter.unusedVariables false
set_option linter.unusedSimpArgs false
set_option maxRecDepth 1000000
theorem flat_len (f : Nat → List Int) (hf : ∀ i, (f i).length = 3) : ∀ n : Nat, ((List.range n).flatMap f).length = 3 * n
  | 0 => rfl
  | n + 1 => by
    rw [List.range_succ,List.flatMap_append,List.length_append,flat_len f hf n]
    simp only [List.flatMap_cons,List.flatMap_nil,List.append_nil,hf]
    omega
theorem flat_get (f : Nat → List Int) (hf : ∀ i, (f i).length = 3) : ∀ (n : Nat) (r : List Int) (i j : Nat), i < n → j < 3 → ((List.range n).flatMap f ++ r).getD (3 * i + j) 0 = (f i).getD j 0
  | 0,r,i,j,h,_ => absurd h (Nat.not_lt_zero i)
  | n + 1, r, i, j, h, hj => by
    rw [List.range_succ,List.flatMap_append,List.append_assoc]
    simp only [List.flatMap_cons,List.flatMap_nil,List.append_nil]
    by_cases e : i = n
    · subst e
      rw [List.getD_eq_getElem?_getD,List.getElem?_append_right (by rw [flat_len f hf]; omega),flat_len f hf,List.getElem?_append_left (by rw [hf]; omega),List.getD_eq_getElem?_getD,Nat.add_sub_cancel_left]
    · exact flat_get f hf n (f n ++ r) i j (by omega) hj
theorem setF_upd (c v : Int) (r : List Int) : setF c v r = updF c v r := (updF_eq c v r).symm
theorem setF_len (c v : Int) (r : List Int) : (setF c v r).length = r.length := by rw [setF_upd,length_updF]
theorem setF_same {c v : Int} {r : List Int} (h : ¬ (inF c r ∧ v ≠ hadF c r)) : setF c v r = r := by
  unfold setF
  by_cases hi : inF c r
  · rw [if_pos hi]
    have hv : v = hadF c r := Classical.byContradiction fun q => h ⟨hi,q⟩
    have hl : c.toNat < r.length := by have := hi.1; have := hi.2; omega
    rw [hv,hadF_in hi,List.getD_eq_getElem?_getD,List.getElem?_eq_getElem hl,Option.getD_some,List.set_getElem_self]
  · rw [if_neg hi]
theorem pokeN_len (s : Int) (l r a : List Int) : ∀ n : Nat, (pokeN s l r a n).1.length = r.length
  | 0 => rfl
  | n + 1 => by
    have ih := pokeN_len s l r a n
    simp only [pokeN,pokeS]
    split
    · rw [setF_len]; exact ih
    · exact ih
theorem putAll (r q : List Int) (h : q.length = r.length) : writeL r (0 : Int).toNat q = q :=
  @writeL_all ⟨fun _ => 0,fun _ => [],fun _ _ _ => 0⟩ q r [] h
theorem ofB_01 (b : Bool) : ofB b = 0 ∨ ofB b = 1 := by cases b; exact .inl rfl; exact .inr rfl
theorem ofB_id {x : Int} (h : x = 0 ∨ x = 1) : ofB (x != 0) = x := by rcases h with rfl | rfl <;> rfl
theorem ofP_01 (p : Prop) [Decidable p] : ofP p = 0 ∨ ofP p = 1 := by unfold ofP; split; exact .inr rfl; exact .inl rfl
namespace Pk2
open Bk Sm
def fld : List SC := [xi 1501,xi 1502,xi 1503,xu 1504,xu 1505,xu 1506, .b (.bool (.atom 1507))]
def fld0 : List SC := [xi 1001,xi 1050,xi 1051,xu 1052,xu 1053,xu 1054, .b (.bool (.atom 1055))]
def tabO : SO Empty := .tab [.int .i64, .int .i64, .int .u64] (.atom 1060) (.atom 1061) 2
def rowO (i : Nat) : SO Empty := .row .u64 27 (.latom i)
def bnk (r : Nat) (f : List SC) : SO Empty := .cells 130 (.b (.sl 202 (.lit 0) (.len (.latom r)) (.len (.latom r))) :: f) 0
def pokH : Heap Empty := [(198,mem0),(200,bnk 1000 fld0),(202,rowO 1000),(204,rowO 1000),(3,tabO)]
def docF (sl r : Nat) (f : List SC) : List SC := cfgC ++ .b (.isl sl (.lit 0) (.len (.latom r))) :: f
def pokA : List SV := [m0, .w (.agg (docF 204 1000 fld0)), .w (.one (.b (.isl 3 (.atom 1060) (.atom 1061)))),wi 1062]
def heapE (sl y : Nat) (more : Heap Empty) : Heap Empty := (198,mem0) :: (200,bnk 1510 fld) :: (202,rowO 1510) :: (204,rowO y) :: (3,tabO) :: more
def i0 : SC := .b (.int .i64 (.lit 0))
def u0 : SC := .b (.int .u64 (.lit 0))
def ts : List SV := [.w (.one (.b (.ptr 198 (.lit 0)))), .unk, .unk, .w (.one (.b (.int .i64 (.atom 1062)))), .unk, .w (.one (.b (.ptr 131072 (.lit 0)))), .unk, .unk, .w (.one (.b (.ptr 131074 (.lit 0)))), .unk, .unk, .w (.one (.b (.isl 3 (.atom 1060) (.atom 1061)))), .w (.one (.b (.int .i64 (.nat (.atom 1061))))), .w (.one (.b (.int .i64 (.atom 1500)))), .unk, .unk, .unk, .unk, .unk, .unk, .unk, .unk, .unk, .unk, .unk, .unk, .unk, .unk, .unk, .unk, .unk, .unk, .unk]
def zeroC : List SC := [i0,i0,i0,i0,i0,i0,i0, .b .nils,i0,i0,i0,u0,u0,u0, .b (.bool (.lit false))]
def shape (sl y : Nat) (more : Heap Empty) : SS Empty := ⟨ts,heapE sl y ((131072, .cells 33 (docF sl 1510 fld) 0) :: (131074, .cells 33 (zeroC) 0) :: more),0⟩
def fsC : List BE := [.cmp .leq (.lit 0) (.atom 1500), .cmp .leq (.lit 0) (.atom 1061), .cmp .eql (.nat (.atom 1061)) (.atom 1061), .cmp .leq (.atom 1061) (.lit 30)]
def msC : List (IE × IE) := [(.atom 1061, .atom 1500)]
def cutA : Cut := ⟨[0,1,0,1],shape 204 1510 [],fsC,msC⟩
def cutB : Cut := ⟨[0,1,0,1],shape 131076 1511 [(131076,rowO 1510)],fsC,msC⟩
def cuts : List Cut := [cutA,cutB]
def N : List Nat := [198,200,202,204,3]
def Z : Own := ⟨[1500,1501,1502,1503,1504,1505,1506,1507], [1510,1511]⟩
def XL : IE := .consL (.atom 1062) (.consL (.atom 1061) (.catL (.tabL 2 (.atom 1061) 3) (.consL (.atom 1001) (.consL (.atom 1050) (.consL (.atom 1051) (.consL (.atom 1052) (.consL (.atom 1053) (.consL (.atom 1054) (.consL (.cmpI .neq (.atom 1055) (.lit 0)) (.latom 1000))))))))))
def rowT : IE := .putL (.latom 1000) (.lit 0) (.fnL 1 XL)
def fldT : List (Nat × IE) := [(1501, .fn 40 XL),(1502, .fn 41 XL),(1503, .fn 42 XL),(1504, .fn 43 XL),(1505, .fn 44 XL),(1506, .fn 45 XL),(1507, .fn 46 XL)]
def endA : EndE := ⟨.w (.agg (docF 204 1510 fld)),heapE 204 1510 [],⟨fldT, [(1510,rowT)], []⟩⟩
def endB : EndE := ⟨.w (.agg (docF 131076 1510 fld)),heapE 131076 1511 [(131076,rowO 1510)],⟨fldT, [(1510,rowT),(1511, .latom 1000)], []⟩⟩
def ends : List EndE := [endA,endB]
def ths : Ths := []
theorem ths_ok : ThsOk ths := fun E t h _ => by cases h
noncomputable def root : Code := rootOf Try.f34
def fs0 : List BE := [.cmp .leq (.lit 0) (.atom 1061), .cmp .leq (.atom 1061) (.lit 30), .cmp .eql (.nat (.atom 1061)) (.atom 1061)]
noncomputable def oS [Env] : List Ob := oweStartE ths N Z ends Try.prog Try.f34 root base7 (extraS Try.prog) cuts fs0 pokA pokH
noncomputable def oA [Env] : List Ob := oweAtE ths N Z ends Try.prog Try.f34 root base7 (extraS Try.prog) cuts cutA
noncomputable def oB [Env] : List Ob := oweAtE ths N Z ends Try.prog Try.f34 root base7 (extraS Try.prog) cuts cutB
def f0 (E : Env) : List Int := [E.i 1001,E.i 1050,E.i 1051,E.i 1052,E.i 1053,E.i 1054,ofB (E.i 1055 != 0)]
def pk3 (E : Env) (i : Nat) : List Int := (List.range 3).map fun j => E.t 2 i j
def mL (E : Env) : List Int := (List.range (E.i 1061).toNat).flatMap (pk3 E) ++ (f0 E ++ E.l 1000)
def st (E : Env) (i : Nat) : List Int × List Int × Bool := pokeN (E.i 1062) (mL E) (E.l 1000) (f0 E) i
theorem pk3_len (E : Env) (i : Nat) : (pk3 E i).length = 3 := by unfold pk3; rw [List.length_map,List.length_range]
theorem st_succ (E : Env) {i : Nat} (h : i < (E.i 1061).toNat) : st E (i + 1) = pokeS (E.i 1062) (E.t 2 i 0) (E.t 2 i 1) (E.t 2 i 2) (st E i) := by
  have g0 := flat_get (pk3 E) (pk3_len E) _ (f0 E ++ E.l 1000) i 0 h (by omega)
  have g1 := flat_get (pk3 E) (pk3_len E) _ (f0 E ++ E.l 1000) i 1 h (by omega)
  have g2 := flat_get (pk3 E) (pk3_len E) _ (f0 E ++ E.l 1000) i 2 h (by omega)
  show pokeS (E.i 1062) ((mL E).getD (3 * i) 0) ((mL E).getD (3 * i + 1) 0) ((mL E).getD (3 * i + 2) 0) (st E i) = _
  unfold mL
  rw [← Nat.add_zero (3 * i),g0,Nat.add_zero,g1,g2]
  rfl
theorem poked_st (E : Env) : pokedF (@IE.lst E XL) = st E (E.i 1061).toNat := by
  have hd : (mL E).drop (3 * (E.i 1061).toNat) = f0 E ++ E.l 1000 := by
    unfold mL
    rw [List.drop_append_of_le_length (by rw [flat_len _ (pk3_len E)]; exact Nat.le_refl _),List.drop_of_length_le (by rw [flat_len _ (pk3_len E)]; exact Nat.le_refl _),List.nil_append]
  show pokeN (E.i 1062) (mL E) (((mL E).drop (3 * (E.i 1061).toNat)).drop 7) (((mL E).drop (3 * (E.i 1061).toNat)).take 7) (E.i 1061).toNat = _
  rw [hd]
  rfl
structure At (E0 E : Env) (i : Int) (c : Bool) : Prop where
  i0 : 0 ≤ i
  i1 : i ≤ E0.i 1061
  k : E.i 1061 = E0.i 1061 ∧ E.i 1062 = E0.i 1062 ∧ E.t = E0.t
  n : E0.i 1061 ≤ 30 ∧ ((E0.l 1000).length : Int) ≤ 31274997412295
  r : (st E0 i.toNat).1 = E.l 1510
  f : (st E0 i.toNat).2.1 = [E.i 1501,E.i 1502,E.i 1503,E.i 1504,E.i 1505,E.i 1506,E.i 1507]
  b : E.i 1507 = 0 ∨ E.i 1507 = 1
  cc : (st E0 i.toNat).2.2 = c
  y : c = false → E.l 1510 = E0.l 1000
theorem At.len {E0 E : Env} {i : Int} {c : Bool} (h : At E0 E i c) : ((E.l 1510).length : Int) ≤ 31274997412295 := by
  rw [← h.r]
  have := pokeN_len (E0.i 1062) (mL E0) (E0.l 1000) (f0 E0) i.toNat
  have h2 := h.n.2
  show (((pokeN (E0.i 1062) (mL E0) (E0.l 1000) (f0 E0) i.toNat).1.length : Nat) : Int) ≤ _
  rw [this]; exact h2
theorem At.due {E0 E E' : Env} {i : Int} {c c' : Bool} (h : At E0 E i c) (hlt : i < E0.i 1061) (hd : E.t 2 i.toNat 0 = E.i 1062) (hk : E'.i 1061 = E.i 1061 ∧ E'.i 1062 = E.i 1062 ∧ E'.t = E.t)
    (h1 : E'.i 1501 = IntKind.i64.wrap (E.i 1501 + 1)) (h2 : E'.i 1502 = 2) (h3 : E'.i 1503 = E.t 2 i.toNat 1) (h4 : E'.i 1504 = 0) (h5 : E'.i 1505 = hadF (E.t 2 i.toNat 1) (E.l 1510)) (h6 : E'.i 1506 = if inF (E.t 2 i.toNat 1) (E.l 1510) then E.t 2 i.toNat 2 else 0)
    (h7 : E'.i 1507 = ofB (ofP (inF (E.t 2 i.toNat 1) (E.l 1510)) != 0)) (hl : E'.l 1510 = updF (E.t 2 i.toNat 1) (E.t 2 i.toNat 2) (E.l 1510)) (hc : c' = (c || decide (inF (E.t 2 i.toNat 1) (E.l 1510) ∧ E.t 2 i.toNat 2 ≠ hadF (E.t 2 i.toNat 1) (E.l 1510)))) : At E0 E' (i + 1) c' := by
  have i0 := h.i0
  have e1 : (i + 1).toNat = i.toNat + 1 := by omega
  have hs := st_succ E0 (i := i.toNat) (by omega)
  have kt := h.k.2.2
  have kd : E0.t 2 i.toNat 0 = E0.i 1062 := by rw [← kt, ← h.k.2.1]; exact hd
  have hs2 : st E0 (i.toNat + 1) = (setF (E0.t 2 i.toNat 1) (E0.t 2 i.toNat 2) (st E0 i.toNat).1, [IntKind.i64.wrap ((st E0 i.toNat).2.1.getD 0 0 + 1), 2, E0.t 2 i.toNat 1, 0, hadF (E0.t 2 i.toNat 1) (st E0 i.toNat).1, if inF (E0.t 2 i.toNat 1) (st E0 i.toNat).1 then E0.t 2 i.toNat 2 else 0, ofP (inF (E0.t 2 i.toNat 1) (st E0 i.toNat).1)], (st E0 i.toNat).2.2 || decide (inF (E0.t 2 i.toNat 1) (st E0 i.toNat).1 ∧ E0.t 2 i.toNat 2 ≠ hadF (E0.t 2 i.toNat 1) (st E0 i.toNat).1)) := by
    rw [hs]; unfold pokeS; rw [if_pos kd]
  rw [h.r,h.f,h.cc] at hs2
  rw [kt] at h3 h5 h6 h7 hl hc
  refine ⟨by omega,by omega,⟨hk.1.trans h.k.1,hk.2.1.trans h.k.2.1,hk.2.2.trans kt⟩,h.n, ?_, ?_, ?_, ?_, ?_⟩
  · rw [e1,hs2,hl, ← setF_upd]
  · rw [e1,hs2,h1,h2,h3,h4,h5,h6,h7,ofB_id (ofP_01 _)]; rfl
  · rw [h7]; exact ofB_01 _
  · rw [e1,hs2,hc]
  · intro hf
    rw [hc] at hf
    simp only [Bool.or_eq_false_iff,decide_eq_false_iff_not] at hf
    rw [hl, ← setF_upd,setF_same hf.2]
    exact h.y hf.1
theorem At.not {E0 E E' : Env} {i : Int} {c : Bool} (h : At E0 E i c) (hlt : i < E0.i 1061) (hd : E.t 2 i.toNat 0 ≠ E.i 1062) (hk : E'.i 1061 = E.i 1061 ∧ E'.i 1062 = E.i 1062 ∧ E'.t = E.t)
    (hf : [E'.i 1501,E'.i 1502,E'.i 1503,E'.i 1504,E'.i 1505,E'.i 1506] = [E.i 1501,E.i 1502,E.i 1503,E.i 1504,E.i 1505,E.i 1506]) (h7 : E'.i 1507 = ofB (E.i 1507 != 0)) (hl : E'.l 1510 = E.l 1510) : At E0 E' (i + 1) c := by
  have i0 := h.i0
  have e1 : (i + 1).toNat = i.toNat + 1 := by omega
  have hs := st_succ E0 (i := i.toNat) (by omega)
  have kt := h.k.2.2
  have kd : ¬ E0.t 2 i.toNat 0 = E0.i 1062 := by rw [← kt, ← h.k.2.1]; exact hd
  have hs2 : st E0 (i.toNat + 1) = st E0 i.toNat := by rw [hs]; unfold pokeS; rw [if_neg kd]
  rw [ofB_id h.b] at h7
  simp only [List.cons.injEq,and_true] at hf
  obtain ⟨a1,a2,a3,a4,a5,a6⟩ := hf
  refine ⟨by omega,by omega,⟨hk.1.trans h.k.1,hk.2.1.trans h.k.2.1,hk.2.2.trans kt⟩,h.n, ?_, ?_, ?_, ?_, ?_⟩
  · rw [e1,hs2,hl]; exact h.r
  · rw [e1,hs2,a1,a2,a3,a4,a5,a6,h7]; exact h.f
  · rw [h7]; exact h.b
  · rw [e1,hs2]; exact h.cc
  · rw [hl]; exact h.y
theorem At.same {E0 E E' : Env} {i : Int} {c : Bool} (h : At E0 E i c) (hi : i = E0.i 1061) (hk : E'.i 1061 = E.i 1061 ∧ E'.i 1062 = E.i 1062 ∧ E'.t = E.t)
    (hf : [E'.i 1501,E'.i 1502,E'.i 1503,E'.i 1504,E'.i 1505,E'.i 1506] = [E.i 1501,E.i 1502,E.i 1503,E.i 1504,E.i 1505,E.i 1506]) (h7 : E'.i 1507 = ofB (E.i 1507 != 0)) (hl : E'.l 1510 = E.l 1510) : At E0 E' (E0.i 1061) c := by
  subst hi
  rw [ofB_id h.b] at h7
  simp only [List.cons.injEq,and_true] at hf
  obtain ⟨a1,a2,a3,a4,a5,a6⟩ := hf
  exact ⟨h.i0,h.i1,⟨hk.1.trans h.k.1,hk.2.1.trans h.k.2.1,hk.2.2.trans h.k.2.2⟩,h.n,by rw [hl]; exact h.r,by rw [a1,a2,a3,a4,a5,a6,h7]; exact h.f,by rw [h7]; exact h.b,h.cc,by rw [hl]; exact h.y⟩
def Phi (E0 : Env) : Nat → Env → Prop
  | 0,E => At E0 E (E.i 1500) false
  | 1,E => At E0 E (E.i 1500) true ∧ E.l 1511 = E0.l 1000
  | 100,E => At E0 E (E0.i 1061) false
  | 101,E => At E0 E (E0.i 1061) true ∧ E.l 1511 = E0.l 1000
  | _,_ => False
def vS : List Ob := [(.at_ 0 [(1026,(.atom 1026)),(1025,(.atom 1025)),(1024,(.atom 1024)),(1023,(.atom 1023)),(1022,(.atom 1022)),(1021,(.atom 1021)),(1020,(.atom 1020)),(1507,(.cmpI .neq (.atom 1055) (.lit 0))),(1506,(.atom 1054)),(1505,(.atom 1053)),(1504,(.atom 1052)),(1503,(.atom 1051)),(1502,(.atom 1050)),(1501,(.atom 1001)),(1500,(.lit 0)),(1061,(.atom 1061)),(1060,(.atom 1060)),(1062,(.atom 1062))] [(1510,(.latom 1000))] [])]
theorem eS [Env] : oS = vS := by kernel_rfl
def vA : List Ob := [(.need (.cmp .leq (.len (.latom 1510)) (.lit 31274997412295)) [(.cmp .eql (.tab 2 (.atom 1500) 0) (.atom 1062)),(.and (.cmp .eql (.nat (.atom 1060)) (.nat (.atom 1060))) (.cmp .lss (.nat (.atom 1500)) (.nat (.atom 1061)))),(.cmp .lss (.atom 1500) (.nat (.atom 1061))),(.cmp .geq (.atom 1500) (.lit 0)),(.cmp .lss (.atom 1500) (.nat (.atom 1061)))]),(.less [((.atom 1061),(.atom 1500))] [((.atom 1061),(.op .add .i64 (.atom 1500) (.lit 1)))] [(.cmp .neq (.fn 18 (.consL (.tab 2 (.atom 1500) 2) (.consL (.tab 2 (.atom 1500) 1) (.latom 1510)))) (.lit 0)),(.cmp .leq (.len (.latom 1510)) (.lit 31274997412295)),(.cmp .eql (.tab 2 (.atom 1500) 0) (.atom 1062)),(.and (.cmp .eql (.nat (.atom 1060)) (.nat (.atom 1060))) (.cmp .lss (.nat (.atom 1500)) (.nat (.atom 1061)))),(.cmp .lss (.atom 1500) (.nat (.atom 1061))),(.cmp .geq (.atom 1500) (.lit 0)),(.cmp .lss (.atom 1500) (.nat (.atom 1061)))]),(.need (.cmp .leq (.lit 0) (.op .add .i64 (.atom 1500) (.lit 1))) [(.cmp .neq (.fn 18 (.consL (.tab 2 (.atom 1500) 2) (.consL (.tab 2 (.atom 1500) 1) (.latom 1510)))) (.lit 0)),(.cmp .leq (.len (.latom 1510)) (.lit 31274997412295)),(.cmp .eql (.tab 2 (.atom 1500) 0) (.atom 1062)),(.and (.cmp .eql (.nat (.atom 1060)) (.nat (.atom 1060))) (.cmp .lss (.nat (.atom 1500)) (.nat (.atom 1061)))),(.cmp .lss (.atom 1500) (.nat (.atom 1061))),(.cmp .geq (.atom 1500) (.lit 0)),(.cmp .lss (.atom 1500) (.nat (.atom 1061)))]),(.at_ 1 [(1026,(.atom 1026)),(1025,(.atom 1025)),(1024,(.atom 1024)),(1023,(.atom 1023)),(1022,(.atom 1022)),(1021,(.atom 1021)),(1020,(.atom 1020)),(1507,(.cmpI .neq (.fn 12 (.consL (.tab 2 (.atom 1500) 1) (.latom 1510))) (.lit 0))),(1506,(.fn 14 (.consL (.tab 2 (.atom 1500) 2) (.consL (.tab 2 (.atom 1500) 1) (.latom 1510))))),(1505,(.fn 10 (.consL (.tab 2 (.atom 1500) 1) (.latom 1510)))),(1504,(.lit 0)),(1503,(.tab 2 (.atom 1500) 1)),(1502,(.lit 2)),(1501,(.op .add .i64 (.atom 1501) (.lit 1))),(1500,(.op .add .i64 (.atom 1500) (.lit 1))),(1061,(.atom 1061)),(1060,(.atom 1060)),(1062,(.atom 1062))] [(1510,(.putL (.latom 1510) (.fn 13 (.consL (.tab 2 (.atom 1500) 1) (.latom 1510))) (.consL (.tab 2 (.atom 1500) 2) .nilL))),(1511,(.latom 1510))] [(.cmp .neq (.fn 18 (.consL (.tab 2 (.atom 1500) 2) (.consL (.tab 2 (.atom 1500) 1) (.latom 1510)))) (.lit 0)),(.cmp .leq (.len (.latom 1510)) (.lit 31274997412295)),(.cmp .eql (.tab 2 (.atom 1500) 0) (.atom 1062)),(.and (.cmp .eql (.nat (.atom 1060)) (.nat (.atom 1060))) (.cmp .lss (.nat (.atom 1500)) (.nat (.atom 1061)))),(.cmp .lss (.atom 1500) (.nat (.atom 1061))),(.cmp .geq (.atom 1500) (.lit 0)),(.cmp .lss (.atom 1500) (.nat (.atom 1061)))]),(.less [((.atom 1061),(.atom 1500))] [((.atom 1061),(.op .add .i64 (.atom 1500) (.lit 1)))] [(.cmp .eql (.fn 18 (.consL (.tab 2 (.atom 1500) 2) (.consL (.tab 2 (.atom 1500) 1) (.latom 1510)))) (.lit 0)),(.cmp .leq (.len (.latom 1510)) (.lit 31274997412295)),(.cmp .eql (.tab 2 (.atom 1500) 0) (.atom 1062)),(.and (.cmp .eql (.nat (.atom 1060)) (.nat (.atom 1060))) (.cmp .lss (.nat (.atom 1500)) (.nat (.atom 1061)))),(.cmp .lss (.atom 1500) (.nat (.atom 1061))),(.cmp .geq (.atom 1500) (.lit 0)),(.cmp .lss (.atom 1500) (.nat (.atom 1061)))]),(.need (.cmp .leq (.lit 0) (.op .add .i64 (.atom 1500) (.lit 1))) [(.cmp .eql (.fn 18 (.consL (.tab 2 (.atom 1500) 2) (.consL (.tab 2 (.atom 1500) 1) (.latom 1510)))) (.lit 0)),(.cmp .leq (.len (.latom 1510)) (.lit 31274997412295)),(.cmp .eql (.tab 2 (.atom 1500) 0) (.atom 1062)),(.and (.cmp .eql (.nat (.atom 1060)) (.nat (.atom 1060))) (.cmp .lss (.nat (.atom 1500)) (.nat (.atom 1061)))),(.cmp .lss (.atom 1500) (.nat (.atom 1061))),(.cmp .geq (.atom 1500) (.lit 0)),(.cmp .lss (.atom 1500) (.nat (.atom 1061)))]),(.at_ 0 [(1026,(.atom 1026)),(1025,(.atom 1025)),(1024,(.atom 1024)),(1023,(.atom 1023)),(1022,(.atom 1022)),(1021,(.atom 1021)),(1020,(.atom 1020)),(1507,(.cmpI .neq (.fn 12 (.consL (.tab 2 (.atom 1500) 1) (.latom 1510))) (.lit 0))),(1506,(.fn 14 (.consL (.tab 2 (.atom 1500) 2) (.consL (.tab 2 (.atom 1500) 1) (.latom 1510))))),(1505,(.fn 10 (.consL (.tab 2 (.atom 1500) 1) (.latom 1510)))),(1504,(.lit 0)),(1503,(.tab 2 (.atom 1500) 1)),(1502,(.lit 2)),(1501,(.op .add .i64 (.atom 1501) (.lit 1))),(1500,(.op .add .i64 (.atom 1500) (.lit 1))),(1061,(.atom 1061)),(1060,(.atom 1060)),(1062,(.atom 1062))] [(1510,(.putL (.latom 1510) (.fn 13 (.consL (.tab 2 (.atom 1500) 1) (.latom 1510))) (.consL (.tab 2 (.atom 1500) 2) .nilL)))] [(.cmp .eql (.fn 18 (.consL (.tab 2 (.atom 1500) 2) (.consL (.tab 2 (.atom 1500) 1) (.latom 1510)))) (.lit 0)),(.cmp .leq (.len (.latom 1510)) (.lit 31274997412295)),(.cmp .eql (.tab 2 (.atom 1500) 0) (.atom 1062)),(.and (.cmp .eql (.nat (.atom 1060)) (.nat (.atom 1060))) (.cmp .lss (.nat (.atom 1500)) (.nat (.atom 1061)))),(.cmp .lss (.atom 1500) (.nat (.atom 1061))),(.cmp .geq (.atom 1500) (.lit 0)),(.cmp .lss (.atom 1500) (.nat (.atom 1061)))]),(.less [((.atom 1061),(.atom 1500))] [((.atom 1061),(.op .add .i64 (.atom 1500) (.lit 1)))] [(.cmp .neq (.tab 2 (.atom 1500) 0) (.atom 1062)),(.and (.cmp .eql (.nat (.atom 1060)) (.nat (.atom 1060))) (.cmp .lss (.nat (.atom 1500)) (.nat (.atom 1061)))),(.cmp .lss (.atom 1500) (.nat (.atom 1061))),(.cmp .geq (.atom 1500) (.lit 0)),(.cmp .lss (.atom 1500) (.nat (.atom 1061)))]),(.need (.cmp .leq (.lit 0) (.op .add .i64 (.atom 1500) (.lit 1))) [(.cmp .neq (.tab 2 (.atom 1500) 0) (.atom 1062)),(.and (.cmp .eql (.nat (.atom 1060)) (.nat (.atom 1060))) (.cmp .lss (.nat (.atom 1500)) (.nat (.atom 1061)))),(.cmp .lss (.atom 1500) (.nat (.atom 1061))),(.cmp .geq (.atom 1500) (.lit 0)),(.cmp .lss (.atom 1500) (.nat (.atom 1061)))]),(.at_ 0 [(1026,(.atom 1026)),(1025,(.atom 1025)),(1024,(.atom 1024)),(1023,(.atom 1023)),(1022,(.atom 1022)),(1021,(.atom 1021)),(1020,(.atom 1020)),(1507,(.cmpI .neq (.atom 1507) (.lit 0))),(1506,(.atom 1506)),(1505,(.atom 1505)),(1504,(.atom 1504)),(1503,(.atom 1503)),(1502,(.atom 1502)),(1501,(.atom 1501)),(1500,(.op .add .i64 (.atom 1500) (.lit 1))),(1061,(.atom 1061)),(1060,(.atom 1060)),(1062,(.atom 1062))] [(1510,(.latom 1510))] [(.cmp .neq (.tab 2 (.atom 1500) 0) (.atom 1062)),(.and (.cmp .eql (.nat (.atom 1060)) (.nat (.atom 1060))) (.cmp .lss (.nat (.atom 1500)) (.nat (.atom 1061)))),(.cmp .lss (.atom 1500) (.nat (.atom 1061))),(.cmp .geq (.atom 1500) (.lit 0)),(.cmp .lss (.atom 1500) (.nat (.atom 1061)))]),(.at_ 100 [(1061,(.atom 1061)),(1060,(.atom 1060)),(1507,(.cmpI .neq (.atom 1507) (.lit 0))),(1506,(.atom 1506)),(1505,(.atom 1505)),(1504,(.atom 1504)),(1503,(.atom 1503)),(1502,(.atom 1502)),(1501,(.atom 1501)),(1026,(.atom 1026)),(1025,(.atom 1025)),(1024,(.atom 1024)),(1023,(.atom 1023)),(1022,(.atom 1022)),(1021,(.atom 1021)),(1020,(.atom 1020))] [(1510,(.latom 1510))] [(.cmp .leq (.nat (.atom 1061)) (.atom 1500))])]
theorem eA [Env] : oA = vA := by kernel_rfl
def vB : List Ob := [(.need (.cmp .leq (.len (.latom 1510)) (.lit 31274997412295)) [(.cmp .eql (.tab 2 (.atom 1500) 0) (.atom 1062)),(.and (.cmp .eql (.nat (.atom 1060)) (.nat (.atom 1060))) (.cmp .lss (.nat (.atom 1500)) (.nat (.atom 1061)))),(.cmp .lss (.atom 1500) (.nat (.atom 1061))),(.cmp .geq (.atom 1500) (.lit 0)),(.cmp .lss (.atom 1500) (.nat (.atom 1061)))]),(.less [((.atom 1061),(.atom 1500))] [((.atom 1061),(.op .add .i64 (.atom 1500) (.lit 1)))] [(.cmp .neq (.fn 18 (.consL (.tab 2 (.atom 1500) 2) (.consL (.tab 2 (.atom 1500) 1) (.latom 1510)))) (.lit 0)),(.cmp .leq (.len (.latom 1510)) (.lit 31274997412295)),(.cmp .eql (.tab 2 (.atom 1500) 0) (.atom 1062)),(.and (.cmp .eql (.nat (.atom 1060)) (.nat (.atom 1060))) (.cmp .lss (.nat (.atom 1500)) (.nat (.atom 1061)))),(.cmp .lss (.atom 1500) (.nat (.atom 1061))),(.cmp .geq (.atom 1500) (.lit 0)),(.cmp .lss (.atom 1500) (.nat (.atom 1061)))]),(.need (.cmp .leq (.lit 0) (.op .add .i64 (.atom 1500) (.lit 1))) [(.cmp .neq (.fn 18 (.consL (.tab 2 (.atom 1500) 2) (.consL (.tab 2 (.atom 1500) 1) (.latom 1510)))) (.lit 0)),(.cmp .leq (.len (.latom 1510)) (.lit 31274997412295)),(.cmp .eql (.tab 2 (.atom 1500) 0) (.atom 1062)),(.and (.cmp .eql (.nat (.atom 1060)) (.nat (.atom 1060))) (.cmp .lss (.nat (.atom 1500)) (.nat (.atom 1061)))),(.cmp .lss (.atom 1500) (.nat (.atom 1061))),(.cmp .geq (.atom 1500) (.lit 0)),(.cmp .lss (.atom 1500) (.nat (.atom 1061)))]),(.at_ 1 [(1026,(.atom 1026)),(1025,(.atom 1025)),(1024,(.atom 1024)),(1023,(.atom 1023)),(1022,(.atom 1022)),(1021,(.atom 1021)),(1020,(.atom 1020)),(1507,(.cmpI .neq (.fn 12 (.consL (.tab 2 (.atom 1500) 1) (.latom 1510))) (.lit 0))),(1506,(.fn 14 (.consL (.tab 2 (.atom 1500) 2) (.consL (.tab 2 (.atom 1500) 1) (.latom 1510))))),(1505,(.fn 10 (.consL (.tab 2 (.atom 1500) 1) (.latom 1510)))),(1504,(.lit 0)),(1503,(.tab 2 (.atom 1500) 1)),(1502,(.lit 2)),(1501,(.op .add .i64 (.atom 1501) (.lit 1))),(1500,(.op .add .i64 (.atom 1500) (.lit 1))),(1061,(.atom 1061)),(1060,(.atom 1060)),(1062,(.atom 1062))] [(1510,(.putL (.latom 1510) (.fn 13 (.consL (.tab 2 (.atom 1500) 1) (.latom 1510))) (.consL (.tab 2 (.atom 1500) 2) .nilL))),(1511,(.latom 1511))] [(.cmp .neq (.fn 18 (.consL (.tab 2 (.atom 1500) 2) (.consL (.tab 2 (.atom 1500) 1) (.latom 1510)))) (.lit 0)),(.cmp .leq (.len (.latom 1510)) (.lit 31274997412295)),(.cmp .eql (.tab 2 (.atom 1500) 0) (.atom 1062)),(.and (.cmp .eql (.nat (.atom 1060)) (.nat (.atom 1060))) (.cmp .lss (.nat (.atom 1500)) (.nat (.atom 1061)))),(.cmp .lss (.atom 1500) (.nat (.atom 1061))),(.cmp .geq (.atom 1500) (.lit 0)),(.cmp .lss (.atom 1500) (.nat (.atom 1061)))]),(.less [((.atom 1061),(.atom 1500))] [((.atom 1061),(.op .add .i64 (.atom 1500) (.lit 1)))] [(.cmp .eql (.fn 18 (.consL (.tab 2 (.atom 1500) 2) (.consL (.tab 2 (.atom 1500) 1) (.latom 1510)))) (.lit 0)),(.cmp .leq (.len (.latom 1510)) (.lit 31274997412295)),(.cmp .eql (.tab 2 (.atom 1500) 0) (.atom 1062)),(.and (.cmp .eql (.nat (.atom 1060)) (.nat (.atom 1060))) (.cmp .lss (.nat (.atom 1500)) (.nat (.atom 1061)))),(.cmp .lss (.atom 1500) (.nat (.atom 1061))),(.cmp .geq (.atom 1500) (.lit 0)),(.cmp .lss (.atom 1500) (.nat (.atom 1061)))]),(.need (.cmp .leq (.lit 0) (.op .add .i64 (.atom 1500) (.lit 1))) [(.cmp .eql (.fn 18 (.consL (.tab 2 (.atom 1500) 2) (.consL (.tab 2 (.atom 1500) 1) (.latom 1510)))) (.lit 0)),(.cmp .leq (.len (.latom 1510)) (.lit 31274997412295)),(.cmp .eql (.tab 2 (.atom 1500) 0) (.atom 1062)),(.and (.cmp .eql (.nat (.atom 1060)) (.nat (.atom 1060))) (.cmp .lss (.nat (.atom 1500)) (.nat (.atom 1061)))),(.cmp .lss (.atom 1500) (.nat (.atom 1061))),(.cmp .geq (.atom 1500) (.lit 0)),(.cmp .lss (.atom 1500) (.nat (.atom 1061)))]),(.at_ 1 [(1026,(.atom 1026)),(1025,(.atom 1025)),(1024,(.atom 1024)),(1023,(.atom 1023)),(1022,(.atom 1022)),(1021,(.atom 1021)),(1020,(.atom 1020)),(1507,(.cmpI .neq (.fn 12 (.consL (.tab 2 (.atom 1500) 1) (.latom 1510))) (.lit 0))),(1506,(.fn 14 (.consL (.tab 2 (.atom 1500) 2) (.consL (.tab 2 (.atom 1500) 1) (.latom 1510))))),(1505,(.fn 10 (.consL (.tab 2 (.atom 1500) 1) (.latom 1510)))),(1504,(.lit 0)),(1503,(.tab 2 (.atom 1500) 1)),(1502,(.lit 2)),(1501,(.op .add .i64 (.atom 1501) (.lit 1))),(1500,(.op .add .i64 (.atom 1500) (.lit 1))),(1061,(.atom 1061)),(1060,(.atom 1060)),(1062,(.atom 1062))] [(1510,(.putL (.latom 1510) (.fn 13 (.consL (.tab 2 (.atom 1500) 1) (.latom 1510))) (.consL (.tab 2 (.atom 1500) 2) .nilL))),(1511,(.latom 1511))] [(.cmp .eql (.fn 18 (.consL (.tab 2 (.atom 1500) 2) (.consL (.tab 2 (.atom 1500) 1) (.latom 1510)))) (.lit 0)),(.cmp .leq (.len (.latom 1510)) (.lit 31274997412295)),(.cmp .eql (.tab 2 (.atom 1500) 0) (.atom 1062)),(.and (.cmp .eql (.nat (.atom 1060)) (.nat (.atom 1060))) (.cmp .lss (.nat (.atom 1500)) (.nat (.atom 1061)))),(.cmp .lss (.atom 1500) (.nat (.atom 1061))),(.cmp .geq (.atom 1500) (.lit 0)),(.cmp .lss (.atom 1500) (.nat (.atom 1061)))]),(.less [((.atom 1061),(.atom 1500))] [((.atom 1061),(.op .add .i64 (.atom 1500) (.lit 1)))] [(.cmp .neq (.tab 2 (.atom 1500) 0) (.atom 1062)),(.and (.cmp .eql (.nat (.atom 1060)) (.nat (.atom 1060))) (.cmp .lss (.nat (.atom 1500)) (.nat (.atom 1061)))),(.cmp .lss (.atom 1500) (.nat (.atom 1061))),(.cmp .geq (.atom 1500) (.lit 0)),(.cmp .lss (.atom 1500) (.nat (.atom 1061)))]),(.need (.cmp .leq (.lit 0) (.op .add .i64 (.atom 1500) (.lit 1))) [(.cmp .neq (.tab 2 (.atom 1500) 0) (.atom 1062)),(.and (.cmp .eql (.nat (.atom 1060)) (.nat (.atom 1060))) (.cmp .lss (.nat (.atom 1500)) (.nat (.atom 1061)))),(.cmp .lss (.atom 1500) (.nat (.atom 1061))),(.cmp .geq (.atom 1500) (.lit 0)),(.cmp .lss (.atom 1500) (.nat (.atom 1061)))]),(.at_ 1 [(1026,(.atom 1026)),(1025,(.atom 1025)),(1024,(.atom 1024)),(1023,(.atom 1023)),(1022,(.atom 1022)),(1021,(.atom 1021)),(1020,(.atom 1020)),(1507,(.cmpI .neq (.atom 1507) (.lit 0))),(1506,(.atom 1506)),(1505,(.atom 1505)),(1504,(.atom 1504)),(1503,(.atom 1503)),(1502,(.atom 1502)),(1501,(.atom 1501)),(1500,(.op .add .i64 (.atom 1500) (.lit 1))),(1061,(.atom 1061)),(1060,(.atom 1060)),(1062,(.atom 1062))] [(1510,(.latom 1510)),(1511,(.latom 1511))] [(.cmp .neq (.tab 2 (.atom 1500) 0) (.atom 1062)),(.and (.cmp .eql (.nat (.atom 1060)) (.nat (.atom 1060))) (.cmp .lss (.nat (.atom 1500)) (.nat (.atom 1061)))),(.cmp .lss (.atom 1500) (.nat (.atom 1061))),(.cmp .geq (.atom 1500) (.lit 0)),(.cmp .lss (.atom 1500) (.nat (.atom 1061)))]),(.at_ 101 [(1061,(.atom 1061)),(1060,(.atom 1060)),(1507,(.cmpI .neq (.atom 1507) (.lit 0))),(1506,(.atom 1506)),(1505,(.atom 1505)),(1504,(.atom 1504)),(1503,(.atom 1503)),(1502,(.atom 1502)),(1501,(.atom 1501)),(1026,(.atom 1026)),(1025,(.atom 1025)),(1024,(.atom 1024)),(1023,(.atom 1023)),(1022,(.atom 1022)),(1021,(.atom 1021)),(1020,(.atom 1020))] [(1510,(.latom 1510)),(1511,(.latom 1511))] [(.cmp .leq (.nat (.atom 1061)) (.atom 1500))])]
theorem eB [Env] : oB = vB := by kernel_rfl
theorem runS (E : Env) (h0 : 0 ≤ E.i 1061) (h1 : E.i 1061 ≤ 30) (h2 : ((E.l 1000).length : Int) ≤ 31274997412295) : ObsOk E (Phi E) vS :=
  ⟨fun _ => show At E _ (0 : Int) false from ⟨Int.le_refl _,h0,⟨rfl,rfl,rfl⟩,⟨h1,h2⟩,rfl,rfl,ofB_01 _,rfl,fun _ => rfl⟩,trivial⟩
theorem small {x : Int} (h0 : 0 ≤ x) (h1 : x < 30) : IntKind.i64.wrap (x + 1) = x + 1 := wrap64_small (by omega) (by omega)
theorem runA (E0 E : Env) (hA : Phi E0 0 E) : ObsOk E (Phi E0) vA := by
  have hA : At E0 E (E.i 1500) false := hA
  have i0 := hA.i0
  have i1 := hA.i1
  have n30 := hA.n.1
  have k1 := hA.k.1
  have lt : (decide (E.i 1500 < (((E.i 1061).toNat : Nat) : Int))) = true → E.i 1500 < E0.i 1061 := fun h => by have := of_decide_eq_true h; omega
  refine ⟨fun _ => decide_eq_true hA.len,fun hc => ?_,fun hc => ?_,fun hc => ?_,fun hc => ?_,fun hc => ?_,fun hc => ?_,fun hc => ?_,fun hc => ?_,fun hc => ?_,fun hc => ?_,trivial⟩
  · have hl := lt hc.2.2.2.2.1
    exact .inl (show ((E.i 1061 - IntKind.i64.wrap (E.i 1500 + 1)).toNat) < (E.i 1061 - E.i 1500).toNat by rw [small i0 (by omega)]; omega)
  · have hl := lt hc.2.2.2.2.1
    exact decide_eq_true (show (0 : Int) ≤ IntKind.i64.wrap (E.i 1500 + 1) by rw [small i0 (by omega)]; omega)
  · have hl := lt hc.2.2.2.2.1
    have hch : (ofP (inF (E.t 2 (E.i 1500).toNat 1) (E.l 1510) ∧ E.t 2 (E.i 1500).toNat 2 ≠ hadF (E.t 2 (E.i 1500).toNat 1) (E.l 1510)) != 0) = true := hc.1
    rw [ofP_ne] at hch
    refine ⟨?_,hA.y rfl⟩
    show At E0 _ (IntKind.i64.wrap (E.i 1500 + 1)) true
    rw [small i0 (by omega)]
    exact hA.due hl (eq_of_beq hc.2.2.1) ⟨rfl,rfl,rfl⟩ rfl rfl rfl rfl rfl rfl rfl rfl (by rw [hch]; rfl)
  · have hl := lt hc.2.2.2.2.1
    exact .inl (show ((E.i 1061 - IntKind.i64.wrap (E.i 1500 + 1)).toNat) < (E.i 1061 - E.i 1500).toNat by rw [small i0 (by omega)]; omega)
  · have hl := lt hc.2.2.2.2.1
    exact decide_eq_true (show (0 : Int) ≤ IntKind.i64.wrap (E.i 1500 + 1) by rw [small i0 (by omega)]; omega)
  · have hl := lt hc.2.2.2.2.1
    have hch : (ofP (inF (E.t 2 (E.i 1500).toNat 1) (E.l 1510) ∧ E.t 2 (E.i 1500).toNat 2 ≠ hadF (E.t 2 (E.i 1500).toNat 1) (E.l 1510)) == 0) = true := hc.1
    have hch' : decide (inF (E.t 2 (E.i 1500).toNat 1) (E.l 1510) ∧ E.t 2 (E.i 1500).toNat 2 ≠ hadF (E.t 2 (E.i 1500).toNat 1) (E.l 1510)) = false := by
      rw [← ofP_ne,bne,hch]; rfl
    show At E0 _ (IntKind.i64.wrap (E.i 1500 + 1)) false
    rw [small i0 (by omega)]
    exact hA.due hl (eq_of_beq hc.2.2.1) ⟨rfl,rfl,rfl⟩ rfl rfl rfl rfl rfl rfl rfl rfl (by rw [hch']; rfl)
  · have hl := lt hc.2.2.1
    exact .inl (show ((E.i 1061 - IntKind.i64.wrap (E.i 1500 + 1)).toNat) < (E.i 1061 - E.i 1500).toNat by rw [small i0 (by omega)]; omega)
  · have hl := lt hc.2.2.1
    exact decide_eq_true (show (0 : Int) ≤ IntKind.i64.wrap (E.i 1500 + 1) by rw [small i0 (by omega)]; omega)
  · have hl := lt hc.2.2.1
    show At E0 _ (IntKind.i64.wrap (E.i 1500 + 1)) false
    rw [small i0 (by omega)]
    exact hA.not hl (bne_iff_ne.1 hc.1) ⟨rfl,rfl,rfl⟩ rfl rfl rfl
  · have hl : (((E.i 1061).toNat : Nat) : Int) ≤ E.i 1500 := of_decide_eq_true hc.1
    exact hA.same (by omega) ⟨rfl,rfl,rfl⟩ rfl rfl rfl
theorem runB (E0 E : Env) (hB : Phi E0 1 E) : ObsOk E (Phi E0) vB := by
  obtain ⟨hA,hy⟩ : At E0 E (E.i 1500) true ∧ E.l 1511 = E0.l 1000 := hB
  have i0 := hA.i0
  have i1 := hA.i1
  have n30 := hA.n.1
  have k1 := hA.k.1
  have lt : (decide (E.i 1500 < (((E.i 1061).toNat : Nat) : Int))) = true → E.i 1500 < E0.i 1061 := fun h => by have := of_decide_eq_true h; omega
  refine ⟨fun _ => decide_eq_true hA.len,fun hc => ?_,fun hc => ?_,fun hc => ?_,fun hc => ?_,fun hc => ?_,fun hc => ?_,fun hc => ?_,fun hc => ?_,fun hc => ?_,fun hc => ?_,trivial⟩
  · have hl := lt hc.2.2.2.2.1
    exact .inl (show ((E.i 1061 - IntKind.i64.wrap (E.i 1500 + 1)).toNat) < (E.i 1061 - E.i 1500).toNat by rw [small i0 (by omega)]; omega)
  · have hl := lt hc.2.2.2.2.1
    exact decide_eq_true (show (0 : Int) ≤ IntKind.i64.wrap (E.i 1500 + 1) by rw [small i0 (by omega)]; omega)
  · have hl := lt hc.2.2.2.2.1
    refine ⟨?_,hy⟩
    show At E0 _ (IntKind.i64.wrap (E.i 1500 + 1)) true
    rw [small i0 (by omega)]
    exact hA.due hl (eq_of_beq hc.2.2.1) ⟨rfl,rfl,rfl⟩ rfl rfl rfl rfl rfl rfl rfl rfl rfl
  · have hl := lt hc.2.2.2.2.1
    exact .inl (show ((E.i 1061 - IntKind.i64.wrap (E.i 1500 + 1)).toNat) < (E.i 1061 - E.i 1500).toNat by rw [small i0 (by omega)]; omega)
  · have hl := lt hc.2.2.2.2.1
    exact decide_eq_true (show (0 : Int) ≤ IntKind.i64.wrap (E.i 1500 + 1) by rw [small i0 (by omega)]; omega)
  · have hl := lt hc.2.2.2.2.1
    refine ⟨?_,hy⟩
    show At E0 _ (IntKind.i64.wrap (E.i 1500 + 1)) true
    rw [small i0 (by omega)]
    exact hA.due hl (eq_of_beq hc.2.2.1) ⟨rfl,rfl,rfl⟩ rfl rfl rfl rfl rfl rfl rfl rfl rfl
  · have hl := lt hc.2.2.1
    exact .inl (show ((E.i 1061 - IntKind.i64.wrap (E.i 1500 + 1)).toNat) < (E.i 1061 - E.i 1500).toNat by rw [small i0 (by omega)]; omega)
  · have hl := lt hc.2.2.1
    exact decide_eq_true (show (0 : Int) ≤ IntKind.i64.wrap (E.i 1500 + 1) by rw [small i0 (by omega)]; omega)
  · have hl := lt hc.2.2.1
    refine ⟨?_,hy⟩
    show At E0 _ (IntKind.i64.wrap (E.i 1500 + 1)) true
    rw [small i0 (by omega)]
    exact hA.not hl (bne_iff_ne.1 hc.1) ⟨rfl,rfl,rfl⟩ rfl rfl rfl
  · have hl : (((E.i 1061).toNat : Nat) : Int) ≤ E.i 1500 := of_decide_eq_true hc.1
    exact ⟨hA.same (by omega) ⟨rfl,rfl,rfl⟩ rfl rfl rfl,hy⟩
def any : BE := .cmp .neq (.fn 47 XL) (.lit 0)
def t_pok : Tree (SV × Heap Empty) := .req (.cmp .leq (.lit 0) (.atom 1061)) (.req (.cmp .leq (.atom 1061) (.lit 30)) (.req (.cmp .leq (.len (.latom 1000)) (.lit 31274997412295)) (.br any (.leaf (endB.sv.sub endB.T,subH endB.T endB.h)) (.leaf (endA.sv.sub endA.T,subH endA.T endA.h)))))
def s_pok : Summ := ⟨34,pokA,pokH,t_pok⟩
theorem told_a {E0 E : Env} {c : Bool} (h : At E0 E (E0.i 1061) c) : ∀ i e, lkE fldT i = some e → E.i i = @IE.val E0 e := by
  have hp := poked_st E0
  have g : ∀ k : Nat,(pokedF (@IE.lst E0 XL)).2.1.getD k 0 = [E.i 1501,E.i 1502,E.i 1503,E.i 1504,E.i 1505,E.i 1506,E.i 1507].getD k 0 := fun k => by rw [hp,h.f]
  intro i e hi
  simp only [fldT,lkE] at hi
  by_cases e1 : Nat.beq 1501 i = true
  · obtain rfl := Nat.eq_of_beq_eq_true e1; cases hi; exact (g 0).symm
  rw [eq_false_of_ne_true e1,cond_false] at hi
  by_cases e2 : Nat.beq 1502 i = true
  · obtain rfl := Nat.eq_of_beq_eq_true e2; cases hi; exact (g 1).symm
  rw [eq_false_of_ne_true e2,cond_false] at hi
  by_cases e3 : Nat.beq 1503 i = true
  · obtain rfl := Nat.eq_of_beq_eq_true e3; cases hi; exact (g 2).symm
  rw [eq_false_of_ne_true e3,cond_false] at hi
  by_cases e4 : Nat.beq 1504 i = true
  · obtain rfl := Nat.eq_of_beq_eq_true e4; cases hi; exact (g 3).symm
  rw [eq_false_of_ne_true e4,cond_false] at hi
  by_cases e5 : Nat.beq 1505 i = true
  · obtain rfl := Nat.eq_of_beq_eq_true e5; cases hi; exact (g 4).symm
  rw [eq_false_of_ne_true e5,cond_false] at hi
  by_cases e6 : Nat.beq 1506 i = true
  · obtain rfl := Nat.eq_of_beq_eq_true e6; cases hi; exact (g 5).symm
  rw [eq_false_of_ne_true e6,cond_false] at hi
  by_cases e7 : Nat.beq 1507 i = true
  · obtain rfl := Nat.eq_of_beq_eq_true e7; cases hi; exact (g 6).symm
  rw [eq_false_of_ne_true e7,cond_false] at hi
  cases hi
theorem told_r {E0 E : Env} {c : Bool} (h : At E0 E (E0.i 1061) c) : E.l 1510 = @IE.lst E0 rowT := by
  show E.l 1510 = writeL (E0.l 1000) (0 : Int).toNat (pokedF (@IE.lst E0 XL)).1
  rw [poked_st,putAll _ _ (by unfold st; exact pokeN_len _ _ _ _ _)]
  exact h.r.symm
theorem any_c {E0 E : Env} {c : Bool} (h : At E0 E (E0.i 1061) c) : @BE.val E0 any = c := by
  show ((if (pokedF (@IE.lst E0 XL)).2.2 = true then (1 : Int) else 0) != 0) = c
  rw [poked_st,h.cc]
  cases c <;> rfl
theorem heads : (cuts.all fun k => isLoop (subAt root k.p) && Nat.ble k.ms.length 9) = true := by kernel_rfl
theorem bodyOk : Try.f34.body = some root := by kernel_rfl
theorem ok_pok : s_pok.ok Try.prog := by
  refine Summ.loop (Z := Z) (ends := ends) (Φ := Phi) [⟨[1500], [1511]⟩,⟨[1500], []⟩] (enters_of Try.func34 (by kernel_rfl)) ?_ ?_ ?_
  · intro E ρ F w argv ⟨K, hK⟩ H ha
    obtain ⟨h1,h2,h3,_⟩ := hK
    have g1 : (0 : Int) ≤ E.i 1061 := of_decide_eq_true h1
    have g2 : E.i 1061 ≤ 30 := of_decide_eq_true h2
    have g3 : ((E.l 1000).length : Int) ≤ 31274997412295 := of_decide_eq_true h3
    refine floydEO (us := ths) (N := N) mixed_ok (c := @base7) @base7_ok (x := extraS Try.prog) (fun {_} => extraS_ok _) Try.func34 bodyOk ths_ok (cuts := cuts) heads E (fun E' i k hk hz hfs hphi => ?_) (fs0 := fs0) ?_ (Owed.eq (@eS E) (runS E g1 g2 g3)) ?_ H ha
    · match i, hk with
      | 0,hk => obtain rfl : cutA = k := Option.some.inj (show some cutA = some k from hk); exact Owed.eq (@eA E') (runA E E' hphi)
      | 1,hk => obtain rfl : cutB = k := Option.some.inj (show some cutB = some k from hk); exact Owed.eq (@eB E') (runB E E' hphi)
      | n + 2,hk => exact absurd hk (by simp [cuts])
    · intro b hb
      simp only [fs0,List.mem_cons,List.not_mem_nil,or_false] at hb
      rcases hb with rfl | rfl | rfl
      · exact h1
      · exact h2
      · exact beq_iff_eq.2 (show ((E.i 1061).toNat : Int) = E.i 1061 by omega)
    · intro n hn
      exact hn
  · intro j en hj
    match j,hj with
    | 0,hj => obtain rfl : endA = en := Option.some.inj (show some endA = some en from hj); exact ⟨_,rfl,by kernel_rfl,by kernel_rfl,by kernel_rfl,by kernel_rfl,by kernel_rfl⟩
    | 1,hj => obtain rfl : endB = en := Option.some.inj (show some endB = some en from hj); exact ⟨_,rfl,by kernel_rfl,by kernel_rfl,by kernel_rfl,by kernel_rfl,by kernel_rfl⟩
    | n + 2,hj => exact absurd hj (by simp [ends])
  · intro E E' j en hj hphi hz
    match j,hj with
    | 0, hj =>
      obtain rfl : endA = en := Option.some.inj (show some endA = some en from hj)
      have hA : At E E' (E.i 1061) false := hphi
      refine ⟨⟨told_a hA,fun i e hi => ?_⟩,fun K hK => hK.2.2.2.2 (any_c hA)⟩
      have hi' : lkE [(1510,rowT)] i = some e := hi
      simp only [lkE] at hi'
      by_cases e1 : Nat.beq 1510 i = true
      · obtain rfl := Nat.eq_of_beq_eq_true e1; cases hi'; exact told_r hA
      · rw [eq_false_of_ne_true e1,cond_false] at hi'; cases hi'
    | 1, hj =>
      obtain rfl : endB = en := Option.some.inj (show some endB = some en from hj)
      obtain ⟨hA,hy⟩ : At E E' (E.i 1061) true ∧ E'.l 1511 = E.l 1000 := hphi
      refine ⟨⟨told_a hA,fun i e hi => ?_⟩,fun K hK => hK.2.2.2.1 (any_c hA)⟩
      have hi' : lkE [(1510,rowT),(1511, .latom 1000)] i = some e := hi
      simp only [lkE] at hi'
      by_cases e1 : Nat.beq 1510 i = true
      · obtain rfl := Nat.eq_of_beq_eq_true e1; cases hi'; exact told_r hA
      · rw [eq_false_of_ne_true e1, cond_false] at hi'
        by_cases e2 : Nat.beq 1511 i = true
        · obtain rfl := Nat.eq_of_beq_eq_true e2; cases hi'; exact hy
        · rw [eq_false_of_ne_true e2,cond_false] at hi'; cases hi'
    | n + 2,hj => exact absurd hj (by simp [ends])
end Pk2
end Go.Proofs.Ytafemlljemhkhaa.Sx
