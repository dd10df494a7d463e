import Derived.Test.YtafemlljemhkhaaPSxUw
import Derived.Test.YtafemlljemhkhaaPSxFsd
namespace Go.Proofs.Ytafemlljemhkhaa.Sx
open Go
set_option linter.unusedSectionVars false
set_option linter.unusedVariables false
set_option linter.unusedSimpArgs false
set_option maxRecDepth 100000
namespace Same
def U : SV := .unk
def I : SS Empty := ⟨[.w (.one (.b (.isl 1 (.atom 0) (.atom 1)))), .w (.one (.b (.isl 3 (.atom 2) (.atom 3)))),U,U, .w (.one (.b (.bool (.lit false)))), .w (.one (.b (.int .i64 (.atom 1000)))),U,U,U,U,U,U,U,U,U,U,U,U,U,U,U,U,U,U,U,U], [(1, .tab [.int .u64] (.atom 0) (.atom 1) 0),(3, .tab [.int .u64] (.atom 2) (.atom 3) 1)],7⟩
noncomputable def root : Code := match Try.f57.body with
  | some c => c
  | none => .skip
def p : List Nat := [0,1,0,1,1]
def cut : Cut := ⟨p,I, [], [(.nat (.atom 1), .atom 1000)]⟩
def args : List SV := [.w (.one (.b (.isl 1 (.atom 0) (.atom 1)))), .w (.one (.b (.isl 3 (.atom 2) (.atom 3))))]
def heap : Heap Empty := [(1, .tab [.int .u64] (.atom 0) (.atom 1) 0),(3, .tab [.int .u64] (.atom 2) (.atom 3) 1)]
def sA0 : SS Empty := (SS.mk [.w (.one (.b (.isl 1 (.atom 0) (.atom 1)))), .w (.one (.b (.isl 3 (.atom 2) (.atom 3)))), .unk, .unk, .w (.one (.b (.bool (.lit false)))), .w (.one (.b (.int .i64 (.atom 1000)))), .unk, .unk, .unk, .unk, .unk, .w (.one (.b (.int .i64 (.atom 1000)))), .w (.one (.b (.isl 1 (.atom 0) (.atom 1)))), .w (.one (.b (.int .i64 (.nat (.atom 1))))), .w (.one (.b (.bool (.lit true)))), .unk, .unk, .w (.one (.b (.isl 1 (.atom 0) (.atom 1)))), .w (.one (.b (.int .i64 (.atom 1000)))), .w (.one (.b (.ptr 1 (.at_ (.atom 0) (.atom 1000) 1 0)))), .w (.one (.b (.int .u64 (.tab 0 (.atom 1000) 0)))), .w (.one (.b (.isl 3 (.atom 2) (.atom 3)))), .w (.one (.b (.int .i64 (.atom 1000)))), .w (.one (.b (.ptr 3 (.at_ (.atom 2) (.atom 1000) 1 0)))), .w (.one (.b (.int .u64 (.tab 1 (.atom 1000) 0)))), .w (.one (.b (.bool (.lit true))))] [(1, .tab [.int .u64] (.atom 0) (.atom 1) 0),(3, .tab [.int .u64] (.atom 2) (.atom 3) 1)] 21)
def sA1 : SS Empty := (SS.mk [.w (.one (.b (.isl 1 (.atom 0) (.atom 1)))), .w (.one (.b (.isl 3 (.atom 2) (.atom 3)))), .unk, .unk, .w (.one (.b (.bool (.lit false)))), .w (.one (.b (.int .i64 (.op .add .i64 (.atom 1000) (.lit (1)))))), .unk, .unk, .unk, .unk, .unk, .w (.one (.b (.int .i64 (.atom 1000)))), .w (.one (.b (.isl 1 (.atom 0) (.atom 1)))), .w (.one (.b (.int .i64 (.nat (.atom 1))))), .w (.one (.b (.bool (.lit true)))), .w (.one (.b (.int .i64 (.atom 1000)))), .w (.one (.b (.int .i64 (.op .add .i64 (.atom 1000) (.lit (1)))))), .w (.one (.b (.isl 1 (.atom 0) (.atom 1)))), .w (.one (.b (.int .i64 (.atom 1000)))), .w (.one (.b (.ptr 1 (.at_ (.atom 0) (.atom 1000) 1 0)))), .w (.one (.b (.int .u64 (.tab 0 (.atom 1000) 0)))), .w (.one (.b (.isl 3 (.atom 2) (.atom 3)))), .w (.one (.b (.int .i64 (.atom 1000)))), .w (.one (.b (.ptr 3 (.at_ (.atom 2) (.atom 1000) 1 0)))), .w (.one (.b (.int .u64 (.tab 1 (.atom 1000) 0)))), .w (.one (.b (.bool (.lit false))))] [(1, .tab [.int .u64] (.atom 0) (.atom 1) 0),(3, .tab [.int .u64] (.atom 2) (.atom 3) 1)] 23)
def sA2 : SS Empty := (SS.mk [.w (.one (.b (.isl 1 (.atom 0) (.atom 1)))), .w (.one (.b (.isl 3 (.atom 2) (.atom 3)))), .unk, .unk, .w (.one (.b (.bool (.lit true)))), .w (.one (.b (.int .i64 (.atom 1000)))), .unk, .unk, .unk, .unk, .unk, .w (.one (.b (.int .i64 (.atom 1000)))), .w (.one (.b (.isl 1 (.atom 0) (.atom 1)))), .w (.one (.b (.int .i64 (.nat (.atom 1))))), .w (.one (.b (.bool (.lit false)))), .unk, .unk, .unk, .unk, .unk, .unk, .unk, .unk, .unk, .unk, .unk] [(1, .tab [.int .u64] (.atom 0) (.atom 1) 0),(3, .tab [.int .u64] (.atom 2) (.atom 3) 1)] 12)
def sS0 : SS Empty := (SS.mk [.w (.one (.b (.isl 1 (.atom 0) (.atom 1)))), .w (.one (.b (.isl 3 (.atom 2) (.atom 3)))), .tup [], .tup [], .w (.one (.b (.bool (.lit false)))), .tup [], .w (.one (.b (.isl 1 (.atom 0) (.atom 1)))), .w (.one (.b (.int .i64 (.nat (.atom 1))))), .w (.one (.b (.isl 3 (.atom 2) (.atom 3)))), .w (.one (.b (.int .i64 (.nat (.atom 3))))), .w (.one (.b (.bool (.lit true)))), .tup [], .tup [], .tup [], .tup [], .tup [], .tup [], .tup [], .tup [], .tup [], .tup [], .tup [], .tup [], .tup [], .tup [], .tup []] [(1, .tab [.int .u64] (.atom 0) (.atom 1) 0),(3, .tab [.int .u64] (.atom 2) (.atom 3) 1)] 7)
def sS1 : SS Empty := (SS.mk [.w (.one (.b (.isl 1 (.atom 0) (.atom 1)))), .w (.one (.b (.isl 3 (.atom 2) (.atom 3)))), .tup [], .tup [], .w (.one (.b (.bool (.lit false)))), .w (.one (.b (.int .i64 (.lit (0))))), .w (.one (.b (.isl 1 (.atom 0) (.atom 1)))), .w (.one (.b (.int .i64 (.nat (.atom 1))))), .w (.one (.b (.isl 3 (.atom 2) (.atom 3)))), .w (.one (.b (.int .i64 (.nat (.atom 3))))), .w (.one (.b (.bool (.lit false)))), .tup [], .tup [], .tup [], .tup [], .tup [], .tup [], .tup [], .tup [], .tup [], .tup [], .tup [], .tup [], .tup [], .tup [], .tup []] [(1, .tab [.int .u64] (.atom 0) (.atom 1) 0),(3, .tab [.int .u64] (.atom 2) (.atom 3) 1)] 7)
theorem treeA [Env] : segAt Try.prog base (extraS Try.prog) 65536 root [cut] cut = .br (.cmp .lss (.atom 1000) (.nat (.atom 1))) (.br (.cmp .geq (.atom 1000) (.lit (0))) (.br (.cmp .lss (.atom 1000) (.nat (.atom 1))) (.br (.and (.cmp .eql (.nat (.atom 0)) (.nat (.atom 0))) (.cmp .lss (.nat (.atom 1000)) (.nat (.atom 1)))) (.br (.cmp .geq (.atom 1000) (.lit (0))) (.br (.cmp .lss (.atom 1000) (.nat (.atom 3))) (.br (.and (.cmp .eql (.nat (.atom 2)) (.nat (.atom 2))) (.cmp .lss (.nat (.atom 1000)) (.nat (.atom 3)))) (.br (.cmp .neq (.tab 0 (.atom 1000) 0) (.tab 1 (.atom 1000) 0)) (.leaf (.fin sA0)) (.leaf (.at_ [0,1,0,1,1] sA1))) (.fail 80)) (.fail 42)) (.fail 42)) (.fail 80)) (.fail 42)) (.fail 42)) (.leaf (.fin sA2)) := by kernel_rfl
theorem treeS [Env] : segStart Try.prog base (extraS Try.prog) 65536 root [cut] Try.f57.ntmps args heap = .br (.cmp .neq (.nat (.atom 1)) (.nat (.atom 3))) (.leaf (.fin sS0)) (.leaf (.at_ [0,1,0,1,1] sS1)) := by kernel_rfl
def SA : Sub := ⟨[(1000, .op .add .i64 (.atom 1000) (.lit 1))], [], [(1,1),(3,3)]⟩
def SS0 : Sub := ⟨[(1000, .lit 0)], [], [(1,1),(3,3)]⟩
theorem fitA : fitSS SA I sA1 = true := by kernel_rfl
theorem fitS : fitSS SS0 I sS1 = true := by kernel_rfl
theorem resA0 [Env] : resS Try.prog Try.f57.results sA0.l sA0.h = .leaf (.w (.one (.b (.bool (.lit false))))) := by kernel_rfl
theorem resA2 [Env] : resS Try.prog Try.f57.results sA2.l sA2.h = .leaf (.w (.one (.b (.bool (.lit true))))) := by kernel_rfl
theorem resS0 [Env] : resS Try.prog Try.f57.results sS0.l sS0.h = .leaf (.w (.one (.b (.bool (.lit false))))) := by kernel_rfl
def Phi (l1 l2 : List Int) (E : Env) : Prop := (∀ j,E.t 0 j 0 = l1.getD j 0) ∧ (∀ j,E.t 1 j 0 = l2.getD j 0) ∧ E.i 1 = l1.length ∧ E.i 3 = l2.length ∧ l1.length = l2.length ∧ 0 ≤ E.i 1000 ∧ E.i 1000 ≤ l1.length ∧ ∀ j : Nat,(j : Int) < E.i 1000 → l1.getD j 0 = l2.getD j 0
theorem runs (l1 l2 : List Int) (hb : (l1.length : Int) ≤ 140737488355328) (E : Env) (h : Phi l1 l2 E) : (@segAt E Try.prog base (extraS Try.prog) 65536 root [cut] cut).holds (GoodL Try.prog Try.f57.results [cut] (fun _ => Phi l1 l2) (fun v => v = .bool (decide (l1 = l2))) E (some cut.ms)) := by
  letI := E
  rw [treeA]
  obtain ⟨h0,h1,h2,h3,h4,h5,h6,h7⟩ := h
  have nat1 : (IE.nat (.atom 1)).val = (l1.length : Int) := by simp only [IE.val]; rw [h2]; simp
  have nat3 : (IE.nat (.atom 3)).val = (l1.length : Int) := by simp only [IE.val]; rw [h3,h4]; simp
  have a1000 : (IE.atom 1000).val = E.i 1000 := rfl
  have lit0 : (IE.lit 0).val = 0 := rfl
  have n1000 : (IE.nat (.atom 1000)).val = E.i 1000 := by simp only [IE.val]; omega
  refine ⟨fun c1 => ?_,fun c1 => ?_⟩
  · have k1 : E.i 1000 < l1.length := by have := of_decide_eq_true c1; rw [nat1, a1000] at this; exact this
    have k0 : E.i 1000 ≥ 0 := h5
    refine ⟨fun _ => ⟨fun _ => ⟨fun _ => ⟨fun _ => ⟨fun _ => ⟨fun _ => ⟨fun c8 => ?_,fun c8 => ?_⟩,fun c => ?_⟩,fun c => ?_⟩,fun c => ?_⟩,fun c => ?_⟩,fun c => ?_⟩,fun c => ?_⟩
    · refine ⟨_, resA0, fun ρ v hv => ?_⟩
      have hv' : v = .bool false := hv
      rw [hv']
      have c8' : cmpVal .neq (E.t 0 (E.i 1000).toNat 0) (E.t 1 (E.i 1000).toNat 0) = true := c8
      rw [h0,h1] at c8'
      have hne : l1 ≠ l2 := fun e => by
        rw [e] at c8'
        simp [cmpVal] at c8'
      rw [decide_eq_false hne]
    · refine ⟨cut, List.mem_cons_self .., rfl, SA, fitA, fun b hb => (by cases hb), ?_, ?_⟩
      · have c8' : cmpVal .neq (E.t 0 (E.i 1000).toNat 0) (E.t 1 (E.i 1000).toNat 0) = false := c8
        rw [h0,h1] at c8'
        have heq : l1.getD (E.i 1000).toNat 0 = l2.getD (E.i 1000).toNat 0 := by simpa [cmpVal] using c8'
        have i1000 : @Env.i (E.by SA) 1000 = E.i 1000 + 1 := by
          rw [by_i_some (e := .op .add .i64 (.atom 1000) (.lit 1)) rfl]
          show IntKind.i64.wrap (E.i 1000 + 1) = _
          exact wrap64_small (by omega) (by omega)
        refine ⟨h0,h1,h2,h3,h4,(by rw [i1000]; omega),(by rw [i1000]; omega),fun j hj => ?_⟩
        rw [i1000] at hj
        by_cases e : (j : Int) = E.i 1000
        · rw [show j = (E.i 1000).toNat by omega]; exact heq
        · exact h7 j (by omega)
      · intro o ho
        cases ho
        have i1000 : @Env.i (E.by SA) 1000 = E.i 1000 + 1 := by
          rw [by_i_some (e := .op .add .i64 (.atom 1000) (.lit 1)) rfl]
          show IntKind.i64.wrap (E.i 1000 + 1) = _
          exact wrap64_small (by omega) (by omega)
        refine .inl ?_
        have e1 : @IE.val (E.by SA) (.nat (.atom 1)) = l1.length := nat1
        have e2 : @IE.val (E.by SA) (.atom 1000) = E.i 1000 + 1 := i1000
        rw [e1,e2,nat1,a1000]
        omega
    · have := of_decide_eq_false (Bool.and_eq_false_imp.1 c (by simp [BE.val,cmpVal])); rw [n1000,nat3] at this; omega
    · have := of_decide_eq_false c; rw [nat3,a1000] at this; omega
    · have := of_decide_eq_false c; rw [a1000,lit0] at this; omega
    · have := of_decide_eq_false (Bool.and_eq_false_imp.1 c (by simp [BE.val,cmpVal])); rw [n1000,nat1] at this; omega
    · have := of_decide_eq_false c; rw [nat1,a1000] at this; omega
    · have := of_decide_eq_false c; rw [a1000,lit0] at this; omega
  · have k1 : ¬ E.i 1000 < l1.length := by have := of_decide_eq_false c1; rw [nat1, a1000] at this; exact this
    refine ⟨_,resA2,fun ρ v hv => ?_⟩
    have hv' : v = .bool true := hv
    rw [hv']
    have : l1 = l2 := by
      apply List.ext_getElem? 
      intro j
      rcases Nat.lt_or_ge j l1.length with hj | hj
      · have := h7 j (by omega)
        rw [List.getD_eq_getElem?_getD,List.getD_eq_getElem?_getD,List.getElem?_eq_getElem hj,List.getElem?_eq_getElem (by omega)] at this
        rw [List.getElem?_eq_getElem hj,List.getElem?_eq_getElem (by omega)]
        simpa using this
      · rw [List.getElem?_eq_none hj,List.getElem?_eq_none (by omega)]
    rw [decide_eq_true this]
theorem startRun (l1 l2 : List Int) (E : Env) (h0 : ∀ j, E.t 0 j 0 = l1.getD j 0) (h1 : ∀ j, E.t 1 j 0 = l2.getD j 0) (h2 : E.i 1 = l1.length) (h3 : E.i 3 = l2.length) :
    (@segStart E Try.prog base (extraS Try.prog) 65536 root [cut] Try.f57.ntmps args heap).holds (GoodL Try.prog Try.f57.results [cut] (fun _ => Phi l1 l2) (fun v => v = .bool (decide (l1 = l2))) E none) := by
  letI := E
  rw [treeS]
  have nat1 : (IE.nat (.atom 1)).val = (l1.length : Int) := by simp only [IE.val]; rw [h2]; simp
  have nat3 : (IE.nat (.atom 3)).val = (l2.length : Int) := by simp only [IE.val]; rw [h3]; simp
  refine ⟨fun c => ?_,fun c => ?_⟩
  · refine ⟨_, resS0, fun ρ v hv => ?_⟩
    have hv' : v = .bool false := hv
    have c' : ((IE.nat (.atom 1)).val != (IE.nat (.atom 3)).val) = true := c
    rw [nat1,nat3] at c'
    rw [hv',decide_eq_false]
    intro e
    rw [e] at c'
    simp at c'
  · have c' : ((IE.nat (.atom 1)).val != (IE.nat (.atom 3)).val) = false := c
    rw [nat1,nat3] at c'
    have hlen : l1.length = l2.length := by
      have : (l1.length : Int) = l2.length := by simpa using c'
      omega
    have i1000 : @Env.i (E.by SS0) 1000 = 0 := by rw [by_i_some (e := .lit 0) rfl]; rfl
    refine ⟨cut,List.mem_cons_self ..,rfl,SS0,fitS,fun b hb => (by cases hb),⟨h0,h1,h2,h3,hlen,(by rw [i1000]; exact Int.le_refl _),(by rw [i1000]; omega),fun j hj => (by rw [i1000] at hj; omega)⟩,fun o ho => (by cases ho)⟩
def Holds (w : World) (v : Value) (l : List Int) : Prop := ∃ a c,v = .slice a l.length c ∧ (l.length = 0 ∨ ∃ b o,a = some ⟨b,o,none⟩ ∧ b < w.heap.size ∧ ∀ j,j < l.length → w.cell? ⟨b,o + j,none⟩ = some (.int .u64 (l.getD j 0)))
theorem calls {w : World} {v1 v2 : Value} {l1 l2 : List Int} (h1 : Holds w v1 l1) (h2 : Holds w v2 l2) (hb : (l1.length : Int) ≤ 140737488355328) :
    Calls Try.prog 57 #[v1,v2] w fun e w' => e = .returned (.bool (decide (l1 = l2))) ∧ w'.os = w.os ∧ w'.tape = w.tape ∧ w'.output = w.output ∧ w.heap.size ≤ w'.heap.size ∧ ∀ x,x < w.heap.size → w'.heap[x]? = w.heap[x]? := by
  obtain ⟨a1,c1,rfl,g1⟩ := h1
  obtain ⟨a2,c2,rfl,g2⟩ := h2
  have one : ∀ (a : Option Addr) (l : List Int), (l.length = 0 ∨ ∃ b o, a = some ⟨b, o, none⟩ ∧ b < w.heap.size ∧ ∀ j, j < l.length → w.cell? ⟨b, o + j, none⟩ = some (.int .u64 (l.getD j 0))) →
      ∃ (o : Nat) (bo : Option Nat),(l.length = 0 ∨ ∃ b,bo = some b ∧ a = some ⟨b,o,none⟩) ∧ ((l.length = 0 ∧ bo = none) ∨ ∃ b,bo = some b ∧ b < w.heap.size ∧ ∀ j,j < l.length → w.cell? ⟨b,o + j,none⟩ = some (.int .u64 (l.getD j 0))) := by
    intro a l h
    rcases h with h | ⟨b,o,h1,h2,h3⟩
    · exact ⟨0,none, .inl h, .inl ⟨h,rfl⟩⟩
    · exact ⟨o,some b, .inr ⟨b,rfl,h1⟩, .inr ⟨b,rfl,h2,h3⟩⟩
  obtain ⟨o1,b1,p1,q1⟩ := one a1 l1 g1
  obtain ⟨o2,b2,p2,q2⟩ := one a2 l2 g2
  let rv : Option Nat → RV := fun b => match b with
    | some b => .blk b
    | none => .val .nilFunc
  let E : Env := ⟨fun i => match i with | 0 => o1 | 1 => l1.length | 2 => o2 | 3 => l2.length | _ => 0,fun _ => [],fun t j _ => match t with | 0 => l1.getD j 0 | _ => l2.getD j 0⟩
  let ρ : Rho := fun n => match n with | 1 => some (rv b1) | 3 => some (rv b2) | _ => none
  let F : Nat → Nat → Prop := fun n x => match n with | 1 => b1 = some x | 3 => b2 = some x | _ => False
  have hρ : ∀ n, (ρ n).isSome → n = 1 ∨ n = 3 := by
    intro n hn
    match n,hn with
    | 1,_ => exact .inl rfl
    | 3,_ => exact .inr rfl
    | 0,h => cases h
    | 2,h => cases h
    | _ + 4,h => cases h
  have tabok : ∀ (o : Nat) (bo : Option Nat) (l : List Int) (ea el : IE) (t : Nat), @IE.val E ea = o → @IE.val E el = l.length → (∀ j, E.t t j 0 = l.getD j 0) → ((l.length = 0 ∧ bo = none) ∨ ∃ b, bo = some b ∧ b < w.heap.size ∧ ∀ j, j < l.length → w.cell? ⟨b, o + j, none⟩ = some (.int .u64 (l.getD j 0))) →
      @SO.ok E Empty _ ρ (rv bo) (fun x => bo = some x) w (.tab [.int .u64] ea el t) := by
    intro o bo l ea el t h1 h2 h3 h4
    rcases h4 with ⟨h4,rfl⟩ | ⟨b,rfl,h5,h6⟩
    · refine .inl ⟨by rw [h2,h4]; rfl,rfl,fun x hx => by cases hx⟩
    · refine .inr ⟨b, rfl, h5, fun x => ⟨fun h => by cases h; rfl, fun h => by rw [h]⟩, fun i hi j c hj => ?_⟩
      rw [h2] at hi
      match j,hj with
      | 0, hj =>
        cases hj
        rw [h1]
        have := h6 i (by simpa using hi)
        simp only [Int.toNat_natCast,List.length_cons,List.length_nil,Nat.zero_add,Nat.mul_one,Nat.add_zero]
        rw [this,h3]
        rfl
      | _ + 1,hj => simp at hj
  have hH : @HeapOk E Empty _ ρ F heap w := by
    refine @HeapOk.mk E Empty _ ρ F heap w (fun n => ?_) (fun n o r hn hr => ?_) (fun n m x hne hn hm hh => ?_) (fun n o hn hw => ?_) (fun n x hn hx => ?_)
    · match n with
      | 1 => rfl
      | 3 => rfl
      | 0 => rfl
      | 2 => rfl
      | n + 4 =>
        show (look heap (n + 4)).isSome = false
        have e1 : (1 == n + 4) = false := by simp
        have e2 : (3 == n + 4) = false := by simp
        simp only [heap,look,e1,e2,cond_false]
        rfl
    · rcases hρ n (by rw [hr]; rfl) with rfl | rfl
      · cases hn
        cases hr
        exact tabok o1 b1 l1 (.atom 0) (.atom 1) 0 rfl rfl (fun j => rfl) q1
      · cases hn
        cases hr
        exact tabok o2 b2 l2 (.atom 2) (.atom 3) 1 rfl rfl (fun j => rfl) q2
    · rcases hρ n hn with rfl | rfl <;> rcases hρ m hm with rfl | rfl <;> rcases hh with ⟨h,_⟩ | ⟨h,_⟩ <;> omega
    · have : n = 1 ∨ n = 3 := hρ n (by
        have hd : (look heap n).isSome = true := by rw [hn]; rfl
        match n with
        | 1 => rfl
        | 3 => rfl
        | 0 => cases hd
        | 2 => cases hd
        | n + 4 =>
          have e1 : (1 == n + 4) = false := by simp
          have e2 : (3 == n + 4) = false := by simp
          simp only [heap,look,e1,e2,cond_false] at hd
          cases hd)
      rcases this with rfl | rfl <;> (cases hn; cases hw)
    · rcases hρ n hn with rfl | rfl
      · have hx' : b1 = some x := hx
        rcases q1 with ⟨_,q⟩ | ⟨b,q,hb,_⟩
        · rw [q] at hx'; cases hx'
        · rw [q] at hx'; cases hx'; exact hb
      · have hx' : b2 = some x := hx
        rcases q2 with ⟨_,q⟩ | ⟨b,q,hb,_⟩
        · rw [q] at hx'; cases hx'
        · rw [q] at hx'; cases hx'; exact hb
  have slis : ∀ (a : Option Addr) (c n : Nat) (l : List Int) (o : Nat) (bo : Option Nat) (eo el : IE), ρ n = some (rv bo) → @IE.val E eo = o → @IE.val E el = l.length → (l.length = 0 ∨ ∃ b, bo = some b ∧ a = some ⟨b, o, none⟩) → @SV.is E ρ (.w (.one (.b (.isl n eo el)))) (.slice a l.length c) := by
    intro a c n l o bo eo el h1 h2 h3 h4
    refine ⟨a,c,by rw [h3]; rfl, ?_⟩
    rcases h4 with h4 | ⟨b,rfl,h5⟩
    · exact .inl (by rw [h3,h4]; rfl)
    · exact .inr ⟨b,h1,by rw [h5,h2]; rfl⟩
  have ha : All2 (@SV.is E ρ) args #[Value.slice a1 l1.length c1, Value.slice a2 l2.length c2].toList :=
    ⟨slis a1 c1 1 l1 o1 b1 _ _ rfl rfl rfl p1,slis a2 c2 3 l2 o2 b2 _ _ rfl rfl rfl p2,trivial⟩
  refine Calls.mono (floydG mixed_ok (c := @base) @base_ok (x := extraS Try.prog) (fun {_} => extraS_ok _) (B := 65536) Try.func57 (by kernel_rfl : Try.f57.body = some root) (cuts := [cut]) (Φ := fun _ => Phi l1 l2) (R := fun v => v = .bool (decide (l1 = l2)))
    (by kernel_rfl) (fun E k hk _ hphi => by
      rcases List.mem_cons.1 hk with rfl | hk
      · exact runs l1 l2 hb E hphi
      · cases hk) E (startRun l1 l2 E (fun j => rfl) (fun j => rfl) rfl rfl) hH ha) fun e w' he => ?_
  obtain ⟨v,rfl,rfl, ρ',F',R⟩ := he
  exact ⟨rfl,R.os,R.tape,R.output,R.size,fun x hx => R.keep x hx fun n hn hs => by rcases hρ n hs with rfl | rfl <;> (obtain ⟨h,_⟩ := hn; omega)⟩
end Same
end Go.Proofs.Ytafemlljemhkhaa.Sx
