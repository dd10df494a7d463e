import Derived.Test.YtafemlljemhkhaaPSxUw
namespace Go.Proofs.Ytafemlljemhkhaa.Sx
open Go
set_option linter.unusedSectionVars false
set_option linter.unusedVariables false
set_option linter.unusedSimpArgs false
set_option maxRecDepth 100000
theorem pureW {g : Nat} {k : IntKind} {e : IE} {id : Nat} {f : Int → Int} (he : enters Try.prog g) (hev : ∀ [Env], base g [.w (.one (au 0))] [] [] 1 = .leaf (resI k e, [])) (hf : ∀ x, funs id [x] = f x)
    (hv : ∀ (E : Env),0 ≤ E.i 0 → E.i 0 < 18446744073709551616 → @IE.val E e = f (E.i 0)) : PureOk Try.prog g [.w (.one (au 0))] 1 wordPre (fun a => resI k (.fn id a)) :=
  PureOk.of (c := @base) (r0 := resI k e) @base_ok @hev he wordPre_same fun l hl hp E a hal ρ ρ' v hv' => by
    have h1 : v = .int k (@IE.val (envOf l) e) := hv'
    obtain ⟨r0,r1⟩ := wordPre_rng hl hp
    rw [hv (envOf l) r0 r1] at h1
    show v = .int k (IE.val (.fn id a))
    have h3 : IE.val (.fn id a) = funs id l := by rw [IE.val,hal]
    have h2 : IE.val (.fn id a) = f (l.getD 0 0) := h3.trans ((congrArg (funs id) (single hl)).trans (hf _))
    have h1' : v = .int k (f (l.getD 0 0)) := h1
    rw [h1',h2]
theorem enters_w {g : Nat} {f : Func} (h : Try.prog.funcs[g]? = some f) (hb : f.body.isNone = false) : enters Try.prog g := ⟨f,h,names_ok _ _ h,hb⟩
theorem and_m30 (x : Int) : ((BitVec.ofInt 64 x &&& BitVec.ofInt 64 1073741823).toNat : Int) = x % 1073741824 := by
  have h1 : (BitVec.ofInt 64 1073741823).toNat = 2 ^ 30 - 1 := by rfl
  rw [BitVec.toNat_and,h1,Nat.and_two_pow_sub_one_eq_mod,BitVec.toNat_ofInt]
  omega
theorem and_m2 (x : Int) : ((BitVec.ofInt 64 x &&& BitVec.ofInt 64 3).toNat : Int) = x % 4 := by
  have h1 : (BitVec.ofInt 64 3).toNat = 2 ^ 2 - 1 := by rfl
  rw [BitVec.toNat_and,h1,Nat.and_two_pow_sub_one_eq_mod,BitVec.toNat_ofInt]
  omega
def ehGen : IE := .conv .i64 (.op .and .u64 (.op .shr .u64 (.atom 0) (.lit 32)) (.lit 1073741823))
theorem ehGen_val (E : Env) (h0 : 0 ≤ E.i 0) (h1 : E.i 0 < 18446744073709551616) : @IE.val E ehGen = E.i 0 / 4294967296 % 1073741824 := by
  unfold ehGen
  simp only [IE.val,binVal]
  rw [show (2 : Int) ^ (min (Int.toNat 32) IntKind.u64.bits) = 4294967296 from rfl,show IntKind.u64.bits = 64 from rfl,and_m30,Int.fdiv_eq_ediv_of_nonneg _ (by omega),wrap_u,wrap_small] <;> omega
def erGen : IE := .conv .i64 (.op .rem .u64 (.op .quo .u64 (.atom 0) (.lit 4294967296)) (.lit 1073741824))
theorem erGen_val (E : Env) (h0 : 0 ≤ E.i 0) (h1 : E.i 0 < 18446744073709551616) : @IE.val E erGen = E.i 0 / 4294967296 % 1073741824 := by
  unfold erGen
  simp only [IE.val,binVal]
  rw [Int.tdiv_eq_ediv_of_nonneg h0,wrap_u,Int.tmod_eq_emod_of_nonneg (by omega),wrap_small] <;> omega
theorem ev_pure_hGen [Env] : base 23 [.w (.one (au 0))] [] [] 1 = .leaf (resI .i64 ehGen, []) := by kernel_rfl
theorem pure_hGen : PureOk Try.prog 23 [.w (.one (au 0))] 1 wordPre (fun a => resI .i64 (.fn 9 a)) := pureW (e := ehGen) (f := fun x => x / 4294967296 % 1073741824) (enters_w Try.func23 (by kernel_rfl)) @ev_pure_hGen (fun _ => rfl) ehGen_val
theorem ev_pure_rGen [Env] : base 88 [.w (.one (au 0))] [] [] 1 = .leaf (resI .i64 erGen, []) := by kernel_rfl
theorem pure_rGen : PureOk Try.prog 88 [.w (.one (au 0))] 1 wordPre (fun a => resI .i64 (.fn 9 a)) := pureW (e := erGen) (f := fun x => x / 4294967296 % 1073741824) (enters_w Try.func88 (by kernel_rfl)) @ev_pure_rGen (fun _ => rfl) erGen_val
def esState : IE := .conv .i64 (.op .and .u64 (.atom 0) (.lit 3))
theorem esState_val (E : Env) (h0 : 0 ≤ E.i 0) (h1 : E.i 0 < 18446744073709551616) : @IE.val E esState = E.i 0 % 4 := by
  unfold esState
  simp only [IE.val,binVal]
  rw [show IntKind.u64.bits = 64 from rfl,and_m2,wrap_u,wrap_small] <;> omega
def erState : IE := .conv .i64 (.op .rem .u64 (.atom 0) (.lit 4))
theorem erState_val (E : Env) (h0 : 0 ≤ E.i 0) (h1 : E.i 0 < 18446744073709551616) : @IE.val E erState = E.i 0 % 4 := by
  unfold erState
  simp only [IE.val,binVal]
  rw [Int.tmod_eq_emod_of_nonneg h0,wrap_small] <;> omega
theorem ev_pure_sState [Env] : base 32 [.w (.one (au 0))] [] [] 1 = .leaf (resI .i64 esState, []) := by kernel_rfl
theorem pure_sState : PureOk Try.prog 32 [.w (.one (au 0))] 1 wordPre (fun a => resI .i64 (.fn 21 a)) := pureW (e := esState) (f := fun x => x % 4) (enters_w Try.func32 (by kernel_rfl)) @ev_pure_sState (fun _ => rfl) esState_val
theorem ev_pure_rState [Env] : base 24 [.w (.one (au 0))] [] [] 1 = .leaf (resI .i64 erState, []) := by kernel_rfl
theorem pure_rState : PureOk Try.prog 24 [.w (.one (au 0))] 1 wordPre (fun a => resI .i64 (.fn 21 a)) := pureW (e := erState) (f := fun x => x % 4) (enters_w Try.func24 (by kernel_rfl)) @ev_pure_rState (fun _ => rfl) erState_val
def esGen : IE := .conv .i64 (.mn (.op .shr .u64 (.atom 0) (.lit 2)) (.lit 1073741823))
theorem esGen_val (E : Env) (h0 : 0 ≤ E.i 0) (h1 : E.i 0 < 18446744073709551616) : @IE.val E esGen = slotGenF (E.i 0) := by
  have q : binVal .shr .u64 (E.i 0) 2 = E.i 0 / 4 := by
    show Int.fdiv (E.i 0) ((2 : Int) ^ (min (Int.toNat 2) IntKind.u64.bits)) = _
    rw [show (2 : Int) ^ (min (Int.toNat 2) IntKind.u64.bits) = 4 from rfl,Int.fdiv_eq_ediv_of_nonneg _ (by omega)]
  show IntKind.i64.wrap (minI (binVal .shr .u64 (E.i 0) 2) 1073741823) = slotGenF (E.i 0)
  rw [q]
  unfold slotGenF minI
  by_cases h : E.i 0 / 4 > 1073741823
  · have h' : ¬ (E.i 0 / 4 ≤ 1073741823) := by omega
    simp only [h,h',if_true,if_false,ite_true,ite_false]
    first | exact wrap_small (by omega) (by omega) | (split <;> rw [wrap_small] <;> omega)
  · have h' : E.i 0 / 4 ≤ 1073741823 := by omega
    simp only [h,h',if_true,if_false,ite_true,ite_false]
    first | exact wrap_small (by omega) (by omega) | (split <;> rw [wrap_small] <;> omega)
def er2Gen : IE := .ite (.cmpI .gtr (.op .quo .u64 (.atom 0) (.lit 4)) (.lit 1073741823)) (.lit 1073741823) (.conv .i64 (.op .quo .u64 (.atom 0) (.lit 4)))
theorem er2Gen_val (E : Env) (h0 : 0 ≤ E.i 0) (h1 : E.i 0 < 18446744073709551616) : @IE.val E er2Gen = slotGenF (E.i 0) := by
  have q : binVal .quo .u64 (E.i 0) 4 = E.i 0 / 4 := by
    show IntKind.u64.wrap ((E.i 0).tdiv 4) = _
    rw [Int.tdiv_eq_ediv_of_nonneg h0,wrap_u,Int.emod_eq_of_lt (by omega) (by omega)]
  show iteI (ofB (cmpVal .gtr (binVal .quo .u64 (E.i 0) 4) 1073741823)) (1073741823 : Int) (IntKind.i64.wrap (binVal .quo .u64 (E.i 0) 4)) = slotGenF (E.i 0)
  rw [q]
  unfold slotGenF
  by_cases h : E.i 0 / 4 > 1073741823
  · rw [if_pos h]; simp [cmpVal,ofB,iteI,h]
  · rw [if_neg h,wrap_small (by omega) (by omega)]; simp [cmpVal,ofB,iteI,h]
theorem ev_pure_sGen [Env] : base 33 [.w (.one (au 0))] [] [] 1 = .leaf (resI .i64 esGen, []) := by kernel_rfl
theorem pure_sGen : PureOk Try.prog 33 [.w (.one (au 0))] 1 wordPre (fun a => resI .i64 (.fn 22 a)) := pureW (e := esGen) (f := slotGenF) (enters_w Try.func33 (by kernel_rfl)) @ev_pure_sGen (fun _ => rfl) esGen_val
theorem ev_pure_r2Gen [Env] : base 83 [.w (.one (au 0))] [] [] 1 = .leaf (resI .i64 er2Gen, []) := by kernel_rfl
theorem pure_r2Gen : PureOk Try.prog 83 [.w (.one (au 0))] 1 wordPre (fun a => resI .i64 (.fn 22 a)) := pureW (e := er2Gen) (f := slotGenF) (enters_w Try.func83 (by kernel_rfl)) @ev_pure_r2Gen (fun _ => rfl) er2Gen_val
theorem pair2 {l : List Int} (h : l.length = 2) : l = [l.getD 0 0, l.getD 1 0] := by
  match l,h with
  | [_,_],_ => rfl
theorem pureI2 {g : Nat} {k : IntKind} {e : IE} {id : Nat} {f : Int → Int → Int} (he : enters Try.prog g) (hev : ∀ [Env], base g [.w (.one (ai 0)), .w (.one (ai 1))] [] [] 1 = .leaf (resI k e, [])) (hf : ∀ x y, funs id [x, y] = f x y)
    (hv : ∀ (E : Env), @IE.val E e = f (E.i 0) (E.i 1)) : PureOk Try.prog g [.w (.one (ai 0)), .w (.one (ai 1))] 2 (fun _ => []) (fun a => resI k (.fn id a)) :=
  PureOk.of (c := @base) (r0 := resI k e) @base_ok @hev he (fun _ _ _ _ _ _ p hp => by cases hp) fun l hl hp E a hal ρ ρ' v hv' => by
    have h1 : v = .int k (@IE.val (envOf l) e) := hv'
    rw [hv (envOf l)] at h1
    show v = .int k (IE.val (.fn id a))
    have h3 : IE.val (.fn id a) = funs id l := by rw [IE.val,hal]
    have h2 : IE.val (.fn id a) = f (l.getD 0 0) (l.getD 1 0) := h3.trans ((congrArg (funs id) (pair2 hl)).trans (hf _ _))
    have h1' : v = .int k (f (l.getD 0 0) (l.getD 1 0)) := h1
    rw [h1',h2]
theorem minI_eq (x y : Int) : minI x y = min x y := by unfold minI; by_cases h : y < x <;> simp only [h,if_true,if_false] <;> omega
theorem maxI_eq (x y : Int) : maxI x y = max x y := by unfold maxI; by_cases h : y > x <;> simp only [h,if_true,if_false] <;> omega
theorem shl_or (x b : Int) (h0 : 0 ≤ x) (h1 : x < 2305843009213693952) (hb0 : 0 ≤ b) (hb : b < 4) : binVal .or .u64 (binVal .shl .u64 x 2) b = 4 * x + b := by
  have q : binVal .shl .u64 x 2 = 4 * x := by
    show IntKind.u64.wrap (x * (2 : Int) ^ (min (Int.toNat 2) IntKind.u64.bits)) = _
    rw [show (2 : Int) ^ (min (Int.toNat 2) IntKind.u64.bits) = 4 from rfl,wrap_u]
    omega
  rw [q]
  show IntKind.u64.wrap (BitVec.ofInt 64 (4 * x) ||| BitVec.ofInt 64 b).toNat = _
  have e1 : (BitVec.ofInt 64 (4 * x)).toNat = 2 ^ 2 * x.toNat := by rw [BitVec.toNat_ofInt]; omega
  have e2 : (BitVec.ofInt 64 b).toNat = b.toNat := by rw [BitVec.toNat_ofInt]; omega
  rw [BitVec.toNat_or,e1,e2, ← Nat.two_pow_add_eq_or_of_lt (by omega),wrap_u]
  omega
def eclL : IE := .mx (.lit 0) (.mn (.atom 1) (.lit 1073741823))
def esAfter : IE := .ite (.cmpI .geq (.mx (.atom 0) (.lit 0)) eclL) (.op .or .u64 (.op .shl .u64 (.conv .u64 eclL) (.lit 2)) (.lit 2)) (.op .or .u64 (.op .shl .u64 (.conv .u64 (.op .add .i64 (.mx (.atom 0) (.lit 0)) (.lit 1))) (.lit 2)) (.lit 0))
theorem esAfter_val (E : Env) : @IE.val E esAfter = afterF (E.i 0) (E.i 1) := by
  show iteI (ofB (decide (maxI (E.i 0) 0 ≥ maxI 0 (minI (E.i 1) 1073741823)))) (binVal .or .u64 (binVal .shl .u64 (IntKind.u64.wrap (maxI 0 (minI (E.i 1) 1073741823))) 2) 2) (binVal .or .u64 (binVal .shl .u64 (IntKind.u64.wrap (IntKind.i64.wrap (maxI (E.i 0) 0 + 1))) 2) 0) = _
  have hg : maxI (E.i 0) 0 = if E.i 0 < 0 then 0 else E.i 0 := by rw [maxI_eq]; split <;> omega
  have hl : maxI 0 (minI (E.i 1) 1073741823) = if E.i 1 < 0 then 0 else if E.i 1 > 1073741823 then 1073741823 else E.i 1 := by
    rw [maxI_eq,minI_eq]
    split
    · omega
    · split <;> omega
  rw [hg,hl,iteI_ofB]
  unfold afterF
  generalize hG : (if E.i 0 < 0 then (0 : Int) else E.i 0) = G
  generalize hL : (if E.i 1 < 0 then (0 : Int) else if E.i 1 > 1073741823 then 1073741823 else E.i 1) = L
  have g0 : 0 ≤ G := by rw [← hG]; split <;> omega
  have l0 : 0 ≤ L ∧ L ≤ 1073741823 := by rw [← hL]; split <;> (try split) <;> omega
  by_cases h : G ≥ L
  · rw [if_pos (decide_eq_true h)]
    simp only [h,if_true]
    rw [wrap_u,Int.emod_eq_of_lt (by omega) (by omega),shl_or _ _ (by omega) (by omega) (by omega) (by omega)]
  · rw [if_neg (by simp [h])]
    simp only [h,if_false]
    rw [wrap_small (by omega) (by omega),wrap_u,Int.emod_eq_of_lt (by omega) (by omega),shl_or _ _ (by omega) (by omega) (by omega) (by omega)]
    omega
theorem ev_pure_sAfter [Env] : base 75 [.w (.one (ai 0)), .w (.one (ai 1))] [] [] 1 = .leaf (resI .u64 esAfter, []) := by kernel_rfl
theorem pure_sAfter : PureOk Try.prog 75 [.w (.one (ai 0)), .w (.one (ai 1))] 2 (fun _ => []) (fun a => resI .u64 (.fn 23 a)) := pureI2 (e := esAfter) (f := afterF) (enters_w Try.func75 (by kernel_rfl)) @ev_pure_sAfter (fun _ _ => rfl) esAfter_val
def e4add (i : Nat) (c : Int) : IE := .conv .u64 (.op .add .i64 (.op .mul .i64 (.lit 4) (.atom i)) (.lit c))
theorem e4add_val (E : Env) (i : Nat) (c : Int) (h : 0 ≤ E.i i ∧ E.i i ≤ 1073741823) (hc : 0 ≤ c ∧ c ≤ 4) : @IE.val E (e4add i c) = 4 * E.i i + c := by
  show IntKind.u64.wrap (IntKind.i64.wrap (IntKind.i64.wrap (4 * E.i i) + c)) = _
  rw [wrap_small (x := 4 * E.i i) (by omega) (by omega),wrap_small (by omega) (by omega),wrap_u]
  omega
def erAfter : IE := .ite (.cmpI .lss (.atom 0) (.lit 0))
    (.ite (.cmpI .lss (.atom 1) (.lit 0)) (.lit 2) (.ite (.cmpI .gtr (.atom 1) (.lit 1073741823)) (.lit 4) (.ite (.cmpI .geq (.lit 0) (.atom 1)) (e4add 1 2) (.lit 4))))
    (.ite (.cmpI .lss (.atom 1) (.lit 0)) (.lit 2) (.ite (.cmpI .gtr (.atom 1) (.lit 1073741823)) (.ite (.cmpI .geq (.atom 0) (.lit 1073741823)) (.lit 4294967294) (e4add 0 4)) (.ite (.cmpI .geq (.atom 0) (.atom 1)) (e4add 1 2) (e4add 0 4))))
theorem after_key (x y W1 W2 : Int) (w1 : 0 ≤ y ∧ y ≤ 1073741823 → W1 = 4 * y + 2) (w2 : 0 ≤ x ∧ x ≤ 1073741823 → W2 = 4 * x + 4) :
    iteI (ofB (cmpVal .lss x 0)) (iteI (ofB (cmpVal .lss y 0)) 2 (iteI (ofB (cmpVal .gtr y 1073741823)) 4 (iteI (ofB (cmpVal .geq 0 y)) W1 4)))
      (iteI (ofB (cmpVal .lss y 0)) 2 (iteI (ofB (cmpVal .gtr y 1073741823)) (iteI (ofB (cmpVal .geq x 1073741823)) 4294967294 W2) (iteI (ofB (cmpVal .geq x y)) W1 W2))) = afterF x y := by
  simp only [cmpVal,iteI_ofB,decide_eq_true_eq]
  unfold afterF
  dsimp only
  by_cases a : x < 0 <;> by_cases b : y < 0 <;> by_cases c : y > 1073741823 <;> simp only [a,b,c,if_true,if_false] <;> repeat' split
  all_goals omega
theorem erAfter_val (E : Env) : @IE.val E erAfter = afterF (E.i 0) (E.i 1) :=
  after_key (E.i 0) (E.i 1) _ _ (fun h => e4add_val E 1 2 h (by omega)) (fun h => e4add_val E 0 4 h (by omega))
theorem ev_pure_rAfter [Env] : base 51 [.w (.one (ai 0)), .w (.one (ai 1))] [] [] 1 = .leaf (resI .u64 erAfter, []) := by kernel_rfl
theorem pure_rAfter : PureOk Try.prog 51 [.w (.one (ai 0)), .w (.one (ai 1))] 2 (fun _ => []) (fun a => resI .u64 (.fn 23 a)) := pureI2 (e := erAfter) (f := afterF) (enters_w Try.func51 (by kernel_rfl)) @ev_pure_rAfter (fun _ _ => rfl) erAfter_val
def resT (k : IntKind) (e : IE) (b : BE) : SV := .tup [.one (.b (.int k e)), .one (.b (.bool b))]
theorem all2_two {ρ : Rho} {k : IntKind} {e : IE} {b : BE} {E : Env} {v : Value} (h : @SV.is E ρ (resT k e b) v) : v = .tuple #[.int k (@IE.val E e), .bool (@BE.val E b)] := by
  obtain ⟨⟨vs⟩,rfl,h2⟩ := h
  match vs,h2 with
  | [x, y], h => 
    have h1 : x = .int k (@IE.val E e) := h.1
    have h2 : y = .bool (@BE.val E b) := h.2.1
    rw [h1,h2]
theorem two_all {ρ : Rho} {k : IntKind} {e : IE} {b : BE} {E : Env} : @SV.is E ρ (resT k e b) (.tuple #[.int k (@IE.val E e), .bool (@BE.val E b)]) := ⟨#[.int k (@IE.val E e), .bool (@BE.val E b)],rfl,rfl,rfl,trivial⟩
theorem pureT2 {g : Nat} {e : IE} {b : BE} {id id2 : Nat} {f : Int → Int → Int} {q : Int → Int → Bool} (he : enters Try.prog g) (hev : ∀ [Env], base g [.w (.one (ai 0)), .w (.one (ai 1))] [] [] 1 = .leaf (resT .u64 e b, [])) (hf : ∀ x y, funs id [x, y] = f x y) (hq : ∀ x y, (funs id2 [x, y] != 0) = q x y)
    (hv : ∀ (E : Env), @IE.val E e = f (E.i 0) (E.i 1)) (hb : ∀ (E : Env), @BE.val E b = q (E.i 0) (E.i 1)) : PureOk Try.prog g [.w (.one (ai 0)), .w (.one (ai 1))] 2 (fun _ => []) (fun a => resT .u64 (.fn id a) (.cmp .neq (.fn id2 a) (.lit 0))) :=
  PureOk.of (c := @base) (r0 := resT .u64 e b) @base_ok @hev he (fun _ _ _ _ _ _ p hp => by cases hp) fun l hl hp E a hal ρ ρ' v hv' => by
    have h1 := @all2_two ρ' .u64 e b (envOf l) v hv'
    rw [hv (envOf l),hb (envOf l)] at h1
    have h3 : IE.val (.fn id a) = funs id l := by rw [IE.val,hal]
    have h2 : IE.val (.fn id a) = f (l.getD 0 0) (l.getD 1 0) := h3.trans ((congrArg (funs id) (pair2 hl)).trans (hf _ _))
    have h4 : IE.val (.fn id2 a) = funs id2 l := by rw [IE.val,hal]
    have h5 : BE.val (.cmp .neq (.fn id2 a) (.lit 0)) = q (l.getD 0 0) (l.getD 1 0) := by
      show (IE.val (.fn id2 a) != 0) = _
      rw [h4]
      exact (congrArg (fun m => funs id2 m != 0) (pair2 hl)).trans (hq _ _)
    have h1' : v = .tuple #[.int .u64 (f (l.getD 0 0) (l.getD 1 0)), .bool (q (l.getD 0 0) (l.getD 1 0))] := h1
    rw [h1', ← h2, ← h5]
    exact two_all
def metaQ (x y : Int) : Bool := decide (metaP x y)
def metaF (x y : Int) : Int := if metaP x y then 4 * y + x else 0
theorem metaQ_eq (x y : Int) : (funs 25 [x,y] != 0) = metaQ x y := ofP_ne _
def emB : BE := .and (.cmp .eql (.atom 0) (.mx (.lit 0) (.mn (.atom 0) (.lit 2)))) (.cmp .eql (.atom 1) (.mx (.lit 0) (.mn (.atom 1) (.lit 1073741823))))
def emI : IE := .ite (.notI (.andI (.cmpI .eql (.atom 0) (.mx (.lit 0) (.mn (.atom 0) (.lit 2)))) (.cmpI .eql (.atom 1) (.mx (.lit 0) (.mn (.atom 1) (.lit 1073741823)))))) (.lit 0) (.op .or .u64 (.op .shl .u64 (.conv .u64 (.atom 1)) (.lit 2)) (.conv .u64 (.atom 0)))
theorem clamp_iff (x m : Int) (hm : 0 ≤ m) : (x == maxI 0 (minI x m)) = decide (0 ≤ x ∧ x ≤ m) := by
  rw [maxI_eq,minI_eq]
  by_cases h : 0 ≤ x ∧ x ≤ m
  · rw [decide_eq_true h,beq_iff_eq]; omega
  · rw [decide_eq_false h,beq_eq_false_iff_ne]; omega
theorem metaQ_and (x y : Int) : (decide (0 ≤ x ∧ x ≤ 2) && decide (0 ≤ y ∧ y ≤ 1073741823)) = metaQ x y := by
  by_cases h : metaP x y
  · rw [metaQ,decide_eq_true h,decide_eq_true ⟨h.1,h.2.1⟩,decide_eq_true ⟨h.2.2.1,h.2.2.2⟩]; rfl
  · rw [metaQ, decide_eq_false h]
    by_cases k : 0 ≤ x ∧ x ≤ 2
    · rw [decide_eq_false (p := 0 ≤ y ∧ y ≤ 1073741823) (fun m => h ⟨k.1,k.2,m.1,m.2⟩),Bool.and_false]
    · rw [decide_eq_false k,Bool.false_and]
theorem emB_val (E : Env) : @BE.val E emB = metaQ (E.i 0) (E.i 1) := by
  show ((E.i 0 == maxI 0 (minI (E.i 0) 2)) && (E.i 1 == maxI 0 (minI (E.i 1) 1073741823))) = _
  rw [clamp_iff _ _ (by omega),clamp_iff _ _ (by omega),metaQ_and]
theorem emI_val (E : Env) : @IE.val E emI = metaF (E.i 0) (E.i 1) := by
  show iteI (ofB (ofB (ofB (E.i 0 == maxI 0 (minI (E.i 0) 2)) != 0 && ofB (E.i 1 == maxI 0 (minI (E.i 1) 1073741823)) != 0) == 0)) 0 (binVal .or .u64 (binVal .shl .u64 (IntKind.u64.wrap (E.i 1)) 2) (IntKind.u64.wrap (E.i 0))) = _
  rw [ofB_bne,ofB_bne,clamp_iff _ _ (by omega),clamp_iff _ _ (by omega),metaQ_and,iteI_ofB]
  unfold metaF
  by_cases h : metaP (E.i 0) (E.i 1)
  · have h' := h
    obtain ⟨a,b,c,d⟩ := h'
    rw [metaQ,decide_eq_true h,if_neg (by decide),if_pos h,wrap_u,wrap_u,Int.emod_eq_of_lt (by omega) (by omega),Int.emod_eq_of_lt (by omega) (by omega),shl_or _ _ (by omega) (by omega) (by omega) (by omega)]
  · rw [metaQ,decide_eq_false h,if_pos (by decide),if_neg h]
theorem ev_pure_sMeta [Env] : base 70 [.w (.one (ai 0)), .w (.one (ai 1))] [] [] 1 = .leaf (resT .u64 emI emB, []) := by kernel_rfl
theorem pure_sMeta : PureOk Try.prog 70 [.w (.one (ai 0)), .w (.one (ai 1))] 2 (fun _ => []) (fun a => resT .u64 (.fn 24 a) (.cmp .neq (.fn 25 a) (.lit 0))) := pureT2 (e := emI) (b := emB) (f := metaF) (q := metaQ) (enters_w Try.func70 (by kernel_rfl)) @ev_pure_sMeta (fun _ _ => rfl) metaQ_eq emI_val emB_val
def ermB : BE := .and (.not (.cmp .lss (.atom 0) (.lit 0))) (.and (.not (.cmp .gtr (.atom 0) (.lit 2))) (.and (.not (.cmp .lss (.atom 1) (.lit 0))) (.not (.cmp .gtr (.atom 1) (.lit 1073741823)))))
def ermI : IE := .ite (.cmpI .lss (.atom 0) (.lit 0)) (.lit 0) (.ite (.cmpI .gtr (.atom 0) (.lit 2)) (.lit 0) (.ite (.cmpI .lss (.atom 1) (.lit 0)) (.lit 0) (.ite (.cmpI .gtr (.atom 1) (.lit 1073741823)) (.lit 0) (.conv .u64 (.op .add .i64 (.op .mul .i64 (.lit 4) (.atom 1)) (.atom 0))))))
theorem ermB_val (E : Env) : @BE.val E ermB = metaQ (E.i 0) (E.i 1) := by
  show (!(decide (E.i 0 < 0)) && (!(decide (E.i 0 > 2)) && (!(decide (E.i 1 < 0)) && !(decide (E.i 1 > 1073741823))))) = _
  rw [← metaQ_and,Bool.eq_iff_iff]
  simp only [Bool.and_eq_true,Bool.not_eq_true',decide_eq_true_eq,decide_eq_false_iff_not]
  omega
theorem meta_key (x y W : Int) (w : metaP x y → W = 4 * y + x) : iteI (ofB (cmpVal .lss x 0)) 0 (iteI (ofB (cmpVal .gtr x 2)) 0 (iteI (ofB (cmpVal .lss y 0)) 0 (iteI (ofB (cmpVal .gtr y 1073741823)) 0 W))) = metaF x y := by
  simp only [cmpVal,iteI_ofB,decide_eq_true_eq]
  unfold metaF
  by_cases h : metaP x y
  · rw [if_pos h, ← w h]
    obtain ⟨a,b,c,d⟩ := h
    rw [if_neg (by omega),if_neg (by omega),if_neg (by omega),if_neg (by omega)]
  · rw [if_neg h]
    unfold metaP at h
    repeat' split
    all_goals omega
theorem ermI_val (E : Env) : @IE.val E ermI = metaF (E.i 0) (E.i 1) := meta_key (E.i 0) (E.i 1) _ fun h => by
  obtain ⟨a,b,c,d⟩ := h
  show IntKind.u64.wrap (IntKind.i64.wrap (IntKind.i64.wrap (4 * E.i 1) + E.i 0)) = _
  rw [wrap_small (x := 4 * E.i 1) (by omega) (by omega),wrap_small (by omega) (by omega),wrap_u]
  omega
theorem ev_pure_rMeta [Env] : base 95 [.w (.one (ai 0)), .w (.one (ai 1))] [] [] 1 = .leaf (resT .u64 ermI ermB, []) := by kernel_rfl
theorem pure_rMeta : PureOk Try.prog 95 [.w (.one (ai 0)), .w (.one (ai 1))] 2 (fun _ => []) (fun a => resT .u64 (.fn 24 a) (.cmp .neq (.fn 25 a) (.lit 0))) := pureT2 (e := ermI) (b := ermB) (f := metaF) (q := metaQ) (enters_w Try.func95 (by kernel_rfl)) @ev_pure_rMeta (fun _ _ => rfl) metaQ_eq ermI_val ermB_val
noncomputable def pw0 : List PEntry := pures
theorem pw0_ok : ∀ e ∈ pw0,e.ok Try.prog := pures_ok
noncomputable def pw1 : List PEntry := ⟨23, [.w (.one (au 0))],1,wordPre,fun a => resI .i64 (.fn 9 a)⟩ :: pw0
theorem pw1_ok : ∀ e ∈ pw1,e.ok Try.prog := pu_cons pure_hGen pw0_ok
noncomputable def pw2 : List PEntry := ⟨88, [.w (.one (au 0))],1,wordPre,fun a => resI .i64 (.fn 9 a)⟩ :: pw1
theorem pw2_ok : ∀ e ∈ pw2,e.ok Try.prog := pu_cons pure_rGen pw1_ok
noncomputable def pw3 : List PEntry := ⟨32, [.w (.one (au 0))],1,wordPre,fun a => resI .i64 (.fn 21 a)⟩ :: pw2
theorem pw3_ok : ∀ e ∈ pw3,e.ok Try.prog := pu_cons pure_sState pw2_ok
noncomputable def pw4 : List PEntry := ⟨24, [.w (.one (au 0))],1,wordPre,fun a => resI .i64 (.fn 21 a)⟩ :: pw3
theorem pw4_ok : ∀ e ∈ pw4,e.ok Try.prog := pu_cons pure_rState pw3_ok
noncomputable def pw5 : List PEntry := ⟨33, [.w (.one (au 0))],1,wordPre,fun a => resI .i64 (.fn 22 a)⟩ :: pw4
theorem pw5_ok : ∀ e ∈ pw5,e.ok Try.prog := pu_cons pure_sGen pw4_ok
noncomputable def pw6 : List PEntry := ⟨83, [.w (.one (au 0))],1,wordPre,fun a => resI .i64 (.fn 22 a)⟩ :: pw5
theorem pw6_ok : ∀ e ∈ pw6,e.ok Try.prog := pu_cons pure_r2Gen pw5_ok
noncomputable def pw7 : List PEntry := ⟨75, [.w (.one (ai 0)), .w (.one (ai 1))],2,fun _ => [],fun a => resI .u64 (.fn 23 a)⟩ :: pw6
theorem pw7_ok : ∀ e ∈ pw7,e.ok Try.prog := pu_cons pure_sAfter pw6_ok
noncomputable def pw8 : List PEntry := ⟨51, [.w (.one (ai 0)), .w (.one (ai 1))],2,fun _ => [],fun a => resI .u64 (.fn 23 a)⟩ :: pw7
theorem pw8_ok : ∀ e ∈ pw8,e.ok Try.prog := pu_cons pure_rAfter pw7_ok
noncomputable def pw9 : List PEntry := ⟨70, [.w (.one (ai 0)), .w (.one (ai 1))],2,fun _ => [],fun a => resT .u64 (.fn 24 a) (.cmp .neq (.fn 25 a) (.lit 0))⟩ :: pw8
theorem pw9_ok : ∀ e ∈ pw9,e.ok Try.prog := pu_cons pure_sMeta pw8_ok
noncomputable def pw10 : List PEntry := ⟨95, [.w (.one (ai 0)), .w (.one (ai 1))],2,fun _ => [],fun a => resT .u64 (.fn 24 a) (.cmp .neq (.fn 25 a) (.lit 0))⟩ :: pw9
theorem pw10_ok : ∀ e ∈ pw10,e.ok Try.prog := pu_cons pure_rMeta pw9_ok
noncomputable def puresW : List PEntry := pw10
theorem puresW_ok : ∀ e ∈ puresW,e.ok Try.prog := pw10_ok
end Go.Proofs.Ytafemlljemhkhaa.Sx
namespace Go.Proofs.Ytafemlljemhkhaa.Sx
open Go
set_option linter.unusedSectionVars false
set_option linter.unusedVariables false
set_option maxRecDepth 100000
noncomputable def base1 [Env] : CallF Empty := callF Try.prog (pureG pures) (extraS Try.prog) noL 100 50
theorem base1_ok [Env] : CallOk Try.prog base1 := callF_ok ⟨mixed_ok,(pureG_ok pures_ok).2,names_ok,(pureG_ok pures_ok).1,extraS_ok _,fun _ _ _ _ _ _ _ _ _ _ _ _ _ _ _ _ h => (by cases h)⟩ 100 50
def litT : SV := .w (.one (.b (.bool (.lit true))))
theorem pure_alive {g : Nat} (he : enters Try.prog g) (hv : ∀ [Env], base1 g [] [] [] 1 = .leaf (litT, [])) : PureOk Try.prog g [] 0 (fun _ => []) (fun _ => litT) :=
  PureOk.of (c := @base1) (r0 := litT) @base1_ok @hv he (fun _ _ _ _ _ _ p hp => by cases hp) fun l hl _ E a hal ρ ρ' v hv => hv
theorem cons_ok {e : PEntry} {l : List PEntry} (he : e.ok Try.prog) (hl : ∀ x ∈ l,x.ok Try.prog) : ∀ x ∈ e :: l,x.ok Try.prog := List.forall_mem_cons.2 ⟨he,hl⟩
noncomputable def al0 : List PEntry := puresW
theorem al0_ok : ∀ e ∈ al0,e.ok Try.prog := puresW_ok
noncomputable def al1 : List PEntry := al0
theorem al1_ok : ∀ e ∈ al1,e.ok Try.prog := al0_ok
noncomputable def al2 : List PEntry := al1
theorem al2_ok : ∀ e ∈ al2,e.ok Try.prog := al1_ok
theorem evalA2 [Env] : base1 17 [] [] [] 1 = .leaf (litT, []) := by kernel_rfl
theorem entersA2 : enters Try.prog 17 := ⟨Try.f17,Try.func17,by kernel_rfl,by kernel_rfl⟩
noncomputable def al3 : List PEntry := ⟨17, [],0,fun _ => [],fun _ => litT⟩ :: al2
theorem al3_ok : ∀ e ∈ al3,e.ok Try.prog := cons_ok (pure_alive entersA2 @evalA2) al2_ok
noncomputable def al4 : List PEntry := al3
theorem al4_ok : ∀ e ∈ al4,e.ok Try.prog := al3_ok
noncomputable def al5 : List PEntry := al4
theorem al5_ok : ∀ e ∈ al5,e.ok Try.prog := al4_ok
noncomputable def al6 : List PEntry := al5
theorem al6_ok : ∀ e ∈ al6,e.ok Try.prog := al5_ok
noncomputable def al7 : List PEntry := al6
theorem al7_ok : ∀ e ∈ al7,e.ok Try.prog := al6_ok
noncomputable def al8 : List PEntry := al7
theorem al8_ok : ∀ e ∈ al8,e.ok Try.prog := al7_ok
noncomputable def al9 : List PEntry := al8
theorem al9_ok : ∀ e ∈ al9,e.ok Try.prog := al8_ok
noncomputable def al10 : List PEntry := al9
theorem al10_ok : ∀ e ∈ al10,e.ok Try.prog := al9_ok
noncomputable def al11 : List PEntry := al10
theorem al11_ok : ∀ e ∈ al11,e.ok Try.prog := al10_ok
noncomputable def pures2 : List PEntry := al11
theorem pures2_ok : ∀ e ∈ pures2,e.ok Try.prog := al11_ok
end Go.Proofs.Ytafemlljemhkhaa.Sx
