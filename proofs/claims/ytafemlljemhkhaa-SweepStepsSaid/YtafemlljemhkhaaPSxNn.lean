import Derived.Test.YtafemlljemhkhaaPSxFo
namespace Go.Proofs.Ytafemlljemhkhaa.Sx
open Go
set_option linter.unusedSectionVars false
set_option linter.unusedVariables false
set_option linter.unusedSimpArgs false
theorem HeapOk.put [Env] {ρ : Rho} {F : Nat → Nat → Prop} {h : Heap Empty} {w : World} (H : HeapOk ρ F h w) {n : Nat} {o o' : SO Empty} (hn : look h n = some o) (ho : ∀ r, o.ok ρ r (F n) w → o'.ok ρ r (F n) w) (hw : o.wr = true) : HeapOk ρ F (put h n o') w := by
  refine ⟨fun m => ?_,fun m q r hm hr => ?_,H.disj,fun m q hm hq => ?_,H.size⟩
  · by_cases e : m = n
    · subst e; rw [look_put_same, ← H.dom m,hn]; rfl
    · rw [look_put_ne _ _ _ _ e]; exact H.dom m
  · by_cases e : m = n
    · subst e; rw [look_put_same] at hm; cases hm; exact ho r (H.obj m o r hn hr)
    · rw [look_put_ne _ _ _ _ e] at hm; exact H.obj m q r hm hr
  · by_cases e : m = n
    · subst e; exact H.low m o hn hw
    · rw [look_put_ne _ _ _ _ e] at hm; exact H.low m q hm hq
def nnK (K : Int) : Nat := K.toNat - 899
theorem nn_mach {K : Int} (h : 900 < K.toNat) {l : List Int} {r : RV} {F : Nat → Prop} {w : World} (hg : growOk (K.toNat - 900) l r F w) : ∃ k, nnK K = k ∧ MachOk k l r F w := by
  have e : nnK K = (K.toNat - 901) + 2 := by unfold nnK; omega
  have e2 : K.toNat - 900 = (K.toNat - 901) + 1 := by omega
  refine ⟨_,e, ?_⟩
  rw [e2] at hg
  generalize K.toNat - 901 = q at hg ⊢
  exact hg
def nnS (op : BinOp) (x y : SV) (h : Heap Empty) : Option (Tree (SV × Heap Empty)) :=
  match gval x with
  | some n => (match look h n with
    | some (.mach 0 (.consL (.lit K) L)) => if (isNilS y && (Nat.blt 900 K.toNat && Nat.blt K.toNat 1000)) then (match op with
      | .eql => some (.leaf (.w (.one (.b (.bool (.lit false)))),put h n (.mach (nnK K) L)))
      | .neq => some (.leaf (.w (.one (.b (.bool (.lit true)))),put h n (.mach (nnK K) L)))
      | _ => none) else none
    | some (.mach (k + 2) L) => (match cntL L with
      | some (c + 1) => if isNilS y then (match op with
        | .eql => some (.leaf (.w (.one (.b (.bool (.lit false)))),h))
        | .neq => some (.leaf (.w (.one (.b (.bool (.lit true)))),h))
        | _ => none) else none
      | _ => none)
    | some (.mach 1 L) => if isNilS y then (match op with
      | .eql => some (.leaf (.w (.one (.b (.bool (.lit true)))),h))
      | .neq => some (.leaf (.w (.one (.b (.bool (.lit false)))),h))
      | _ => none) else none
    | _ => none)
  | none => none
def nnG (P : Program) : Extra Empty := fun op l prot h nm =>
  match op with
  | .binOp o t x y _ => (match P.underlying t with
    | some (.slice _) => nnS o (ev l x) (ev l y) h
    | _ => none)
  | _ => none
def extraN (P : Program) : Extra Empty := fun op l prot h nm => match nnG P op l prot h nm with
  | some t => some t
  | none => extraG P op l prot h nm
theorem nn_run [Env] {P : Program} {t e : TypeId} (hu : P.underlying t = some (.slice e)) {a : Addr} {len cap : Nat} (x y : Operand) :
    Gives P (do eqGuard .eql t x y (.slice (some a) len cap) (.slice none 0 0); Go.binOp .eql t (.slice (some a) len cap) (.slice none 0 0)) (.bool false) ∧
    Gives P (do eqGuard .neq t x y (.slice (some a) len cap) (.slice none 0 0); Go.binOp .neq t (.slice (some a) len cap) (.slice none 0 0)) (.bool true) := by
  have h1 : ∀ d,Gives P (Op.equalIn (d + 1) t (.slice (some a) len cap) (.slice none 0 0)) false := fun d w => by simp [Op.equalIn,gives_underlying hu w]
  have h2 : Gives P (Op.equalIn Op.maxDepth t (.slice (some a) len cap) (.slice none 0 0)) false := h1 9999
  constructor <;> intro w <;> simp [eqGuard,Go.binOp,Op.equal,h2 w]
theorem nn_run0 [Env] {P : Program} {t e : TypeId} (hu : P.underlying t = some (.slice e)) (x y : Operand) :
    Gives P (do eqGuard .eql t x y (.slice none 0 0) (.slice none 0 0); Go.binOp .eql t (.slice none 0 0) (.slice none 0 0)) (.bool true) ∧
    Gives P (do eqGuard .neq t x y (.slice none 0 0) (.slice none 0 0); Go.binOp .neq t (.slice none 0 0) (.slice none 0 0)) (.bool false) := by
  have h1 : ∀ d,Gives P (Op.equalIn (d + 1) t (.slice none 0 0) (.slice none 0 0)) true := fun d w => by simp [Op.equalIn,gives_underlying hu w]
  have h2 : Gives P (Op.equalIn Op.maxDepth t (.slice none 0 0) (.slice none 0 0)) true := h1 9999
  constructor <;> intro w <;> simp [eqGuard,Go.binOp,Op.equal,h2 w]
theorem nn_weak [Env] {K : Int} {k : Nat} (hk : nnK K = k) {L : IE} {r : RV} {ρ : Rho} {F : Nat → Prop} {w : World} (h1 : 900 < K.toNat) (h2 : K.toNat < 1000) (h : (SO.mach 0 (.consL (.lit K) L) : SO Empty).ok ρ r F w) : (SO.mach k L : SO Empty).ok ρ r F w := by
  have hm : CompOk K.toNat L.lst r F w := h
  rw [← Comp.eq (n := 0) (by omega)] at hm
  have h3 : growOk (K.toNat - 900) L.lst r F w := hm.2.1
  obtain ⟨k',q1,q2⟩ := nn_mach h1 h3
  rw [hk] at q1
  cases q1
  exact q2
theorem nnG_ok [Env] (P : Program) : ExtraOk P (nnG P) := by
  intro o l prot h nm t ρ but F a w K ht H hT hb hK
  obtain ⟨dst,op,type,pos,after,guard⟩ := o
  simp only at ht hb
  unfold nnG at ht
  split at ht
  case h_2 => cases ht
  rename_i o t0 x y q
  split at ht
  case h_2 => cases ht
  rename_i e hu
  have hx := ev_is hT x (hb x (by simp [Op.operands]))
  have hy := ev_is hT y (hb y (by simp [Op.operands]))
  unfold nnS at ht
  split at ht
  case h_2 => cases ht
  rename_i n hg
  obtain ⟨r,hr,hv⟩ := gval_is hg hx
  split at ht
  case h_4 => cases ht
  · rename_i K0 L hl
    generalize hk : nnK K0 = k at ht
    split at ht
    case isFalse => cases ht
    rename_i hc
    simp only [Bool.and_eq_true] at hc
    obtain ⟨hz,h1,h2⟩ := hc
    have h1 := Nat.blt_eq.mp h1
    have h2 := Nat.blt_eq.mp h2
    have hm : CompOk K0.toNat L.lst r (F n) w := H.obj n _ r hl hr
    rw [← Comp.eq (n := 0) (by omega)] at hm
    obtain ⟨_,hgr,b,len,cap,hrv⟩ := hm
    subst hrv
    have hnil := isNilS_is hz hy
    have hv0 : a.eval x = .slice (some b) len cap := hv
    have H' : HeapOk ρ F (put h n (.mach k L)) w := H.put hl (fun r hr => nn_weak hk h1 h2 hr) rfl
    have hrun := nn_run (P := P) hu (a := b) (len := len) (cap := cap) x y
    split at ht
    · cases ht
      refine ⟨_,_, .bool false, ρ,F,w,hK,rfl, ?_,H',Goes.refl _ _ _ _⟩
      have := run_v hrun.1 w
      rw [← hv0, ← hnil] at this
      simp only [execOp]
      simpa using this
    · cases ht
      refine ⟨_,_, .bool true, ρ,F,w,hK,rfl, ?_,H',Goes.refl _ _ _ _⟩
      have := run_v hrun.2 w
      rw [← hv0, ← hnil] at this
      simp only [execOp]
      simpa using this
    · cases ht
  · rename_i k L hl
    split at ht
    case h_2 => cases ht
    rename_i c hcnt
    split at ht
    case isFalse => cases ht
    rename_i hz
    obtain ⟨ad,len,cap,hrv,h2,h3,h4⟩ := grow_of H hl (by omega) hr
    have hne : ∃ b, ad = some b := by
      rcases h4 with h4 | ⟨b,e,pre,rest,g1,_⟩
      · exfalso
        have : len = 0 := by omega
        subst this
        rw [Nat.zero_mul,cntL_len hcnt] at h2
        omega
      · exact ⟨_,g1⟩
    obtain ⟨b,rfl⟩ := hne
    subst hrv
    have hnil := isNilS_is hz hy
    have hv0 : a.eval x = .slice (some b) len cap := hv
    have hrun := nn_run (P := P) hu (a := b) (len := len) (cap := cap) x y
    split at ht
    · cases ht
      refine ⟨_,_, .bool false, ρ,F,w,hK,rfl, ?_,H,Goes.refl _ _ _ _⟩
      have := run_v hrun.1 w
      rw [← hv0, ← hnil] at this
      simp only [execOp]
      simpa using this
    · cases ht
      refine ⟨_,_, .bool true, ρ,F,w,hK,rfl, ?_,H,Goes.refl _ _ _ _⟩
      have := run_v hrun.2 w
      rw [← hv0, ← hnil] at this
      simp only [execOp]
      simpa using this
    · cases ht
  · rename_i L hl
    split at ht
    case isFalse => cases ht
    rename_i hz
    obtain ⟨hrv,_,_⟩ := H.obj n _ r hl hr
    subst hrv
    have hnil := isNilS_is hz hy
    have hv0 : a.eval x = .slice none 0 0 := hv
    have hrun := nn_run0 (P := P) hu x y
    split at ht
    · cases ht
      refine ⟨_,_, .bool true, ρ,F,w,hK,rfl, ?_,H,Goes.refl _ _ _ _⟩
      have := run_v hrun.1 w
      simp only [execOp]
      rw [hv0,hnil]
      simpa using this
    · cases ht
      refine ⟨_,_, .bool false, ρ,F,w,hK,rfl, ?_,H,Goes.refl _ _ _ _⟩
      have := run_v hrun.2 w
      simp only [execOp]
      rw [hv0,hnil]
      simpa using this
    · cases ht
theorem extraN_ok [Env] (P : Program) : ExtraOk P (extraN P) := by
  intro o l prot h nm t ρ but F a w K ht H hT hb hK
  unfold extraN at ht
  split at ht
  · rename_i t' ht'
    cases ht
    exact nnG_ok P o l prot h nm t ρ but F a w K ht' H hT hb hK
  · exact extraG_ok P o l prot h nm t ρ but F a w K ht H hT hb hK
theorem Summ.grow {P : Program} {g N sz a : Nat} {ps : List SV} {rest : Heap Empty} {t1 t2 t' : Tree (SV × Heap Empty)} (hsz : 0 < sz ∧ sz < 100)
    (h1 : Summ.ok P ⟨g,ps,(N, .mach 1 .nilL) :: rest,t1⟩) (h2 : Summ.ok P ⟨g,ps,(N, .mach 0 (.consL (.lit (900 + sz : Nat)) (.latom a))) :: rest,t2⟩)
    (c1 : ∀ (E : Env) (Q : SV × Heap Empty → Prop),E.l a = [] → @Tree.holds E _ Q t' → @Tree.holds E _ (fun r => ∃ r',Q r' ∧ Eqv E r r') t1)
    (c2 : ∀ (E : Env) (Q : SV × Heap Empty → Prop), @Tree.holds E _ Q t' → @Tree.holds E _ (fun r => ∃ r',Q r' ∧ Eqv E r r') t2) :
    Summ.ok P ⟨g,ps,(N, .mach (sz + 1) (.latom a)) :: rest,t'⟩ := by
  refine ⟨h1.1,fun E ρ F w argv Q H ha hQ => ?_⟩
  have H : @HeapOk E Empty _ ρ F ((N, .mach (sz + 1) (.latom a)) :: rest) w := H
  have hl0 : look ((N,(SO.mach (sz + 1) (.latom a) : SO Empty)) :: rest) N = some (.mach (sz + 1) (.latom a)) := by simp [look]
  obtain ⟨r,hr⟩ := @HeapOk.rho_some E Empty _ _ _ _ _ H N _ hl0
  obtain ⟨q,rfl⟩ : ∃ q,sz = q + 1 := ⟨sz - 1,by omega⟩
  have hm0 : growOk (q + 1) (E.l a) r (F N) w := H.obj N _ r hl0 hr
  have key : ∀ {t : Tree (SV × Heap Empty)} {o : SO Empty}, Summ.ok P ⟨g, ps, (N, o) :: rest, t⟩ → (∀ r', ρ N = some r' → @SO.ok E Empty _ ρ r' (F N) w o) → @Tree.holds E _ (fun r => ∃ r', Q r' ∧ Eqv E r r') t → @CallsTo E Empty _ P [] ρ F w g argv Q := by
    intro t o ho hok hh
    have hp : (N,o) :: rest = put ((N,(SO.mach (q + 1 + 1) (.latom a) : SO Empty)) :: rest) N o := by simp [Sx.put]
    have H' : @HeapOk E Empty _ ρ F ((N, o) :: rest) w := by
      rw [hp]
      refine @HeapOk.mk E Empty _ ρ F _ w (fun m => ?_) (fun m p r2 hm hr2 => ?_) H.disj (fun m p hm hq => ?_) H.size
      · by_cases e : m = N
        · subst e; rw [look_put_same,hr]; rfl
        · rw [look_put_ne _ _ _ _ e]; exact H.dom m
      · by_cases e : m = N
        · subst e; rw [look_put_same] at hm; cases hm; exact hok r2 hr2
        · rw [look_put_ne _ _ _ _ e] at hm; exact H.obj m p r2 hm hr2
      · by_cases e : m = N
        · subst e; exact H.low m _ hl0 rfl
        · rw [look_put_ne _ _ _ _ e] at hm; exact H.low m p hm hq
    refine Calls.mono (ho.2 E ρ F w argv _ H' ha hh) fun e w' he => ?_
    obtain ⟨s,h',v, ρ',F',⟨r',k1,k2,k3⟩,rfl,g2,g3,g4⟩ := he
    exact ⟨r'.1,r'.2,v, ρ',F',k1,rfl,k2 _ _ g2,k3 _ _ _ g3,g4⟩
  obtain ⟨ad,len,cap,hra,hlen,hcap,hrest⟩ := id hm0
  cases ad with
  | none =>
    have h0 : cap = 0 ∧ ∀ x, ¬ F N x := by
      rcases hrest with h | ⟨_,_,_,_,h,_⟩
      · exact h
      · cases h
    obtain rfl : len = 0 := by omega
    have hnil : E.l a = [] := by rw [Nat.zero_mul] at hlen; exact List.eq_nil_of_length_eq_zero hlen.symm
    refine key h1 (fun r' hr' => ?_) (c1 E Q hnil hQ)
    rw [hr] at hr'; cases hr'
    exact ⟨by rw [hra,h0.1],rfl,h0.2⟩
  | some ad =>
    refine key h2 (fun r' hr' => ?_) (c2 E Q hQ)
    rw [hr] at hr'; cases hr'
    show CompOk (((900 + (q + 1) : Nat) : Int)).toNat (E.l a) r (F N) w
    rw [Int.toNat_natCast, ← Comp.eq (n := 0) (by omega)]
    exact ⟨by omega,by rw [show 900 + (q + 1) - 900 = q + 1 by omega]; exact hm0,ad,len,cap,hra⟩
end Go.Proofs.Ytafemlljemhkhaa.Sx
