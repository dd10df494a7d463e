/-
  THE SYMBOLIC EXECUTOR, part Fc: functions with loops, from head to head, until they tell true.
-/
import Derived.Test.YtafemlljemhkhaaSxFb
namespace Go.Proofs.Ytafemlljemhkhaa.Sx
open Go
set_option linter.unusedSectionVars false
set_option linter.unusedVariables false
set_option linter.unusedSimpArgs false

/-! ### matching: a guess, held against the states by fitSS -/
def bindA (i : Nat) (e : IE) (S : Sub) : Sub := match lkE S.a i with
  | some _ => S
  | none => ⟨(i, e) :: S.a, S.l, S.n⟩
def bindL (i : Nat) (e : IE) (S : Sub) : Sub := match lkE S.l i with
  | some _ => S
  | none => ⟨S.a, (i, e) :: S.l, S.n⟩
def bindN (n m : Nat) (S : Sub) : Sub := match lkN S.n n with
  | some _ => S
  | none => ⟨S.a, S.l, (n, m) :: S.n⟩
def mIE : IE → IE → Sub → Sub
  | .atom i, x, S => bif Nat.ble 1000 i then bindA i x S else S
  | .latom i, x, S => bif Nat.ble 1000 i then bindL i x S else S
  | .op _ _ a b, .op _ _ a' b', S => mIE b b' (mIE a a' S)
  | .conv _ a, .conv _ a', S => mIE a a' S
  | .mn a b, .mn a' b', S => mIE b b' (mIE a a' S)
  | .mx a b, .mx a' b', S => mIE b b' (mIE a a' S)
  | .at_ a b _ _, .at_ a' b' _ _, S => mIE b b' (mIE a a' S)
  | .dif a b, .dif a' b', S => mIE b b' (mIE a a' S)
  | .nat a, .nat a', S => mIE a a' S
  | .cmpI _ a b, .cmpI _ a' b', S => mIE b b' (mIE a a' S)
  | .notI a, .notI a', S => mIE a a' S
  | .andI a b, .andI a' b', S => mIE b b' (mIE a a' S)
  | .eqI a b, .eqI a' b', S => mIE b b' (mIE a a' S)
  | .eqL a b, .eqL a' b', S => mIE b b' (mIE a a' S)
  | .ite a b c, .ite a' b' c', S => mIE c c' (mIE b b' (mIE a a' S))
  | .get a b _, .get a' b' _, S => mIE b b' (mIE a a' S)
  | .len _, .len _, S => S
  | .tab _ a _, .tab _ a' _, S => mIE a a' S
  | .fn _ a, .fn _ a', S => mIE a a' S
  | .consL a b, .consL a' b', S => mIE b b' (mIE a a' S)
  | .rep a _, .rep a' _, S => mIE a a' S
  | .putL a b c, .putL a' b' c', S => mIE c c' (mIE b b' (mIE a a' S))
  | .putL a b (.consL (.atom i) .nilL), x, S => mIE a x (bif Nat.ble 1000 i then bindA i (.get x b 0) S else S)
  | .subL a b c _, .subL a' b' c' _, S => mIE c c' (mIE b b' (mIE a a' S))
  | .ofTab _ a, .ofTab _ a', S => mIE a a' S
  | .fnL _ a, .fnL _ a', S => mIE a a' S
  | .catL a b, .catL a' b', S => mIE b b' (mIE a a' S)
  | .tabL _ a _, .tabL _ a' _, S => mIE a a' S
  | _, _, S => S
def mBE : BE → BE → Sub → Sub
  | .atom i, x, S => bif Nat.ble 1000 i then bindA i x.toI S else S
  | .cmp _ a b, .cmp _ a' b', S => mIE b b' (mIE a a' S)
  | .not a, .not a', S => mBE a a' S
  | .eq a b, .eq a' b', S => mBE b b' (mBE a a' S)
  | .and a b, .and a' b', S => mBE b b' (mBE a a' S)
  | _, _, S => S
def mSB : SB → SB → Sub → Sub
  | .bool a, .bool b, S => mBE a b S
  | .int _ a, .int _ b, S => mIE a b S
  | .ptr n a, .ptr m b, S => mIE a b (bindN n m S)
  | .sl n a b c, .sl m a' b' c', S => mIE c c' (mIE b b' (mIE a a' (bindN n m S)))
  | .isl n a b, .isl m a' b', S => mIE b b' (mIE a a' (bindN n m S))
  | .isl n a b, .sl m a' b' _, S => mIE b b' (mIE a a' (bindN n m S))
  | .isl _ _ b, .nils, S => mIE b (.lit 0) S
  | .ref n, .ref m, S => bindN n m S
  | _, _, S => S
def mSBs : List SB → List SB → Sub → Sub
  | p :: ps, x :: xs, S => mSBs ps xs (mSB p x S)
  | _, _, S => S
def mSC : SC → SC → Sub → Sub
  | .b p, .b x, S => mSB p x S
  | .fn _ p q, .fn _ p' q', S => mSBs q q' (mSBs p p' S)
  | _, _, S => S
def mSCs : List SC → List SC → Sub → Sub
  | p :: ps, x :: xs, S => mSCs ps xs (mSC p x S)
  | _, _, S => S
def mSW : SW → SW → Sub → Sub
  | .one p, .one x, S => mSC p x S
  | .agg p, .agg x, S => mSCs p x S
  | _, _, S => S
def mSWs : List SW → List SW → Sub → Sub
  | p :: ps, x :: xs, S => mSWs ps xs (mSW p x S)
  | _, _, S => S
def mSVs : List SV → List SV → Sub → Sub
  | .w p :: ps, .w x :: xs, S => mSVs ps xs (mSW p x S)
  | .tup p :: ps, .tup x :: xs, S => mSVs ps xs (mSWs p x S)
  | _ :: ps, _ :: xs, S => mSVs ps xs S
  | _, _, S => S
def mSO : SO Empty → SO Empty → Sub → Sub
  | .cells _ l _, .cells _ l' _, S => mSCs l l' S
  | .row _ _ l, .row _ _ l', S => mIE l l' S
  | .tab _ o n _, .tab _ o' n' _, S => mIE n n' (mIE o o' S)
  | .mach _ l, .mach _ l', S => mIE l l' S
  | _, _, S => S
/-- The objects that the names stand for, one behind the other (their names are told first to last as they are found). -/
def mObjs (g h : Heap Empty) : Nat → List Nat → Sub → Sub
  | 0, _, S => S
  | n + 1, done, S =>
    match (S.n.reverse.filter fun p => !done.contains p.1) with
    | [] => S
    | (k, m) :: _ => mObjs g h n (k :: done) (match look g k, look h m with
      | some o, some x => mSO o x S
      | _, _ => S)
def matchSS (I s : SS Empty) : Sub := mObjs I.h s.h 60 [] (mSVs I.l s.l ⟨[], [], []⟩)

/-! ### measures: the loops about a head, outermost first; each a bound and a count -/
def valsM [Env] : List (IE × IE) → List Nat
  | [] => []
  | (b, c) :: l => (b.val - c.val).toNat :: valsM l
def Lx : List Nat → List Nat → Prop
  | _ :: _, [] => True
  | x :: n, y :: o => x < y ∨ (x = y ∧ Lx n o)
  | [], _ => False
theorem Lx_acc : ∀ (D : Nat) (l : List Nat), l.length ≤ D → Acc (fun n o => n.length ≤ D ∧ Lx n o) l
  | 0, [], _ => ⟨_, fun n hn => by cases n with
    | nil => exact hn.2.elim
    | cons x n => have := hn.1; simp at this⟩
  | 0, _ :: _, h => by simp at h
  | D + 1, l, h => by
    have key : ∀ (x : Nat) (o : List Nat), o.length ≤ D → Acc (fun n o => n.length ≤ D + 1 ∧ Lx n o) (x :: o) := by
      intro x
      induction x using Nat.strongRecOn with
      | _ x ihx =>
        intro o ho
        induction Lx_acc D o ho with
        | intro o _ iho =>
          refine ⟨_, fun n hn => ?_⟩
          cases n with
          | nil => exact hn.2.elim
          | cons y n =>
            have hlen : n.length ≤ D := by have := hn.1; simpa using this
            rcases hn.2 with h1 | ⟨h1, h2⟩
            · exact ihx y h1 n hlen
            · subst h1; exact iho n ⟨hlen, h2⟩ hlen
    cases l with
    | cons x o => exact key x o (by simpa using h)
    | nil =>
      refine ⟨_, fun n hn => ?_⟩
      cases n with
      | nil => exact hn.2.elim
      | cons y n => exact key y n (by have := hn.1; simpa using this)
def decrB (fs : List BE) : List (IE × IE) → List (IE × IE) → Bool
  | [], _ :: _ => true
  | (b, c) :: o, (b', c') :: n => IE.beq b b' && ((IE.beq c c' && decrB fs o n) || (IE.beq c' (.op .add .i64 c (.lit 1)) && (knownF fs (.cmp .lss c b) && (knownF fs (.cmp .leq (.lit (-9223372036854775808)) c) && knownF fs (.cmp .leq b (.lit 9223372036854775807))))))
  | _, _ => false
theorem wrap64_small {x : Int} (h0 : -9223372036854775808 ≤ x) (h1 : x ≤ 9223372036854775807) : IntKind.i64.wrap x = x := by
  unfold IntKind.wrap
  simp only [IntKind.bits, IntKind.signed]
  by_cases h : 0 ≤ x
  · have h2 : x % (2 ^ 64 : Int) = x := Int.emod_eq_of_lt h (by omega)
    simp only [h2]
    rw [if_neg]
    simp
    omega
  · have h2 : x % (2 ^ 64 : Int) = x + 2 ^ 64 := by omega
    simp only [h2]
    rw [if_pos]
    · omega
    · simp; omega
theorem decrB_spec [Env] {fs : List BE} (hf : ∀ c ∈ fs, c.val = true) : ∀ {o n : List (IE × IE)}, decrB fs o n = true → Lx (valsM n) (valsM o)
  | [], _ :: _, _ => trivial
  | (b, c) :: o, (b', c') :: n, h => by
    simp only [decrB, Bool.and_eq_true, Bool.or_eq_true] at h
    obtain ⟨h1, h2⟩ := h
    have e1 := IE.beq_eq h1
    subst e1
    rcases h2 with ⟨h2, h3⟩ | ⟨h2, h3, h4, h5⟩
    · have e2 := IE.beq_eq h2
      subst e2
      exact .inr ⟨rfl, decrB_spec hf h3⟩
    · have e2 := IE.beq_eq h2
      subst e2
      have k1 := of_decide_eq_true (knownF_spec hf h3)
      have k2 := of_decide_eq_true (knownF_spec hf h4)
      have k3 := of_decide_eq_true (knownF_spec hf h5)
      simp only [IE.val] at k2 k3
      refine .inl ?_
      simp only [IE.val, binVal]
      rw [wrap64_small (by omega) (by omega)]
      omega
  | [], [], h => by simp only [decrB, Bool.false_eq_true] at h
  | _ :: _, [], h => by simp only [decrB, Bool.false_eq_true] at h
def subM (S : Sub) : List (IE × IE) → List (IE × IE)
  | [] => []
  | (b, c) :: l => (b.sub S, c.sub S) :: subM S l
theorem valsM_sub (E : Env) {S : Sub} (hS : S.okB = true) : ∀ (l : List (IE × IE)), @valsM E (subM S l) = @valsM (E.by S) l
  | [] => rfl
  | (b, c) :: l => by simp only [subM, valsM, (IE.sub_spec E hS b).1, (IE.sub_spec E hS c).1, valsM_sub E hS l]
theorem valsM_len [Env] : ∀ (l : List (IE × IE)), (valsM l).length = l.length
  | [] => rfl
  | _ :: l => by simp only [valsM, List.length_cons, valsM_len l]

/-! ### heads of loops -/
structure Cut where
  p : List Nat
  I : SS Empty
  fs : List BE
  ms : List (IE × IE)
def eqP : List Nat → List Nat → Bool
  | [], [] => true
  | a :: l, b :: m => Nat.beq a b && eqP l m
  | _, _ => false
theorem eqP_eq : ∀ {l m : List Nat}, eqP l m = true → l = m
  | [], [], _ => rfl
  | a :: l, b :: m, h => by
    simp only [eqP, Bool.and_eq_true] at h
    rw [Nat.eq_of_beq_eq_true h.1, eqP_eq h.2]
  | [], _ :: _, h => by simp only [eqP, Bool.false_eq_true] at h
  | _ :: _, [], h => by simp only [eqP, Bool.false_eq_true] at h
def findC (p : List Nat) : List Cut → Option Cut
  | [] => none
  | c :: l => if eqP c.p p = true then some c else findC p l
theorem findC_spec {p : List Nat} : ∀ {l : List Cut} {c : Cut}, findC p l = some c → c ∈ l ∧ c.p = p
  | [], c, h => by cases h
  | x :: l, c, h => by
    simp only [findC] at h
    split at h
    · rename_i e; cases h; exact ⟨List.mem_cons_self .., eqP_eq e⟩
    · obtain ⟨h1, h2⟩ := findC_spec h; exact ⟨List.mem_cons_of_mem _ h1, h2⟩
/-- What follows out of facts, whatever the unknowns are. -/
abbrev Ths := List (List BE × BE)
def ThsOk (ths : Ths) : Prop := ∀ (E : Env) (t : List BE × BE), t ∈ ths → (∀ b ∈ t.1, @BE.val E b = true) → @BE.val E t.2 = true
def knownAll (fs : List BE) : List BE → Bool
  | [] => true
  | b :: l => knownF fs b && knownAll fs l
theorem knownAll_spec [Env] {fs : List BE} (hf : ∀ c ∈ fs, c.val = true) : ∀ {l : List BE}, knownAll fs l = true → ∀ b ∈ l, b.val = true
  | [], _, b, hb => by cases hb
  | x :: l, h, b, hb => by
    simp only [knownAll, Bool.and_eq_true] at h
    rcases List.mem_cons.1 hb with rfl | hb
    · exact knownF_spec hf h.1
    · exact knownAll_spec hf h.2 b hb
def closeF : Ths → List BE → List BE
  | [], fs => fs
  | (ps, q) :: l, fs => closeF l (if knownAll fs ps = true then addF q.sim fs else fs)
theorem closeF_spec [E : Env] : ∀ {ths : Ths} {fs : List BE}, ThsOk ths → (∀ c ∈ fs, c.val = true) → ∀ c ∈ closeF ths fs, c.val = true
  | [], fs, _, hf => hf
  | (ps, q) :: l, fs, ht, hf => by
    simp only [closeF]
    refine closeF_spec (fun E t h => ht E t (List.mem_cons_of_mem _ h)) ?_
    split
    · rename_i h
      exact addF_spec (by rw [BE.sim_val]; exact ht E _ (List.mem_cons_self ..) (knownAll_spec hf h)) hf
    · exact hf
/-- The reading of a tree of runs. -/
def solveF {L : Type} (ths : Ths) (good : List BE → L → Bool) : List BE → Tree L → Bool
  | fs, .leaf l => good fs l
  | _, .fail _ => false
  | fs, .req p t => knownF fs p && solveF ths good fs t
  | fs, .br b t f => (knownF fs (notC b) || solveF ths good (closeF ths (addF b.sim fs)) t) && (knownF fs b || solveF ths good (closeF ths (addF (notC b).sim fs)) f)
theorem solveF_ok [Env] {L : Type} {ths : Ths} (ht : ThsOk ths) {good : List BE → L → Bool} {Q : L → Prop} (hg : ∀ fs l, (∀ c ∈ fs, c.val = true) → good fs l = true → Q l) :
    ∀ {t : Tree L} {fs : List BE}, (∀ c ∈ fs, c.val = true) → solveF ths good fs t = true → t.holds Q
  | .leaf l, fs, hf, h => hg fs l hf h
  | .fail n, fs, hf, h => by cases h
  | .req p t, fs, hf, h => by
    simp only [solveF, Bool.and_eq_true] at h
    exact ⟨knownF_spec hf h.1, solveF_ok ht hg hf h.2⟩
  | .br b t f, fs, hf, h => by
    simp only [solveF, Bool.and_eq_true, Bool.or_eq_true] at h
    refine ⟨fun hb => ?_, fun hb => ?_⟩
    · rcases h.1 with h1 | h1
      · have := knownF_spec hf h1; rw [notC_val, hb] at this; cases this
      · exact solveF_ok ht hg (closeF_spec ht (addF_spec (by rw [BE.sim_val]; exact hb) hf)) h1
    · rcases h.2 with h1 | h1
      · have := knownF_spec hf h1; rw [hb] at this; cases this
      · exact solveF_ok ht hg (closeF_spec ht (addF_spec (by rw [BE.sim_val, notC_val, hb]; rfl) hf)) h1
noncomputable def leafOk [Env] (P : Program) (rs : Array ResultVar) (cuts : List Cut) (old : Option (List (IE × IE))) (fs : List BE) : RR → Bool
  | .at_ p s => match findC p cuts with
    | some c => fitSS (matchSS c.I s) c.I s && (knownAll fs (c.fs.map (BE.sub (matchSS c.I s))) && (match old with
      | some o => decrB fs o (subM (matchSS c.I s) c.ms)
      | none => true))
    | none => false
  | .fin s => match resS P rs s.l s.h with
    | .leaf (.w (.one (.b (.bool b)))) => knownF fs b
    | _ => false
def isLoop : Option Code → Bool
  | some _ => true
  | none => false
def cutsP (cuts : List Cut) (p : List Nat) : Bool := match findC p cuts with
  | some _ => true
  | none => false
noncomputable def segAt [Env] (P : Program) (c : CallF Empty) (x : Extra Empty) (B : Nat) (root : Code) (cuts : List Cut) (k : Cut) : Tree RR := match subAt root k.p with
  | some (.loop body) => segC P c x B (cutsP cuts) body (0 :: k.p) k.I (contT P c x B (cutsP cuts) root (0 :: k.p))
  | some b => segC P c x B (cutsP cuts) b k.p k.I (contT P c x B (cutsP cuts) root k.p)
  | none => .fail 183
theorem segAt_ok [Env] {P : Program} {c : CallF Empty} {x : Extra Empty} {B : Nat} {root : Code} {cuts : List Cut} {k : Cut} {Q : Exit → Act → World → Prop} {Rl : Rho → (Nat → Nat → Prop) → World → Prop} (hR : RlOk Rl) (hm : P.follows .mixedOrders = true) (hc : CallOk P c) (hx : ExtraOk P x)
    {ρ : Rho} {F : Nat → Nat → Prop} {a : Act} {w : World} (H : HeapOk ρ F k.I.h w) (hT : TmpsOk ρ [] k.I.l a) (R : Rl ρ F w) (h : (segAt P c x B root cuts k).holds (XR P root Q Rl)) : AtR P root Q k.p a w := by
  unfold segAt at h
  unfold AtR
  cases hs : subAt root k.p with
  | none => rw [hs] at h; exact h.elim
  | some b =>
    rw [hs] at h
    cases b
    case loop body =>
      refine loopR_step ?_
      have hW : contW P root Q (0 :: k.p) = Exit.then (loopR P body (contW P root Q k.p)) (contW P root Q k.p) := by simp only [contW, hs]
      rw [← hW]
      exact segC_ok hR hm hc hx body (0 :: k.p) k.I ρ F a w _ (by simp [subAt, hs]) H hT R (contT_ok hR hm hc hx (0 :: k.p)) h
    all_goals exact segC_ok hR hm hc hx _ k.p k.I ρ F a w _ hs H hT R (contT_ok hR hm hc hx k.p) h
noncomputable def segStart [Env] (P : Program) (c : CallF Empty) (x : Extra Empty) (B : Nat) (root : Code) (cuts : List Cut) (ntmps : Nat) (args : List SV) (h : Heap Empty) : Tree RR :=
  segC P c x B (cutsP cuts) root [] ⟨args ++ List.replicate (ntmps - args.length) undefS, h, 0⟩ (contT P c x B (cutsP cuts) root [])

end Go.Proofs.Ytafemlljemhkhaa.Sx
