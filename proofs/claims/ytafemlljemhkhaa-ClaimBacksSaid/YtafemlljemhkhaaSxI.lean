/-
  THE SYMBOLIC EXECUTOR, part I: all operations that neither read nor write memory, in one function.
-/
import Derived.Test.YtafemlljemhkhaaSxH
namespace Go.Proofs.Ytafemlljemhkhaa.Sx
open Go
set_option linter.unusedSectionVars false
set_option linter.unusedVariables false
set_option linter.unusedSimpArgs false
variable [Env]

def unS (op : UnOp) (x : SV) : Tree SV :=
  match op, x with
  | .not, .w (.one (.b (.bool b))) => .leaf (.w (.one (.b (.bool (mkNot b)))))
  | .neg, .w (.one (.b (.int k e))) => .leaf (.w (.one (.b (.int k (mkOp .sub k (.lit 0) e)))))
  | .xor, .w (.one (.b (.int k e))) => .leaf (.w (.one (.b (.int k (mkOp .xor k (.lit (if k.signed then -1 else k.max)) e)))))
  | _, _ => .fail 60
theorem unS_gives {P : Program} {op : UnOp} {x : SV} {ρ : Rho} {v : Value} (hx : x.is ρ v) {K : SV → Prop} (h : (unS op x).holds K) :
    ∃ r q, K r ∧ r.is ρ q ∧ Gives P (Op.unary op v) q := by
  unfold unS at h
  split at h
  · cases hx
    exact ⟨_, _, h, (by show _ = _; rw [mkNot_val]), fun w => by simp [Op.unary]⟩
  · cases hx
    exact ⟨_, _, h, (by show _ = _; rw [mkOp_val]), fun w => by simp [Op.unary, Op.intArith, binVal, IE.val]⟩
  · cases hx
    exact ⟨_, _, h, (by show _ = _; rw [mkOp_val]), fun w => by simp [Op.unary, Op.intBits, binVal, IE.val]⟩
  · exact h.elim

def evArgs (l : List SV) (xs : Array Operand) : List SV := xs.toList.map (ev l)
theorem evArgs_is {ρ : Rho} {but : List Nat} {l : List SV} {a : Act} (hT : TmpsOk ρ but l a) (xs : Array Operand) (hx : ∀ x ∈ xs, ∀ t ∈ opnds x, t ∉ but) :
    All2 (SV.is ρ) (evArgs l xs) (xs.map a.eval).toList := by
  unfold evArgs
  rw [Array.toList_map]
  exact All2.map _ _ _ fun x hm => ev_is hT x (hx x (by simpa using hm))

def foldMn (k : IntKind) (e : IE) : List SV → Option IE
  | [] => some e
  | s :: l => match asI s with
    | some (k', e') => if k = k' then foldMn k (mkMn e e') l else none
    | none => none
def foldMx (k : IntKind) (e : IE) : List SV → Option IE
  | [] => some e
  | s :: l => match asI s with
    | some (k', e') => if k = k' then foldMx k (mkMx e e') l else none
    | none => none
theorem foldMn_gives {P : Program} {ρ : Rho} {k : IntKind} : ∀ {l : List SV} {vs : List Value} {e r : IE}, All2 (SV.is ρ) l vs → foldMn k e l = some r →
    Gives P (vs.foldlM Builtin.min2 (.int k e.val)) (.int k r.val)
  | [], [], e, r, _, h => by cases h; exact fun w => rfl
  | s :: l, v :: vs, e, r, hl, h => by
    intro w
    simp only [foldMn] at h
    split at h
    · rename_i k' e' h1
      split at h
      · rename_i hk; subst hk
        obtain rfl := asI_is h1 hl.1
        have := foldMn_gives (P := P) hl.2 h w
        rw [mkMn_val] at this
        simp only [List.foldlM_cons, Builtin.min2, Sem.run_bind, Sem.run_pure, Result.andThen_ok]
        exact this
      · cases h
    · cases h
  | [], _ :: _, _, _, h, _ => h.elim
  | _ :: _, [], _, _, h, _ => h.elim
theorem foldMx_gives {P : Program} {ρ : Rho} {k : IntKind} : ∀ {l : List SV} {vs : List Value} {e r : IE}, All2 (SV.is ρ) l vs → foldMx k e l = some r →
    Gives P (vs.foldlM Builtin.max2 (.int k e.val)) (.int k r.val)
  | [], [], e, r, _, h => by cases h; exact fun w => rfl
  | s :: l, v :: vs, e, r, hl, h => by
    intro w
    simp only [foldMx] at h
    split at h
    · rename_i k' e' h1
      split at h
      · rename_i hk; subst hk
        obtain rfl := asI_is h1 hl.1
        have := foldMx_gives (P := P) hl.2 h w
        rw [mkMx_val] at this
        simp only [List.foldlM_cons, Builtin.max2, Sem.run_bind, Sem.run_pure, Result.andThen_ok]
        exact this
      · cases h
    · cases h
  | [], _ :: _, _, _, h, _ => h.elim
  | _ :: _, [], _, _, h, _ => h.elim

def lenS (P : Program) (t : TypeId) (x : SV) : Tree SV :=
  match P.underlying t, x with
  | some (.slice _), .w (.one (.b (.sl _ _ len _))) => .leaf (.w (.one (.b (.int .i64 (mkNat len)))))
  | some (.slice _), .w (.one (.b (.isl _ _ len))) => .leaf (.w (.one (.b (.int .i64 (mkNat len)))))
  | some (.slice _), .w (.one (.b .nils)) => .leaf (.w (.one (.b (.int .i64 (.lit 0)))))
  | some (.array n _), _ => .leaf (.w (.one (.b (.int .i64 (.lit n)))))
  | _, _ => .fail 61

/-- Builtins that read no memory. -/
def pureBuiltin (P : Program) (b : Builtin) (ts : Array TypeId) (l : List SV) : Option (Tree SV) :=
  match b with
  | .len => some (match l, ts.toList with
    | x :: _, t :: _ => lenS P t x
    | _, _ => .fail 62)
  | .min => some (match l with
    | x :: rest => match asI x with
      | some (k, e) => match foldMn k e rest with
        | some r => .leaf (.w (.one (.b (.int k r))))
        | none => .fail 63
      | none => .fail 63
    | [] => .fail 63)
  | .max => some (match l with
    | x :: rest => match asI x with
      | some (k, e) => match foldMx k e rest with
        | some r => .leaf (.w (.one (.b (.int k r))))
        | none => .fail 63
      | none => .fail 63
    | [] => .fail 63)
  | _ => none

def pureOp (P : Program) (op : Op) (l : List SV) : Option (Tree SV) :=
  match op with
  | .move x => some (.leaf (ev l x))
  | .assign x => some (.leaf (ev l x))
  | .pick c a b => some (match asBo (ev l c) with
    | some e => mkBr e (.leaf (ev l a)) (.leaf (ev l b))
    | none => .fail 70)
  | .build t parts => some (buildS P t (parts.toList.map fun p => (p.1, ev l p.2)))
  | .field t x f => some (match fieldT P t f, asAg (ev l x) with
    | some (off, ty), some cs => partS P ty cs off
    | _, _ => .fail 71)
  | .extract x i => some (match ev l x with
    | .tup ws => match ws[i]? with
      | some s => .leaf (.w s)
      | none => .fail 72
    | _ => .fail 72)
  | .nilCheck x => some (match ev l x with
    | .w (.one (.b (.ptr n o))) => .leaf (.w (.one (.b (.ptr n o))))
    | .w (.one (.fn (.func f) a b)) => .leaf (.w (.one (.fn (.func f) a b)))
    | _ => .fail 73)
  | .binOp o t x y _ => some (binS P o t (ev l x) (ev l y))
  | .unOp o _ x => some (unS o (ev l x))
  | .convert s d x => some (match P.underlying s, P.underlying d, asI (ev l x) with
    | some _, some (.int k), some (_, e) => .leaf (.w (.one (.b (.int k (mkConv k e)))))
    | _, _, _ => .fail 74)
  | .makeFunc fn first cap => some (match asSBs (evArgs l first), asSBs (evArgs l cap) with
    | some a, some b => .leaf (.w (.one (.fn fn a b)))
    | _, _ => .fail 75)
  | .slice t x lo hi none => some (sliceS P t (ev l x) (lo.map (ev l)) (hi.map (ev l)))
  | .fieldAddr s x f => some (fieldAddrS P s (ev l x) f)
  | .indexAddr t x i => some (indexAddrS P t (ev l x) (ev l i))
  | .index t x i => some (indexS P t (ev l x) (ev l i))
  | .call { callee := .builtin b, args, argTypes } => pureBuiltin P b argTypes (evArgs l args)
  | _ => none

theorem run_v {P : Program} {m : Sem Value} {v : Value} (h : Gives P m v) : Gives P (do pure (Next.value (← m))) (.value v) := by
  intro w; simp [h w]

theorem pureBuiltin_gives {P : Program} {b : Builtin} {ts : Array TypeId} {l : List SV} {t : Tree SV} (h : pureBuiltin P b ts l = some t) {ρ : Rho} {vs : Array Value} (hl : All2 (SV.is ρ) l vs.toList)
    {K : SV → Prop} (hK : t.holds K) (ty : TypeId) (consts : Array Bool) : ∃ s v, K s ∧ s.is ρ v ∧ Gives P (Go.builtin b ts ty consts vs) (.value v) := by
  unfold pureBuiltin at h
  split at h
  · cases h
    split at hK
    · rename_i x rest t0 ts' ht
      obtain ⟨v, hv, hxv⟩ := hl.get 0 x (by simp)
      have hv' : vs[0]? = some v := by simpa using hv
      have ht' : ts[0]? = some t0 := by rw [← Array.getElem?_toList, ht]; rfl
      unfold lenS at hK
      split at hK
      · rename_i e n o len cap hu
        obtain ⟨b', _, rfl⟩ := hxv
        refine ⟨_, goInt len.val.toNat, hK, ?_, ?_⟩
        · show _ = _; rw [mkNat_val]; rfl
        · exact run_v fun w => by simp [Builtin.len_, ht', hv', gives_underlying hu w]
      · rename_i e n o len hu
        obtain ⟨a, c, rfl, _⟩ := hxv
        refine ⟨_, goInt len.val.toNat, hK, ?_, ?_⟩
        · show _ = _; rw [mkNat_val]; rfl
        · exact run_v fun w => by simp [Builtin.len_, ht', hv', gives_underlying hu w]
      · rename_i e hu
        cases hxv
        exact ⟨_, goInt 0, hK, rfl, run_v fun w => by simp [Builtin.len_, ht', hv', gives_underlying hu w]⟩
      · rename_i _ m _ hu
        exact ⟨_, goInt m, hK, rfl, run_v fun w => by simp [Builtin.len_, ht', hv', gives_underlying hu w]⟩
      · exact hK.elim
    · exact hK.elim
  · cases h
    split at hK
    · rename_i x rest
      split at hK
      · rename_i k e h1
        split at hK
        · rename_i r h2
          cases hvs : vs.toList with
          | nil => rw [hvs] at hl; exact hl.elim
          | cons v us =>
            rw [hvs] at hl
            obtain rfl := asI_is h1 hl.1
            refine ⟨_, _, hK, rfl, run_v fun w => ?_⟩
            simp only [Builtin.min_, hvs]
            exact foldMn_gives hl.2 h2 w
        · exact hK.elim
      · exact hK.elim
    · exact hK.elim
  · cases h
    split at hK
    · rename_i x rest
      split at hK
      · rename_i k e h1
        split at hK
        · rename_i r h2
          cases hvs : vs.toList with
          | nil => rw [hvs] at hl; exact hl.elim
          | cons v us =>
            rw [hvs] at hl
            obtain rfl := asI_is h1 hl.1
            refine ⟨_, _, hK, rfl, run_v fun w => ?_⟩
            simp only [Builtin.max_, hvs]
            exact foldMx_gives hl.2 h2 w
        · exact hK.elim
      · exact hK.elim
    · exact hK.elim
  · cases h

theorem optOp_is {ρ : Rho} {but : List Nat} {l : List SV} {a : Act} (hT : TmpsOk ρ but l a) (x : Option Operand) (hx : ∀ y, x = some y → ∀ t ∈ opnds y, t ∉ but) : OptIs ρ (x.map (ev l)) (x.map a.eval) := by
  cases x with
  | none => trivial
  | some y => exact ev_is hT y (hx y rfl)

theorem pureOp_gives {P : Program} {o : Oper} {l : List SV} {t : Tree SV} (h : pureOp P o.op l = some t) {ρ : Rho} {but : List Nat} {a : Act} (hT : TmpsOk ρ but l a)
    (hb : ∀ x ∈ o.op.operands, ∀ t ∈ opnds x, t ∉ but) {K : SV → Prop} (hK : t.holds K) : ∃ s v, K s ∧ s.is ρ v ∧ Gives P (execOp a.eval o) (.value v) := by
  obtain ⟨dst, op, type, pos, after, guard⟩ := o
  simp only at h hb
  unfold pureOp at h
  split at h
  case h_1 x => cases h; exact ⟨_, _, hK, ev_is hT x (hb x (by simp [Op.operands])), fun w => rfl⟩
  case h_2 x => cases h; exact ⟨_, _, hK, ev_is hT x (hb x (by simp [Op.operands])), fun w => rfl⟩
  case h_3 c x y =>
    cases h
    split at hK
    · rename_i e he
      have hc := asBo_is he (ev_is hT c (hb c (by simp [Op.operands])))
      obtain ⟨h1, h2⟩ := mkBr_holds hK
      cases hv : e.val with
      | true => exact ⟨_, _, h1 hv, ev_is hT x (hb x (by simp [Op.operands])), fun w => by simp [execOp, hc, asBool, hv]⟩
      | false => exact ⟨_, _, h2 hv, ev_is hT y (hb y (by simp [Op.operands])), fun w => by simp [execOp, hc, asBool, hv]⟩
    · exact hK.elim
  case h_4 t parts =>
    cases h
    have hp : All2 (fun (p : Nat × SV) (q : Nat × Value) => p.1 = q.1 ∧ p.2.is ρ q.2) (parts.toList.map fun p => (p.1, ev l p.2)) (parts.map fun p => (p.1, a.eval p.2)).toList := by
      rw [Array.toList_map]
      refine All2.map _ _ _ fun p hm => ⟨rfl, ev_is hT p.2 (hb p.2 ?_)⟩
      simp only [Op.operands]
      simp
      exact ⟨p.1, by simpa using hm⟩
    obtain ⟨s, v, h1, h2, h3⟩ := buildS_gives hp hK
    exact ⟨s, v, h1, h2, run_v h3⟩
  case h_5 t x f =>
    cases h
    split at hK
    · rename_i off ty cs hf hcs
      obtain ⟨vs, hv, hl⟩ := asAg_is hcs (ev_is hT x (hb x (by simp [Op.operands])))
      obtain ⟨s, v, h1, h2, h3⟩ := partS_gives hl hK
      refine ⟨s, v, h1, h2, run_v fun w => ?_⟩
      unfold fieldT at hf
      split at hf
      · rename_i fs hu
        obtain ⟨fd, hfd, he⟩ := Option.map_eq_some_iff.1 hf
        cases he
        simp [Instr.field, gives_underlying hu w, hfd, hv, asAgg, h3 w]
      · cases hf
    · exact hK.elim
  case h_6 x i =>
    cases h
    split at hK
    · rename_i ws hws
      split at hK
      · rename_i s hs
        have := ev_is hT x (hb x (by simp [Op.operands]))
        rw [hws] at this
        obtain ⟨vs, hv, hl⟩ := this
        obtain ⟨v, hv1, hv2⟩ := hl.get i s hs
        have hv' : vs[i]? = some v := by simpa using hv1
        exact ⟨_, v, hK, hv2, run_v fun w => by simp [Instr.extract, hv, hv']⟩
      · exact hK.elim
    · exact hK.elim
  case h_7 x =>
    cases h
    split at hK
    · rename_i n o hx
      have := ev_is hT x (hb x (by simp [Op.operands]))
      rw [hx] at this
      obtain ⟨b, hb1, hb2⟩ := this
      exact ⟨_, _, hK, ⟨b, hb1, rfl⟩, fun w => by simp [execOp, hb2]⟩
    · rename_i f p q hx
      have := ev_is hT x (hb x (by simp [Op.operands]))
      rw [hx] at this
      obtain ⟨vs, us, h1, h2, h3⟩ := this
      exact ⟨_, _, hK, ⟨vs, us, rfl, h2, h3⟩, fun w => by simp [execOp, h1]⟩
    · exact hK.elim
  case h_8 op t x y yt =>
    cases h
    obtain ⟨s, v, h1, h2, h3⟩ := binS_gives (ev_is hT x (hb x (by simp [Op.operands]))) (ev_is hT y (hb y (by simp [Op.operands]))) hK x y
    exact ⟨s, v, h1, h2, run_v h3⟩
  case h_9 op t x =>
    cases h
    obtain ⟨s, v, h1, h2, h3⟩ := unS_gives (P := P) (ev_is hT x (hb x (by simp [Op.operands]))) hK
    exact ⟨s, v, h1, h2, run_v h3⟩
  case h_10 s d x =>
    cases h
    split at hK
    · rename_i sd k k' e h1 h2 h3
      have := asI_is h3 (ev_is hT x (hb x (by simp [Op.operands])))
      refine ⟨_, .int k (k.wrap e.val), hK, by (show _ = _; rw [mkConv_val]), run_v fun w => ?_⟩
      rw [this]
      simp only [Go.convert, Sem.run_bind, gives_underlying h1 w, gives_underlying h2 w, Result.andThen_ok, Conv.intToInt, Sem.run_pure]
    · exact hK.elim
  case h_11 fn first cap =>
    cases h
    split at hK
    · rename_i p q h1 h2
      exact ⟨_, .func fn (first.map a.eval) (cap.map a.eval), hK,
        ⟨_, _, rfl, asSBs_is h1 (evArgs_is hT first fun x hx => hb x (by simp [Op.operands, hx])), asSBs_is h2 (evArgs_is hT cap fun x hx => hb x (by simp [Op.operands, hx]))⟩,
        run_v fun w => by simp [Instr.makeFunc]⟩
    · exact hK.elim
  case h_12 t x lo hi =>
    cases h
    obtain ⟨s, v, h1, h2, h3⟩ := sliceS_gives (ev_is hT x (hb x (by simp [Op.operands])))
      (optOp_is hT lo fun y hy => hb y (by subst hy; simp [Op.operands])) (optOp_is hT hi fun y hy => hb y (by subst hy; simp [Op.operands])) hK
    exact ⟨s, v, h1, h2, run_v h3⟩
  case h_13 s x f =>
    cases h
    obtain ⟨s, v, h1, h2, h3⟩ := fieldAddrS_gives (ev_is hT x (hb x (by simp [Op.operands]))) hK
    exact ⟨s, v, h1, h2, run_v h3⟩
  case h_14 t x i =>
    cases h
    obtain ⟨s, v, h1, h2, h3⟩ := indexAddrS_gives (ev_is hT x (hb x (by simp [Op.operands]))) (ev_is hT i (hb i (by simp [Op.operands]))) hK
    exact ⟨s, v, h1, h2, run_v h3⟩
  case h_15 t x i =>
    cases h
    obtain ⟨s, v, h1, h2, h3⟩ := indexS_gives (ev_is hT x (hb x (by simp [Op.operands]))) (ev_is hT i (hb i (by simp [Op.operands]))) hK
    exact ⟨s, v, h1, h2, run_v h3⟩
  case h_16 b args argTypes =>
    obtain ⟨s, v, h1, h2, h3⟩ := pureBuiltin_gives h (evArgs_is hT args fun x hx => hb x (by simp [Op.operands, Call.operands, hx])) hK type (args.map fun | .const _ => true | _ => false)
    refine ⟨s, v, h1, h2, fun w => ?_⟩
    simp only [execOp, resolve, Sem.run_bind, Sem.run_pure, Result.andThen_ok, Go.invoke]
    exact h3 w
  case h_17 => cases h

end Go.Proofs.Ytafemlljemhkhaa.Sx
