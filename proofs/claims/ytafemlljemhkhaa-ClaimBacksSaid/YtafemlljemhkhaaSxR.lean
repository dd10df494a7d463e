/-
  THE SYMBOLIC EXECUTOR, part R: the operations beside the others, in one.
-/
import Derived.Test.YtafemlljemhkhaaSxQ
namespace Go.Proofs.Ytafemlljemhkhaa.Sx
open Go
set_option linter.unusedSectionVars false
set_option linter.unusedVariables false
set_option linter.unusedSimpArgs false
variable [Env]

section
variable {A : Type} [AbsK A]

/-- append onto an empty slice: the room that is left is hidden. -/
def appendS (P : Program) (ts : Array TypeId) (x y : SV) (h : Heap A) (nm : Nat) : Tree (SV × Heap A) :=
  let empty := match x with
    | .w (.one (.b .nils)) => true
    | .w (.one (.b (.sl _ _ (.lit l) (.lit c)))) => Nat.beq l.toNat 0 && Nat.beq c.toNat 0
    | _ => false
  match ts.toList, sliceOf y with
  | [t0, t1], some (ns, os, ls) =>
    match P.underlying t0, P.underlying t1, look h ns with
    | some (.slice e), some (.slice _), some so =>
      match sizeT P e, zeroT P e, bytesT P e, srcI so os ls 1 with
      | some 1, some z, some by_, some (k, c, L) =>
        if empty && freeN h nm then
          mkBr c (mkBr (.cmp .leq (.nat ls) (.lit (281474976710656 / (by_ + 1) : Nat)))
            (.leaf (.w (.one (.b (.isl nm (.lit 0) ls))), (nm, .row k e L) :: h)) (.fail 220)) (.fail 220)
        else .fail 221
      | _, _, _, _ => .fail 222
    | _, _, _ => .fail 223
  | _, _ => .fail 224
theorem run_append {P : Program} {t0 t1 ty e e' : TypeId} {sz : Nat} {i : TypeInfo} {z : Value} (ht : P.underlying t0 = some (.slice e)) (ht1 : P.underlying t1 = some (.slice e')) (hi : P.info? e = some i) (hz : i.zero = some z) (hs : i.size = sz)
    {base a : Option Addr} {sLen sCap n c : Nat} {olds news : List Value} {w : World} (hlo : (Builtin.firstCells sz sLen (.slice base sLen sCap)).run P w.drew = .ok olds.toArray w.drew)
    (hln : (Builtin.firstCells sz n (.slice a n c)).run P w.drew = .ok news.toArray w.drew) (hg : sCap < sLen + n) (h63 : ((sLen + n : Nat) : Int) ≤ 9223372036854775807) (hfit : Builtin.nextslicecap (sLen + n) sCap * i.bytes ≤ 281474976710656) :
    (Builtin.append_ #[t0, t1] ty #[.slice base sLen sCap, .slice a n c]).run P w =
      .ok (.slice (some ⟨w.heap.size, 0, none⟩) (sLen + n) (grownCap w (sLen + n) sCap e))
        (w.drew.alloc (.cells (olds.toArray ++ news.toArray ++ Builtin.zeroCells z.cells (grownCap w (sLen + n) sCap e - (sLen + n))) e)) := by
  subst hs
  have hn : ¬ (sLen + n ≤ sCap) := by omega
  have h63' : ¬ (9223372036854775807 < ((sLen : Int) + (n : Int))) := by omega
  have h48' : ¬ (281474976710656 < Builtin.nextslicecap (sLen + n) sCap * i.bytes) := by omega
  simp [Builtin.append_, run_underlying ht, run_underlying ht1, sizeOf, typeInfo, zeroValue, hi, hz, Builtin.lenOf, hn, h63', h48', Question.forced, hlo, hln, newRow, grownCap]
  congr 2
  apply Array.ext'
  simp [List.append_assoc]
theorem run_append0 {P : Program} {t0 t1 ty e e' : TypeId} (ht : P.underlying t0 = some (.slice e)) (ht1 : P.underlying t1 = some (.slice e')) {sz : Nat} (hsz : sizeT P e = some sz) {base a : Option Addr} {c : Nat} {w : World} :
    (Builtin.append_ #[t0, t1] ty #[.slice base 0 0, .slice a 0 c]).run P w = .ok (.slice base 0 0) w := by
  have hf : ∀ w : World, (Builtin.firstCells sz 0 (.slice a 0 c)).run P w = .ok #[] w := fun w => by
    cases a with
    | none => simp [Builtin.firstCells]
    | some a => simp [Builtin.firstCells, loadCells, loadCellsFrom]
  cases base with
  | none => simp [Builtin.append_, run_underlying ht, run_underlying ht1, gives_sizeOf hsz w, Builtin.lenOf, hf]
  | some b => simp [Builtin.append_, run_underlying ht, run_underlying ht1, gives_sizeOf hsz w, Builtin.lenOf, hf, storeCells]
theorem HeapOk.ghost {prot : Nat → Nat → Prop} {ρ : Rho} {F : Nat → Nat → Prop} {h : Heap A} {w : World} (H : HeapOk ρ F h w) {n : Nat} (hn : look h n = none) (hni : Hi n) (k : IntKind) (e : Nat) {l : IE} (hl0 : l.lst = []) :
    HeapOk (upd ρ n (some (.val .nilFunc))) (upd F n (fun _ => False)) ((n, .row k e l) :: h) w ∧ Goes prot ρ F w (upd ρ n (some (.val .nilFunc))) (upd F n (fun _ => False)) w := by
  have hρn : ρ n = none := by
    have := H.dom n; rw [hn] at this
    cases hr : ρ n with
    | none => rfl
    | some r => rw [hr] at this; simp at this
  have hext : Rho.Ext ρ (upd ρ n (some (.val .nilFunc))) := fun m r hm => by
    rw [upd_ne _ _ _ _ (fun e => by subst e; rw [hρn] at hm; cases hm)]; exact hm
  have hbound : ∀ m, (upd ρ n (some (.val .nilFunc)) m).isSome → m ≠ n → (ρ m).isSome := fun m hm e => by rwa [upd_ne _ _ _ _ e] at hm
  refine ⟨⟨fun m => ?_, fun m o r hm hr => ?_, fun m m' x hne hm hm' hh hx hx' => ?_, fun m o hm hw => ?_, fun m x hm hx => ?_⟩, ⟨hext, rfl, rfl, rfl, Nat.le_refl _, fun _ _ _ => rfl, fun m x hm hx => ?_, fun m hm _ => ?_, fun _ _ _ _ _ => rfl⟩⟩
  · by_cases em : m = n
    · subst em; rw [upd_same]; simp [look]
    · have : (n == m) = false := by simpa using Ne.symm em
      rw [upd_ne _ _ _ _ em]; simp only [look, this, cond_false]; exact H.dom m
  · by_cases em : m = n
    · subst em
      rw [upd_same] at hr ⊢
      simp [look] at hm; subst hm; cases hr
      exact .inl ⟨hl0, rfl, fun x h => h⟩
    · have hne : (n == m) = false := by simpa using Ne.symm em
      rw [upd_ne _ _ _ _ em] at hr ⊢
      simp only [look, hne, cond_false] at hm
      exact SO.ok_frame hext (H.obj m o r hm hr) (Nat.le_refl _) fun _ _ => rfl
  · by_cases em : m = n
    · subst em; rw [upd_same] at hx; exact hx
    · by_cases em' : m' = n
      · subst em'; rw [upd_same] at hx'; exact hx'
      · rw [upd_ne _ _ _ _ em] at hx; rw [upd_ne _ _ _ _ em'] at hx'
        exact H.disj m m' x hne (hbound m hm em) (hbound m' hm' em') hh hx hx'
  · by_cases em : m = n
    · exact em ▸ hni
    · have hne : (n == m) = false := by simpa using Ne.symm em
      simp only [look, hne, cond_false] at hm
      exact H.low m o hm hw
  · by_cases em : m = n
    · subst em; rw [upd_same] at hx; exact hx.elim
    · rw [upd_ne _ _ _ _ em] at hx; exact H.size m x (hbound m hm em) hx
  · by_cases em : m = n
    · subst em; rw [upd_same] at hx; exact hx.elim
    · rw [upd_ne _ _ _ _ em] at hx; exact .inr ⟨m, hbound m hm em, hx, id⟩
  · exact upd_ne _ _ _ _ (fun em => hm (em ▸ hni))
theorem appendS_ok {P : Program} {prot : Prot} {ts : Array TypeId} {ty : TypeId} {x y : SV} {h : Heap A} {nm : Nat} {ρ : Rho} {F : Nat → Nat → Prop} {w : World} (H : HeapOk ρ F h w) {u v : Value} (hx : x.is ρ u) (hy : y.is ρ v) {K : SV × Heap A → Prop}
    (hK : (appendS P ts x y h nm).holds K) : Ran P prot ρ F w (Builtin.append_ ts ty #[u, v]) K := by
  unfold appendS at hK
  simp only at hK
  generalize hE : (match x with
    | .w (.one (.b .nils)) => true
    | .w (.one (.b (.sl _ _ (.lit l) (.lit c)))) => Nat.beq l.toNat 0 && Nat.beq c.toNat 0
    | _ => false) = empty at hK
  split at hK
  · rename_i t0 t1 ns os ls hts hsl
    obtain rfl : ts = #[t0, t1] := by cases ts; simp at hts; subst hts; rfl
    split at hK
    · rename_i e e' so hu hu1 hlook
      split at hK
      · rename_i z by_ k c L hsz hz hby hsrc
        split at hK
        · rename_i hef
          simp only [Bool.and_eq_true] at hef
          obtain ⟨hem, hfn⟩ := hef
          obtain ⟨hnone, hni⟩ := freeN_spec hfn
          have hu0 : ∃ base, u = .slice base 0 0 := by
            rw [← hE] at hem
            split at hem
            · cases hx; exact ⟨none, rfl⟩
            · rename_i n o l cp
              obtain ⟨b, _, rfl⟩ := hx
              simp only [Bool.and_eq_true, Nat.beq_eq] at hem
              refine ⟨some ⟨b, o.val.toNat, none⟩, ?_⟩
              show Value.slice _ l.toNat cp.toNat = _
              rw [hem.1, hem.2]
            · cases hem
          obtain ⟨base, rfl⟩ := hu0
          obtain ⟨h1, h2⟩ := mkBr_holds hK
          cases hc : c.val with
          | false => exact (h2 hc).elim
          | true =>
            obtain ⟨h3, h4⟩ := mkBr_holds (h1 hc)
            by_cases hlim : ls.val.toNat ≤ 281474976710656 / (by_ + 1)
            · have hK' := h3 (decide_eq_true (Int.ofNat_le.2 hlim))
              obtain ⟨g1, a, cp, rfl, g2⟩ := firstCells_I (P := P) H hsl hy hlook hsrc hc (Nat.le_refl _)
              obtain ⟨_, a', cp', hsame, g3⟩ := firstCells_I (P := P) (H.drawn (w.drawn + 1)) hsl hy hlook hsrc hc (Nat.le_refl _)
              cases hsame
              rw [Nat.mul_one] at g1
              by_cases hz0 : ls.val.toNat = 0
              · have hL : L.lst = [] := List.length_eq_zero_iff.1 (by rw [g1, hz0])
                obtain ⟨H', G⟩ := H.ghost (prot := prot.pr) hnone hni k e hL
                refine ⟨_, _, .slice base 0 0, _, _, w, hK', ⟨base, 0, ?_, .inl hz0⟩, ?_, H', G⟩
                · rw [hz0]
                · rw [hz0]; exact run_append0 hu hu1 hsz
              · have hb0 : (by_ + 1) * (281474976710656 / (by_ + 1)) ≤ 281474976710656 := Nat.mul_div_le _ _
                have hb1 : ls.val.toNat * by_ ≤ 281474976710656 := by
                  have e2 : ls.val.toNat * by_ ≤ (281474976710656 / (by_ + 1)) * by_ := Nat.mul_le_mul_right _ hlim
                  have e3 : (281474976710656 / (by_ + 1)) * by_ ≤ (281474976710656 / (by_ + 1)) * (by_ + 1) := Nat.mul_le_mul_left _ (Nat.le_succ _)
                  rw [Nat.mul_comm _ (by_ + 1)] at e3
                  omega
                have hb2 : ls.val.toNat ≤ 281474976710656 := Nat.le_trans hlim (Nat.div_le_self _ _)
                unfold bytesT at hby
                obtain ⟨i, hi, rfl⟩ := Option.map_eq_some_iff.1 hby
                unfold zeroT at hz
                rw [hi] at hz
                simp only at hz
                split at hz
                · rename_i zv hzv
                  have hsi : i.size = 1 := by unfold sizeT at hsz; rw [hi] at hsz; simpa using hsz
                  have hlo : (Builtin.firstCells 1 0 (.slice base 0 0)).run P w.drew = .ok ([] : List Value).toArray w.drew := by
                    cases base with
                    | none => simp [Builtin.firstCells]
                    | some b => simp [Builtin.firstCells, loadCells, loadCellsFrom]
                  have hrun := run_append (ty := ty) hu hu1 hi hzv hsi (olds := []) (news := L.lst.map (Value.int k)) (sLen := 0) (sCap := 0) (n := ls.val.toNat) hlo g3 (by omega) (by omega) (by rw [Nat.zero_add, nextslicecap_zero (by omega)]; exact hb1)
                  obtain ⟨H', G⟩ := (H.drawn (w.drawn + 1)).alloc (prot := prot.pr) hnone hni (o := .row k e L) (obj := .cells (L.lst.map (Value.int k) ++ (Builtin.zeroCells zv.cells (grownCap w (0 + ls.val.toNat) 0 e - (0 + ls.val.toNat))).toList).toArray e (0, 0)) (.inr ⟨k, e, _, _, rfl, rfl⟩)
                  have hob : (([] : List Value).toArray ++ (L.lst.map (Value.int k)).toArray ++ Builtin.zeroCells zv.cells (grownCap w (0 + ls.val.toNat) 0 e - (0 + ls.val.toNat))) = (L.lst.map (Value.int k) ++ (Builtin.zeroCells zv.cells (grownCap w (0 + ls.val.toNat) 0 e - (0 + ls.val.toNat))).toList).toArray := by
                    apply Array.ext'; simp
                  rw [hob] at hrun
                  exact ⟨_, _, _, _, _, _, hK', ⟨some ⟨w.heap.size, 0, none⟩, grownCap w (0 + ls.val.toNat) 0 e, by rw [Nat.zero_add], .inr ⟨w.heap.size, upd_same _ _ _, rfl⟩⟩, hrun, H', (Goes.drawn prot.pr ρ F w (w.drawn + 1)).trans G⟩
                · cases hz
            · exact (h4 (decide_eq_false (fun hh => hlim (Int.ofNat_le.1 hh)))).elim
        · exact hK.elim
      · exact hK.elim
    · exact hK.elim
  · exact hK.elim
def extraS (P : Program) : Extra A := fun op l prot h nm =>
  match op with
  | .call { callee := .builtin .copy, args, argTypes } =>
    match evArgs l args with
    | [x, y] => some (copyS P prot argTypes x y h)
    | _ => none
  | .call { callee := .builtin .append, args, argTypes } =>
    match evArgs l args with
    | [x, y] => some (appendS P argTypes x y h nm)
    | _ => none
  | _ => none
theorem two_of {ρ : Rho} {x y : SV} {vs : Array Value} (h : All2 (SV.is ρ) [x, y] vs.toList) : ∃ u v, vs = #[u, v] ∧ x.is ρ u ∧ y.is ρ v := by
  obtain ⟨l⟩ := vs
  simp only at h
  match l, h with
  | [u, v], h => exact ⟨u, v, rfl, h.1, h.2.1⟩
  | [], h => exact h.elim
  | [_], h => exact h.2.elim
  | _ :: _ :: _ :: _, h => exact h.2.2.elim
theorem extraS_ok (P : Program) : ExtraOk P (extraS (A := A) P) := by
  intro o l prot h nm t ρ but F a w K ht H hT hb hK
  obtain ⟨dst, op, type, pos, after, guard⟩ := o
  simp only at ht hb
  unfold extraS at ht
  split at ht
  · rename_i args ts
    split at ht
    · rename_i x y hxy
      cases ht
      have hargs := evArgs_is hT args fun x hx => hb x (by simp [Op.operands, Call.operands, hx])
      rw [hxy] at hargs
      obtain ⟨u, v, huv, hx, hy⟩ := two_of hargs
      obtain ⟨s, h', v', ρ', F', w', k1, k2, k3, k4, k5⟩ := copyS_ok (ty := type) H hx hy hK
      refine ⟨s, h', v', ρ', F', w', k1, k2, ?_, k4, k5⟩
      simp only [execOp, resolve, Sem.run_bind, Sem.run_pure, Result.andThen_ok, Go.invoke, Go.builtin, huv, k3]
    · cases ht
  · rename_i args ts
    split at ht
    · rename_i x y hxy
      cases ht
      have hargs := evArgs_is hT args fun x hx => hb x (by simp [Op.operands, Call.operands, hx])
      rw [hxy] at hargs
      obtain ⟨u, v, huv, hx, hy⟩ := two_of hargs
      obtain ⟨s, h', v', ρ', F', w', k1, k2, k3, k4, k5⟩ := appendS_ok (ty := type) (prot := prot) H hx hy hK
      refine ⟨s, h', v', ρ', F', w', k1, k2, ?_, k4, k5⟩
      simp only [execOp, resolve, Sem.run_bind, Sem.run_pure, Result.andThen_ok, Go.invoke, Go.builtin, huv, k3]
    · cases ht
  · cases ht

end
end Go.Proofs.Ytafemlljemhkhaa.Sx
