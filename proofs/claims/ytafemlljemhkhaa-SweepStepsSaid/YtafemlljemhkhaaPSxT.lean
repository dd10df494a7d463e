import Derived.Test.YtafemlljemhkhaaPSxMd
import Derived.KernelRfl
namespace Go.Proofs.Ytafemlljemhkhaa.Sx
open Go
set_option linter.unusedSectionVars false
set_option linter.unusedVariables false
set_option linter.unusedSimpArgs false
noncomputable instance [Env] : AbsK Empty := ⟨fun a => a.elim,fun {a} => a.elim,fun {a} => a.elim,fun {a} => a.elim,fun a => a.elim,fun {a} => a.elim⟩
def atomB (n : Nat) : SB → SB
  | .int k _ => .int k (.atom n)
  | .bool _ => .bool (.atom n)
  | x => x
def atomC (n : Nat) : List SC → List SC
  | [] => []
  | .b x :: l => .b (atomB n x) :: atomC (n + 1) l
  | c :: l => c :: atomC (n + 1) l
def atomA (n : Nat) : List SV → List SV
  | [] => []
  | .w (.one (.b x)) :: l => .w (.one (.b (atomB n x))) :: atomA (n + 1) l
  | .w (.agg cs) :: l => .w (.agg (atomC n cs)) :: atomA (n + cs.length) l
  | x :: l => x :: atomA n l
def flatB : SB → Option IE
  | .int _ e => some e
  | .bool b => some b.toI
  | _ => none
def flatC : List SC → Option (List IE)
  | [] => some []
  | .b x :: l => match flatB x, flatC l with
    | some e,some es => some (e :: es)
    | _,_ => none
  | _ => none
def flatA : List SV → Option (List IE)
  | [] => some []
  | .w (.one (.b x)) :: l => match flatB x, flatA l with
    | some e,some es => some (e :: es)
    | _,_ => none
  | .w (.agg cs) :: l => match flatC cs, flatA l with
    | some e,some es => some (e ++ es)
    | _,_ => none
  | _ => none
def listE : List IE → IE
  | [] => .nilL
  | e :: l => .consL e (listE l)
theorem listE_lst [Env] : ∀ l : List IE, (listE l).lst = l.map IE.val
  | [] => by simp [listE,IE.lst]
  | e :: l => by simp [listE,IE.lst,listE_lst l]
@[reducible] def envOf (l : List Int) : Env := ⟨fun i => l.getD i 0,fun _ => [],fun _ _ _ => 0⟩
theorem atomB_is (E : Env) {x : SB} {e : IE} (hf : flatB x = some e) {ρ ρ' : Rho} {v : Value} (hx : x.is ρ v) (l : List Int) (n : Nat) (hn : l.getD n 0 = e.val) : @SB.is (envOf l) ρ' (atomB n x) v := by
  cases x <;> simp only [flatB,Option.some.injEq,reduceCtorEq] at hf
  · subst hf
    rename_i b
    rw [BE.toI_val] at hn
    have : v = .bool b.val := hx
    subst this
    show _ = Value.bool (l.getD n 0 != 0)
    rw [hn]
    cases b.val <;> rfl
  · subst hf
    have hx' : v = .int _ _ := hx
    rw [hx']
    show _ = Value.int _ (l.getD n 0)
    rw [hn]
theorem atomC_is (E : Env) (l : List Int) {ρ ρ' : Rho} : ∀ {cs : List SC} {es : List IE} (hf : flatC cs = some es) {vs : List Value} (hx : All2 (SC.is ρ) cs vs) (n : Nat) (hn : ∀ i e, es[i]? = some e → l.getD (n + i) 0 = e.val),
    All2 (@SC.is (envOf l) ρ') (atomC n cs) vs ∧ es.length = cs.length
  | [],es,hf, [],_,n,hn => by cases hf; exact ⟨trivial,rfl⟩
  | c :: cs, es, hf, v :: vs, hx, n, hn => by
    unfold flatC at hf
    split at hf
    · rename_i h0; cases h0
    · rename_i x l' heq
      cases heq
      split at hf
      · rename_i e es' h1 h2
        cases hf
        obtain ⟨g1,g2⟩ := atomC_is E l h2 hx.2 (n + 1) (fun i e hi => by have := hn (i + 1) e (by simpa using hi); rw [show n + 1 + i = n + (i + 1) by omega]; exact this)
        exact ⟨⟨atomB_is E h1 hx.1 l n (hn 0 e (by simp)),g1⟩,by simp [g2]⟩
      · cases hf
    · cases hf
  | [],_,_,_ :: _,hx,_,_ => hx.elim
  | _ :: _,_,_, [],hx,_,_ => hx.elim
theorem atomA_is (E : Env) (l : List Int) {ρ ρ' : Rho} : ∀ {xs : List SV} {es : List IE} (hf : flatA xs = some es) {vs : List Value} (hx : All2 (SV.is ρ) xs vs) (n : Nat) (hn : ∀ i e, es[i]? = some e → l.getD (n + i) 0 = e.val),
    All2 (@SV.is (envOf l) ρ') (atomA n xs) vs
  | [],es,hf, [],_,n,hn => trivial
  | a :: xs, es, hf, v :: vs, hx, n, hn => by
    unfold flatA at hf
    split at hf
    · rename_i h0; cases h0
    · rename_i x l' heq
      cases heq
      split at hf
      · rename_i e es' h1 h2
        cases hf
        exact ⟨atomB_is E h1 hx.1 l n (hn 0 e (by simp)),atomA_is E l h2 hx.2 (n + 1) (fun i e hi => by have := hn (i + 1) e (by simpa using hi); rw [show n + 1 + i = n + (i + 1) by omega]; exact this)⟩
      · cases hf
    · rename_i cs l' heq
      cases heq
      split at hf
      · rename_i e es' h1 h2
        cases hf
        obtain ⟨⟨us,hu,hus⟩,hrest⟩ := hx
        obtain ⟨g1,g2⟩ := atomC_is (ρ' := ρ') E l h1 hus n (fun i e' hi => hn i e' (by rw [List.getElem?_append_left (List.getElem?_eq_some_iff.1 hi).1]; exact hi))
        refine ⟨⟨us,hu,g1⟩,atomA_is E l h2 hrest (n + cs.length) (fun i e' hi => ?_)⟩
        have := hn (cs.length + i) e' (by rw [← g2,List.getElem?_append_right (by omega)]; simpa using hi)
        rw [show n + cs.length + i = n + (cs.length + i) by omega]
        exact this
      · cases hf
    · cases hf
  | [],_,_,_ :: _,hx,_,_ => hx.elim
  | _ :: _,_,_, [],hx,_,_ => hx.elim
structure PureOk (P : Program) (g : Nat) (args0 : List SV) (len : Nat) (pre : List IE → List BE) (res : IE → SV) : Prop where
  run : ∀ (l : List Int) (w : World) (argv : Array Value), l.length = len → (∀ (E : Env) (es : List IE), es.map IE.val = l → ∀ p ∈ pre es, p.val = true) → @All2 SV Value (@SV.is (envOf l) fun _ => none) args0 argv.toList →
    Calls P g argv w fun e w' => ∃ v ρ' F',e = .returned v ∧ @Goes (Prot.pr []) (fun _ => none) (fun _ _ => False) w ρ' F' w' ∧ ∀ (E : Env) (a : IE),a.lst = l → ∀ ρ,(res a).is ρ v
  enter : enters P g
  same : ∀ (E E' : Env) (es es' : List IE),es.map (@IE.val E) = es'.map (@IE.val E') → (∀ p ∈ pre es, @BE.val E p = true) → ∀ p ∈ pre es', @BE.val E' p = true
theorem PureOk.sum [E : Env] {P : Program} {g len : Nat} {args0 : List SV} {pre : List IE → List BE} {res : IE → SV} (p : PureOk P g args0 len pre res) {args : List SV} {es : List IE} (hfl : flatA args = some es) (hat : atomA 0 args = args0) (hlen : es.length = len)
    {prot : Prot} {h : Heap Empty} {ρ : Rho} {F : Nat → Nat → Prop} {w : World} {argv : Array Value} {K : SV × Heap Empty → Prop} (H : HeapOk ρ F h w) (ha : All2 (SV.is ρ) args argv.toList)
    (hpre : ∀ p ∈ pre es,p.val = true) {s' : SV} (hs' : ∀ ρ v,(res (listE es)).is ρ v → s'.is ρ v) (hK : K (s',h)) : CallsTo P prot ρ F w g argv K := by
  have ha0 : All2 (@SV.is (envOf (es.map IE.val)) fun _ => none) args0 argv.toList := by
    rw [← hat]
    exact atomA_is E _ hfl ha 0 fun i e hi => by simp [List.getD_eq_getElem?_getD,hi]
  refine Calls.mono (p.run _ w argv (by simpa using hlen) (fun E' es' he => p.same E E' es es' he.symm hpre) ha0) fun e w' he => ?_
  obtain ⟨v, ρ',F',rfl,G,hv⟩ := he
  have hkeep : ∀ x,x < w.heap.size → w'.heap[x]? = w.heap[x]? := fun x hx => G.keep x hx fun n _ hn => by cases hn
  refine ⟨s', h, v, ρ, F, hK, rfl, hs' ρ v (hv E (listE es) (listE_lst es) ρ), ⟨H.dom, fun n o r hn' hr => SO.ok_frame (Rho.Ext.refl ρ) (H.obj n o r hn' hr) G.size fun x hx => hkeep x (H.size n x (by simp [hr]) hx), H.disj, H.low, fun n x hn' hx => Nat.lt_of_lt_of_le (H.size n x hn' hx) G.size⟩,
    ⟨Rho.Ext.refl ρ,G.os,G.tape,G.output,G.size,fun x hx _ => hkeep x hx,fun n x hn' hx => .inr ⟨n,hn',hx,id⟩,fun _ _ _ => rfl,fun n k _ b hb => cell_congr (hkeep b (H.size n b (by simp [hb]) (H.self hb))) k⟩⟩
theorem PureOk.of {P : Program} {g len : Nat} {args0 : List SV} {pre : List IE → List BE} {res : IE → SV} {r0 : SV} {c : ∀ [Env], CallF Empty} (hc : ∀ [Env], CallOk P (@c _)) (heval : ∀ [Env], c g args0 [] [] 1 = .leaf (r0, []))
    (henter : enters P g) (hsame : ∀ (E E' : Env) (es es' : List IE),es.map (@IE.val E) = es'.map (@IE.val E') → (∀ p ∈ pre es, @BE.val E p = true) → ∀ p ∈ pre es', @BE.val E' p = true)
    (hv : ∀ (l : List Int),l.length = len → (∀ (E : Env) (es : List IE),es.map IE.val = l → ∀ p ∈ pre es,p.val = true) → ∀ (E : Env) (a : IE),a.lst = l → ∀ ρ ρ' v, @SV.is (envOf l) ρ' r0 v → (res a).is ρ v) : PureOk P g args0 len pre res where
  run := fun l w argv hl hp ha => by
    letI : Env := envOf l
    have H : HeapOk (A := Empty) (fun _ => none) (fun _ _ => False) [] w := ⟨fun n => rfl,fun n o r hn => by simp [look] at hn,fun n m x _ hn => by simp at hn,fun n o hn => by simp [look] at hn,fun n x hn => by simp at hn⟩
    refine Calls.mono (hc g args0 [] [] 1 _ _ w argv (fun r => r = (r0, [])) H ha (by rw [heval]; rfl)).2 fun e w' he => ?_
    obtain ⟨s,h',v, ρ',F',hr,rfl,hs,H',G⟩ := he
    cases hr
    exact ⟨v, ρ',F',rfl,G,fun E a hal ρ => hv l hl hp E a hal ρ ρ' v hs⟩
  enter := henter
  same := hsame
end Go.Proofs.Ytafemlljemhkhaa.Sx
