import Derived.Test.YtafemlljemhkhaaPSxFm
import Derived.Test.YtafemlljemhkhaaPSxEqq
namespace Go.Proofs.Ytafemlljemhkhaa.Sx
open Go
set_option linter.unusedSectionVars false
set_option linter.unusedVariables false
set_option linter.unusedSimpArgs false
def Sub.foot (S : Sub) (F : Nat → Nat → Prop) : Nat → Nat → Prop := fun n x => ∃ m,lkN S.n n = some m ∧ F m x
theorem Sub.foot_eq {S : Sub} {F : Nat → Nat → Prop} {n m : Nat} (h : lkN S.n n = some m) : S.foot F n = F m := by
  funext x
  apply propext
  constructor
  · rintro ⟨k,hk,hx⟩; rw [h] at hk; cases hk; exact hx
  · intro hx; exact ⟨m,h,hx⟩
theorem fitH_ok (E : Env) {S : Sub} {g h : Heap Empty} (hS : S.okB = true) (hh : fitH S (namesH g) h g = true) (hi : injS S (namesH g) (namesH g) = true) {ρ : Rho} {F : Nat → Nat → Prop} {w : World} (H : @HeapOk E Empty _ ρ F h w) :
    @HeapOk (E.by S) Empty _ (S.rho (namesH g) ρ) (S.foot F) g w ∧ (∀ n x, ((S.rho (namesH g) ρ) n).isSome → S.foot F n x → ∃ m, (ρ m).isSome ∧ F m x ∧ (Hi n ↔ Hi m)) ∧
      ∀ n m,n ∈ namesH g → lkN S.n n = some m → (S.rho (namesH g) ρ) n = ρ m ∧ S.foot F n = F m := by
  have hc : ∀ n,(namesH g).contains n = true ↔ n ∈ namesH g := fun n => by simp
  have hdom : ∀ n, n ∈ namesH g → ∃ o m x r, look g n = some o ∧ lkN S.n n = some m ∧ look h m = some x ∧ ρ m = some r ∧ fitSO S (namesH g) o x = true ∧ (Hi n ↔ Hi m) := fun n hn => by
    obtain ⟨o,ho⟩ := mem_namesH hn
    obtain ⟨m,x,h1,h2,h3,h4⟩ := fitH_spec hh n o ho
    obtain ⟨r,hr⟩ := @HeapOk.rho_some E Empty _ _ _ _ _ H _ _ h2
    exact ⟨o,m,x,r,ho,h1,h2,hr,h3,h4⟩
  have hsome : ∀ n, ((S.rho (namesH g) ρ) n).isSome → n ∈ namesH g := fun n hn => by
    unfold Sub.rho at hn
    split at hn
    · rename_i h1; exact (hc n).1 h1
    · cases hn
  have heq : ∀ n m, n ∈ namesH g → lkN S.n n = some m → (S.rho (namesH g) ρ) n = ρ m := fun n m hn hm => by
    unfold Sub.rho
    rw [if_pos ((hc n).2 hn),hm]
  have hF : ∀ n m,lkN S.n n = some m → S.foot F n = F m := fun n m hm => Sub.foot_eq hm
  refine ⟨@HeapOk.mk (E.by S) Empty _ (S.rho (namesH g) ρ) (S.foot F) g w (fun n => ?_) (fun n o r hn hr => ?_) (fun n m x hne hn hm hh' hx hx' => ?_) (fun n o hn hw => ?_) (fun n x hn hx => ?_),fun n x hn hx => ?_,fun n m hn hm => ⟨heq n m hn hm,hF n m hm⟩⟩
  · cases hb : ((S.rho (namesH g) ρ) n).isSome with
    | true =>
      obtain ⟨o,_,_,_,ho,_⟩ := hdom n (hsome n hb)
      rw [ho]; rfl
    | false =>
      cases hk : look g n with
      | none => rfl
      | some o =>
        have hn := look_namesH hk
        obtain ⟨o',m,x,r,_,h1,_,h2,_⟩ := hdom n hn
        rw [heq n m hn h1,h2] at hb
        cases hb
  · have hn' := look_namesH hn
    obtain ⟨o',m,x,r',h0,h1,h2,h3,h4,h5⟩ := hdom n hn'
    rw [hn] at h0
    cases h0
    rw [heq n m hn' h1] at hr
    rw [hF n m h1]
    exact (fitSO_ok E hS h4 (H.obj m x r h2 hr)).1
  · have n1 := hsome n hn
    have m1 := hsome m hm
    obtain ⟨_,k,_,r,_,a1,_,a2,_,a3⟩ := hdom n n1
    obtain ⟨_,j,_,r',_,b1,_,b2,_,b3⟩ := hdom m m1
    rw [hF n k a1] at hx
    rw [hF m j b1] at hx'
    have hkj : k ≠ j := Ne.symm (injS_spec hi n n1 m m1 (Ne.symm hne) k j a1 b1)
    exact H.disj k j x hkj (by simp [a2]) (by simp [b2]) (hh'.imp a3.1 b3.1) hx hx'
  · have hn' := look_namesH hn
    obtain ⟨o',m,x,r',h0,h1,h2,h3,h4,h5⟩ := hdom n hn'
    rw [hn] at h0
    cases h0
    have e := (fitSO_ok E hS h4 (H.obj m x r' h2 h3)).2
    rw [e] at hw
    exact h5.2 (H.low m x h2 hw)
  · obtain ⟨_, k, _, r, _, a1, _, a2, _⟩ := hdom n (hsome n hn)
    rw [hF n k a1] at hx
    exact H.size k x (by simp [a2]) hx
  · obtain ⟨_, k, _, r, _, a1, _, a2, _, a3⟩ := hdom n (hsome n hn)
    rw [hF n k a1] at hx
    exact ⟨k,by simp [a2],hx,a3⟩
structure RlE (N : List Nat) (ρ0 : Rho) (F0 : Nat → Nat → Prop) (w0 : World) (ρ : Rho) (F : Nat → Nat → Prop) (w : World) : Prop where
  r : Reach ρ0 F0 w0 ρ F w
  k : ∀ n ∈ N,(ρ0 n).isSome → ρ n = ρ0 n ∧ (¬ Hi n → F n = F0 n)
theorem RlE.rl (N : List Nat) (ρ0 : Rho) (F0 : Nat → Nat → Prop) (w0 : World) : RlOk (RlE N ρ0 F0 w0) := fun G R =>
  ⟨R.r.goes G, fun n hn hs => by
    obtain ⟨h1,h2⟩ := R.k n hn hs
    obtain ⟨r,hr⟩ := Option.isSome_iff_exists.1 hs
    rw [hr] at h1
    refine ⟨by rw [hr]; exact G.ext n r h1,fun hh => ?_⟩
    rw [G.old n hh (by rw [h1]; rfl),h2 hh]⟩
theorem RlE.refl (N : List Nat) (ρ : Rho) (F : Nat → Nat → Prop) (w : World) : RlE N ρ F w ρ F w := ⟨Reach.refl ρ F w,fun _ _ _ => ⟨rfl,fun _ => rfl⟩⟩
def keepsN (S : Sub) (hs : List Nat) : List Nat → Bool
  | [] => true
  | n :: l => (match lkN S.n n with
    | some m => Nat.beq m n
    | none => false) && (hs.contains n && keepsN S hs l)
theorem keepsN_spec {S : Sub} {hs : List Nat} : ∀ {l : List Nat}, keepsN S hs l = true → ∀ n ∈ l, lkN S.n n = some n ∧ n ∈ hs
  | [],_,n,hn => by cases hn
  | m :: l, h, n, hn => by
    simp only [keepsN,Bool.and_eq_true] at h
    rcases List.mem_cons.1 hn with rfl | hn
    · refine ⟨?_, by simpa using h.2.1⟩
      have h1 := h.1
      split at h1
      · rename_i m hm; rw [hm,Nat.eq_of_beq_eq_true h1]
      · cases h1
    · exact keepsN_spec h.2.2 n hn
theorem RlE.fit {N : List Nat} {ρ0 : Rho} {F0 : Nat → Nat → Prop} {w0 : World} {ρ : Rho} {F : Nat → Nat → Prop} {w : World} {S : Sub} {hs : List Nat} (R : RlE N ρ0 F0 w0 ρ F w) (hk : keepsN S hs N = true)
    (g2 : ∀ n x,((S.rho hs ρ) n).isSome → S.foot F n x → ∃ m,(ρ m).isSome ∧ F m x ∧ (Hi n ↔ Hi m)) (g3 : ∀ n m,n ∈ hs → lkN S.n n = some m → (S.rho hs ρ) n = ρ m ∧ S.foot F n = F m) : RlE N ρ0 F0 w0 (S.rho hs ρ) (S.foot F) w :=
  ⟨R.r.ren g2, fun n hn hs' => by
    obtain ⟨h1,h2⟩ := keepsN_spec hk n hn
    obtain ⟨h3,h4⟩ := g3 n n h2 h1
    obtain ⟨h5,h6⟩ := R.k n hn hs'
    exact ⟨by rw [h3,h5],fun hh => by rw [h4,h6 hh]⟩⟩
structure Own where
  a : List Nat
  l : List Nat
def memN (i : Nat) : List Nat → Bool
  | [] => false
  | j :: l => Nat.beq j i || memN i l
def Own.of (Z : Own) (E0 E : Env) : Prop := (∀ i,memN i Z.a = false → E.i i = E0.i i) ∧ (∀ i,memN i Z.l = false → E.l i = E0.l i) ∧ E.t = E0.t
theorem Own.refl (Z : Own) (E : Env) : Z.of E E := ⟨fun _ _ => rfl,fun _ _ => rfl,rfl⟩
def keepsE (z : List Nat) (f : Nat → IE) : List (Nat × IE) → Bool
  | [] => true
  | (k,e) :: l => (memN k z || IE.beq e (f k)) && keepsE z f l
theorem keepsE_spec {z : List Nat} {f : Nat → IE} {i : Nat} {e : IE} : ∀ {l : List (Nat × IE)}, keepsE z f l = true → lkE l i = some e → memN i z = false → e = f i
  | [],_,h,_ => by cases h
  | (k, x) :: l, hk, h, hm => by
    simp only [keepsE,Bool.and_eq_true,Bool.or_eq_true] at hk
    simp only [lkE] at h
    cases hb : Nat.beq k i with
    | true =>
      rw [hb] at h
      cases h
      have := Nat.eq_of_beq_eq_true hb
      subst this
      rcases hk.1 with h1 | h1
      · rw [hm] at h1; cases h1
      · exact IE.beq_eq h1
    | false => rw [hb] at h; exact keepsE_spec hk.2 h hm
def Own.keeps (Z : Own) (S : Sub) : Bool := keepsE Z.a .atom S.a && keepsE Z.l .latom S.l
theorem Own.by {Z : Own} {E0 E : Env} (h : Z.of E0 E) {S : Sub} (hk : Z.keeps S = true) : Z.of E0 (E.by S) := by
  simp only [Own.keeps,Bool.and_eq_true] at hk
  refine ⟨fun i hi => ?_,fun i hi => ?_,h.2.2⟩
  · rw [← h.1 i hi]
    cases hl : lkE S.a i with
    | none => exact by_i_none hl
    | some e => rw [by_i_some hl,keepsE_spec hk.1 hl hi]; simp only [IE.val]
  · rw [← h.2.1 i hi]
    cases hl : lkE S.l i with
    | none => exact by_l_none hl
    | some e => rw [by_l_some hl,keepsE_spec hk.2 hl hi]; simp only [IE.lst]
structure EndE where
  sv : SV
  h : Heap Empty
  T : Sub
def GoodE (P : Program) (rs : Array ResultVar) (cuts : List Cut) (N : List Nat) (Z : Own) (ends : List EndE) (Φ : Nat → Env → Prop) (E : Env) (old : Option (List (IE × IE))) : RR → Prop
  | .at_ p s => ∃ i k,cuts[i]? = some k ∧ k.p = p ∧ ∃ S : Sub,fitSS S k.I s = true ∧ keepsN S (namesH k.I.h) N = true ∧ Z.keeps S = true ∧ (∀ b ∈ k.fs, @BE.val (E.by S) b = true) ∧ Φ i (E.by S) ∧ ∀ o,old = some o → Lx (@valsM (E.by S) k.ms) (@valsM E o)
  | .fin s => ∃ sv, @resS E Empty _ P rs s.l s.h = .leaf sv ∧ ∃ j e,ends[j]? = some e ∧ ∃ S : Sub,fitSS S ⟨[e.sv],e.h,0⟩ ⟨[sv],s.h,0⟩ = true ∧ keepsN S (namesH e.h) N = true ∧ Z.keeps S = true ∧ Φ (100 + j) (E.by S)
theorem floydE {P : Program} (hm : P.follows .mixedOrders = true) {c : [Env] → CallF Empty} (hc : ∀ [Env], CallOk P c) {x : Extra Empty} (hx : ∀ [Env], ExtraOk P x) {B g : Nat} {fn : Func} {root : Code} (hf : P.funcs[g]? = some fn) (hb : fn.body = some root)
    {cuts : List Cut} {N : List Nat} {Z : Own} {ends : List EndE} {Φ : Nat → Env → Prop} (hl : (cuts.all fun k => isLoop (subAt root k.p) && Nat.ble k.ms.length 9) = true)
    (E0 : Env) (hcuts : ∀ (E : Env) (i : Nat) (k : Cut),cuts[i]? = some k → Z.of E0 E → (∀ b ∈ k.fs, @BE.val E b = true) → Φ i E → (@segAt E P c x B root cuts k).holds (GoodE P fn.results cuts N Z ends Φ E (some k.ms)))
    {args : List SV} {h0 : Heap Empty} (hstart : (@segStart E0 P c x B root cuts fn.ntmps args h0).holds (GoodE P fn.results cuts N Z ends Φ E0 none)) (hN : ∀ n ∈ namesH h0,n ∈ N)
    {ρ : Rho} {F : Nat → Nat → Prop} {w : World} {argv : Array Value} (H : @HeapOk E0 Empty _ ρ F h0 w) (ha : All2 (@SV.is E0 ρ) args argv.toList) :
    Calls P g argv w fun e w' => ∃ v j en E' ρ' F',e = .returned v ∧ ends[j]? = some en ∧ Φ (100 + j) E' ∧ Z.of E0 E' ∧ @SV.is E' ρ' en.sv v ∧ @HeapOk E' Empty _ ρ' F' en.h w' ∧ Goes (Prot.pr []) ρ F w ρ' F' w' := by
  let Q := bodyPost P fn fun e w' => ∃ v j en E' ρ' F',e = .returned v ∧ ends[j]? = some en ∧ Φ (100 + j) E' ∧ Z.of E0 E' ∧ @SV.is E' ρ' en.sv v ∧ @HeapOk E' Empty _ ρ' F' en.h w' ∧ Goes (Prot.pr []) ρ F w ρ' F' w'
  have hmem : ∀ {i : Nat} {k : Cut},cuts[i]? = some k → k ∈ cuts := fun h => List.mem_of_getElem? h
  have hgoes : ∀ {ρ' F' w'}, RlE N ρ F w ρ' F' w' → Goes (Prot.pr []) ρ F w ρ' F' w' := fun {ρ' F' w'} R =>
    have hin : ∀ n, (ρ n).isSome → n ∈ N := fun n hn => hN n (by
      rw [← @HeapOk.dom E0 Empty _ ρ F h0 w H n] at hn
      obtain ⟨o,ho⟩ := Option.isSome_iff_exists.1 hn
      exact look_namesH ho)
    { ext := fun n r hr => by rw [← hr]; exact (R.k n (hin n (by rw [hr]; rfl)) (by rw [hr]; rfl)).1
      os := R.r.os
      tape := R.r.tape
      output := R.r.output
      size := R.r.size
      keep := R.r.keep
      foot := R.r.foot
      old := fun n hh hs => (R.k n (hin n hs) hs).2 hh
      prot := fun m k hp => by simp [Prot.pr,Prot.has] at hp }
  have hleaf : ∀ (E : Env) (old : Option (List (IE × IE))), Z.of E0 E → (∀ (i : Nat) (k : Cut), cuts[i]? = some k → ∀ (E' : Env) (ρ1 : Rho) (F1 : Nat → Nat → Prop) (a : Act) (w1 : World), Z.of E0 E' → (∀ b ∈ k.fs, @BE.val E' b = true) → Φ i E' → @HeapOk E' Empty _ ρ1 F1 k.I.h w1 → @TmpsOk E' ρ1 [] k.I.l a → RlE N ρ F w ρ1 F1 w1 →
        (∀ o,old = some o → Lx (@valsM E' k.ms) (@valsM E o)) → AtR P root Q k.p a w1) →
      ∀ l,GoodE P fn.results cuts N Z ends Φ E old l → @XR E P root Q (RlE N ρ F w) l := by
    intro E old hz ih l hok
    cases l with
    | at_ p s =>
      intro ρ1 F1 a w1 hT H1 R1
      obtain ⟨i,k,hk,hp,S,hfit,hkn,hkz,hfs,hphi,hlx⟩ := hok
      simp only [fitSS,Bool.and_eq_true] at hfit
      obtain ⟨hS,hfl,hfh,hfi⟩ := hfit
      obtain ⟨g1,g2,g3⟩ := fitH_ok E hS hfh hfi H1
      have := ih i k hk (E.by S) _ _ a w1 (Own.by hz hkz) hfs hphi g1 (fitNmps E hS hfl hT) (R1.fit hkn g2 g3) hlx
      rw [hp] at this
      exact this
    | fin s =>
      intro ρ1 F1 a w1 hT H1 R1
      obtain ⟨sv,hres,j,en,hen,S,hfit,hkn,hkz,hphi⟩ := hok
      simp only [fitSS,Bool.and_eq_true] at hfit
      obtain ⟨hS,hfl,hfh,hfi⟩ := hfit
      obtain ⟨g1,g2,g3⟩ := fitH_ok E hS hfh hfi H1
      simp only [fitSVs,Bool.and_true] at hfl
      have key : a.defers = [] ∧ ∃ v, (results fn a.tmps).run P w1 = .ok v w1 ∧ (∃ v' j en E' ρ' F', Ending.returned v = .returned v' ∧ ends[j]? = some en ∧ Φ (100 + j) E' ∧ Z.of E0 E' ∧ @SV.is E' ρ' en.sv v' ∧ @HeapOk E' Empty _ ρ' F' en.h w1 ∧ Goes (Prot.pr []) ρ F w ρ' F' w1) := by
        obtain ⟨s',v,k1,k2,k3⟩ := @resS_ok E Empty _ P fn _ _ _ _ _ _ H1 hT (K := fun s' => s' = sv) (by rw [hres]; rfl)
        subst k1
        exact ⟨hT.defers,v,k3,v,j,en,E.by S,_,_,rfl,hen,hphi,Own.by hz hkz,fitSV_is E hS hfl k2,g1,hgoes (R1.fit hkn g2 g3)⟩
      exact ⟨key,key⟩
  have claim : ∀ (v : List Nat), v.length ≤ 9 → ∀ (i : Nat) (k : Cut), cuts[i]? = some k → ∀ (E : Env) (ρ1 : Rho) (F1 : Nat → Nat → Prop) (a : Act) (w1 : World), Z.of E0 E → (∀ b ∈ k.fs, @BE.val E b = true) → Φ i E → @HeapOk E Empty _ ρ1 F1 k.I.h w1 → @TmpsOk E ρ1 [] k.I.l a → RlE N ρ F w ρ1 F1 w1 →
      @valsM E k.ms = v → AtR P root Q k.p a w1 := by
    intro v hv
    induction Lx_acc 9 v hv with
    | intro v _ ih =>
      intro i k hk E ρ1 F1 a w1 hz hfs hphi H1 hT R1 hvals
      have hk1 := List.all_eq_true.1 hl k (hmem hk)
      simp only [Bool.and_eq_true,Nat.ble_eq] at hk1
      have hseg := hcuts E i k hk hz hfs hphi
      have htree : (@segAt E P c x B root cuts k).holds (@XR E P root Q (RlE N ρ F w)) := by
        refine Tree.holds_mono (hleaf E (some k.ms) hz (fun i' k' hk' E' ρ2 F2 a2 w2 z2 f2 p2 H2 T2 R2 hlt => ?_)) hseg
        have hk2 := List.all_eq_true.1 hl k' (hmem hk')
        simp only [Bool.and_eq_true,Nat.ble_eq] at hk2
        have hlen : (@valsM E' k'.ms).length ≤ 9 := by rw [@valsM_len E']; exact hk2.2
        exact ih _ ⟨hlen,by rw [← hvals]; exact hlt _ rfl⟩ hlen i' k' hk' E' ρ2 F2 a2 w2 z2 f2 p2 H2 T2 R2 rfl
      exact @segAt_ok E P c x B root cuts k Q _ (RlE.rl N ρ F w) hm hc hx ρ1 F1 a w1 H1 hT R1 htree
  have hlen : args.length = argv.size := by have := @All2.length E0 _ _ _ _ _ ha; simpa using this
  refine calls_of_wp hf hb ?_
  have htree : (@segStart E0 P c x B root cuts fn.ntmps args h0).holds (@XR E0 P root Q (RlE N ρ F w)) := by
    refine Tree.holds_mono (hleaf E0 none (Own.refl Z E0) (fun i k hk E' ρ2 F2 a2 w2 z2 f2 p2 H2 T2 R2 _ => ?_)) hstart
    have hk2 := List.all_eq_true.1 hl k (hmem hk)
    simp only [Bool.and_eq_true,Nat.ble_eq] at hk2
    exact claim _ (by rw [@valsM_len E']; exact hk2.2) i k hk E' ρ2 F2 a2 w2 z2 f2 p2 H2 T2 R2 rfl
  refine @segC_ok E0 P c x B _ root Q _ (RlE.rl N ρ F w) hm hc hx root [] _ ρ F _ w _ rfl H ?_ (RlE.refl N ρ F w) (@contT_ok E0 P c x B _ root Q _ (RlE.rl N ρ F w) hm hc hx []) htree
  have hall : All2 (@SV.is E0 ρ) (args ++ List.replicate (fn.ntmps - args.length) undefS) (argv ++ Array.replicate (fn.ntmps - argv.size) undef).toList := by
    rw [Array.toList_append,Array.toList_replicate,hlen]
    exact @All2.append E0 _ _ _ _ _ _ _ ha (@All2.replicate E0 _ _ _ _ _ (undefS_is ρ) _)
  refine @TmpsOk.mk E0 ρ [] _ _ (by have := @All2.length E0 _ _ _ _ _ hall; simpa using this.symm) (fun i s _ hs => ?_) rfl
  obtain ⟨v,hv,hsv⟩ := @All2.get E0 _ _ _ _ _ hall i s hs
  exact ⟨v,by rw [← Array.getElem?_toList]; exact hv,hsv⟩
def ToldE (T : Sub) (E0 E : Env) : Prop := (∀ i e,lkE T.a i = some e → E.i i = @IE.val E0 e) ∧ ∀ i e,lkE T.l i = some e → E.l i = @IE.lst E0 e
def covB (t : List (Nat × IE)) (z : List Nat) : List Nat → Bool
  | [] => true
  | i :: l => ((lkE t i).isSome || memN i z) && covB t z l
theorem covB_spec {t : List (Nat × IE)} {z : List Nat} {i : Nat} : ∀ {l : List Nat}, covB t z l = true → memN i l = true → lkE t i = none → memN i z = true
  | [],_,h,_ => by cases h
  | j :: l, hc, h, hn => by
    simp only [covB,Bool.and_eq_true,Bool.or_eq_true] at hc
    simp only [memN,Bool.or_eq_true] at h
    rcases h with h | h
    · have := Nat.eq_of_beq_eq_true h
      subst this
      rcases hc.1 with h1 | h1
      · rw [hn] at h1; cases h1
      · exact h1
    · exact covB_spec hc.2 h hn
def zerA : List Nat → List (Nat × IE)
  | [] => []
  | i :: l => (i, .lit 0) :: zerA l
def zerL : List Nat → List (Nat × IE)
  | [] => []
  | i :: l => (i, .nilL) :: zerL l
def zerS (z : Own) : Sub := ⟨zerA z.a,zerL z.l, []⟩
theorem lk_zerA {i : Nat} : ∀ {l : List Nat}, lkE (zerA l) i = if memN i l = true then some (.lit 0) else none
  | [] => rfl
  | j :: l => by
    simp only [zerA,lkE,memN]
    by_cases hb : Nat.beq j i = true
    · simp only [hb,cond_true,Bool.true_or,if_true]
    · simp only [eq_false_of_ne_true hb,cond_false,Bool.false_or]; exact lk_zerA
theorem lk_zerL {i : Nat} : ∀ {l : List Nat}, lkE (zerL l) i = if memN i l = true then some .nilL else none
  | [] => rfl
  | j :: l => by
    simp only [zerL,lkE,memN]
    by_cases hb : Nat.beq j i = true
    · simp only [hb,cond_true,Bool.true_or,if_true]
    · simp only [eq_false_of_ne_true hb,cond_false,Bool.false_or]; exact lk_zerL
theorem zerS_ok : ∀ (z : Own), (zerS z).okB = true := by
  have h1 : ∀ l, allE numK (zerA l) = true := fun l => by
    induction l with
    | nil => rfl
    | cons a l ih => simp only [zerA,allE,ih,numK,Bool.and_self]
  have h2 : ∀ l, allE rowK (zerL l) = true := fun l => by
    induction l with
    | nil => rfl
    | cons a l ih => simp only [zerL,allE,ih,rowK,Bool.and_self]
  intro z
  simp only [Sub.okB,zerS,h1,h2,Bool.and_self]
theorem same_env {T : Sub} {Z z0 : Own} {E0 E : Env} (hz : Z.of E0 E) (ht : ToldE T E0 E) (h1 : covB T.a z0.a Z.a = true) (h2 : covB T.l z0.l Z.l = true) : E.by (zerS z0) = (E0.by T).by (zerS z0) := by
  have e1 : (E.by (zerS z0)).i = ((E0.by T).by (zerS z0)).i := by
    funext i
    cases hl : lkE (zerS z0).a i with
    | some e =>
      have : e = .lit 0 := by
        have h3 := hl
        simp only [zerS,lk_zerA] at h3
        split at h3
        · exact (Option.some.inj h3).symm
        · cases h3
      subst this
      exact (by_i_some hl).trans (by_i_some (E := E0.by T) hl).symm
    | none =>
      refine (by_i_none hl).trans (Eq.trans ?_ (by_i_none (E := E0.by T) hl).symm)
      cases hT : lkE T.a i with
      | some e => exact (ht.1 i e hT).trans (by_i_some hT).symm
      | none =>
        refine (hz.1 i ?_).trans (by_i_none hT).symm
        cases hm : memN i Z.a with
        | false => rfl
        | true =>
          have := covB_spec h1 hm hT
          simp only [zerS,lk_zerA,this,if_true] at hl
          cases hl
  have e2 : (E.by (zerS z0)).l = ((E0.by T).by (zerS z0)).l := by
    funext i
    cases hl : lkE (zerS z0).l i with
    | some e =>
      have : e = .nilL := by
        have h3 := hl
        simp only [zerS,lk_zerL] at h3
        split at h3
        · exact (Option.some.inj h3).symm
        · cases h3
      subst this
      exact (by_l_some hl).trans (by_l_some (E := E0.by T) hl).symm
    | none =>
      refine (by_l_none hl).trans (Eq.trans ?_ (by_l_none (E := E0.by T) hl).symm)
      cases hT : lkE T.l i with
      | some e => exact (ht.2 i e hT).trans (by_l_some hT).symm
      | none =>
        refine (hz.2.1 i ?_).trans (by_l_none hT).symm
        cases hm : memN i Z.l with
        | false => rfl
        | true =>
          have := covB_spec h2 hm hT
          simp only [zerS,lk_zerL,this,if_true] at hl
          cases hl
  have e3 : (E.by (zerS z0)).t = ((E0.by T).by (zerS z0)).t := hz.2.2
  have mk : ∀ {a b : Env}, a.i = b.i → a.l = b.l → a.t = b.t → a = b := fun {a b} h1 h2 h3 => by
    cases a; cases b; cases h1; cases h2; cases h3; rfl
  exact mk e1 e2 e3
theorem Summ.loop {P : Program} {g : Nat} {ps : List SV} {hp : Heap Empty} {t : Tree (SV × Heap Empty)} {Z : Own} {ends : List EndE} {Φ : Env → Nat → Env → Prop} (z0 : List Own) (he : enters P g)
    (hfl : ∀ (E : Env) (ρ : Rho) (F : Nat → Nat → Prop) (w : World) (argv : Array Value), (∃ K, @Tree.holds E _ K t) → @HeapOk E Empty _ ρ F hp w → All2 (@SV.is E ρ) ps argv.toList →
      Calls P g argv w fun e w' => ∃ v j en E' ρ' F',e = .returned v ∧ ends[j]? = some en ∧ Φ E (100 + j) E' ∧ Z.of E E' ∧ @SV.is E' ρ' en.sv v ∧ @HeapOk E' Empty _ ρ' F' en.h w' ∧ Goes (Prot.pr []) ρ F w ρ' F' w')
    (hz : ∀ (j : Nat) (en : EndE),ends[j]? = some en → ∃ z,z0[j]? = some z ∧ en.T.okB = true ∧ covB en.T.a z.a Z.a = true ∧ covB en.T.l z.l Z.l = true ∧ en.sv.sub (zerS z) = en.sv ∧ subH (zerS z) en.h = en.h)
    (hend : ∀ (E E' : Env) (j : Nat) (en : EndE),ends[j]? = some en → Φ E (100 + j) E' → Z.of E E' → ToldE en.T E E' ∧ ∀ K, @Tree.holds E _ K t → K (en.sv.sub en.T,subH en.T en.h)) : Summ.ok P ⟨g,ps,hp,t⟩ := by
  refine ⟨he,fun E ρ F w argv K H ha hK => ?_⟩
  refine Calls.mono (hfl E ρ F w argv ⟨K,hK⟩ H ha) fun e w' h => ?_
  obtain ⟨v,j,en,E', ρ',F',rfl,hen,hphi,hof,hsv,hH,G⟩ := h
  obtain ⟨z,hz1,hT,c1,c2,c3,c4⟩ := hz j en hen
  obtain ⟨htold,hKj⟩ := hend E E' j en hen hphi hof
  have henv := same_env hof htold c1 c2
  refine ⟨en.sv.sub en.T,subH en.T en.h,v, ρ',F',hKj K hK,rfl, ?_, ?_,G⟩
  · rw [SV.sub_is hT E, ← c3, SV.sub_is (zerS_ok z) (E.by en.T), ← henv, ← SV.sub_is (zerS_ok z) E', c3]
    exact hsv
  · rw [subH_ok hT E, ← c4, subH_ok (zerS_ok z) (E.by en.T), ← henv, ← subH_ok (zerS_ok z) E', c4]
    exact hH
def matchN (N : List Nat) (I s : SS Empty) : Sub := mObjs I.h s.h 60 [] (mSVs I.l s.l ⟨[], [],N.map fun n => (n,n)⟩)
def fitE (N : List Nat) (Z : Own) (S : Sub) (I s : SS Empty) : Bool := fitSS S I s && (keepsN S (namesH I.h) N && Z.keeps S)
def pickE (N : List Nat) (Z : Own) (p : List Nat) (s : SS Empty) : List Cut → Nat → Option (Nat × Cut)
  | [],_ => none
  | k :: l,i => if (eqP k.p p && fitE N Z (matchN N k.I s) k.I s) = true then some (i,k) else pickE N Z p s l (i + 1)
theorem pickE_spec {N : List Nat} {Z : Own} {p : List Nat} {s : SS Empty} : ∀ {l pre : List Cut} {j : Nat} {k : Cut}, pickE N Z p s l pre.length = some (j, k) → (pre ++ l)[j]? = some k ∧ k.p = p ∧ fitE N Z (matchN N k.I s) k.I s = true
  | [],pre,j,k,h => by cases h
  | c :: l, pre, j, k, h => by
    simp only [pickE] at h
    split at h
    · rename_i hc
      cases h
      simp only [Bool.and_eq_true] at hc
      exact ⟨by rw [List.getElem?_append_right (Nat.le_refl _)]; simp,eqP_eq hc.1,hc.2⟩
    · have := pickE_spec (l := l) (pre := pre ++ [c]) (j := j) (k := k) (by rw [List.length_append]; exact h)
      rw [List.append_assoc] at this
      exact this
def pickN (N : List Nat) (Z : Own) (sv : SV) (h : Heap Empty) : List EndE → Nat → Option (Nat × EndE)
  | [],_ => none
  | e :: l,i => if fitE N Z (matchN N ⟨[e.sv],e.h,0⟩ ⟨[sv],h,0⟩) ⟨[e.sv],e.h,0⟩ ⟨[sv],h,0⟩ = true then some (i,e) else pickN N Z sv h l (i + 1)
theorem pickN_spec {N : List Nat} {Z : Own} {sv : SV} {h : Heap Empty} : ∀ {l pre : List EndE} {j : Nat} {e : EndE}, pickN N Z sv h l pre.length = some (j, e) → (pre ++ l)[j]? = some e ∧ fitE N Z (matchN N ⟨[e.sv], e.h, 0⟩ ⟨[sv], h, 0⟩) ⟨[e.sv], e.h, 0⟩ ⟨[sv], h, 0⟩ = true
  | [],pre,j,e,hh => by cases hh
  | c :: l, pre, j, e, hh => by
    simp only [pickN] at hh
    split at hh
    · rename_i hc
      cases hh
      exact ⟨by rw [List.getElem?_append_right (Nat.le_refl _)]; simp,hc⟩
    · have := pickN_spec (l := l) (pre := pre ++ [c]) (j := j) (e := e) (by rw [List.length_append]; exact hh)
      rw [List.append_assoc] at this
      exact this
noncomputable def leafE [Env] (us : Ths) (N : List Nat) (Z : Own) (ends : List EndE) (P : Program) (rs : Array ResultVar) (cuts : List Cut) (old : Option (List (IE × IE))) (fs pt : List BE) : RR → List Ob
  | .at_ p s => match pickE N Z p s cuts 0 with
    | some (i, k) => (match old with
      | some o => if decrM fs o (subM (matchN N k.I s) k.ms) = true then [] else [.less o (subM (matchN N k.I s) k.ms) pt]
      | none => []) ++ (needs [] us fs pt (k.fs.map (BE.sub (matchN N k.I s))) ++ [.at_ i (matchN N k.I s).a (matchN N k.I s).l pt])
    | none => [.bad 1 pt]
  | .fin s => match resS P rs s.l s.h with
    | .leaf sv => match pickN N Z sv s.h ends 0 with
      | some (j,e) => [.at_ (100 + j) (matchN N ⟨[e.sv],e.h,0⟩ ⟨[sv],s.h,0⟩).a (matchN N ⟨[e.sv],e.h,0⟩ ⟨[sv],s.h,0⟩).l pt]
      | none => [.bad 3 pt]
    | _ => [.bad 2 pt]
theorem leafE_ok (E : Env) {us : Ths} (hu : ThsOk us) {N : List Nat} {Z : Own} {ends : List EndE} {P : Program} {rs : Array ResultVar} {cuts : List Cut} {Φ : Nat → Env → Prop} {old : Option (List (IE × IE))} (fs pt : List BE) (l : RR) (hf : ∀ b ∈ fs, @BE.val E b = true) (hp : AllB E pt)
    (h : ObsOk E Φ (@leafE E us N Z ends P rs cuts old fs pt l)) : GoodE P rs cuts N Z ends Φ E old l := by
  cases l with
  | at_ p s =>
    simp only [leafE] at h
    split at h
    · rename_i i k hk
      obtain ⟨hi,hkp,hfit⟩ := pickE_spec (pre := []) hk
      simp only [fitE,Bool.and_eq_true] at hfit
      obtain ⟨hfit,hkn,hkz⟩ := hfit
      rw [ObsOk_app,ObsOk_app] at h
      obtain ⟨h1,h2,h3⟩ := h
      have hS : (matchN N k.I s).okB = true := by
        have := hfit
        simp only [fitSS,Bool.and_eq_true] at this
        exact this.1
      refine ⟨i,k,hi,hkp,_,hfit,hkn,hkz,fun b hb => ?_,h3.1 hp,fun o ho => ?_⟩
      · rw [← BE.sub_val E hS b]
        exact needs_ok (ts := []) (fun p hp => (by cases hp)) hu hf hp h2 _ (List.mem_map_of_mem hb)
      · subst ho
        simp only at h1
        split at h1
        · rename_i hd
          have := @decrM_spec E fs hf _ _ hd
          rwa [valsM_sub E hS] at this
        · have := h1.1 hp
          rwa [valsM_sub E hS] at this
    · exact (h.1 hp).elim
  | fin s =>
    simp only [leafE] at h
    split at h
    · rename_i sv hres
      split at h
      · rename_i j e hj
        obtain ⟨hi,hfit⟩ := pickN_spec (pre := []) hj
        simp only [fitE,Bool.and_eq_true] at hfit
        exact ⟨sv,hres,j,e,hi,_,hfit.1,hfit.2.1,hfit.2.2,h.1 hp⟩
      · exact (h.1 hp).elim
    · exact (h.1 hp).elim
noncomputable def oweAtE [Env] (us : Ths) (N : List Nat) (Z : Own) (ends : List EndE) (P : Program) (fn : Func) (root : Code) (c : CallF Empty) (x : Extra Empty) (cuts : List Cut) (k : Cut) : List Ob :=
  owe [] us (leafE us N Z ends P fn.results cuts (some k.ms)) k.fs [] (segAt P c x 65536 root cuts k)
noncomputable def oweStartE [Env] (us : Ths) (N : List Nat) (Z : Own) (ends : List EndE) (P : Program) (fn : Func) (root : Code) (c : CallF Empty) (x : Extra Empty) (cuts : List Cut) (fs0 : List BE) (args : List SV) (h0 : Heap Empty) : List Ob :=
  owe [] us (leafE us N Z ends P fn.results cuts none) fs0 [] (segStart P c x 65536 root cuts fn.ntmps args h0)
theorem floydEO {P : Program} (hm : P.follows .mixedOrders = true) {c : [Env] → CallF Empty} (hc : ∀ [Env], CallOk P c) {x : Extra Empty} (hx : ∀ [Env], ExtraOk P x) {g : Nat} {fn : Func} {root : Code} (hf : P.funcs[g]? = some fn) (hb : fn.body = some root)
    {cuts : List Cut} {us : Ths} (hu : ThsOk us) {N : List Nat} {Z : Own} {ends : List EndE} {Φ : Nat → Env → Prop} (hl : (cuts.all fun k => isLoop (subAt root k.p) && Nat.ble k.ms.length 9) = true)
    (E0 : Env) (hcuts : ∀ (E : Env) (i : Nat) (k : Cut),cuts[i]? = some k → Z.of E0 E → (∀ b ∈ k.fs, @BE.val E b = true) → Φ i E → Owed E Φ (@oweAtE E us N Z ends P fn root c x cuts k))
    {args : List SV} {h0 : Heap Empty} {fs0 : List BE} (hf0 : ∀ b ∈ fs0, @BE.val E0 b = true) (hstart : Owed E0 Φ (@oweStartE E0 us N Z ends P fn root c x cuts fs0 args h0)) (hN : ∀ n ∈ namesH h0,n ∈ N)
    {ρ : Rho} {F : Nat → Nat → Prop} {w : World} {argv : Array Value} (H : @HeapOk E0 Empty _ ρ F h0 w) (ha : All2 (@SV.is E0 ρ) args argv.toList) :
    Calls P g argv w fun e w' => ∃ v j en E' ρ' F',e = .returned v ∧ ends[j]? = some en ∧ Φ (100 + j) E' ∧ Z.of E0 E' ∧ @SV.is E' ρ' en.sv v ∧ @HeapOk E' Empty _ ρ' F' en.h w' ∧ Goes (Prot.pr []) ρ F w ρ' F' w' :=
  floydE hm hc hx hf hb hl E0 (fun E i k hk hz hfs hphi => owe_ok E (fun p hp => (by cases hp)) hu (fun fs pt l hf hp h => leafE_ok E hu fs pt l hf hp h) (pt := []) hfs trivial (hcuts E i k hk hz hfs hphi).ok)
    (owe_ok E0 (fun p hp => (by cases hp)) hu (fun fs pt l hf hp h => leafE_ok E0 hu fs pt l hf hp h) (pt := []) hf0 trivial hstart.ok) hN H ha
end Go.Proofs.Ytafemlljemhkhaa.Sx
