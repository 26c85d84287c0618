/- Functions with loops over maps, told by what all orders come to. No claim by itself. -/
import Derived.Test.YtcepchipgjpkhaaE47
namespace Go.AI
variable {P : Program} {G : World -> Prop} {FT : Nat -> Option FnD}
theorem zbp7 (hFT : zg3 P G FT) {post : List zb6} {ti tn tm tp out nx o fl : Nat} {body : za0} {es : List (AV × AV)} {τ0 : Env} {Hp : Heap} {Q : Post} {I : List Nat -> Env -> Heap -> Prop} (hI : RngI FT post ti tn tm tp out nx body o es fl τ0 Hp Q I) :
  ∀ (n : Nat) (seen : List Nat) (τ : Env) (H : Heap), ((List.range es.length).filter fun i => !seen.contains i).length <= n -> I seen τ H -> H.floor = fl -> fl <= H.next -> ∃ s τ' H', Q s τ' { H' with floor := Hp.floor } /\ zf5 H H' := by
 intro n
 induction n with
 | zero =>
  intro seen τ H hn inv hf hl
  refine ⟨_, _, _, hI.done inv fun i hi => Classical.byContradiction fun q => ?_, zf5.refl H⟩
  have : i ∈ (List.range es.length).filter fun i => !seen.contains i := by simp [q, hi]
  rw [List.length_eq_zero_iff.1 (Nat.le_zero.1 hn)] at this
  cases this
 | succ n ih =>
  intro seen τ H hn inv hf hl
  by_cases c : ∃ i, i < es.length /\ i ∉ seen
  ·obtain ⟨i, hi, hs⟩ := c
   obtain ⟨m1, τ4, H4, hops, m2, s, τ5, H5, hrun5, hq5⟩ := hI.step inv hs (List.getElem?_eq_getElem hi)
   have mo4 := zj3 (zg5 hFT m1).2 post _ H H4 τ4 hops (by omega)
   have mo5 := (zg5 hFT m2).1 body τ4 H4 s τ5 H5 hrun5 (by have := mo4.next; rw [mo4.floor]; omega)
   have mo := mo4.trans mo5
   have hf5 : H5.floor = fl := mo.floor.trans hf
   have hlt := Go.AI.filter_lt (fun j => !seen.contains j) (fun j => !(i :: seen).contains j) i (List.range es.length) (by simpa using hi) (by simpa using hs) (by simp) (fun x hx => by simp at hx ⊢; exact hx.2)
   have go : I (i :: seen) τ5 H5 -> ∃ s τ' H', Q s τ' { H' with floor := Hp.floor } /\ zf5 H H' := fun q => by
    obtain ⟨s, τ', H', k1, k2⟩ := ih _ _ _ (by omega) q hf5 (by have := mo.next; omega)
    exact ⟨s, τ', H', k1, mo.trans k2⟩
   cases s with
   | next => exact go hq5
   | ret => exact ⟨_, _, _, hq5, mo⟩
   | exit id =>
    simp only [rngQ] at hq5
    split at hq5
    ·exact go hq5
    ·split at hq5
     ·exact ⟨_, _, _, hq5, mo⟩
     ·exact ⟨_, _, _, hq5, mo⟩
  ·exact ⟨_, _, _, hI.done inv fun i hi => Classical.byContradiction fun q => c ⟨i, hi, q⟩, zf5.refl H⟩
theorem zu4 (hFT : zg3 P G FT) : ∀ (nc : NC) (τ : Env) (H : Heap) (Q : Post), WpN FT nc τ H Q -> H.floor <= H.next -> ∃ s τ' H', Q s τ' H' /\ zf5 H H'
 | .det c, τ, H, Q, h, hf => by
  obtain ⟨n, s, τ', H', hr, q⟩ := h
  exact ⟨s, τ', H', q, (zg5 hFT n).1 c τ H s τ' H' hr hf⟩
 | .seq a b, τ, H, Q, h, hf => by
  obtain ⟨s, τ', H', q, k⟩ := zu4 hFT a τ H _ h hf
  cases s with
  | next =>
   obtain ⟨s2, τ2, H2, q2, j⟩ := zu4 hFT b τ' H' Q q (by have := k.floor; have := k.next; omega)
   exact ⟨s2, τ2, H2, q2, k.trans j⟩
  | ret => exact ⟨_, _, _, q, k⟩
  | exit id => exact ⟨_, _, _, q, k⟩
 | .cond x a b, τ, H, Q, h, hf => by
  simp only [WpN, zas8] at h
  split at h
  ·exact zu4 hFT a τ H Q h hf
  ·exact zu4 hFT b τ H Q h hf
  ·exact h.elim
 | .block id b, τ, H, Q, h, hf => by
  obtain ⟨s, τ', H', q, k⟩ := zu4 hFT b τ H _ h hf
  cases s with
  | next => exact ⟨_, _, _, q, k⟩
  | ret => exact ⟨_, _, _, q, k⟩
  | exit i =>
   simp only [zt0] at q
   split at q
   ·exact ⟨_, _, _, q, k⟩
   ·exact ⟨_, _, _, q, k⟩
 | .rng pre post m ti tn tm tp out nx body, τ, H, Q, h, hf => by
  obtain ⟨n, τ0, H0, hops, q⟩ := h
  have mo := zj3 (zg5 hFT n).2 pre τ H H0 τ0 hops hf
  have hf0 : H0.floor <= H0.next := by rw [mo.floor]; exact Nat.le_trans hf mo.next
  have mp := zf5.push (H := H0) .dead hf0
  rcases q with ⟨_, q⟩ | ⟨o, es, fl, I, hm, hI⟩
  ·exact ⟨_, _, _, q, mo.trans mp⟩
  ·have lo := hI.lo
   have hi := hI.hi
   obtain ⟨s, τ', H', k1, k2⟩ := zbp7 hFT hI _ [] _ _ (Nat.le_refl _) hI.start rfl (by show fl <= H0.next + 1; omega)
   refine ⟨s, τ', _, k1, mo.trans ⟨?_, rfl, fun o ho => ?_, fun f => ?_⟩⟩
   ·have : H0.next + 1 <= H'.next := k2.next
    show H0.next <= H'.next; omega
   ·have q1 := k2.low o (show o < fl by omega)
    exact Eq.trans q1 (mp.low o ho)
   ·exact fun o ho => k2.fresh (fun p hp => mp.fresh f p hp) o ho
structure Sub (H1 H' : Heap) : Prop where
 floor : H'.floor = H1.floor
 next : H1.next <= H'.next
 get : ∀ o x, H'.get o = some x -> H1.get o = some x
 low : ∀ o, o < H1.floor -> H'.get o = H1.get o
theorem Sub.refl (H : Heap) : Sub H H := ⟨rfl, Nat.le_refl _, fun _ _ h => h, fun _ _ => rfl⟩
theorem zc7.sub {B W Z : Nat} {φ : Pl} {H1 H' : Heap} {w : World} (h : zc7 G B W Z φ H1 w) (s : Sub H1 H') : zc7 G B W Z φ H' w where
 fl := by rw [s.floor]; exact h.fl
 fn := by rw [s.floor]; exact Nat.le_trans h.fn s.next
 wsz := h.wsz
 dom := fun o L e => (h.dom o L e).imp (fun k => Nat.lt_of_lt_of_le k s.next) id
 fresh := fun o ho => by
  cases hq : H'.get o with
  | none => rfl
  | some x =>
   have h1 := s.get o x hq
   rw [h.fresh o (Nat.le_trans s.next ho)] at h1; cases h1
 obj := fun o L x e hx => h.obj o L x e (s.get o x hx)
 low := h.low
 high := fun o L e hB ⟨x, hx, hd⟩ => h.high o L e hB ⟨x, s.get o x hx, hd⟩
 inj := fun o o' L L' e e' hB hB' ⟨x, hx, hd⟩ ⟨y, hy, hd'⟩ q => h.inj o o' L L' e e' hB hB' ⟨x, s.get o x hx, hd⟩ ⟨y, s.get o' y hy, hd'⟩ q
 good := h.good
theorem Step.sub {φ φ' : Pl} {H H1 H' : Heap} {w w' : World} (h : Step φ H w φ' H1 w') (s : Sub H1 H') : Step φ H w φ' H' w' :=
 {h with
  new := fun o L e k => ⟨(h.new o L e k).1, Nat.lt_of_lt_of_le (h.new o L e k).2 s.next⟩
  next := Nat.le_trans h.next s.next
  floor := s.floor.trans h.floor
  made := fun o L ho e ⟨x, hx, hd⟩ => h.made o L ho e ⟨x, s.get o x hx, hd⟩
  low := fun o ho => (s.low o (by rw [h.floor]; exact ho)).trans (h.low o ho) }
theorem zf5.sub {H H1 H' : Heap} (h : zf5 H H1) (s : Sub H1 H') : zf5 H H' :=
 ⟨Nat.le_trans h.next s.next, s.floor.trans h.floor, fun o ho => (s.low o (by rw [h.floor]; exact ho)).trans (h.low o ho), fun f o ho => by
  cases hq : H'.get o with
  | none => rfl
  | some x =>
   have h1 := s.get o x hq
   rw [h.fresh f o (Nat.le_trans s.next ho)] at h1; cases h1⟩
structure zaz1 (P : Program) (f N : Nat) (nc : NC) (rs : List zf7) : Prop where
 ex : ∃ fn c, P.funcs[f]? = some fn /\ (fn.name == "runtime.NumGoroutine") = false /\ fn.body = some c /\ fn.ntmps = N /\ zk9 P N c nc /\
  fn.results.toList.length = rs.length /\ ∀ (i : Nat) (r : ResultVar) (ar : zf7), fn.results.toList[i]? = some r -> rs[i]? = some ar -> zbv7 P r ar
def Good (P : Program) (f : Nat) (args : List AV) (H : Heap) (v : AV) (H' : Heap) : Prop :=
 (H.floor <= H.next -> zf5 H H') /\ ∀ (G : World -> Prop) (B W Z : Nat) (φ : Pl) (w : World) (avs : List Value), zg4 φ args avs -> zc7 G B W Z φ H w -> H'.next <= Z ->
  FnOk P f /\ Calls P f avs.toArray w (Ret G B W Z φ H w v H')
open Classical in
noncomputable def zai3 (P : Program) (f : Nat) (K : List AV -> Heap -> AV -> Heap -> Prop) : List AV -> Heap -> Option (AV × Heap) := fun args H =>
 if h : ∃ p : AV × Heap, Good P f args H p.1 p.2 /\ K args H p.1 p.2 then some (Classical.choose h) else none
theorem zap7 {f : Nat} {K : List AV -> Heap -> AV -> Heap -> Prop} {args : List AV} {H : Heap} {v : AV} {H' : Heap} (h : zai3 P f K args H = some (v, H')) : Good P f args H v H' /\ K args H v H' := by
 unfold zai3 at h
 split at h
 ·rename_i q
  have := Classical.choose_spec q
  rw [Option.some.inj h] at this
  exact this
 ·cases h
theorem zad8 {f : Nat} {K : List AV -> Heap -> AV -> Heap -> Prop} : zcj3 P G f (zai3 P f K) :=
 ⟨fun _ _ _ _ h => (zap7 h).1.1, fun B W Z _ _ _ _ φ w avs h => (zap7 h).1.2 G B W Z φ w avs⟩
theorem zan9 {f : Nat} {K : List AV -> Heap -> AV -> Heap -> Prop} {args : List AV} {H : Heap} (hg : FT f = some (.ext (zai3 P f K))) {v : AV} {H' : Heap} (h : Good P f args H v H') (k : K args H v H') : Cp FT f args H (K args H) := by
 have hq : ∃ p : AV × Heap, Good P f args H p.1 p.2 /\ K args H p.1 p.2 := ⟨(v, H'), h, k⟩
 refine zcj5 _ hg (v := (Classical.choose hq).1) (H' := (Classical.choose hq).2) ?_ (Classical.choose_spec hq).2
 unfold zai3
 rw [dif_pos hq]
end Go.AI
