/- From a run of the interpreter to a call in the machine: for a law; and for a function whose answer was reckoned once. No claim by itself. -/
import Derived.Test.YtcepchipgjpkhaaEC
import Derived.Below
namespace Go.AI
variable {P : Program} {G : World -> Prop}
theorem zbh3 {FT : Nat -> Option FnD} (hFT : zg3 P G FT) {n f : Nat} {args : List AV} {H H' : Heap} {v : AV} {φ : Pl} {w : World} {avs : List Value}
  (h : zo3 FT n f args H = some (v, H')) (hl : zg4 φ args avs) (hfl : H.floor = H.next) (hfresh : ∀ o, H.next <= o -> H.get o = none)
  (hdom : ∀ o L, φ o = some L -> o < H.next /\ L.blk < w.heap.size) (hobj : ∀ o L x, φ o = some L -> H.get o = some x -> ORel φ w H.next o L x) (hgood : ∀ w' : World, (∀ b, b < w.heap.size -> w'.heap[b]? = w.heap[b]?) -> G w') :
  Calls P f avs.toArray w fun e w' => ∃ φ' r, e = .returned r /\ zc3 φ' v r /\ RowKit.Below w.heap.size w w' := by
 have hH : zc7 G H.next w.heap.size H'.next φ H w :=
  {fl := by omega, fn := by omega, wsz := Nat.le_refl _, dom := fun o L e => .inl (hdom o L e).1, fresh := hfresh, obj := hobj, low := fun o L e _ => (hdom o L e).2, high := fun o L e hb => absurd (hdom o L e).1 (by omega), inj := fun o _ L _ e _ hb => absurd (hdom o L e).1 (by omega), good := hgood }
 refine ((zm3 hFT n).2.2 _ _ _ f args H v H' φ w avs h hl hH (Nat.le_refl _)).2.mono ?_
 rintro e w' ⟨φ', r, rfl, hv, _, s⟩
 exact ⟨φ', r, rfl, hv, s.os, s.tape, s.output, s.size, fun b hb => s.kept b hb fun o L ho hφ => absurd (hdom o L hφ).1 (by omega)⟩
theorem zc7.keepAll {B W Z : Nat} {φ : Pl} {H : Heap} {w w' : World} (h : zc7 G B W Z φ H w) (hs : w.heap.size <= w'.heap.size) (hk : ∀ b, b < w.heap.size -> w'.heap[b]? = w.heap[b]?) : zc7 G B W Z φ H w' where
 fl := h.fl
 fn := h.fn
 wsz := Nat.le_trans h.wsz hs
 dom := h.dom
 fresh := h.fresh
 obj := fun o L x ho hx => by
  have hr := h.obj o L x ho hx
  by_cases hd : x = .dead
  ·subst hd; trivial
  ·refine hr.keep (Pl.le_refl φ) (hk _ ?_)
   by_cases hb : B <= o
   ·exact h.live_in ho ⟨x, hx, hd⟩ hb
   ·exact Nat.lt_of_lt_of_le (h.low o L ho (by omega)) h.wsz
 low := h.low
 high := h.high
 inj := h.inj
 good := fun w2 h2 => h.good w2 fun b hb => (h2 b hb).trans (hk b (Nat.lt_of_lt_of_le hb h.wsz))
def AV.plain : AV -> Bool
 | .bool _ | .int _ _ | .str _ => true
 | _ => false
theorem zc3.plain {φ φ' : Pl} {a : AV} {v : Value} (h : zc3 φ a v) (hp : a.plain = true) : zc3 φ' a v := by
 cases h <;> first | (constructor; done) | simp [AV.plain] at hp
def told (v : AV) : List AV -> Heap -> Option (AV × Heap)
 | [], H => some (v, H)
 | _ :: _, _ => none
end Go.AI
