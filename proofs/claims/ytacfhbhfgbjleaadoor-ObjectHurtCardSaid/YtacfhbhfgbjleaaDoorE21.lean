/- From a run of the interpreter to a call in the machine: for a law; and for a function whose answer was reckoned once. No claim by itself. -/
import Derived.Test.YtacfhbhfgbjleaaDoorEC
import Derived.Below
namespace Go.AI
variable {P : Program} {G : World → Prop}
/-- A law's call: nothing that was there is written. -/
theorem law_calls {FT : Nat → Option FnD} (hFT : TableOk P G FT) {n f : Nat} {args : List AV} {H H' : Heap} {v : AV} {φ : Pl} {w : World} {avs : List Value}
    (h : callA FT n f args H = some (v, H')) (hl : LRel φ args avs) (hfl : H.floor = H.next) (hfresh : ∀ o, H.next ≤ o → H.get o = none)
    (hdom : ∀ o L, φ o = some L → o < H.next ∧ L.blk < w.heap.size) (hobj : ∀ o L x, φ o = some L → H.get o = some x → ORel φ w H.next o L x) (hgood : ∀ w' : World, (∀ b, b < w.heap.size → w'.heap[b]? = w.heap[b]?) → G w') :
    Calls P f avs.toArray w fun e w' => ∃ φ' r, e = .returned r ∧ VRel φ' v r ∧ RowKit.Below w.heap.size w w' := by
  have hH : HRel G H.next w.heap.size H'.next φ H w :=
    { fl := by omega, fn := by omega, wsz := Nat.le_refl _, dom := fun o L e => .inl (hdom o L e).1, fresh := hfresh, obj := hobj,
      low := fun o L e _ => (hdom o L e).2, high := fun o L e hb => absurd (hdom o L e).1 (by omega), inj := fun o _ L _ e _ hb => absurd (hdom o L e).1 (by omega), good := hgood }
  refine ((run_sound hFT n).2.2 _ _ _ f args H v H' φ w avs h hl hH (Nat.le_refl _)).2.mono ?_
  rintro e w' ⟨φ', r, rfl, hv, _, s⟩
  exact ⟨φ', r, rfl, hv, s.os, s.tape, s.output, s.size, fun b hb => s.kept b hb fun o L ho hφ => absurd (hdom o L hφ).1 (by omega)⟩
theorem HRel.keepAll {B W Z : Nat} {φ : Pl} {H : Heap} {w w' : World} (h : HRel G B W Z φ H w) (hs : w.heap.size ≤ w'.heap.size) (hk : ∀ b, b < w.heap.size → w'.heap[b]? = w.heap[b]?) : HRel G B W Z φ H w' where
  fl := h.fl
  fn := h.fn
  wsz := Nat.le_trans h.wsz hs
  dom := h.dom
  fresh := h.fresh
  obj := fun o L x ho hx => by
    have hr := h.obj o L x ho hx
    by_cases hd : x = .dead
    · subst hd; trivial
    · refine hr.keep (Pl.le_refl φ) (hk _ ?_)
      by_cases hb : B ≤ o
      · exact h.live_in ho ⟨x, hx, hd⟩ hb
      · exact Nat.lt_of_lt_of_le (h.low o L ho (by omega)) h.wsz
  low := h.low
  high := h.high
  inj := h.inj
  good := fun w2 h2 => h.good w2 fun b hb => (h2 b hb).trans (hk b (Nat.lt_of_lt_of_le hb h.wsz))
/-- Has a value no place in it? -/
def AV.plain : AV → Bool
  | .bool _ | .int _ _ | .str _ => true
  | _ => false
theorem VRel.plain {φ φ' : Pl} {a : AV} {v : Value} (h : VRel φ a v) (hp : a.plain = true) : VRel φ' a v := by
  cases h <;> first | (constructor; done) | simp [AV.plain] at hp
/-- A function of no arguments whose answer was reckoned in an empty memory. -/
def told (v : AV) : List AV → Heap → Option (AV × Heap)
  | [], H => some (v, H)
  | _ :: _, _ => none
theorem told_ok {FT : Nat → Option FnD} (hFT : TableOk P G FT) {n f : Nat} {v : AV} (h : (callA FT n f [] ⟨.leaf, 0, 0⟩).map Prod.fst = some v) (hp : v.plain = true) : ExtOk P G f (told v) := by
  refine ⟨fun args H u H' hg _ => ?_, fun B W Z args H u H' φ w avs hg hl hH _ => ?_⟩
  · cases args with
    | nil => simp [told] at hg; rw [← hg.2]; exact Mono.refl H
    | cons => simp [told] at hg
  · cases args with
    | cons => simp [told] at hg
    | nil =>
      cases hl
      simp [told] at hg
      obtain ⟨rfl, rfl⟩ := hg
      cases hc : callA FT n f [] ⟨.leaf, 0, 0⟩ with
      | none => rw [hc] at h; cases h
      | some r =>
        obtain ⟨v1, H1⟩ := r
        rw [hc] at h
        simp at h; subst h
        have h0 : HRel G 0 W H1.next (fun _ => none) ⟨.leaf, 0, 0⟩ w :=
          { fl := Nat.le_refl _, fn := Nat.le_refl _, wsz := hH.wsz, dom := fun o L e => by simp at e, fresh := fun o _ => rfl, obj := fun o L x e => by simp at e,
            low := fun o L e => by simp at e, high := fun o L e => by simp at e, inj := fun o _ L _ e => by simp at e, good := hH.good }
        obtain ⟨hf, hcalls⟩ := (run_sound hFT n).2.2 0 W H1.next f [] ⟨.leaf, 0, 0⟩ v1 H1 (fun _ => none) w [] hc .nil h0 (Nat.le_refl _)
        refine ⟨hf, hcalls.mono ?_⟩
        rintro e w' ⟨φ', r, rfl, hv, _, s⟩
        have hk : ∀ b, b < w.heap.size → w'.heap[b]? = w.heap[b]? := fun b hb => s.kept b hb fun o L _ e => by simp at e
        exact ⟨φ, r, rfl, hv.plain hp, hH.keepAll s.size hk,
          { ext := Pl.le_refl φ, new := fun o L e k => (by rw [e] at k; cases k), next := Nat.le_refl _, floor := rfl, os := s.os, tape := s.tape, output := s.output, size := s.size,
            kept := fun b hb _ => hk b hb, made := fun o L ho e l => .inr ⟨o, L, ho, e, l, rfl⟩, low := fun _ _ => rfl }⟩
end Go.AI
