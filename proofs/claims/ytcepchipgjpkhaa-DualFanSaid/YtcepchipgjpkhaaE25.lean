/- Arguments of a law, as the interpreter sees them. No claim by itself. -/
import Derived.Test.YtcepchipgjpkhaaE24
import Derived.Deep.SlicePairs
import Derived.Deep.Grids
import Derived.ChangeSlices
import Derived.SizedLaws
namespace Go.AI
open Go.ChangeShapes Go.WideShapes Go.Deep
/-- An argument whose object is o: its value, its cells, and where they lie. -/
structure ArgOf (w : World) (o : Nat) (v : Value) (av : AV) (cs : List AV) (L : Option Loc) : Prop where
  rel : ∀ φ : Pl, φ o = L → VRel φ av v
  mem : ∀ l, L = some l → l.blk < w.heap.size ∧ (∀ φ, At φ w l cs) ∧ l.base + cs.length ≤ l.size
def heapR : List (List AV) → Heap
  | [] => ⟨.leaf, 0, 0⟩
  | c :: cs => ⟨(heapR cs).t.set (heapR cs).next (.cells c), (heapR cs).next + 1, (heapR cs).next + 1⟩
theorem heapR_next (cs : List (List AV)) : (heapR cs).next = cs.length ∧ (heapR cs).floor = cs.length := by
  induction cs with
  | nil => exact ⟨rfl, rfl⟩
  | cons c cs ih => exact ⟨by show (heapR cs).next + 1 = _; rw [ih.1]; rfl, by show (heapR cs).next + 1 = _; rw [ih.1]; rfl⟩
theorem heapR_get (cs : List (List AV)) (o : Nat) : (heapR cs).get o = (cs.reverse[o]?).map .cells := by
  induction cs with
  | nil => rfl
  | cons c cs ih =>
    show Tr.get _ o = _
    simp only [heapR]
    rw [Tr.get_set, (heapR_next cs).1]
    by_cases h : o = cs.length
    · subst h; simp
    · rw [if_neg h]
      have : Tr.get (heapR cs).t o = (heapR cs).get o := rfl
      rw [this, ih]
      rcases Nat.lt_or_ge o cs.length with q | q
      · simp [List.getElem?_append_left, q]
      · have h1 : cs.reverse[o]? = none := by simp; omega
        have h2 : (c :: cs).reverse[o]? = none := by simp; omega
        rw [h1, h2]
theorem heapR_wf (cs : List (List AV)) : (heapR cs).Wf := ⟨by rw [(heapR_next cs).1, (heapR_next cs).2]; exact Nat.le_refl _, fun o ho => by
  rw [(heapR_next cs).1] at ho
  rw [heapR_get]
  have : cs.reverse[o]? = none := by simp; omega
  rw [this]; rfl⟩
section
variable {H : Type} {enc : TypeId × Value → H} {P : Program} {w : World} {base : Nat} {held : Bool}
end
theorem flat_len {α : Type} {e : Nat} {enc : α → List AV} (hn : ∀ x, (enc x).length = e) (xs : List α) : (xs.flatMap enc).length = xs.length * e := by
  induction xs with
  | nil => simp
  | cons x xs ih => simp only [List.flatMap_cons, List.length_append, hn, ih, List.length_cons, Nat.add_mul]; omega
section
variable {H : Type} {enc : TypeId × Value → H} {P : Program} {w : World} {base : Nat} {held : Bool}
/-- What a slice's argument comes to: its value, the cells of its items, and where they lie. -/
def SlArg {α : Type} (w : World) (o e : Nat) (en : α → List AV) (v : Value) (xs : List α) (av : AV) (L : Option Loc) : Prop :=
  ArgOf w o v av (xs.flatMap en) L ∧ ((av = .nils ∧ xs = []) ∨ av = .slc o 0 xs.length e xs.length false)
def Weighs (d : DataW H) (n : Nat) : Prop := n = 0 ∨ ∃ es sp, d = .slice es sp ∧ es.length = n
theorem Weighs.le {d : DataW H} {n : Nat} (h : Weighs d n) {ts : List TypeId} {ds : List (DataW H)} (hs : (DataW.weightsEach P ts ds).all (· ≤ reachBytes) = true) {j : Nat} {t e : TypeId} (ht : ts[j]? = some t) (hd : ds[j]? = some d)
    (hu : P.underlying t = some (.slice e)) (hb : 0 < P.bytesOf e) : n ≤ 140737488355328 := by
  rcases h with rfl | ⟨es, sp, rfl, rfl⟩
  · omega
  · have h1 := sized_slice hs ht hd hu
    have h2 : reachBytes < 2 ^ 47 := reachBytes_lt
    have h3 : es.length * 1 ≤ (es.length + sp.length) * P.bytesOf e := Nat.mul_le_mul (by omega) hb
    omega
end
theorem seg_append {a b : List AV} {k n : Nat} : seg (a ++ b) (a.length + k) n = seg b k n := by
  unfold seg
  have h1 : Nat.ble (a.length + k + n) (a ++ b).length = Nat.ble (k + n) b.length := by
    rw [nat_ble, nat_ble, List.length_append]
    by_cases q : k + n ≤ b.length
    · have : a.length + k + n ≤ a.length + b.length := by omega
      simp [q, this]
    · have : ¬ a.length + k + n ≤ a.length + b.length := by omega
      simp [q, this]
  have h2 : (a ++ b).drop (a.length + k) = b.drop k := by rw [← List.drop_drop, List.drop_left]
  rw [h1, h2]
theorem seg_flat {α : Type} {e : Nat} {enc : α → List AV} (hn : ∀ x, (enc x).length = e) : ∀ (xs : List α) (i : Nat) (x : α), xs[i]? = some x → seg (xs.flatMap enc) (i * e) e = some (enc x)
  | [], i, x, h => by simp at h
  | y :: ys, 0, x, h => by
    simp at h; subst h
    have : Nat.ble (0 * e + e) ((y :: ys).flatMap enc).length = true := by
      rw [nat_ble]; simp [hn]
    unfold seg; rw [this]; simp [hn]
  | y :: ys, i + 1, x, h => by
    have ih := seg_flat hn ys i x (by simpa using h)
    have e1 : (i + 1) * e = (enc y).length + i * e := by rw [hn, Nat.add_mul]; omega
    rw [List.flatMap_cons, e1, seg_append]; exact ih
/-- A slice told by its cells is a slice of its items. -/
theorem Sl.ofCells {α : Type} {e : Nat} {enc : α → List AV} (hn : ∀ x, (enc x).length = e) {H : Heap} {o : Nat} {xs : List α} (h : H.get o = some (.cells (xs.flatMap enc))) : Sl e enc H (.slc o 0 xs.length e xs.length false) xs :=
  .inr ⟨o, 0, xs.length, false, xs.flatMap enc, rfl, by unfold Heap.cellsAt; rw [h], fun i x hx => by rw [Nat.zero_add]; exact seg_flat hn xs i x hx⟩
end Go.AI
