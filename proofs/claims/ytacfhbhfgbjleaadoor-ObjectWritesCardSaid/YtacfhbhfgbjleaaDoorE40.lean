/- Rows that read whole, and their parts. No claim by itself. -/
import Derived.Test.YtacfhbhfgbjleaaDoorE35
namespace Go.AI
section
variable {α : Type} {e : Nat} {enc : α → List AV} {H H' : Heap} {v : AV} {xs : List α}
theorem flat_drop (hn : ∀ x, (enc x).length = e) : ∀ (xs : List α) (k : Nat), (xs.flatMap enc).drop (k * e) = (xs.drop k).flatMap enc
  | xs, 0 => by simp
  | [], k + 1 => by simp
  | x :: xs, k + 1 => by
    have h := hn x
    rw [List.flatMap_cons, List.drop_succ_cons, ← flat_drop hn xs k, List.drop_append, List.drop_of_length_le (by rw [h, Nat.add_mul]; omega), List.nil_append]
    congr 1; rw [h, Nat.add_mul]; omega
theorem flat_take (hn : ∀ x, (enc x).length = e) : ∀ (xs : List α) (k : Nat), (xs.flatMap enc).take (k * e) = (xs.take k).flatMap enc
  | xs, 0 => by simp
  | [], k + 1 => by simp
  | x :: xs, k + 1 => by
    have h := hn x
    rw [List.flatMap_cons, List.take_succ_cons, List.flatMap_cons, ← flat_take hn xs k, List.take_append, List.take_of_length_le (by rw [h, Nat.add_mul]; omega)]
    congr 2; rw [h, Nat.add_mul]; omega
/-- A slice that reads whole, whose capacity is no less than its length. -/
structure Rw (e : Nat) (enc : α → List AV) (H : Heap) (v : AV) (xs : List α) : Prop where
  sw : Sw e enc H v xs
  cap : capOk v = true
theorem Sw.slw (hn : ∀ x, (enc x).length = e) (h : Sw e enc H v xs) : Sl e enc H v xs := by
  rcases h with h | ⟨o, off, lo, ex, rfl, h⟩
  · exact .inl h
  · unfold Heap.readSeg at h
    cases hc : H.cellsAt o with
    | none => rw [hc] at h; cases h
    | some cs =>
      rw [hc] at h
      have h : seg cs off (xs.length * e) = some (xs.flatMap enc) := h
      refine .inr ⟨o, off, lo, ex, cs, rfl, hc, fun i x hx => ?_⟩
      have hi : i < xs.length := (List.getElem?_eq_some_iff.1 hx).1
      have h1 : (i + 1) * e ≤ xs.length * e := Nat.mul_le_mul_right e hi
      rw [Nat.add_mul] at h1
      rw [seg_cut h (f := i * e) (m := e) (by omega), flat_drop hn]
      have h2 : xs.drop i = x :: xs.drop (i + 1) := drop_get hx
      rw [h2, List.flatMap_cons, List.take_append_of_le_length (by rw [hn]; exact Nat.le_refl _), List.take_of_length_le (by rw [hn]; exact Nat.le_refl _)]
theorem Rw.sl (hn : ∀ x, (enc x).length = e) (h : Rw e enc H v xs) : Sl e enc H v xs := h.sw.slw hn
theorem Sw.exte (h : Sw e enc H v xs) (k : Ext H H') : Sw e enc H' v xs := by
  rcases h with h | ⟨o, off, lo, ex, rfl, h⟩
  · exact .inl h
  · refine .inr ⟨o, off, lo, ex, rfl, ?_⟩
    unfold Heap.readSeg at h ⊢
    cases hc : H.cellsAt o with
    | none => rw [hc] at h; cases h
    | some cs => rw [k.cells hc]; rw [hc] at h; exact h
theorem Sw.frS {S : List Nat} (h : Sw e enc H v xs) (k : Fr S H H') (hn : ∀ o, rowObj v = some o → o ∉ S) : Sw e enc H' v xs := by
  rcases h with h | ⟨o, off, lo, ex, rfl, h⟩
  · exact .inl h
  · refine .inr ⟨o, off, lo, ex, rfl, ?_⟩
    unfold Heap.readSeg at h ⊢
    cases hc : H.cellsAt o with
    | none => rw [hc] at h; cases h
    | some cs => rw [cellsAt_get (k.keep _ _ (hn _ rfl) (get_cellsAt hc))]; rw [hc] at h; exact h
theorem Rw.ext (h : Rw e enc H v xs) (k : Ext H H') : Rw e enc H' v xs := ⟨h.sw.exte k, h.cap⟩
theorem Rw.fr {S : List Nat} (h : Rw e enc H v xs) (k : Fr S H H') (hn : ∀ o, rowObj v = some o → o ∉ S) : Rw e enc H' v xs := ⟨h.sw.frS k hn, h.cap⟩
theorem Rw.len (h : Rw e enc H v xs) : lenA v = some (.int .i64 xs.length) := by
  rcases h.sw with ⟨rfl, rfl⟩ | ⟨o, off, lo, ex, rfl, _⟩ <;> rfl
theorem Rw.one (h : Rw e enc H v xs) : v.one = true ∧ v.cells = [v] := by
  rcases h.sw with ⟨rfl, _⟩ | ⟨o, off, lo, ex, rfl, _⟩ <;> exact ⟨rfl, rfl⟩
theorem Rw.rowLt (hn : ∀ x, (enc x).length = e) (h : Rw e enc H v xs) (hw : H.Wf) {o : Nat} (ho : rowObj v = some o) : o < H.next := (h.sl hn).rowLt hw ho
theorem Ow.rw (hn : ∀ x, (enc x).length = e) (h : Ow e enc H v xs) : Rw e enc H v xs := ⟨h.sw hn, by
  rcases h with ⟨rfl, _⟩ | ⟨o, rfl, _⟩
  · rfl
  · simp [capOk]⟩
theorem Rw.take (hn : ∀ x, (enc x).length = e) (h : Rw e enc H v xs) {k : Nat} (hk : k ≤ xs.length) :
    ∃ v', sliceA e v none (some (.int .i64 k)) none = some v' ∧ Rw e enc H v' (xs.take k) ∧ rowObj v' = rowObj v := by
  obtain ⟨h, hc⟩ := h
  rcases h with ⟨rfl, rfl⟩ | ⟨o, off, lo, ex, rfl, h⟩
  · have : k = 0 := by simpa using hk
    subst this
    exact ⟨.nils, rfl, ⟨.inl ⟨rfl, rfl⟩, rfl⟩, rfl⟩
  · have hlo : xs.length ≤ lo := by simpa [capOk] using hc
    have b1 : (0 : Int) ≤ (k : Int) ∧ (k : Int) ≤ (lo : Int) := by omega
    have hl : (xs.take k).length = k := by rw [List.length_take]; omega
    refine ⟨.slc o off k e lo ex, ?_, ⟨.inr ⟨o, off, lo, ex, by rw [hl], ?_⟩, by simp [capOk]; omega⟩, rfl⟩
    · simp only [sliceA, Nat.beq_refl, cond_true, boundsA, boundA, if_pos b1, Option.map_some, Int.toNat_natCast, Nat.zero_mul, Nat.add_zero, Nat.sub_zero]
    · unfold Heap.readSeg at h ⊢
      cases hc : H.cellsAt o with
      | none => rw [hc] at h; cases h
      | some cs =>
        rw [hc] at h
        have h : seg cs off (xs.length * e) = some (xs.flatMap enc) := h
        have hm : k * e ≤ xs.length * e := Nat.mul_le_mul_right e hk
        have := seg_cut h (f := 0) (m := k * e) (by omega)
        rw [hl]
        show seg cs off (k * e) = _
        rw [Nat.add_zero, List.drop_zero, flat_take hn] at this
        exact this
theorem Rw.drop (hn : ∀ x, (enc x).length = e) (h : Rw e enc H v xs) {k : Nat} (hk : k ≤ xs.length) :
    ∃ v', sliceA e v (some (.int .i64 k)) none none = some v' ∧ Rw e enc H v' (xs.drop k) ∧ rowObj v' = rowObj v := by
  obtain ⟨h, hc⟩ := h
  rcases h with ⟨rfl, rfl⟩ | ⟨o, off, lo, ex, rfl, h⟩
  · have : k = 0 := by simpa using hk
    subst this
    exact ⟨.nils, rfl, ⟨.inl ⟨rfl, rfl⟩, rfl⟩, rfl⟩
  · have hlo : xs.length ≤ lo := by simpa [capOk] using hc
    have b1 : (0 : Int) ≤ (k : Int) ∧ (k : Int) ≤ ((xs.length : Nat) : Int) := by omega
    have hl : (xs.drop k).length = xs.length - k := by simp
    refine ⟨.slc o (off + k * e) (xs.length - k) e (lo - k) ex, ?_, ⟨.inr ⟨o, off + k * e, lo - k, ex, by rw [hl], ?_⟩, by simp [capOk]; omega⟩, rfl⟩
    · simp only [sliceA, Nat.beq_refl, cond_true, boundsA, boundA, if_pos b1, Option.map_some, Int.toNat_natCast]
    · unfold Heap.readSeg at h ⊢
      cases hc : H.cellsAt o with
      | none => rw [hc] at h; cases h
      | some cs =>
        rw [hc] at h
        have h : seg cs off (xs.length * e) = some (xs.flatMap enc) := h
        have hm : k * e + (xs.length - k) * e = xs.length * e := by rw [← Nat.add_mul]; congr 1; omega
        have := seg_cut h (f := k * e) (m := (xs.length - k) * e) (by omega)
        rw [hl]
        show seg cs (off + k * e) ((xs.length - k) * e) = _
        rw [flat_drop hn] at this
        rw [this]
        congr 1
        apply List.take_of_length_le
        rw [flat_len hn, hl]; exact Nat.le_refl _
theorem Rw.lit (_hn : (enc : α → List AV) = enc) {o : Nat} {a : α} (hl : (enc a).length = e) (hg : H.get o = some (.cells (enc a))) : Rw e enc H (.slc o 0 1 e 1 true) [a] := by
  refine ⟨.inr ⟨o, 0, 1, true, rfl, ?_⟩, rfl⟩
  unfold Heap.readSeg
  rw [cellsAt_get hg]
  simp only [List.flatMap_cons, List.flatMap_nil, List.append_nil]
  exact seg_all (by rw [hl]; simp)
end
end Go.AI
