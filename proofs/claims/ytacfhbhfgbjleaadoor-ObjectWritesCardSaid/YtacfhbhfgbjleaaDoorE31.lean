/- A builder's writing, told of memory whose cells are kept. No claim by itself. -/
import Derived.Test.YtacfhbhfgbjleaaDoorE29
import Derived.Test.YtacfhbhfgbjleaaDoorE30
namespace Go.AI
/-- Cells are kept. -/
structure ExtC (H H' : Heap) : Prop where
  floor : H'.floor = H.floor
  next : H.next ≤ H'.next
  keep : ∀ o cs, H.get o = some (.cells cs) → H'.get o = some (.cells cs)
  wf : H'.Wf
theorem ExtC.refl {H : Heap} (h : H.Wf) : ExtC H H := ⟨rfl, Nat.le_refl _, fun _ _ e => e, h⟩
theorem ExtC.trans {a b c : Heap} (h : ExtC a b) (k : ExtC b c) : ExtC a c := ⟨k.floor.trans h.floor, Nat.le_trans h.next k.next, fun o x e => k.keep o x (h.keep o x e), k.wf⟩
theorem Ext.c {H H' : Heap} (h : Ext H H') : ExtC H H' := ⟨h.floor, h.next, fun o _ e => h.keep o _ e, h.wf⟩
theorem Sl.extC {α : Type} {e : Nat} {enc : α → List AV} {H H' : Heap} {v : AV} {xs : List α} (h : Sl e enc H v xs) (k : ExtC H H') : Sl e enc H' v xs := by
  rcases h with h | ⟨o, off, lo, ex, cs, a, b, c⟩
  · exact .inl h
  · exact .inr ⟨o, off, lo, ex, cs, a, cellsAt_get (k.keep _ _ (get_cellsAt b)), c⟩
/-- What a builder holds. -/
def Bld (T E : Nat) (H : Heap) (o : Nat) (bs : List Nat) : Prop :=
  H.floor ≤ o ∧ ((H.get o = some (.bld T none) ∧ bs = []) ∨ ∃ q, H.get o = some (.bld T (some (q, bs.length))) ∧ H.get q = some (.buf E bs) ∧ H.floor ≤ q ∧ bs ≠ [])
theorem Bld.ext {T E : Nat} {H H' : Heap} {o : Nat} {bs : List Nat} (h : Bld T E H o bs) (k : Ext H H') : Bld T E H' o bs := by
  obtain ⟨h1, h2⟩ := h
  refine ⟨by rw [k.floor]; exact h1, ?_⟩
  rcases h2 with ⟨a, b⟩ | ⟨q, a, b, c, d⟩
  · exact .inl ⟨k.keep _ _ a, b⟩
  · exact .inr ⟨q, k.keep _ _ a, k.keep _ _ b, by rw [k.floor]; exact c, d⟩
theorem Bld.new {T E : Nat} {H : Heap} (hw : H.Wf) : Bld T E (H.push (.bld T none)) H.next [] := ⟨hw.1, .inl ⟨get_pushN.trans (if_pos rfl), rfl⟩⟩
theorem bldAt_get {H : Heap} {o T : Nat} {b : Option (Nat × Nat)} (h : H.get o = some (.bld T b)) : bldAt H o = some (T, b) := by unfold bldAt; rw [h]
theorem bufAt_get {H : Heap} {q E : Nat} {bs : List Nat} (h : H.get q = some (.buf E bs)) : bufAt H q = some (E, bs) := by unfold bufAt; rw [h]
theorem Bld.write {T E : Nat} {H : Heap} {o : Nat} {bs : List Nat} (h : Bld T E H o bs) (hw : H.Wf) {s : List Nat} (hl : bs.length + s.length ≤ 140737488355328) :
    ∃ H', writeG T E [.ptr o 0, .str s] H = some (.tup [.int .i64 s.length, .nili], H') ∧ Bld T E H' o (bs ++ s) ∧ ExtC H H' := by
  obtain ⟨h1, h2⟩ := h
  have hf : Nat.ble H.floor o = true := Nat.ble_eq_true_of_le h1
  rcases h2 with ⟨ho, rfl⟩ | ⟨q, ho, hq, hfq, hne⟩
  · have hlt := hw.lt ho
    have hb : Nat.ble s.length 140737488355328 = true := Nat.ble_eq_true_of_le (by simpa using hl)
    cases s with
    | nil =>
      refine ⟨H.set o (.bld T none), ?_, ⟨h1, .inl ⟨get_setH.trans (if_pos rfl), rfl⟩⟩, rfl, Nat.le_refl _, fun p cs e => ?_, Wf.set hw hlt⟩
      · simp only [writeG, hf, cond_true, writeB, bldAt_get ho, Nat.beq_refl, hb, Bool.and_self, Option.map_some]
      · rw [get_setH, if_neg (fun r => by subst r; rw [ho] at e; cases e)]; exact e
    | cons x s =>
      refine ⟨(H.push (.buf E (x :: s))).set o (.bld T (some (H.next, (x :: s).length))), ?_, ⟨h1, .inr ⟨H.next, get_setH.trans (if_pos rfl), ?_, hw.1, by simp⟩⟩, rfl, Nat.le_succ _, fun p cs e => ?_, Wf.set (hw.push _) (by show o < H.next + 1; omega)⟩
      · simp only [writeG, hf, cond_true, writeB, bldAt_get ho, Nat.beq_refl, hb, Bool.and_self, Option.map_some]
      · rw [get_setH, if_neg (by omega)]; exact get_pushN.trans (if_pos rfl)
      · rw [get_setH, if_neg (fun r => by subst r; rw [ho] at e; cases e), get_pushN, if_neg (by have := hw.lt e; omega)]; exact e
  · have hlt := hw.lt ho
    have hltq := hw.lt hq
    have hoq : o ≠ q := fun r => by subst r; rw [ho] at hq; cases hq
    have hfq' : Nat.ble H.floor q = true := Nat.ble_eq_true_of_le hfq
    have hb : Nat.ble (bs.length + s.length) 140737488355328 = true := Nat.ble_eq_true_of_le hl
    refine ⟨((H.set q .dead).push (.buf E (bs ++ s))).set o (.bld T (some (H.next, bs.length + s.length))), ?_, ⟨h1, .inr ⟨H.next, by rw [List.length_append]; exact get_setH.trans (if_pos rfl), ?_, hw.1, by simp [hne]⟩⟩, rfl, Nat.le_succ _, fun p cs e => ?_, Wf.set ((Wf.set hw hltq).push _) (by show o < H.next + 1; omega)⟩
    · simp only [writeG, hf, cond_true, writeB, bldAt_get ho, bufAt_get hq, Nat.beq_refl, hfq', hb, Bool.and_self, Option.map_some]
    · rw [get_setH, if_neg (by omega)]; exact get_pushN.trans (if_pos rfl)
    · rw [get_setH, if_neg (fun r => by subst r; rw [ho] at e; cases e), get_pushN, if_neg (by have := hw.lt e; show p ≠ H.next; omega), get_setH, if_neg (fun r => by subst r; rw [hq] at e; cases e)]; exact e
theorem Bld.string {T E : Nat} {H : Heap} {o : Nat} {bs : List Nat} (h : Bld T E H o bs) (hw : H.Wf) : ∃ H', stringG T E [.ptr o 0] H = some (.str bs, H') ∧ ExtC H H' := by
  obtain ⟨h1, h2⟩ := h
  rcases h2 with ⟨ho, rfl⟩ | ⟨q, ho, hq, hfq, hne⟩
  · exact ⟨H, by simp only [stringG, bldAt_get ho, Nat.beq_refl, cond_true], ExtC.refl hw⟩
  · have hf : Nat.ble H.floor o = true := Nat.ble_eq_true_of_le h1
    have hfq' : Nat.ble H.floor q = true := Nat.ble_eq_true_of_le hfq
    have hp : Nat.blt 0 bs.length = true := by
      have : 1 ≤ bs.length := by
        rcases Nat.eq_zero_or_pos bs.length with r | r
        · exact absurd (List.length_eq_zero_iff.1 r) hne
        · exact r
      simpa [Nat.blt] using this
    refine ⟨H.set q .dead, ?_, rfl, Nat.le_refl _, fun p cs e => ?_, Wf.set hw (hw.lt hq)⟩
    · simp only [stringG, bldAt_get ho, bufAt_get hq, Nat.beq_refl, hf, hfq', hp, cond_true, Bool.and_self]
    · rw [get_setH, if_neg (fun r => by subst r; rw [hq] at e; cases e)]; exact e
def strc (s : List Nat) : List AV := [.str s]
abbrev Strs := Sl 1 strc
theorem strc_len (s : List Nat) : (strc s).length = 1 := rfl
theorem strc_one (s : List Nat) : allOne (strc s) = true := rfl
theorem Strs.idx {H : Heap} {v : AV} {xs : List (List Nat)} (h : Strs H v xs) {k : IntKind} {i : Int} (h0 : 0 ≤ i) (h1 : i < xs.length) :
    ∃ p x, xs[i.toNat]? = some x ∧ indexAddrV 1 v (.int k i) = some p ∧ loadA H none p = some (.str x) := by
  obtain ⟨p, x, a, b, _, d⟩ := Sl.idx h (k := k) h0 h1; exact ⟨p, x, a, b, d _ rfl rfl⟩
theorem decF_len : ∀ (f u : Nat) (acc : List Nat), (decF f u acc).length ≤ f + acc.length
  | 0, _, acc => by simp [decF]
  | f + 1, u, acc => by
    unfold decF
    cases Nat.blt u 10 with
    | true => simp; omega
    | false => have := decF_len f (u / 10) ((48 + u % 10) :: acc); simp at this ⊢; omega
theorem itoaN_len (n : Int) : (itoaN n).length ≤ 26 := by
  cases n with
  | ofNat k => have := decF_len 25 k []; show (decF 25 k []).length ≤ 26; simp at this; omega
  | negSucc k => have := decF_len 25 (k + 1) []; show (45 :: decF 25 (k + 1) []).length ≤ 26; simp at this ⊢; omega
theorem itoaG_some {n : Int} {H : Heap} (h0 : -9223372036854775808 ≤ n) (h1 : n ≤ 9223372036854775807) : itoaG [.int .i64 n] H = some (.str (itoaN n), H) := by
  simp [itoaG, h0, h1]
end Go.AI
