/- Lists built by appending; objects written; strings. No claim by itself. -/
import Derived.Test.YtacfhbhfgbjleaaDoorE25
namespace Go.AI
theorem get_setH {H : Heap} {x : AObj} {o o' : Nat} : (H.set o x).get o' = if o' = o then some x else H.get o' := Tr.get_set _ _ _ _
theorem cellsAt_get {H : Heap} {o : Nat} {cs : List AV} (h : H.get o = some (.cells cs)) : H.cellsAt o = some cs := by
  unfold Heap.cellsAt; rw [h]
theorem get_cellsAt {H : Heap} {o : Nat} {cs : List AV} (h : H.cellsAt o = some cs) : H.get o = some (.cells cs) := by
  unfold Heap.cellsAt at h; split at h
  · rename_i x hx; cases h; exact hx
  · cases h
theorem Wf.set {H : Heap} (h : H.Wf) {o : Nat} {x : AObj} (ho : o < H.next) : (H.set o x).Wf := ⟨h.1, fun o' hn => by
  rw [get_setH, if_neg (by have : H.next ≤ o' := hn; omega)]; exact h.2 _ hn⟩
theorem Heap.Wf.lt {H : Heap} (h : H.Wf) {o : Nat} {x : AObj} (e : H.get o = some x) : o < H.next := Classical.byContradiction fun q => by
  rw [h.2 o (by omega)] at e; cases e
theorem load_get {H : Heap} {o off : Nat} {cs : List AV} {x : AV} (h : H.get o = some (.cells cs)) (k : cs[off]? = some x) : loadA H none (.ptr o off) = some x := by
  rw [loadA_ptr, cellsAt_get h]; exact k
theorem load_agg {H : Heap} {o off n : Nat} {cs ys : List AV} (h : H.get o = some (.cells cs)) (k : seg cs off n = some ys) : loadA H (some n) (.ptr o off) = some (.agg ys) := by
  rw [loadA_ptr, cellsAt_get h]; simp [partA, k]
def frB (p x : AV) : Bool := match p with | .ptr p _ => (match x with | .slc o _ _ _ _ _ => !Nat.beq p o | _ => true) | _ => false
theorem frees_append {τ : Env} {d : Option Nat} {e b : Nat} {x y : Opd} {g : Option (Nat × Bool)} {q : Bool} {fr : List Nat} : freesOk τ ⟨d, .append e b x y, g, q, fr⟩ = fr.all fun t => frB (Env.at τ t) (ev τ x) := by
  unfold freesOk
  congr 1
  funext t
  cases Env.at τ t with
  | ptr p o =>
    show (true && match (match ev τ x with | .slc o _ _ _ _ _ => some o | _ => none) with | some q => !(Nat.beq p q) | none => true) = frB (.ptr p o) (ev τ x)
    cases ev τ x <;> rfl
  | _ => rfl
@[simp] theorem Wo_frapp {FT : Nat → Option FnD} {τ : Env} {H : Heap} {Q : Post} {dst : Option Nat} {sz b : Nat} {x y : Opd} {t : Nat} {fr : List Nat} {rest : List AOper} :
    Wo FT (⟨dst, .append sz b x y, none, false, t :: fr⟩ :: rest) τ H Q ↔ ((t :: fr).all fun t => frB (Env.at τ t) (ev τ x)) = true ∧ opK FT dst rest τ Q (appendA sz b H (ev τ x) (ev τ y)) := by
  by_cases h : ((t :: fr).all fun t => frB (Env.at τ t) (ev τ x)) = true
  · rw [Wo_op (by intros; simp) (by rw [frees_append]; exact h)]
    simp only [h, true_and]
    rfl
  · constructor
    · rintro ⟨n, τ', H', e, q⟩
      have hf : freesOk τ ⟨dst, .append sz b x y, none, false, t :: fr⟩ = false := by
        rw [frees_append]; simpa using h
      simp only [opsA, wantedA, cond_true, hf, cond_false] at e
      cases e
    · exact fun q => (h q.1).elim
def rowObj : AV → Option Nat
  | .slc o _ _ _ _ _ => some o
  | _ => none
theorem frB_ne {p off : Nat} {v : AV} (h : rowObj v ≠ some p) : frB (.ptr p off) v = true := by
  cases v with
  | slc o a b c d e =>
    show (!Nat.beq p o) = true
    have : p ≠ o := fun q => h (by rw [q]; rfl)
    rw [Tr.nbeq]; simp [this]
  | _ => rfl
/-- A slice that this run built: its object holds just its items. -/
def Ow {α : Type} (e : Nat) (enc : α → List AV) (H : Heap) (v : AV) (xs : List α) : Prop :=
  (v = .nils ∧ xs = []) ∨ ∃ o, v = .slc o 0 xs.length e xs.length false ∧ xs ≠ [] ∧ H.get o = some (.cells (xs.flatMap enc)) ∧ H.floor ≤ o
/-- A slice that reads whole. -/
def Sw {α : Type} (e : Nat) (enc : α → List AV) (H : Heap) (v : AV) (xs : List α) : Prop :=
  (v = .nils ∧ xs = []) ∨ ∃ o off lo ex, v = .slc o off xs.length e lo ex ∧ H.readSeg o off (xs.length * e) = some (xs.flatMap enc)
section
variable {α : Type} {e : Nat} {enc : α → List AV} {H H0 : Heap} {v : AV} {xs ys : List α}
theorem Ow.sl (hn : ∀ x, (enc x).length = e) (h : Ow e enc H v xs) : Sl e enc H v xs := by
  rcases h with h | ⟨o, rfl, _, h2, _⟩
  · exact .inl h
  · exact Sl.ofCells hn h2
theorem seg_all {cs : List AV} {n : Nat} (h : cs.length = n) : seg cs 0 n = some cs := by
  have hb : Nat.ble (0 + n) cs.length = true := Nat.ble_eq_true_of_le (by omega)
  simp only [seg, hb, cond_true, List.drop_zero]
  rw [List.take_of_length_le (by omega)]
theorem Ow.sw (hn : ∀ x, (enc x).length = e) (h : Ow e enc H v xs) : Sw e enc H v xs := by
  rcases h with h | ⟨o, rfl, _, h2, _⟩
  · exact .inl h
  · refine .inr ⟨o, 0, _, _, rfl, ?_⟩
    unfold Heap.readSeg
    rw [cellsAt_get h2]
    exact seg_all (flat_len hn xs)
theorem Ow.keep {H' : Heap} (h : Ow e enc H v xs) (hf : H'.floor = H.floor) (k : ∀ o, rowObj v = some o → H'.get o = H.get o) : Ow e enc H' v xs := by
  rcases h with h | ⟨o, rfl, h1, h2, h3⟩
  · exact .inl h
  · exact .inr ⟨o, rfl, h1, by rw [k o rfl]; exact h2, by rw [hf]; exact h3⟩
theorem Ow.app (hn : ∀ x, (enc x).length = e) (_ : 1 ≤ e) (h1 : ∀ x, allOne (enc x) = true) {bytes : Nat} {y : AV} (hw : H.Wf) (hx : Ow e enc H v xs) (hy : Sw e enc H y ys) (hb : (2 * (xs.length + ys.length) + 1024) * bytes ≤ 2 ^ 48) :
    ∃ v' H', appendA e bytes H v y = some (v', H') ∧ Ow e enc H' v' (xs ++ ys) ∧ H'.Wf ∧ H'.floor = H.floor ∧ H.next ≤ H'.next ∧ (∀ o, o < H.next → rowObj v ≠ some o → H'.get o = H.get o) ∧ ∀ o, rowObj v' = some o → rowObj v = some o ∨ (H.next ≤ o ∧ o < H'.next) := by
  have hone : ∀ zs : List α, allOne (zs.flatMap enc) = true := by
    intro zs
    unfold allOne
    rw [List.all_eq_true]
    intro a ha
    obtain ⟨z, _, hz⟩ := List.mem_flatMap.1 ha
    have := h1 z
    unfold allOne at this
    rw [List.all_eq_true] at this
    exact this a hz
  have hsrc : srcA e H y = some (ys.length, ys.flatMap enc) := by
    rcases hy with ⟨rfl, rfl⟩ | ⟨o, off, lo, ex, rfl, hr⟩
    · rfl
    · simp only [srcA, Nat.beq_refl, cond_true, hr, Option.map_some]
  by_cases h0 : ys = []
  · subst h0
    refine ⟨v, H, ?_, by rw [List.append_nil]; exact hx, hw, rfl, Nat.le_refl _, fun _ _ _ => rfl, fun o q => .inl q⟩
    rcases hx with ⟨rfl, rfl⟩ | ⟨o, rfl, h2, h3, h4⟩
    · simp only [appendA, hsrc, hone, cond_true]; rfl
    · simp [appendA, hsrc]
  · have hl0 : Nat.beq ys.length 0 = false := by
      rw [Tr.nbeq]
      have : ys.length ≠ 0 := fun q => h0 (List.length_eq_zero_iff.1 q)
      simp [this]
    rcases hx with ⟨rfl, rfl⟩ | ⟨o, rfl, h2, h3, h4⟩
    · have hbig : Nat.ble ((2 * ys.length + 1024) * bytes) (2 ^ 48) = true := Nat.ble_eq_true_of_le (by simpa using hb)
      refine ⟨.slc H.next 0 ys.length e ys.length false, H.push (.cells (ys.flatMap enc)), ?_, .inr ⟨H.next, rfl, h0, get_pushN.trans (if_pos rfl), hw.1⟩, hw.push _, rfl, Nat.le_succ _, fun o ho _ => get_pushN.trans (if_neg (by omega)), fun o q => .inr ?_⟩
      · simp only [appendA, hsrc, hone, cond_true, hl0, cond_false, hbig]
      · cases q; exact ⟨Nat.le_refl _, Nat.lt_succ_self _⟩
    · have hb1 : Nat.ble (xs.length + ys.length) xs.length = false := by
        cases hh : Nat.ble (xs.length + ys.length) xs.length with
        | false => rfl
        | true =>
          have := Nat.le_of_ble_eq_true hh
          have : ys.length ≠ 0 := fun q => h0 (List.length_eq_zero_iff.1 q)
          omega
      have hbig : Nat.ble ((2 * (xs.length + ys.length) + 1024) * bytes) (2 ^ 48) = true := Nat.ble_eq_true_of_le hb
      have ho : o < H.next := Classical.byContradiction fun q => by
        have := hw.2 o (by omega); rw [this] at h3; cases h3
      have hread : H.readSeg o 0 (xs.length * e) = some (xs.flatMap enc) := by
        unfold Heap.readSeg
        rw [cellsAt_get h3]
        exact seg_all (flat_len hn xs)
      have hfl : Nat.ble H.floor o = true := Nat.ble_eq_true_of_le h4
      have hne : xs ++ ys ≠ [] := fun q => h2 (List.append_eq_nil_iff.1 q).1
      refine ⟨.slc H.next 0 (xs.length + ys.length) e (xs.length + ys.length) false, (H.set o .dead).push (.cells (xs.flatMap enc ++ ys.flatMap enc)), ?_, .inr ⟨H.next, by rw [List.length_append], hne, ?_, hw.1⟩, (Wf.set hw ho).push _, rfl, Nat.le_succ _, fun o' ho' hne' => ?_, fun o' q => .inr ?_⟩
      · simp only [appendA, hsrc, hone, cond_true, Nat.beq_refl, hl0, cond_false, hb1, hbig, hread, hfl]
      · rw [List.flatMap_append]; exact get_pushN.trans (if_pos rfl)
      · have q : o' ≠ o := fun q => hne' (by rw [q]; rfl)
        exact (get_pushN.trans (if_neg (by show ¬ o' = H.next; omega))).trans (get_setH.trans (if_neg q))
      · cases q; exact ⟨Nat.le_refl _, Nat.lt_succ_self _⟩
/-- Building a list over the memory H0, of which the object X may be used up. -/
structure Bx (X : Option Nat) (e : Nat) (enc : α → List AV) (H0 H : Heap) (v : AV) (xs : List α) : Prop where
  wf : H.Wf
  fl : H.floor = H0.floor
  nx : H0.next ≤ H.next
  old : ∀ o x, o < H0.next → X ≠ some o → H0.get o = some x → H.get o = some x
  ow : Ow e enc H v xs
  fresh : ∀ o, rowObj v = some o → (X = some o ∨ H0.next ≤ o) ∧ o < H.next
abbrev Bd (e : Nat) (enc : α → List AV) (H0 H : Heap) (v : AV) (xs : List α) : Prop := Bx none e enc H0 H v xs
variable {X : Option Nat}
theorem Bd.init (hw : H.Wf) : Bd e enc H H .nils ([] : List α) := ⟨hw, rfl, Nat.le_refl _, fun _ _ _ _ q => q, .inl ⟨rfl, rfl⟩, fun _ q => by cases q⟩
theorem Bx.start (hw : H.Wf) (h : Ow e enc H v xs) : Bx (rowObj v) e enc H H v xs := ⟨hw, rfl, Nat.le_refl _, fun _ _ _ _ q => q, h, fun o q => by
  refine ⟨.inl q, ?_⟩
  rcases h with ⟨rfl, _⟩ | ⟨o', rfl, _, h2, _⟩
  · cases q
  · cases q
    exact Classical.byContradiction fun k => by have := hw.2 o (by omega); rw [this] at h2; cases h2⟩
theorem Bd.ext (h : Bd e enc H0 H v xs) (hw0 : H0.Wf) : Ext H0 H := ⟨h.fl, h.nx, fun o x q => by
  have ho : o < H0.next := Classical.byContradiction fun k => by
    have := hw0.2 o (by omega); rw [this] at q; cases q
  exact h.old o x ho (fun q => by cases q) q, h.wf⟩
theorem Bx.keep {β : Type} {e' : Nat} {enc' : β → List AV} {w : AV} {ys : List β} (h : Bx X e enc H0 H v xs) (hw0 : H0.Wf) (k : Sl e' enc' H0 w ys) (d : ∀ o, rowObj w = some o → X ≠ some o) : Sl e' enc' H w ys := by
  rcases k with k | ⟨o, off, lo, ex, cs, a, b, c⟩
  · exact .inl k
  · refine .inr ⟨o, off, lo, ex, cs, a, ?_, c⟩
    unfold Heap.cellsAt at b ⊢
    cases q : H0.get o with
    | none => rw [q] at b; cases b
    | some x =>
      have ho : o < H0.next := Classical.byContradiction fun k => by
        have := hw0.2 o (by omega); rw [this] at q; cases q
      rw [h.old o x ho (d o (by rw [a]; rfl)) q]
      rw [q] at b; exact b
theorem Bx.after {H' : Heap} (h : Bx X e enc H0 H v xs) (k : Ext H H') : Bx X e enc H0 H' v xs := by
  have := h.nx
  have := k.next
  refine ⟨k.wf, k.floor.trans h.fl, by omega, fun o x a b c => k.keep o x (h.old o x a b c), ?_, fun o q => ?_⟩
  · rcases h.ow with q | ⟨o, rfl, h1, h2, h3⟩
    · exact .inl q
    · exact .inr ⟨o, rfl, h1, k.keep _ _ h2, by rw [k.floor]; exact h3⟩
  · have := h.fresh o q; exact ⟨this.1, by omega⟩
theorem Bx.push (h : Bx X e enc H0 H v xs) {x : AObj} : Bx X e enc H0 (H.push x) v xs := h.after (Ext.push h.wf x)
/-- More items at once. -/
theorem Bx.appS (hn : ∀ x, (enc x).length = e) (he : 1 ≤ e) (h1 : ∀ x, allOne (enc x) = true) {bytes : Nat} {y : AV} (h : Bx X e enc H0 H v xs) (hy : Sw e enc H y ys) (hb : (2 * (xs.length + ys.length) + 1024) * bytes ≤ 2 ^ 48) :
    ∃ v' H', appendA e bytes H v y = some (v', H') ∧ Bx X e enc H0 H' v' (xs ++ ys) ∧ H.next ≤ H'.next ∧ (∀ o, o < H.next → rowObj v ≠ some o → H'.get o = H.get o) ∧ ∀ o, rowObj v' = some o → rowObj v = some o ∨ H.next ≤ o := by
  have hnx := h.nx
  obtain ⟨v', H', k1, k2, k3, k4, k5, k6, k7⟩ := h.ow.app hn he h1 (bytes := bytes) h.wf hy hb
  refine ⟨v', H', k1, ⟨k3, k4.trans h.fl, by omega, ?_, k2, ?_⟩, k5, k6, fun o q => (k7 o q).imp id fun q => q.1⟩
  · intro o x ho hX hx
    rw [k6 o (by omega) (fun q => by
      rcases (h.fresh o q).1 with k | k
      · exact hX k
      · omega)]
    exact h.old o x ho hX hx
  · intro o ho
    rcases k7 o ho with q | ⟨q1, q2⟩
    · have := h.fresh o q; exact ⟨this.1, by omega⟩
    · exact ⟨.inr (by omega), q2⟩
/-- One more item. -/
theorem Bx.app1 (hn : ∀ x, (enc x).length = e) (he : 1 ≤ e) (h1 : ∀ x, allOne (enc x) = true) {bytes : Nat} (h : Bx X e enc H0 H v xs) (x : α) (hb : (2 * (xs.length + 1) + 1024) * bytes ≤ 2 ^ 48) :
    ∃ v' H', appendA e bytes (H.push (.cells (enc x))) v (.slc H.next 0 1 e 1 true) = some (v', H') ∧ Bx X e enc H0 H' v' (xs ++ [x]) ∧ H.next ≤ H'.next ∧ (∀ o, o < H.next → rowObj v ≠ some o → H'.get o = H.get o) ∧ ∀ o, rowObj v' = some o → rowObj v = some o ∨ H.next ≤ o := by
  have hp := h.push (x := .cells (enc x))
  have hy : Sw e enc (H.push (.cells (enc x))) (.slc H.next 0 1 e 1 true) [x] := by
    refine .inr ⟨H.next, 0, 1, true, rfl, ?_⟩
    unfold Heap.readSeg
    rw [cellsAt_get (get_pushN.trans (if_pos rfl))]
    simp only [List.flatMap_cons, List.flatMap_nil, List.append_nil]
    exact seg_all (by rw [hn]; simp)
  obtain ⟨v', H', k1, k2, k3, k4, k5⟩ := hp.appS hn he h1 (bytes := bytes) hy (by simpa using hb)
  have k3' : H.next + 1 ≤ H'.next := k3
  refine ⟨v', H', k1, k2, by omega, ?_, ?_⟩
  · intro o ho hne
    rw [k4 o (by show o < H.next + 1; omega) hne]
    exact get_pushN.trans (if_neg (by omega))
  · intro o ho
    rcases k5 o ho with q | q
    · exact .inl q
    · have q1 : H.next + 1 ≤ o := q
      exact .inr (by omega)
theorem Bx.sl (hn : ∀ x, (enc x).length = e) (h : Bx X e enc H0 H v xs) : Sl e enc H v xs := h.ow.sl hn
end
theorem pairc_len (x : Int × Int) : (pairc x).length = 2 := rfl
theorem pairc_one (x : Int × Int) : allOne (pairc x) = true := rfl
theorem i64c_len (x : Int) : (i64c x).length = 1 := rfl
theorem i64c_one (x : Int) : allOne (i64c x) = true := rfl
/-- A variable made, and at once written. -/
theorem store_new {H : Heap} (hw : H.Wf) {z cs : List AV} {n : Nat} {x : AV} (hx : x.cells = cs) (hc : cs.length = n) (hz : z.length = n) (h1 : allOne cs = true) :
    ∃ H', storeA (H.push (.cells z)) n (.ptr H.next 0) x = some (undefA, H') ∧ H'.get H.next = some (.cells cs) ∧ Ext H H' ∧ H'.next = H.next + 1 := by
  refine ⟨(H.push (.cells z)).set H.next (.cells cs), ?_, get_setH.trans (if_pos rfl), ⟨rfl, Nat.le_succ _, fun o y e => ?_, Wf.set (hw.push _) (Nat.lt_succ_self _)⟩, rfl⟩
  · have hb : Nat.beq cs.length n = true := by rw [hc]; exact Nat.beq_refl n
    have hf : Nat.ble (H.push (.cells z)).floor H.next = true := Nat.ble_eq_true_of_le hw.1
    have hl : Nat.ble (0 + cs.length) z.length = true := Nat.ble_eq_true_of_le (by omega)
    have hs : setSeg z 0 cs = cs := by
      unfold setSeg; rw [List.drop_of_length_le (by omega)]; simp
    rw [storeA_ptr, hx, hb, cond_true]
    simp only [Heap.writeSeg, hf, cond_true, cellsAt_push, hl, h1, Bool.and_self, hs, Option.map_some]
  · have := hw.lt e
    rw [get_setH, if_neg (by omega), get_pushN, if_neg (by omega)]; exact e
/-- An object of one's own written: a cell. -/
theorem store_own {H : Heap} {o off : Nat} {x : AV} {cs : List AV} (hf : H.floor ≤ o) (hg : H.get o = some (.cells cs)) (hl : off < cs.length) (hx : x.one = true) : storeA H 1 (.ptr o off) x = some (undefA, H.set o (.cells (cs.set off x))) := by
  have hc : x.cells = [x] := by cases x <;> simp [AV.one] at hx <;> rfl
  have hb : Nat.ble H.floor o = true := Nat.ble_eq_true_of_le hf
  have hb2 : Nat.ble (off + 1) cs.length = true := Nat.ble_eq_true_of_le hl
  have ha : allOne [x] = true := by simp [allOne, hx]
  have hs : setSeg cs off [x] = cs.set off x := by
    unfold setSeg
    rw [List.set_eq_take_append_cons_drop, if_pos hl]; simp
  rw [storeA_ptr, hc]
  unfold Heap.writeSeg
  rw [cellsAt_get hg, hb]
  simp only [List.length_cons, List.length_nil, hb2, ha, cond_true, Bool.and_self, Nat.zero_add, hs]
  rfl
theorem Sl.one {α : Type} {e : Nat} {enc : α → List AV} {H : Heap} {v : AV} {xs : List α} (h : Sl e enc H v xs) : v.one = true ∧ v.cells = [v] := by
  rcases h with ⟨rfl, _⟩ | ⟨o, off, lo, ex, cs, rfl, _⟩ <;> exact ⟨rfl, rfl⟩
@[simp] theorem allOne_nili {l : List AV} : allOne (.nili :: l) = allOne l := rfl
theorem allOne_of {v : AV} {l : List AV} (h : v.one = true) : allOne (v :: l) = allOne l := by simp [allOne, h]
/-! ### Strings -/
section
variable {e : Opd → AV} {H : Heap}
@[simp] theorem b_adds {d : EqD} {a b : List Nat} : binA .add d (.str a) (.str b) = if ((a.length + b.length : Nat) : Int) > IntKind.i64.max then none else some (.str (a ++ b)) := by simp [binA]
@[simp] theorem b_eqls {d : EqD} {a b : List Nat} : binA .eql d (.str a) (.str b) = some (.bool (a == b)) := by simp [binA]
@[simp] theorem b_neqs {d : EqD} {a b : List Nat} : binA .neq d (.str a) (.str b) = some (.bool !(a == b)) := by simp [binA]
def lenSA : AV → Option AV | .str s => some (.int .i64 s.length) | _ => none
@[simp] theorem lenSA_str {s : List Nat} : lenSA (.str s) = some (.int .i64 s.length) := rfl
@[simp] theorem p_lenStr {x : Opd} : plainOp e H (.len .str x) = lft H (lenSA (e x)) := lft_map
def idxSA : AV → AV → Option AV
  | .str s, .int _ i => if 0 ≤ i then (s[i.toNat]?).map byteA else none
  | _, _ => none
@[simp] theorem idxSA_str {s : List Nat} {k : IntKind} {i : Int} : idxSA (.str s) (.int k i) = if 0 ≤ i then (s[i.toNat]?).map byteA else none := rfl
@[simp] theorem p_indexS {x i : Opd} : plainOp e H (.indexS x i) = lft H (idxSA (e x) (e i)) := lft_map
def slSA (x : AV) (lo hi : Option AV) : Option AV :=
  match x with
  | .str s => (boundsA s.length s.length true lo hi none).map fun (l, h, _, _) => .str ((s.drop l).take (h - l))
  | _ => none
@[simp] theorem p_sliceS {x : Opd} {lo hi : Option Opd} : plainOp e H (.sliceS x lo hi) = lft H (slSA (e x) (lo.map e) (hi.map e)) := lft_map
def sameA : AV → Option AV | .str s => some (.str s) | _ => none
@[simp] theorem sameA_str {s : List Nat} : sameA (.str s) = some (.str s) := rfl
@[simp] theorem p_same {x : Opd} : plainOp e H (.convert .same x) = lft H (sameA (e x)) := lft_map
def toBytesA (H : Heap) : AV → Option (AV × Heap)
  | .str s => some (.slc H.next 0 s.length 1 s.length false, H.push (.cells (s.map byteA)))
  | _ => none
@[simp] theorem toBytesA_str {s : List Nat} : toBytesA H (.str s) = some (.slc H.next 0 s.length 1 s.length false, H.push (.cells (s.map byteA))) := rfl
@[simp] theorem p_strToBytes {x : Opd} : plainOp e H (.convert .strToBytes x) = toBytesA H (e x) := rfl
def toStrA (H : Heap) : AV → Option (AV × Heap)
  | .nils => some (.str [], H)
  | .slc o off len 1 _ _ => ((H.readSeg o off len).bind bytesOf).map fun s => (.str s, H)
  | _ => none
@[simp] theorem p_bytesToStr {x : Opd} : plainOp e H (.convert .bytesToStr x) = toStrA H (e x) := rfl
def idxAV (len sz : Nat) (n : Option Nat) : AV → AV → Option AV
  | .agg cs, .int _ i => if 0 ≤ i ∧ i < len then partA cs (i.toNat * sz) n else none
  | _, _ => none
@[simp] theorem p_index {len sz : Nat} {n : Option Nat} {x i : Opd} : plainOp e H (.index len sz n x i) = lft H (idxAV len sz n (e x) (e i)) := lft_map
@[simp] theorem idxAV_agg {len sz : Nat} {n : Option Nat} {cs : List AV} {k : IntKind} {i : Int} : idxAV len sz n (.agg cs) (.int k i) = if 0 ≤ i ∧ i < len then partA cs (i.toNat * sz) n else none := rfl
end
@[simp] theorem fillV_pair {e : Opd → AV} {cs : List AV} {off : Nat} {k k' : IntKind} {a b : Int} {r : List (Nat × Nat × Opd)} : fillV e cs off 2 (.agg [.int k a, .int k' b]) r = if off + 2 ≤ cs.length then fillA e (setSeg cs off [.int k a, .int k' b]) r else none := by
  simp [fillV]
@[simp] theorem setSeg_pair {a b x y : AV} : setSeg [a, b] 0 [x, y] = [x, y] := by simp [setSeg]
@[simp] theorem fillV_str {e : Opd → AV} {cs : List AV} {off : Nat} {s : List Nat} {r : List (Nat × Nat × Opd)} : fillV e cs off 1 (.str s) r = if off + 1 ≤ cs.length then fillA e (setSeg cs off [.str s]) r else none := by
  simp [fillV]
@[simp] theorem fillV_nils {e : Opd → AV} {cs : List AV} {off : Nat} {r : List (Nat × Nat × Opd)} : fillV e cs off 1 .nils r = if off + 1 ≤ cs.length then fillA e (setSeg cs off [.nils]) r else none := by
  simp [fillV]
theorem fillV_val {e : Opd → AV} {cs : List AV} {off : Nat} {v : AV} {r : List (Nat × Nat × Opd)} (h : v.one = true) (hc : v.cells = [v]) : fillV e cs off 1 v r = if off + 1 ≤ cs.length then fillA e (setSeg cs off [v]) r else none := by
  unfold fillV; rw [hc]; simp [allOne, h]
/-- An object of one's own written whole. -/
theorem store_all {H : Heap} {o n : Nat} {x : AV} {cs xs : List AV} (hx : x.cells = xs) (hn : xs.length = n) (hf : H.floor ≤ o) (hg : H.get o = some (.cells cs)) (hl : cs.length = n) (h1 : allOne xs = true) : storeA H n (.ptr o 0) x = some (undefA, H.set o (.cells xs)) := by
  have hb : Nat.beq xs.length n = true := by rw [hn]; exact Nat.beq_refl n
  have hfl : Nat.ble H.floor o = true := Nat.ble_eq_true_of_le hf
  have hle : Nat.ble (0 + xs.length) cs.length = true := Nat.ble_eq_true_of_le (by omega)
  have hs : setSeg cs 0 xs = xs := by
    unfold setSeg; rw [List.drop_of_length_le (by omega)]; simp
  rw [storeA_ptr, hx, hb, cond_true]
  simp only [Heap.writeSeg, hfl, cond_true, cellsAt_get hg, hle, h1, Bool.and_self, hs, Option.map_some]
theorem Ext.setNew {H H1 : Heap} (h : Ext H H1) (hw : H.Wf) {o : Nat} {x : AObj} (h1 : H.next ≤ o) (h2 : o < H1.next) : Ext H (H1.set o x) :=
  ⟨h.floor, h.next, fun p y e => by have := hw.lt e; rw [get_setH, if_neg (by omega)]; exact h.keep p y e, Wf.set h.wf h2⟩
@[simp] theorem b_neqp {a b c d : Int} : binA .neq (.flat [.int, .int]) (.agg [.int .i64 a, .int .i64 b]) (.agg [.int .i64 c, .int .i64 d]) = some (.bool !(a == c && b == d)) := by
  have e : cellsEq [.int, .int] [.int .i64 a, .int .i64 b] [.int .i64 c, .int .i64 d] = some (a == c && b == d) := by
    simp only [cellsEq, cellEq, if_true]
    cases (a == c) <;> cases (b == d) <;> rfl
  have e2 : eqA (.flat [.int, .int]) (.agg [.int .i64 a, .int .i64 b]) (.agg [.int .i64 c, .int .i64 d]) = some (a == c && b == d) := e
  simp only [binA, e2, Option.map_some]
end Go.AI
