/- Arguments of a law that are rows of rows. No claim by itself. -/
import Derived.Test.YtacfhbhfgbjleaaDoorE35
import Derived.Test.YtacfhbhfgbjleaaDoorE41
namespace Go.AI
open Go.ChangeShapes Go.WideShapes Go.Deep
/-- A law's call, over arguments that are told; what lies in memory is told of where all objects lie. -/
theorem law_told2 {P : Program} {G : World → Prop} {FT : Nat → Option FnD} (hFT : TableOk P G FT) {f : Nat} {args : List AV} {css : List (List AV)} {Ls : List (Option Loc)} {v : AV} {w : World} {avs : List Value}
    (h : Cp FT f args (heapR css.reverse) fun r _ => r = v) (hp : v.plain = true) (hl : LRel (fun o => (Ls[o]?).join) args avs) (hn : Ls.length = css.length)
    (hm : ∀ (o : Nat) (l : Loc), Ls[o]? = some (some l) → ∀ cs, css[o]? = some cs → l.blk < w.heap.size ∧ At (fun o => (Ls[o]?).join) w l cs ∧ l.base + cs.length ≤ l.size) (hgood : ∀ w' : World, (∀ b, b < w.heap.size → w'.heap[b]? = w.heap[b]?) → G w') :
    Calls P f avs.toArray w fun e w' => ∃ r, e = .returned r ∧ VRel (fun _ => none) v r ∧ RowKit.Below w.heap.size w w' := by
  obtain ⟨n, v1, H', hc, rfl⟩ := h
  have hnx := heapR_next css.reverse
  rw [List.length_reverse] at hnx
  have key : ∀ (o : Nat) (L : Loc), ((Ls[o]?).join : Option Loc) = some L → Ls[o]? = some (some L) := fun o L e => by
    cases q : Ls[o]? with
    | none => rw [q] at e; cases e
    | some x => rw [q] at e; simp at e; rw [e]
  have lt : ∀ (o : Nat) (L : Loc), ((Ls[o]?).join : Option Loc) = some L → o < css.length := fun o L e => by
    have := (List.getElem?_eq_some_iff.1 (key o L e)).1; omega
  refine (law_calls hFT hc hl (by rw [hnx.1, hnx.2]) (heapR_wf css.reverse).2 (fun o L e => ⟨by rw [hnx.1]; exact lt o L e, ?_⟩) (fun o L x e hx => ?_) hgood).mono ?_
  · have hlt := lt o L e
    exact (hm o L (key o L e) _ (List.getElem?_eq_getElem hlt)).1
  · rw [heapR_get, List.reverse_reverse] at hx
    cases hg : css[o]? with
    | none => rw [hg] at hx; cases hx
    | some cs =>
      rw [hg] at hx; cases hx
      have h1 := hm o L (key o L e) _ hg
      exact ⟨h1.2.1, h1.2.2, fun hb => absurd (lt o L e) (by rw [hnx.1] at hb; omega)⟩
  · rintro e w' ⟨φ', r, rfl, hv, hb⟩
    exact ⟨r, rfl, hv.plain hp, hb⟩
theorem heapF_get (css : List (List AV)) (o : Nat) : (heapR css.reverse).get o = (css[o]?).map .cells := by rw [heapR_get, List.reverse_reverse]
section
variable {H : Type} {enc : TypeId × Value → H} {P : Program} {w : World} {base : Nat} {held : Bool}
theorem arg_cells2 {Q : Pl → Prop} {a : Addr} {len cap e o : Nat} {cs : List AV} (hl : len ≤ cap) (he : 0 < e) (hcs : cs.length = len * e)
    (hc : ∀ i, i < cap * e → ∃ u, w.cell? (a.add i) = some u) (hv : ∀ i x, cs[i]? = some x → ∃ u, w.cell? (a.add i) = some u ∧ ∀ φ, Q φ → VRel φ x u) :
    ∃ L : Option Loc, (∀ φ : Pl, φ o = L → VRel φ (.slc o 0 len e len false) (.slice (some a) len cap)) ∧ ∀ l, L = some l → l.blk < w.heap.size ∧ (∀ φ, Q φ → At φ w l cs) ∧ l.base + cs.length ≤ l.size := by
  rcases Nat.eq_zero_or_pos cap with h0 | h0
  · subst h0
    obtain rfl : len = 0 := by omega
    exact ⟨none, fun φ _ => .slc0 _ _ _ _ _, fun l e => by cases e⟩
  · have hpos : 0 < cap * e := Nat.mul_pos h0 he
    obtain ⟨u0, hu0⟩ := hc 0 hpos
    rw [add_zero'] at hu0
    refine ⟨some ⟨a.block, a.off, a.off + cap * e⟩, fun φ hφ => ?_, fun l e => ?_⟩
    · rw [spot_none hu0]
      exact VRel.slc (φ := φ) o 0 len e len false ⟨a.block, a.off, a.off + cap * e⟩ cap hφ (Nat.le_refl _) hl (fun q => by cases q) (Nat.le_refl _)
    · cases e
      refine ⟨cell_blk hu0, fun φ hQ i x hx => ?_, ?_⟩
      · obtain ⟨u, h1, h2⟩ := hv i x hx
        exact ⟨u, cell_add h1 ⟨u0, hu0⟩, h2 φ hQ⟩
      · show a.off + cs.length ≤ _
        rw [hcs]; exact Nat.add_le_add_left (Nat.mul_le_mul_right _ hl) _
theorem arg_ints2 {t e : TypeId} {fuel : Nat} {cs : List Value} {x : DataW H × List MemPlace} (o : Nat) (ht : P.underlying t = some (.slice e)) (he : P.underlying e = some (.int .i64)) (hc : P.cellsOf e = 1)
    (h : DataW.trod enc P w base (fun _ => true) held fuel t cs = some x) : ∃ v xs av L, cs = [v] ∧ SlArg w o 1 i64c v xs av L := by
  rcases open_ints ht he hc h with ⟨hcs, _⟩ | ⟨a, len, cap, zs, hcs, _⟩
  · subst hcs
    obtain ⟨xs, av, L, _, hs, _⟩ := arg_ints o ht he hc h
    exact ⟨_, xs, av, L, rfl, hs⟩
  · subst hcs
    obtain ⟨xs, av, L, _, hs, _⟩ := arg_ints o ht he hc h
    exact ⟨_, xs, av, L, rfl, hs⟩
/-- What a row of rows comes to: its objects o, o+1, .. -/
structure GdArg (w : World) (o : Nat) (v : Value) (F : List (List Int)) (av : AV) (css : List (List AV)) (Ls : List (Option Loc)) : Prop where
  ln : Ls.length = css.length
  rel : ∀ φ : Pl, (∀ k, φ (o + k) = (Ls[k]?).join) → VRel φ av v
  mem : ∀ (k : Nat) (l : Loc), Ls[k]? = some (some l) → ∀ cs, css[k]? = some cs → l.blk < w.heap.size ∧ (∀ φ : Pl, (∀ k, φ (o + k) = (Ls[k]?).join) → At φ w l cs) ∧ l.base + cs.length ≤ l.size
  gd : ∀ H : Heap, (∀ k cs, css[k]? = some cs → H.get (o + k) = some (.cells cs)) → Gd H av F
instance : Inhabited OneV := ⟨⟨.nils, rfl⟩⟩
theorem SlArg.rw {α : Type} {e : Nat} {en : α → List AV} (hn : ∀ x, (en x).length = e) {w : World} {o : Nat} {v : Value} {xs : List α} {av : AV} {L : Option Loc} {H : Heap} (h : SlArg w o e en v xs av L) (hg : H.get o = some (.cells (xs.flatMap en))) : Rw e en H av xs :=
  ⟨h.sw hn hg, by
    rcases h.2 with ⟨rfl, _⟩ | rfl
    · rfl
    · simp [capOk]⟩
theorem arg_grid {t e q : TypeId} {fuel : Nat} {cs : List Value} {x : DataW H × List MemPlace} (o : Nat) (ht : P.underlying t = some (.slice e)) (he : P.underlying e = some (.slice q)) (hq : P.underlying q = some (.int .i64)) (ce : P.cellsOf e = 1) (cq : P.cellsOf q = 1)
    (h : DataW.trod enc P w base (fun _ => true) held fuel t cs = some x) : ∃ v F av css Ls, cs = [v] ∧ GdArg w o v F av css Ls := by
  rcases open_slice1 ht ce h with ⟨hcs, _⟩ | ⟨a, len, cap, m, n, V, D, Pl, rfl, hb, hl, hm, hmm, rfl, hx⟩
  · subst hcs
    refine ⟨_, [], .nils, [], [], rfl, ⟨rfl, fun φ _ => .nils, fun k l e => by simp at e, fun H _ => ⟨⟨[], ⟨.inl ⟨rfl, rfl⟩, rfl⟩, rfl, fun i r f h => by simp at h⟩⟩⟩⟩
  · simp only [if_true] at hmm
    subst hmm
    have each : ∀ r, r < len → ∃ y : List Int × OneV × Option Loc, SlArg w (o + 1 + r) 1 i64c (V r) y.1 y.2.1.1 y.2.2 := by
      intro r hr
      obtain ⟨v, xs, av, L, h1, h2⟩ := arg_ints2 (o + 1 + r) he hq cq (hx r (by omega)).2
      cases h1
      exact ⟨(xs, ⟨av, by rcases h2.2 with ⟨q, _⟩ | q <;> (rw [q]; rfl)⟩, L), h2⟩
    obtain ⟨y, hy⟩ := choose_lt each
    obtain ⟨L0, r0, m0⟩ := arg_cells2 (w := w) (Q := fun φ => ∀ r, r < len → φ (o + 1 + r) = (y r).2.2) (a := a) (len := len) (cap := m) (e := 1) (o := o) (cs := ((List.range len).map fun r => (y r).2.1).flatMap onec) hl (by omega) (by rw [flat_len onec_len]; simp)
      (fun i hi => ⟨_, (hx i (by omega)).1⟩) (fun i z hz => by
        have hfl : (((List.range len).map fun r => (y r).2.1).flatMap onec) = (List.range len).map fun r => (y r).2.1.1 := by
          generalize List.range len = l
          induction l with
          | nil => rfl
          | cons r l ih => simp only [List.map_cons, List.flatMap_cons, ih]; rfl
        rw [hfl, List.getElem?_map] at hz
        cases hr : (List.range len)[i]? with
        | none => rw [hr] at hz; cases hz
        | some r =>
          obtain ⟨h1, h2⟩ := List.getElem?_eq_some_iff.1 hr
          simp at h1 h2
          subst h2
          rw [hr] at hz
          simp at hz; subst hz
          exact ⟨_, (hx i (by omega)).1, fun φ hφ => (hy i h1).1.rel φ (hφ i h1)⟩)
    have hL : ∀ r, r < len → ((L0 :: (List.range len).map fun r => (y r).2.2)[r + 1]?).join = (y r).2.2 := fun r hr => by simp [hr]
    refine ⟨_, (List.range len).map fun r => (y r).1, .slc o 0 len 1 len false, (((List.range len).map fun r => (y r).2.1).flatMap onec) :: (List.range len).map (fun r => (y r).1.flatMap i64c), L0 :: (List.range len).map (fun r => (y r).2.2), rfl, ⟨by simp, fun φ hφ => r0 φ (by have := hφ 0; simpa using this), ?_, ?_⟩⟩
    · intro k l hk cs hcs
      cases k with
      | zero =>
        simp at hk hcs
        subst hcs
        obtain ⟨h1, h2, h3⟩ := m0 l hk
        refine ⟨h1, fun φ hφ => h2 φ fun r hr => ?_, h3⟩
        have := hφ (r + 1)
        rw [hL r hr] at this
        rw [← this]; congr 1; omega
      | succ k =>
        have hkl : k < len := by
          have := (List.getElem?_eq_some_iff.1 hk).1; simp at this; exact this
        simp [hkl] at hk hcs
        subst hcs
        obtain ⟨h1, h2, h3⟩ := (hy k hkl).1.mem l hk
        exact ⟨h1, fun φ _ => h2 φ, h3⟩
    · intro Hp hg
      have g0 := hg 0 _ rfl
      refine ⟨⟨(List.range len).map fun r => (y r).2.1, ⟨.inr ⟨o, 0, len, false, by simp, ?_⟩, by simp [capOk]⟩, by simp, fun i r f h1 h2 => ?_⟩⟩
      · unfold Heap.readSeg
        rw [show o + 0 = o from rfl] at g0
        rw [cellsAt_get g0]
        exact seg_all (by rw [flat_len onec_len])
      · have hil : i < len := by
          have := (List.getElem?_eq_some_iff.1 h1).1; simpa using this
        simp [hil] at h1 h2
        subst h1 h2
        have gi := hg (i + 1) ((y i).1.flatMap i64c) (by simp [hil])
        exact (hy i hil).rw i64c_len (by rw [show o + 1 + i = o + (i + 1) from by omega]; exact gi)
end
end Go.AI
