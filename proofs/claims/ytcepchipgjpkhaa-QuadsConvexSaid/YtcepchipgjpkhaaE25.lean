/- Arguments of a law, as the interpreter sees them. No claim by itself. -/
import Derived.Test.YtcepchipgjpkhaaE24
import Derived.Deep.SlicePairs
import Derived.Deep.Grids
import Derived.ChangeSlices
import Derived.SizedLaws
namespace Go.AI
open Go.ChangeShapes Go.WideShapes Go.Deep
structure zcj8 (w : World) (o : Nat) (v : Value) (av : AV) (cs : List AV) (L : Option Loc) : Prop where
 rel : ∀ φ : Pl, φ o = L -> zc3 φ av v
 mem : ∀ l, L = some l -> l.blk < w.heap.size /\ (∀ φ, At φ w l cs) /\ l.base + cs.length <= l.size
def zx0 : List (List AV) -> Heap
 | [] => ⟨.leaf, 0, 0⟩
 | c :: cs => ⟨(zx0 cs).t.set (zx0 cs).next (.cells c), (zx0 cs).next + 1, (zx0 cs).next + 1⟩
theorem zr6 (cs : List (List AV)) : (zx0 cs).next = cs.length /\ (zx0 cs).floor = cs.length := by
 induction cs with
 | nil => exact ⟨rfl, rfl⟩
 | cons c cs ih => exact ⟨by show (zx0 cs).next + 1 = _; rw [ih.1]; rfl, by show (zx0 cs).next + 1 = _; rw [ih.1]; rfl⟩
theorem zae8 (cs : List (List AV)) (o : Nat) : (zx0 cs).get o = (cs.reverse[o]?).map .cells := by
 induction cs with
 | nil => rfl
 | cons c cs ih =>
  show Tr.get _ o = _
  simp only [zx0]
  rw [Tr.get_set, (zr6 cs).1]
  by_cases h : o = cs.length
  ·subst h; simp
  ·rw [if_neg h]
   have : Tr.get (zx0 cs).t o = (zx0 cs).get o := rfl
   rw [this, ih]
   rcases Nat.lt_or_ge o cs.length with q | q
   ·simp [List.getElem?_append_left, q]
   ·have h1 : cs.reverse[o]? = none := by simp; omega
    have h2 : (c :: cs).reverse[o]? = none := by simp; omega
    rw [h1, h2]
theorem za23 (cs : List (List AV)) : (zx0 cs).Wf := ⟨by rw [(zr6 cs).1, (zr6 cs).2]; exact Nat.le_refl _, fun o ho => by
 rw [(zr6 cs).1] at ho
 rw [zae8]
 have : cs.reverse[o]? = none := by simp; omega
 rw [this]; rfl⟩
section
variable {H : Type} {enc : TypeId × Value -> H} {P : Program} {w : World} {base : Nat} {held : Bool}
theorem za45 {a : Addr} {i : Nat} {u : Value} (h : w.cell? (a.add i) = some u) (h0 : ∃ u0, w.cell? a = some u0) : w.cell? ⟨a.block, a.off + i, none⟩ = some u := by
 have hs : a.spot = none := by
  obtain ⟨u0, h0⟩ := h0
  unfold World.cell? at h0
  split at h0
  ·split at h0
   ·cases h0
   ·rename_i q; simpa using q
  ·cases h0
 obtain ⟨b, o, s⟩ := a
 simp only at hs; subst hs
 unfold Addr.add at h
 split at h
 ·rename_i q; subst q; exact h
 ·exact h
theorem za44 {a : Addr} {u : Value} (h : w.cell? a = some u) : a.block < w.heap.size := by
 unfold World.cell? at h
 split at h
 ·rename_i q; rw [Array.getElem?_eq_some_iff] at q; exact q.1
 ·cases h
theorem add_zero' {a : Addr} : a.add 0 = a := by unfold Addr.add; simp
theorem zao6 {a : Addr} {u : Value} (h : w.cell? a = some u) : a = ⟨a.block, a.off, none⟩ := by
 obtain ⟨b, o, s⟩ := a
 unfold World.cell? at h
 split at h
 ·split at h
  ·cases h
  ·rename_i q; simp at q; rw [q]
 ·cases h
theorem zat6 {a : Addr} {len cap e o : Nat} {cs : List AV} (hl : len <= cap) (he : 0 < e) (hcs : cs.length = len * e)
  (hc : ∀ i, i < cap * e -> ∃ u, w.cell? (a.add i) = some u) (hv : ∀ i x, cs[i]? = some x -> ∃ u, w.cell? (a.add i) = some u /\ ∀ φ, zc3 φ x u) :
  ∃ L, zcj8 w o (.slice (some a) len cap) (.slc o 0 len e len false) cs L := by
 rcases Nat.eq_zero_or_pos cap with h0 | h0
 ·subst h0
  obtain rfl : len = 0 := by omega
  exact ⟨none, fun φ _ => .slc0 _ _ _ _ _, fun l e => by cases e⟩
 ·have hpos : 0 < cap * e := Nat.mul_pos h0 he
  obtain ⟨u0, hu0⟩ := hc 0 hpos
  rw [add_zero'] at hu0
  refine ⟨some ⟨a.block, a.off, a.off + cap * e⟩, fun φ hφ => ?_, fun l e => ?_⟩
  ·rw [zao6 hu0]
   exact zc3.slc (φ := φ) o 0 len e len false ⟨a.block, a.off, a.off + cap * e⟩ cap hφ (Nat.le_refl _) hl (fun q => by cases q) (Nat.le_refl _)
  ·cases e
   refine ⟨za44 hu0, fun φ i x hx => ?_, ?_⟩
   ·obtain ⟨u, h1, h2⟩ := hv i x hx
    exact ⟨u, za45 h1 ⟨u0, hu0⟩, h2 φ⟩
   ·show a.off + cs.length <= _
    rw [hcs]; exact Nat.add_le_add_left (Nat.mul_le_mul_right _ hl) _
end
theorem zg6 {α : Type} {e : Nat} {enc : α -> List AV} (hn : ∀ x, (enc x).length = e) (xs : List α) : (xs.flatMap enc).length = xs.length * e := by
 induction xs with
 | nil => simp
 | cons x xs ih => simp only [List.flatMap_cons, List.length_append, hn, ih, List.length_cons, Nat.add_mul]; omega
section
variable {H : Type} {enc : TypeId × Value -> H} {P : Program} {w : World} {base : Nat} {held : Bool}
def zx8 {α : Type} (w : World) (o e : Nat) (en : α -> List AV) (v : Value) (xs : List α) (av : AV) (L : Option Loc) : Prop :=
 zcj8 w o v av (xs.flatMap en) L /\ ((av = .nils /\ xs = []) \/ av = .slc o 0 xs.length e xs.length false)
def za51 (d : DataW H) (n : Nat) : Prop := n = 0 \/ ∃ es sp, d = .slice es sp /\ es.length = n
theorem za51.le {d : DataW H} {n : Nat} (h : za51 d n) {ts : List TypeId} {ds : List (DataW H)} (hs : (DataW.weightsEach P ts ds).all (· <= reachBytes) = true) {j : Nat} {t e : TypeId} (ht : ts[j]? = some t) (hd : ds[j]? = some d)
  (hu : P.underlying t = some (.slice e)) (hb : 0 < P.bytesOf e) : n <= 140737488355328 := by
 rcases h with rfl | ⟨es, sp, rfl, rfl⟩
 ·omega
 ·have h1 := sized_slice hs ht hd hu
  have h2 : reachBytes < 2 ^ 47 := reachBytes_lt
  have h3 : es.length * 1 <= (es.length + sp.length) * P.bytesOf e := Nat.mul_le_mul (by omega) hb
  omega
theorem zbl4 {α : Type} {o e : Nat} {en : α -> List AV} : zx8 w o e en (.slice none 0 0) [] .nils none :=
 ⟨⟨fun _ _ => .nils, fun l q => by cases q⟩, .inl ⟨rfl, rfl⟩⟩
theorem za50 {t e : TypeId} {fuel : Nat} {a : Option Addr} {len cap : Nat} {x : DataW H × List MemPlace} (o : Nat) (ht : P.underlying t = some (.slice e)) (he : P.underlying e = some (.int .i64)) (hc : P.cellsOf e = 1)
  (h : DataW.trod enc P w base (fun _ => true) held fuel t [.slice a len cap] = some x) : ∃ xs av L, xs.length = len /\ zx8 w o 1 zi7 (.slice a len cap) xs av L /\ za51 x.1 len := by
 rcases open_ints ht he hc h with ⟨hcs, _⟩ | ⟨a, len, cap, zs, hcs, _, hl, _, hz, hxx, hcell, _⟩
 ·simp at hcs; obtain ⟨rfl, rfl, rfl⟩ := hcs
  exact ⟨[], .nils, none, rfl, zbl4, .inl rfl⟩
 ·simp at hcs; obtain ⟨rfl, rfl, rfl⟩ := hcs
  simp at hz
  have hlen : (zs.take len).length = len := by simp; omega
  have hn : ∀ z, (zi7 z).length = 1 := fun _ => rfl
  have hfl : (zs.take len).flatMap zi7 = (zs.take len).map (fun z => AV.int .i64 z) := by
   generalize zs.take len = l
   induction l with
   | nil => rfl
   | cons z l ih => simp [zi7, ih]
  obtain ⟨L, hL⟩ := zat6 (w := w) (a := a) (len := len) (cap := cap) (e := 1) (o := o) (cs := (zs.take len).flatMap zi7) hl (by omega) (by rw [hfl, List.length_map, hlen]; omega)
   (fun i hi => ⟨_, hcell i (by omega)⟩) (fun i y hy => by
    rw [hfl, List.getElem?_map] at hy
    cases hq : (zs.take len)[i]? with
    | none => rw [hq] at hy; cases hy
    | some z =>
     rw [hq] at hy; simp at hy; subst hy
     have hi : i < len := by have := (List.getElem?_eq_some_iff.1 hq).1; omega
     have hz' : zs[i]? = some z := by rw [List.getElem?_take, if_pos hi] at hq; exact hq
     refine ⟨_, hcell i (by omega), fun φ => ?_⟩
     have : zs.getD i 0 = z := by simp [List.getD, hz']
     rw [this]; exact .int _ _)
  exact ⟨zs.take len, .slc o 0 len 1 len false, L, hlen, ⟨hL, .inr (by rw [hlen])⟩, .inr ⟨_, _, by rw [hxx], by simp [lits]; omega⟩⟩
theorem zat5 {t e : TypeId} {f0 f1 : Field} {fuel : Nat} {a : Option Addr} {len cap : Nat} {x : DataW H × List MemPlace} (o : Nat) (ht : P.underlying t = some (.slice e)) (he : P.underlying e = some (.struct #[f0, f1]))
  (ce : P.cellsOf e = 2) (o0 : f0.offset = 0) (o1 : f1.offset = 1) (c0 : P.cellsOf f0.type = 1) (c1 : P.cellsOf f1.type = 1) (u0 : P.underlying f0.type = some (.int .i64)) (u1 : P.underlying f1.type = some (.int .i64))
  (h : DataW.trod enc P w base (fun _ => true) held fuel t [.slice a len cap] = some x) : ∃ xs av L, xs.length = len /\ zx8 w o 2 za2 (.slice a len cap) xs av L /\ za51 x.1 len := by
 rcases open_slice_pairs ht he ce o0 o1 c0 c1 h with ⟨hcs, _⟩ | ⟨a, len, cap, m, n, V0, V1, D0, D1, P0, P1, hcs, _, hl, _, hm, hxx, hx⟩
 ·simp at hcs; obtain ⟨rfl, rfl, rfl⟩ := hcs
  exact ⟨[], .nils, none, rfl, zbl4, .inl rfl⟩
 ·simp at hcs; obtain ⟨rfl, rfl, rfl⟩ := hcs
  simp at hm; subst hm
  have each : ∀ i, i < m -> ∃ q : Int × Int, V0 i = .int .i64 q.1 /\ V1 i = .int .i64 q.2 := fun i hi => by
   obtain ⟨_, _, h3, h4⟩ := hx i hi
   obtain ⟨z0, e0, _⟩ := DataW.trod_int u0 h3
   obtain ⟨z1, e1, _⟩ := DataW.trod_int u1 h4
   simp at e0 e1
   exact ⟨(z0, z1), e0, e1⟩
  obtain ⟨q, hq⟩ := choose_lt each
  have hn : ∀ z, (za2 z).length = 2 := fun _ => rfl
  have hlen : ((List.range len).map q).length = len := by simp
  have cells : ∀ i, i < m * 2 -> ∃ u, w.cell? (a.add i) = some u /\ (∀ φ, zc3 φ (.int .i64 (if i % 2 = 0 then (q (i / 2)).1 else (q (i / 2)).2)) u) := fun i hi => by
   have hi2 : i / 2 < m := by omega
   obtain ⟨h1, h2, _⟩ := hx (i / 2) hi2
   by_cases hp : i % 2 = 0
   ·have e : i / 2 * 2 = i := by omega
    rw [e] at h1
    refine ⟨_, h1, fun φ => ?_⟩
    rw [if_pos hp, (hq _ hi2).1]; exact .int _ _
   ·have e : i / 2 * 2 + 1 = i := by omega
    rw [e] at h2
    refine ⟨_, h2, fun φ => ?_⟩
    rw [if_neg hp, (hq _ hi2).2]; exact .int _ _
  have flat : ∀ (l : Nat) (i : Nat), i < l * 2 -> ((List.range l).map q |>.flatMap za2)[i]? = some (.int .i64 (if i % 2 = 0 then (q (i / 2)).1 else (q (i / 2)).2)) := by
   intro l
   induction l with
   | zero => intro i hi; omega
   | succ l ih =>
    intro i hi
    rw [List.range_succ, List.map_append, List.flatMap_append]
    have hll : ((List.range l).map q |>.flatMap za2).length = l * 2 := by rw [zg6 hn]; simp
    rcases Nat.lt_or_ge i (l * 2) with r | r
    ·rw [List.getElem?_append_left (by omega)]; exact ih i r
    ·rw [List.getElem?_append_right (by omega), hll]
     have h3 : i / 2 = l := by omega
     rcases (by omega : i - l * 2 = 0 \/ i - l * 2 = 1) with r2 | r2
     ·have : i % 2 = 0 := by omega
      rw [r2, if_pos this, h3]; rfl
     ·have : ¬ i % 2 = 0 := by omega
      rw [r2, if_neg this, h3]; rfl
  obtain ⟨L, hL⟩ := zat6 (w := w) (a := a) (len := len) (cap := m) (e := 2) (o := o) (cs := ((List.range len).map q).flatMap za2) hl (by omega) (by rw [zg6 hn, hlen])
   (fun i hi => by obtain ⟨u, h1, _⟩ := cells i hi; exact ⟨u, h1⟩) (fun i y hy => by
    have hi : i < len * 2 := by
     have := (List.getElem?_eq_some_iff.1 hy).1
     rw [zg6 hn, hlen] at this; exact this
    rw [flat len i hi] at hy
    simp only [Option.some.injEq] at hy; subst hy
    exact cells i (by omega))
  exact ⟨(List.range len).map q, .slc o 0 len 2 len false, L, hlen, ⟨hL, .inr (by rw [hlen])⟩, .inr ⟨_, _, by rw [hxx], by simp⟩⟩
end
theorem seg_append {a b : List AV} {k n : Nat} : seg (a ++ b) (a.length + k) n = seg b k n := by
 unfold seg
 have h1 : Nat.ble (a.length + k + n) (a ++ b).length = Nat.ble (k + n) b.length := by
  rw [zaw3, zaw3, List.length_append]
  by_cases q : k + n <= b.length
  ·have : a.length + k + n <= a.length + b.length := by omega
   simp [q, this]
  ·have : ¬ a.length + k + n <= a.length + b.length := by omega
   simp [q, this]
 have h2 : (a ++ b).drop (a.length + k) = b.drop k := by rw [<- List.drop_drop, List.drop_left]
 rw [h1, h2]
theorem zal2 {α : Type} {e : Nat} {enc : α -> List AV} (hn : ∀ x, (enc x).length = e) : ∀ (xs : List α) (i : Nat) (x : α), xs[i]? = some x -> seg (xs.flatMap enc) (i * e) e = some (enc x)
 | [], i, x, h => by simp at h
 | y :: ys, 0, x, h => by
  simp at h; subst h
  have : Nat.ble (0 * e + e) ((y :: ys).flatMap enc).length = true := by
   rw [zaw3]; simp [hn]
  unfold seg; rw [this]; simp [hn]
 | y :: ys, i + 1, x, h => by
  have ih := zal2 hn ys i x (by simpa using h)
  have e1 : (i + 1) * e = (enc y).length + i * e := by rw [hn, Nat.add_mul]; omega
  rw [List.flatMap_cons, e1, seg_append]; exact ih
theorem Sl.ofCells {α : Type} {e : Nat} {enc : α -> List AV} (hn : ∀ x, (enc x).length = e) {H : Heap} {o : Nat} {xs : List α} (h : H.get o = some (.cells (xs.flatMap enc))) : Sl e enc H (.slc o 0 xs.length e xs.length false) xs :=
 .inr ⟨o, 0, xs.length, false, xs.flatMap enc, rfl, by unfold Heap.cellsAt; rw [h], fun i x hx => by rw [Nat.zero_add]; exact zal2 hn xs i x hx⟩
end Go.AI
