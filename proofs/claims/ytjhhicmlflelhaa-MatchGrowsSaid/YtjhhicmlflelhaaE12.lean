/- Operations that write do what their abstract ones do. No claim by itself. -/
import Derived.Test.YtjhhicmlflelhaaE11
namespace Go.AI
variable {P : Program}
theorem splice_get {α : Type} (l m : List α) (p i : Nat) (h : p + m.length ≤ l.length) :
    (l.take p ++ m ++ l.drop (p + m.length))[i]? = if i < p then l[i]? else if i < p + m.length then m[i - p]? else l[i]? := by
  by_cases h1 : i < p
  · rw [if_pos h1, List.append_assoc, List.getElem?_append_left (by simp; omega), List.getElem?_take, if_pos h1]
  · rw [if_neg h1]
    by_cases h2 : i < p + m.length
    · rw [if_pos h2, List.append_assoc, List.getElem?_append_right (by simp; omega), List.getElem?_append_left (by simp; omega)]
      congr 1; simp; omega
    · rw [if_neg h2, List.getElem?_append_right (by simp; omega), List.getElem?_drop]
      congr 1; simp; omega
theorem writeSeg_some {H H' : Heap} {o off : Nat} {xs : List AV} (h : H.writeSeg o off xs = some H') : H.floor ≤ o ∧ ∃ cs, H.cellsAt o = some cs ∧ off + xs.length ≤ cs.length ∧ allOne xs = true ∧ H' = H.set o (.cells (setSeg cs off xs)) := by
  unfold Heap.writeSeg at h
  cases hf : Nat.ble H.floor o with
  | false => simp [hf] at h
  | true =>
    simp only [hf, cond_true] at h
    refine ⟨Nat.le_of_ble_eq_true hf, ?_⟩
    split at h
    · rename_i cs hc
      cases hb : (Nat.ble (off + xs.length) cs.length && allOne xs) with
      | false => simp [hb] at h
      | true =>
        simp [hb] at h
        simp only [Bool.and_eq_true, Nat.ble_eq] at hb
        exact ⟨cs, hc, hb.1, hb.2, h.symm⟩
    · cases h
theorem live_cells {H : Heap} {o : Nat} {cs : List AV} (h : H.cellsAt o = some cs) : H.get o = some (.cells cs) ∧ (.cells cs : AObj) ≠ .dead := ⟨cellsAt_some h, by simp⟩
/-- Cells written in place, and how the block reads then. -/
theorem store_block {φ : Pl} {w : World} {L : Loc} {off : Nat} {xs : List AV} {vs : List Value} (hown : Own w L) (hl : LRel φ xs vs) (h1 : allOne xs = true) (hr : L.base + off + xs.length ≤ L.size) :
    ∃ w' c c' t fz, (storeCells ⟨L.blk, L.base + off, none⟩ vs).run P w = .ok () w' ∧ w.heap[L.blk]? = some (.cells c t fz) ∧ w'.heap[L.blk]? = some (.cells c' t fz) ∧ c'.size = L.size ∧
      (∀ i, c'[i]? = if i < L.base + off then c[i]? else if i < L.base + off + vs.length then vs[i - (L.base + off)]? else c[i]?) ∧ (∀ j, L.base ≤ j → j < L.size → ¬ (fz.1 ≤ j ∧ j < fz.2)) ∧
      (∀ k, k ≠ L.blk → w'.heap[k]? = w.heap[k]?) ∧ w'.heap.size = w.heap.size ∧ w'.os = w.os ∧ w'.tape = w.tape ∧ w'.output = w.output := by
  obtain ⟨c, t, fz, hc, hs, hf⟩ := hown
  have hlen := hl.len
  obtain ⟨w', c', g1, g2, g3, g4, g5, g6, g7, g8⟩ := run_storeCells (P := P) vs w L.blk (L.base + off) 0 c t fz hc (by omega) (hl.oneCells h1) (fun j hj hj' => hf j (by omega) (by omega))
  simp only [Nat.add_zero] at g3
  have hcl : L.base + off + vs.length ≤ c.toList.length := by simp; omega
  refine ⟨w', c, c', t, fz, g1, hc, g2, ?_, fun i => ?_, hf, g4, g5, g6, g7, g8⟩
  · have := congrArg List.length g3
    simp at this
    omega
  · rw [← Array.getElem?_toList, g3, splice_get _ _ _ _ hcl]
    simp
theorem cell_of_block {w : World} {b i : Nat} {c : Array Value} {t : TypeId} {fz : Nat × Nat} (h : w.heap[b]? = some (.cells c t fz)) : w.cell? ⟨b, i, none⟩ = c[i]? := by
  simp [World.cell?, h]
theorem writeSeg_sound {B W Z : Nat} {φ : Pl} {H H' : Heap} {w : World} {o off : Nat} {L : Loc} {xs : List AV} {vs : List Value} (hH : HRel B W Z φ H w) (hL : φ o = some L) (hw : H.writeSeg o off xs = some H') (hl : LRel φ xs vs) :
    ∃ w', (storeCells ⟨L.blk, L.base + off, none⟩ vs).run P w = .ok () w' ∧ HRel B W Z φ H' w' ∧ Step φ H w φ H' w' := by
  obtain ⟨hf, cs, hc, hlen, h1, rfl⟩ := writeSeg_some hw
  obtain ⟨hat, hsz, hown⟩ := hH.at_ hL hc
  obtain ⟨w', c, c', t, fz, g1, g2, g3, g4, g5, g6, g7, g8, g9, g10, g11⟩ := store_block (P := P) (off := off) (hown (Nat.le_trans hH.fl hf)) hl h1 (by omega)
  have hlv := hl.len
  refine ⟨w', g1, hH.set _ hL (live_cells hc).1 (live_cells hc).2 hf g9 g10 g11 g8 g7 ⟨fun i a ha => ?_, ?_, fun _ => ⟨c', t, fz, g3, g4, g6⟩⟩⟩
  · rw [cell_of_block g3, g5]
    unfold setSeg at ha
    rw [splice_get _ _ _ _ hlen] at ha
    by_cases q1 : i < off
    · rw [if_pos q1] at ha
      obtain ⟨u, k1, k2⟩ := hat i a ha
      rw [cell_of_block g2] at k1
      exact ⟨u, by rw [if_pos (by omega)]; exact k1, k2⟩
    · rw [if_neg q1] at ha
      by_cases q2 : i < off + xs.length
      · rw [if_pos q2] at ha
        obtain ⟨u, k1, k2⟩ := hl.getE ha
        refine ⟨u, ?_, k2⟩
        rw [if_neg (by omega), if_pos (by omega)]
        have : L.base + i - (L.base + off) = i - off := by omega
        rw [this]; exact k1
      · rw [if_neg q2] at ha
        obtain ⟨u, k1, k2⟩ := hat i a ha
        rw [cell_of_block g2] at k1
        exact ⟨u, by rw [if_neg (by omega), if_neg (by omega)]; exact k1, k2⟩
  · simp [setSeg]; omega
theorem store_sound {B W Z : Nat} {φ : Pl} {H H' : Heap} {w : World} {t : TypeId} {n o off : Nat} {a : AV} {v pv : Value} (hH : HRel B W Z φ H w) (hp : VRel φ (.ptr o off) pv) (hv : VRel φ a v) (hn : tySize P t = some n) (hlen : a.cells.length = n) (hw : H.writeSeg o off a.cells = some H') :
    ∃ w', (Instr.storeAt t pv v).run P w = .ok () w' ∧ HRel B W Z φ H' w' ∧ Step φ H w φ H' w' := by
  cases hp with
  | ptr _ _ L hL =>
    obtain ⟨_, _, _, _, h1, _⟩ := writeSeg_some hw
    have hl := hv.cells h1
    obtain ⟨w', g1, g2, g3⟩ := writeSeg_sound (P := P) hH hL hw hl
    refine ⟨w', ?_, g2, g3⟩
    have : v.cells.size = n := by have := hl.len; simp at this; omega
    simp [Instr.storeAt, Instr.sureAddr, storeVar, run_sizeOf hn, this, g1]
/-! ### append -/
theorem growBy_le (newLen : Nat) : ∀ (r c : Nat), c ≤ 2 * newLen + 1024 → Builtin.growBy newLen r c ≤ 2 * newLen + 1024
  | 0, c, h => h
  | r + 1, c, h => by
    simp only [Builtin.growBy]
    split
    · exact h
    · exact growBy_le newLen r _ (by omega)
theorem nextcap_le (need c : Nat) (h : c < need) : Builtin.nextslicecap need c ≤ 2 * need + 1024 := by
  unfold Builtin.nextslicecap
  split
  · omega
  · split
    · omega
    · exact growBy_le _ _ _ (by omega)
theorem src_sound {B W Z : Nat} {φ : Pl} {H : Heap} {w : World} {e n : Nat} {y : AV} {v : Value} {new : List AV} (hH : HRel B W Z φ H w) (hy : VRel φ y v) (h : srcA e H y = some (n, new)) :
    (Builtin.lenOf v).run P w = .ok n w ∧ ∃ vs : List Value, (Builtin.firstCells e n v).run P w = .ok vs.toArray w ∧ LRel φ new vs ∧ new.length = n * e := by
  unfold srcA at h
  split at h
  · cases h; cases hy; exact ⟨by simp [Builtin.lenOf], [], by simp [Builtin.firstCells], .nil, by simp⟩
  · rename_i o off len e' lo ex
    cases hb : Nat.beq e e' with
    | false => simp [hb] at h
    | true =>
      have := Nat.eq_of_beq_eq_true hb; subst this
      simp only [hb, cond_true] at h
      cases hr : H.readSeg o off (len * e) with
      | none => simp [hr] at h
      | some cs =>
        simp [hr] at h; obtain ⟨rfl, rfl⟩ := h
        obtain ⟨a, cap, vs, rfl, g1, g2⟩ := slice_cells (P := P) hH hy (Nat.le_refl _) hr
        obtain ⟨cs', _, hs⟩ := readSeg_some hr
        obtain ⟨q1, rfl⟩ := seg_some hs
        exact ⟨by simp [Builtin.lenOf], vs, by simp [Builtin.firstCells, g1], g2, by simp; omega⟩
  · cases hb : Nat.beq e 1 with
    | false => simp [hb] at h
    | true =>
      have := Nat.eq_of_beq_eq_true hb; subst this
      simp [hb] at h; obtain ⟨rfl, rfl⟩ := h
      cases hy with
      | str b =>
        refine ⟨by simp [Builtin.lenOf, natsOf_len], (b.data.map fun b => .int .u8 b.toNat).toList, ?_, ?_, by simp⟩
        · have : b.extract 0 (natsOf b).length = b := by
            rw [natsOf_len]
            apply ByteArray.ext
            simp
          simp only [Builtin.firstCells, this, Sem.run_pure]
        · simp only [natsOf, List.map_map, Array.toList_map]
          exact LRel.mapL _ _ _ fun x _ => .int _ _
  · cases h
theorem zeroCells_size (zero : Array Value) (n : Nat) : (Builtin.zeroCells zero n).size = n * zero.size := by simp [Builtin.zeroCells]
/-- A slice that is appended to gets a block of its own. -/
theorem append_grows {B W Z : Nat} {φ : Pl} {H : Heap} {w : World} {t u el : TypeId} {ty : TypeId} {e by_ n len cap : Nat} {z : AV} {base : Option Addr} {yv : Value} {new old : List AV} {nv ov : List Value}
    (hH : HRel B W Z φ H w) (hK : H.next < Z) (ht : P.underlying t = some (.slice el)) (hu : (∃ q, P.underlying u = some (.slice q)) ∨ P.underlying u = some .string) (he : tySize P el = some e) (hb : tyBytes P el = some by_) (hz : tyZero P el = some z) (hz1 : z.cells.length = e) (hz2 : allOne z.cells = true) (hb0 : by_ ≠ 0)
    (hlen : (Builtin.lenOf yv).run P w = .ok n w) (hnew : ∀ d', (Builtin.firstCells e n yv).run P { w with drawn := d' } = .ok nv.toArray { w with drawn := d' }) (hold : ∀ d', (Builtin.firstCells e len (.slice base len cap)).run P { w with drawn := d' } = .ok ov.toArray { w with drawn := d' })
    (rn : LRel φ new nv) (ro : LRel φ old ov) (ln : new.length = n * e) (lo_ : old.length = len * e) (hcap : cap < len + n) (hbound : (2 * (len + n) + 1024) * by_ ≤ 2 ^ 48) :
    ∃ v φ' w', (Builtin.append_ #[t, u] ty #[.slice base len cap, yv]).run P w = .ok v w' ∧ VRel φ' (.slc H.next 0 (len + n) e (len + n) false) v ∧ HRel B W Z φ' (H.push (.cells (old ++ new))) w' ∧ Step φ H w φ' (H.push (.cells (old ++ new))) w' := by
  obtain ⟨zv, rz, _, hzr⟩ := run_zeroValue hz φ
  have hzs : zv.cells.size = e := by have := (rz.cells hz2).len; simp at this; omega
  obtain ⟨i, hi, hib⟩ : ∃ i, P.info? el = some i ∧ i.bytes = by_ := by
    unfold tyBytes at hb
    cases hi : P.info? el with
    | none => simp [hi] at hb
    | some i => simp [hi] at hb; exact ⟨i, rfl, hb⟩
  have hnc := nextcap_le (len + n) cap hcap
  have hq1 : ¬ (Builtin.nextslicecap (len + n) cap * by_ > 2 ^ 48) := by
    have : Builtin.nextslicecap (len + n) cap * by_ ≤ (2 * (len + n) + 1024) * by_ := Nat.mul_le_mul_right _ hnc
    omega
  have hcut : len + n ≤ Question.cut (.appendCap (len + n) cap el) (w.tape w.drawn (.appendCap (len + n) cap el)) := by simp only [Question.cut]; exact Nat.le_add_right _ _
  generalize hnewCap : Question.cut (.appendCap (len + n) cap el) (w.tape w.drawn (.appendCap (len + n) cap el)) = newCap at hcut
  let w1 : World := { w with drawn := w.drawn + 1 }
  have h1 : HRel B W Z φ H w1 := hH.congr rfl
  have hs1 : Step φ H w φ H w1 := Step.congr rfl rfl rfl rfl
  have hp := new_cells h1 hK el (old ++ new) (ov ++ nv) (Builtin.zeroCells zv.cells (newCap - (len + n))).toList (ro.append rn)
  have hsz : (ov ++ nv ++ (Builtin.zeroCells zv.cells (newCap - (len + n))).toList).length = newCap * e := by
    have e1 := ro.len; have e2 := rn.len
    simp only [List.length_append, Array.length_toList, zeroCells_size, hzs]
    rw [← e1, ← e2, lo_, ln, ← Nat.add_mul, ← Nat.add_mul]; congr 1; omega
  rw [hsz] at hp
  refine ⟨.slice (some ⟨w.heap.size, 0, none⟩) (len + n) newCap, _, _, ?_, .slc H.next 0 (len + n) e (len + n) false ⟨w.heap.size, 0, newCap * e⟩ newCap (Pl.put_same _ _ _) (Nat.le_refl _) hcut (fun q => by cases q) (by simp), hp.1, hs1.trans hp.2⟩
  have hc1 : ¬ (len + n ≤ cap) := by omega
  have hnew1 := hnew (w.drawn + 1)
  have hold1 := hold (w.drawn + 1)
  have e0 : (#[t, u] : Array TypeId)[0]? = some t := rfl
  have e1 : (#[t, u] : Array TypeId)[1]? = some u := rfl
  have e2 : (#[Value.slice base len cap, yv] : Array Value)[0]? = some (.slice base len cap) := rfl
  have e3 : (#[Value.slice base len cap, yv] : Array Value)[1]? = some yv := rfl
  rcases hu with ⟨q, hu⟩ | hu
  · simp only [Builtin.append_, e0, e1, e2, e3, Sem.run_bind, run_underlying, ht, hu, Result.andThen_ok, run_sizeOf he, Sem.run_pure, Bool.false_eq_true, if_false, hlen, if_neg hc1, run_typeInfo, hi, hib, hb0, or_self, and_false, if_neg hq1, run_choose, Question.forced, hnewCap, run_askRoom, hold1, Bool.not_false, if_true, hnew1, hzr, newRow, run_newObj]
    simp only [w1]
    congr 2
    congr 1
    congr 1
    apply Array.toList_inj.1; simp
  · simp only [Builtin.append_, e0, e1, e2, e3, Sem.run_bind, run_underlying, ht, hu, Result.andThen_ok, run_sizeOf he, Sem.run_pure, Bool.false_eq_true, if_false, hlen, if_neg hc1, run_typeInfo, hi, hib, hb0, or_self, and_false, if_neg hq1, run_choose, Question.forced, hnewCap, run_askRoom, hold1, Bool.not_false, if_true, hnew1, hzr, newRow, run_newObj]
    simp only [w1]
    congr 2
    congr 1
    congr 1
    apply Array.toList_inj.1; simp
end Go.AI
