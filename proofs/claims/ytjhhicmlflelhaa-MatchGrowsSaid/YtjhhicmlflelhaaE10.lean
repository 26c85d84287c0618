/- Operations that read memory, or make some, do what their abstract ones do, concluded. No claim by itself. -/
import Derived.Test.YtjhhicmlflelhaaE9
namespace Go.AI
variable {P : Program}
theorem cellsAt_some {H : Heap} {o : Nat} {cs : List AV} (h : H.cellsAt o = some cs) : H.get o = some (.cells cs) := by
  unfold Heap.cellsAt at h; split at h
  · rename_i x hx; cases h; exact hx
  · cases h
theorem HRel.at_ {B W Z : Nat} {φ : Pl} {H : Heap} {w : World} (h : HRel B W Z φ H w) {o : Nat} {L : Loc} {cs : List AV} (ho : φ o = some L) (hc : H.cellsAt o = some cs) : At φ w L cs ∧ L.base + cs.length ≤ L.size ∧ (B ≤ o → Own w L) :=
  h.obj o L _ ho (cellsAt_some hc)
theorem load_sound {B W Z : Nat} {φ : Pl} {H : Heap} {w : World} {t : TypeId} {n : Option Nat} {o off : Nat} {cs : List AV} {a : AV} {v : Value} (h : HRel B W Z φ H w) (hv : VRel φ (.ptr o off) v) (hc : H.cellsAt o = some cs) (ht : tyAgg P t = some n) (hp : partA cs off n = some a) :
    ∃ u, (Instr.loadAt t v).run P w = .ok u w ∧ VRel φ a u := by
  cases hv with
  | ptr _ _ L hL =>
    obtain ⟨u, g1, g2⟩ := run_loadVar (P := P) ht (h.at_ hL hc).1 hp
    exact ⟨u, by simp [Instr.loadAt, Instr.sureAddr, g1], g2⟩
theorem readSeg_some {H : Heap} {o off n : Nat} {xs : List AV} (h : H.readSeg o off n = some xs) : ∃ cs, H.cellsAt o = some cs ∧ seg cs off n = some xs := by
  unfold Heap.readSeg at h
  cases hc : H.cellsAt o with
  | none => simp [hc] at h
  | some cs => simp [hc] at h; exact ⟨cs, rfl, h⟩
/-- The cells of a slice, read. -/
theorem slice_cells {B W Z : Nat} {φ : Pl} {H : Heap} {w : World} {o off len e lo n : Nat} {ex : Bool} {xs : List AV} {v : Value} (h : HRel B W Z φ H w) (hv : VRel φ (.slc o off len e lo ex) v) (hn : n ≤ len * e) (hr : H.readSeg o off n = some xs) :
    ∃ a cap vs, v = .slice (some a) len cap ∧ (loadCells a n).run P w = .ok vs.toArray w ∧ LRel φ xs vs := by
  obtain ⟨cs, hc, hs⟩ := readSeg_some hr
  cases hv with
  | slc _ _ _ _ _ _ L cap hL q1 q2 q3 q4 =>
    obtain ⟨hl, hat⟩ := (h.at_ hL hc).1.seg hs
    obtain ⟨vs, g1, g2⟩ := run_loadCells (P := P) hat.size
    rw [hl] at g1
    exact ⟨_, cap, vs, rfl, g1, g2⟩
  | slc0 _ _ _ _ a =>
    have : n = 0 := by omega
    subst this
    obtain ⟨_, rfl⟩ := seg_some hs
    exact ⟨a, 0, [], rfl, by simp [loadCells, loadCellsFrom], by simp; exact .nil⟩
theorem bytesToString_sound {B W Z : Nat} {φ : Pl} {H : Heap} {w : World} {o off len lo : Nat} {ex : Bool} {xs : List AV} {s : List Nat} {v : Value} (h : HRel B W Z φ H w) (hv : VRel φ (.slc o off len 1 lo ex) v) (hr : H.readSeg o off len = some xs) (hb : bytesOf xs = some s) :
    ∃ u, (Conv.bytesToString v).run P w = .ok u w ∧ VRel φ (.str s) u := by
  obtain ⟨a, cap, vs, rfl, g1, g2⟩ := slice_cells (P := P) h hv (by omega) hr
  obtain ⟨b', k1, k2⟩ := bytesOf_sound (P := P) xs vs s g2 hb ByteArray.empty w
  refine ⟨.string b', ?_, ?_⟩
  · simp only [Conv.bytesToString, Sem.run_bind, g1, Result.andThen_ok]
    rw [← Array.forIn_toList]
    have e2 : ∀ r : Result ByteArray, r = .ok b' w → (r.andThen fun a w' => Sem.run P (pure (Value.string a) : Sem Value) w') = .ok (.string b') w := by rintro r rfl; rfl
    exact e2 _ k1
  · have : natsOf ByteArray.empty = [] := rfl
    rw [this, List.nil_append] at k2
    rw [← k2]; exact .str b'
theorem modify_push {α : Type} (xs : Array α) (x : α) (f : α → α) : (xs.push x).modify xs.size f = xs.push (f x) := by
  apply Array.ext
  · simp
  · intro i h1 h2
    rw [Array.getElem_modify]
    by_cases hi : xs.size = i
    · subst hi; simp
    · rw [if_neg hi]
      simp only [Array.size_modify, Array.size_push] at h1
      have : i < xs.size := by omega
      simp [Array.getElem_push, this]
theorem stringToBytes_sound {B W Z : Nat} {φ : Pl} {H : Heap} {w : World} (el : TypeId) (s : ByteArray) (h : HRel B W Z φ H w) (hK : H.next < Z) :
    ∃ u φ' w', (Conv.stringToBytes el s).run P w = .ok u w' ∧ VRel φ' (.slc H.next 0 (natsOf s).length 1 (natsOf s).length false) u ∧ HRel B W Z φ' (H.push (.cells ((natsOf s).map byteA))) w' ∧ Step φ H w φ' (H.push (.cells ((natsOf s).map byteA))) w' := by
  have hcut : s.size ≤ Question.cut (.appendCap s.size 0 el) (w.tape w.drawn (.appendCap s.size 0 el)) := by simp only [Question.cut]; exact Nat.le_add_right _ _
  generalize hcap : Question.cut (.appendCap s.size 0 el) (w.tape w.drawn (.appendCap s.size 0 el)) = cap at hcut
  let w1 : World := { w with drawn := w.drawn + 1 }
  let vs : List Value := (s.data.map fun b => .int .u8 b.toNat).toList ++ (Array.replicate (cap - s.size) (Value.int .u8 0)).toList
  have h1 : HRel B W Z φ H w1 := h.congr rfl
  have hs1 : Step φ H w φ H w1 := Step.congr rfl rfl rfl rfl
  have hlen : vs.length = cap := by simp [vs]; omega
  let w2 : World := { w1 with heap := w.heap.push (.cells vs.toArray el (cap, cap + 1)) }
  have hp := h1.push hK (w' := w2) (.cells ((natsOf s).map byteA)) ⟨w.heap.size, 0, cap⟩ (.cells vs.toArray el (cap, cap + 1)) rfl rfl rfl rfl rfl
    ⟨fun i a ha => by
      have hi : i < s.size := by
        rcases Nat.lt_or_ge i s.size with q | q
        · exact q
        · rw [List.getElem?_eq_none (by simp [natsOf_len]; exact q)] at ha; cases ha
      have hi' : i < s.data.size := hi
      refine ⟨.int .u8 (s.data[i]).toNat, ?_, ?_⟩
      · simp only [World.cell?, w2, Nat.zero_add, Array.getElem?_push_size]
        have e : vs[i]? = some (.int .u8 (s.data[i]).toNat) := by
          simp only [vs]
          rw [List.getElem?_append_left (by simp; exact hi)]
          simp; exact ⟨_, Array.getElem?_eq_getElem hi', rfl⟩
        simpa using e
      · simp [natsOf] at ha
        obtain ⟨c, hc, rfl⟩ := ha
        have : s.data[i] = c := by rw [Array.getElem?_eq_getElem hi'] at hc; exact Option.some.inj hc
        rw [this]; exact .int _ _, by simp [natsOf_len]; exact hcut, fun _ => ⟨vs.toArray, el, (cap, cap + 1), by simp [w2], by simp [hlen], fun j _ hj => by simp at hj ⊢; omega⟩⟩
  refine ⟨.slice (some ⟨w.heap.size, 0, none⟩) s.size cap, _, w2, ?_, ?_, hp.1, hs1.trans hp.2⟩
  · simp only [Conv.stringToBytes, Sem.run_bind, run_choose, Question.forced, Bool.false_eq_true, if_false, hcap, Result.andThen_ok, newRow, run_newObj, Sem.run_pure, markStringish, run_shape, World.shape?]
    simp only [Array.getElem?_push_size]
    simp only [run_freeze, Result.andThen_ok, World.freeze]
    have e1 : (s.data.map fun b => Value.int .u8 b.toNat) ++ Array.replicate (cap - s.size) (Value.int .u8 0) = vs.toArray := by
      apply Array.toList_inj.1; simp [vs]
    rw [e1]
    have hvs : vs.toArray.size = cap := by simp [hlen]
    simp only [Nat.one_ne_zero, if_false, modify_push, hvs]
    rfl
  · have := VRel.slc (φ := φ.put H.next ⟨w.heap.size, 0, cap⟩) H.next 0 s.size 1 s.size false ⟨w.heap.size, 0, cap⟩ cap (Pl.put_same _ _ _) (Nat.le_refl _) hcut (fun q => by cases q) (by simp)
    rw [natsOf_len]; exact this
theorem makeMap_sound {B W Z : Nat} {φ : Pl} {H : Heap} {w : World} (t : TypeId) {kt et : TypeId} (ht : P.underlying t = some (.map kt et)) (hint : Option Value) (hh : ∀ v, hint = some v → ∃ k n, v = .int k n) (h : HRel B W Z φ H w) (hK : H.next < Z) :
    ∃ u φ' w', (Instr.makeMap t hint).run P w = .ok u w' ∧ VRel φ' (.map H.next) u ∧ HRel B W Z φ' (H.push (.map [])) w' ∧ Step φ H w φ' (H.push (.map [])) w' := by
  have hp := h.push hK (w' := { w with heap := w.heap.push (.map #[] 0) }) (.map []) ⟨w.heap.size, 0, 0⟩ (.map #[] 0) rfl rfl rfl rfl rfl ⟨#[], 0, by simp, by simp [ERel]⟩
  refine ⟨.map (some w.heap.size), _, _, ?_, .map H.next _ (Pl.put_same _ _ _), hp.1, hp.2⟩
  cases hint with
  | none => simp [Instr.makeMap]
  | some v =>
    obtain ⟨k, n, rfl⟩ := hh v rfl
    simp [Instr.makeMap, ht, asInt, asIntOf]
theorem wrap_small (n : Int) (h0 : 0 ≤ n) (h1 : n ≤ 2 ^ 62) : IntKind.i64.wrap n = n := by
  have e : n % (2 ^ 64 : Int) = n := Int.emod_eq_of_lt h0 (by omega)
  simp only [IntKind.wrap, IntKind.bits, IntKind.signed, e, Bool.true_and]
  rw [if_neg (by simp; omega)]
theorem makeSlice_sound {B W Z : Nat} {φ : Pl} {H : Heap} {w : World} {t el : TypeId} {n by_ : Nat} {z : AV} {k k' : IntKind} {l c : Int} (ht : P.underlying t = some (.slice el)) (hn : tySize P el = some n) (hb : tyBytes P el = some by_) (hz : tyZero P el = some z)
    (hzn : z.cells.length = n) (h1 : allOne z.cells = true) (hl0 : 0 ≤ l) (hlc : l ≤ c) (hcb : c * by_ ≤ 2 ^ 48) (hc : c ≤ 2 ^ 62) (h : HRel B W Z φ H w) (hK : H.next < Z) :
    ∃ u φ' w', (Instr.makeSlice t (.int k l) (.int k' c)).run P w = .ok u w' ∧ VRel φ' (.slc H.next 0 l.toNat n c.toNat true) u ∧ HRel B W Z φ' (H.push (.cells ((List.replicate c.toNat z.cells).flatten))) w' ∧ Step φ H w φ' (H.push (.cells ((List.replicate c.toNat z.cells).flatten))) w' := by
  obtain ⟨zv, rz, _, hr⟩ := run_zeroValue hz φ
  have hrz := rz.cells h1
  obtain ⟨i, hi, hib⟩ : ∃ i, P.info? el = some i ∧ i.bytes = by_ := by
    unfold tyBytes at hb
    cases hi : P.info? el with
    | none => simp [hi] at hb
    | some i => simp [hi] at hb; exact ⟨i, rfl, hb⟩
  have ew1 := wrap_small l hl0 (by omega)
  have ew2 := wrap_small c (by omega) hc
  have hcb' : ¬ ((by_ : Int) * c > 2 ^ 48) := by rw [Int.mul_comm]; omega
  have base : ∃ vs : Array Value, (c.toNat * n = 0 → vs = #[]) ∧ (c.toNat * n ≠ 0 → vs = zv.cells) ∧ LRel φ ((List.replicate c.toNat z.cells).flatten) ((Array.range (c.toNat * n)).map (vs[· % vs.size]!)).toList := by
    by_cases h0 : c.toNat * n = 0
    · refine ⟨#[], fun _ => rfl, fun q => absurd h0 q, ?_⟩
      have : ((List.replicate c.toNat z.cells).flatten).length = 0 := by simp [hzn]; simpa using h0
      rw [List.length_eq_zero_iff.1 this, h0]; simp; exact .nil
    · exact ⟨zv.cells, fun q => absurd q h0, fun _ => rfl, rep_zero _ _ hrz _ n hzn⟩
  obtain ⟨vs, hv1, hv2, hrel⟩ := base
  have hp := new_cells h hK el _ _ [] hrel
  simp only [List.append_nil, Array.length_toList, Array.size_map, Array.size_range] at hp
  have hsl : VRel (φ.put H.next ⟨w.heap.size, 0, c.toNat * n⟩) (.slc H.next 0 l.toNat n c.toNat true) (.slice (some ⟨w.heap.size, 0, none⟩) l.toNat c.toNat) :=
    .slc H.next 0 l.toNat n c.toNat true ⟨w.heap.size, 0, c.toNat * n⟩ c.toNat (Pl.put_same _ _ _) (by omega) (Nat.le_refl _) (fun _ => rfl) (by simp)
  refine ⟨_, _, _, ?_, hsl, hp.1, hp.2⟩
  have c1 : ¬ (c < 0) := by omega
  have c2 : ¬ (l < 0) := by omega
  have c3 : ¬ (l > c) := by omega
  simp only [Instr.makeSlice, Sem.run_bind, run_underlying, ht, Result.andThen_ok, asInt, asIntOf, Sem.run_pure, run_typeInfo, hi, ew1, ew2, hib, run_askRoom, run_sizeOf hn, Sem.run_ite]
  rw [if_neg (by simp [c1, c2, c3]; omega)]
  by_cases h0 : c.toNat * n = 0
  · simp only [h0, if_true, Result.andThen_ok, newRow, Sem.run_bind, run_newObj, Sem.run_pure, hv1 h0]
  · simp only [if_neg h0, hr, Result.andThen_ok, newRow, Sem.run_bind, run_newObj, Sem.run_pure, hv2 h0]
theorem lookup_sound {B W Z : Nat} {φ : Pl} {H : Heap} {w : World} {t kt et : TypeId} {z : AV} {m k : AV} {mv kv : Value} {r : Option (Nat × AV)} (ok : Bool) (ht : P.underlying t = some (.map kt et)) (hz : tyZero P et = some z) (hm : VRel φ m mv) (hk : VRel φ k kv) (h : HRel B W Z φ H w)
    (hr : lookA H (eqDOf P kt) m k = some r) :
    ∃ v, (Instr.lookup t mv kv ok).run P w = .ok v w ∧ VRel φ (lookV z ok r) v := by
  obtain ⟨zv, rz, _, hzr⟩ := run_zeroValue hz φ
  have fin : ∀ (a : AV) (v : Value) (b : Bool), VRel φ a v → VRel φ (bif ok then .tup [a, .bool b] else a) (if ok then .tuple #[v, .bool b] else v) := by
    intro a v b hv; cases ok
    · exact hv
    · exact .tup _ _ (.cons hv (.cons (.bool b) .nil))
  unfold lookA at hr
  split at hr
  · cases hm
    cases hp : plainKey (eqDOf P kt) k with
    | false => simp [hp] at hr
    | true =>
      simp [hp] at hr; subst hr
      have hc := checkKey_sound (P := P) hk hp true w
      obtain ⟨r', g1, g2⟩ := findKey_sound (P := P) hk hp w [] [] none trivial rfl
      cases r' with
      | some q => exact g2.elim
      | none => exact ⟨_, by simp [Instr.lookup, ht, hc, g1, hzr], fin z zv false rz⟩
  · rename_i o
    cases hm with
    | map _ L hL =>
      split at hr
      · rename_i es he
        cases hp : plainKey (eqDOf P kt) k with
        | false => simp [hp] at hr
        | true =>
          simp [hp] at hr
          obtain ⟨en, cl, q1, q2⟩ := h.obj o L _ hL he
          obtain ⟨r', g1, g2⟩ := findKey_sound (P := P) hk hp w es en.toList r q2 hr
          have hget : (getObj L.blk).run P w = .ok (.map en cl) w := by simp [getObj, Sem.run, q1]
          have hc := checkKey_sound (P := P) hk hp en.isEmpty w
          cases r with
          | none =>
            cases r' with
            | some q => exact g2.elim
            | none => exact ⟨_, by simp [Instr.lookup, ht, hget, hc, g1, hzr], fin z zv false rz⟩
          | some ja =>
            obtain ⟨j, a⟩ := ja
            cases r' with
            | none => exact g2.elim
            | some q =>
              obtain ⟨j', v⟩ := q
              exact ⟨_, by simp [Instr.lookup, ht, hget, hc, g1], fin a v true g2.2⟩
      · cases hr
  · cases hr
end Go.AI
