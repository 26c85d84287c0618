/- Operations that read memory, or make some, do what their abstract ones do. No claim by itself. -/
import Derived.Test.YtjhhicmlflelhaaE7
namespace Go.AI
variable {P : Program}
def AOp.isRead : AOp → Bool
  | .alloc _ | .box _ | .buildSlice .. | .load .. | .convert .bytesToStr _ | .convert .strToBytes _ | .makeMap _ | .makeSlice .. | .lookup .. | .len .map _ | .sliceA .. | .rangeS _ => true
  | _ => false
theorem readOp_pure (e : Opd → AV) (H : Heap) (ao : AOp) (h : ao.isRead = false) : readOp e H ao = (pureOp e ao).map fun v => (v, H) := by
  cases ao <;> first | (cases h; done) | rfl | skip
  · rename_i c x; cases c <;> first | (cases h; done) | rfl
  · rename_i d x; cases d <;> first | (cases h; done) | rfl
/-- A block of new cells. -/
theorem new_cells {B W Z : Nat} {φ : Pl} {H : Heap} {w : World} (h : HRel B W Z φ H w) (hK : H.next < Z) (t : TypeId) (cs : List AV) (vs : List Value) (rest : List Value) (hl : LRel φ cs vs) :
    HRel B W Z (φ.put H.next ⟨w.heap.size, 0, (vs ++ rest).length⟩) (H.push (.cells cs)) { w with heap := w.heap.push (.cells (vs ++ rest).toArray t (0, 0)) } ∧
    Step φ H w (φ.put H.next ⟨w.heap.size, 0, (vs ++ rest).length⟩) (H.push (.cells cs)) { w with heap := w.heap.push (.cells (vs ++ rest).toArray t (0, 0)) } := by
  refine h.push hK (.cells cs) _ (.cells (vs ++ rest).toArray t (0, 0)) rfl rfl rfl rfl rfl ⟨fun i a ha => ?_, ?_, fun _ => ⟨(vs ++ rest).toArray, t, (0, 0), by simp, by simp, fun j _ _ => by simp⟩⟩
  · obtain ⟨v, hv, hr⟩ := hl.getE ha
    have hi : i < vs.length := by
      rcases Nat.lt_or_ge i vs.length with q | q
      · exact q
      · simp [List.getElem?_eq_none q] at hv
    refine ⟨v, ?_, hr.mono (Pl.le_put _ (h.next_none hK))⟩
    simp only [World.cell?, Nat.zero_add, Array.getElem?_push_size]
    simp [List.getElem?_append_left hi, hv]
  · simp [hl.len]
theorem run_newVar {w : World} (t : TypeId) (v : Value) : (newVar t v).run P w = .ok ⟨w.heap.size, 0, none⟩ { w with heap := w.heap.push (.cells v.cells t (0, 0)) } := by
  simp [newVar, newRow]
theorem alloc_sound {B W Z : Nat} {φ : Pl} {H : Heap} {w : World} {t : TypeId} {z : AV} (h : HRel B W Z φ H w) (hK : H.next < Z) (hz : tyZero P t = some z) (h1 : allOne z.cells = true) :
    ∃ v φ' w', (Instr.alloc t true (.tuple #[])).run P w = .ok v w' ∧ VRel φ' (.ptr H.next 0) v ∧ HRel B W Z φ' (H.push (.cells z.cells)) w' ∧ Step φ H w φ' (H.push (.cells z.cells)) w' := by
  obtain ⟨zv, rz, _, hr⟩ := run_zeroValue hz φ
  have := new_cells h hK t z.cells zv.cells.toList [] (rz.cells h1)
  simp only [List.append_nil] at this
  refine ⟨.pointer (some ⟨w.heap.size, 0, none⟩), _, _, ?_, .ptr H.next 0 _ (Pl.put_same _ _ _), this.1, this.2⟩
  simp [Instr.alloc, hr, run_newVar]
theorem box_sound {B W Z : Nat} {φ : Pl} {H : Heap} {w : World} (t : TypeId) {a : AV} {v : Value} (h : HRel B W Z φ H w) (hK : H.next < Z) (hv : VRel φ a v) (h1 : allOne a.cells = true) :
    ∃ u φ' w', (Instr.box t v).run P w = .ok u w' ∧ VRel φ' (.ptr H.next 0) u ∧ HRel B W Z φ' (H.push (.cells a.cells)) w' ∧ Step φ H w φ' (H.push (.cells a.cells)) w' := by
  have := new_cells h hK t a.cells v.cells.toList [] (hv.cells h1)
  simp only [List.append_nil] at this
  refine ⟨.pointer (some ⟨w.heap.size, 0, none⟩), _, _, ?_, .ptr H.next 0 _ (Pl.put_same _ _ _), this.1, this.2⟩
  simp [Instr.box, run_newVar]
theorem rep_zero {φ : Pl} (zs : List AV) (vs : Array Value) (h : LRel φ zs vs.toList) (k n : Nat) (hn : zs.length = n) :
    LRel φ ((List.replicate k zs).flatten) ((Array.range (k * n)).map (vs[· % vs.size]!)).toList := by
  have hsz : vs.size = n := by have := h.len; simp at this; omega
  refine .ofGet (by simp [hn]) fun i a v ha hv => ?_
  have hi : i < k * n := by
    rcases Nat.lt_or_ge i (k * n) with q | q
    · exact q
    · rw [List.getElem?_eq_none (by simp [hn]; exact q)] at ha; cases ha
  have hn0 : 0 < n := by
    rcases Nat.eq_zero_or_pos n with q | q
    · subst q; simp at hi
    · exact q
  have hv' : v = vs[i % n]! := by
    simp [hi, hsz] at hv; rw [← hv]
  have ha' : a = zs[i % n]'(by rw [hn]; exact Nat.mod_lt _ hn0) := by
    have key : ∀ (k i : Nat), i < k * n → (List.replicate k zs).flatten[i]? = zs[i % n]? := by
      intro k
      induction k with
      | zero => intro i hi; simp at hi
      | succ k ih =>
        intro i hi
        rw [List.replicate_succ, List.flatten_cons]
        by_cases hlt : i < n
        · rw [List.getElem?_append_left (by omega), Nat.mod_eq_of_lt hlt]
        · rw [List.getElem?_append_right (by omega), hn, ih (i - n) (by rw [Nat.add_mul] at hi; omega)]
          have : i % n = (i - n) % n := by rw [Nat.mod_eq_sub_mod (by omega)]
          rw [this]
    rw [key k i hi, List.getElem?_eq_getElem (by rw [hn]; exact Nat.mod_lt _ hn0)] at ha
    simpa using ha.symm
  have hm : i % n < vs.size := by rw [hsz]; exact Nat.mod_lt _ hn0
  obtain ⟨u, hu, hr⟩ := h.getE (i := i % n) (a := a) (by rw [ha']; exact List.getElem?_eq_getElem _)
  have : u = v := by
    rw [hv', getElem!_pos vs _ hm]
    simpa [hm] using hu.symm
  rw [← this]; exact hr
theorem buildSlice_sound {B W Z : Nat} {φ : Pl} {H : Heap} {w : World} {e : Opd → AV} {ρ : Operand → Value} {t el : TypeId} {n len : Nat} {z : AV} {parts : Array (Nat × Operand)} {ps : List (Nat × Nat × Opd)} {r : List AV}
    (h : HRel B W Z φ H w) (hK : H.next < Z) (ht : P.underlying t = some (.slice el)) (hn : tySize P el = some n) (hz : tyZero P el = some z) (hzn : z.cells.length = n) (hl : len * n ≤ 2 ^ 24) (h1 : allOne z.cells = true)
    (hc : cparts (fun i => some (i * n, n)) parts.toList = some ps) (hx : XRel φ e ρ (parts.toList.map (·.2))) (hf : fillA e ((List.replicate len z.cells).flatten) ps = some r) :
    ∃ u φ' w', (Instr.buildSlice t len (parts.map fun (i, x) => (i, ρ x))).run P w = .ok u w' ∧ VRel φ' (.slc H.next 0 len n len true) u ∧ HRel B W Z φ' (H.push (.cells r)) w' ∧ Step φ H w φ' (H.push (.cells r)) w' := by
  obtain ⟨zv, rz, _, hr⟩ := run_zeroValue hz φ
  have hrz := rz.cells h1
  have base : ∃ vs : Array Value, (len * n = 0 → vs = #[]) ∧ (len * n ≠ 0 → vs = zv.cells) ∧ LRel φ ((List.replicate len z.cells).flatten) ((Array.range (len * n)).map (vs[· % vs.size]!)).toList := by
    by_cases h0 : len * n = 0
    · refine ⟨#[], fun _ => rfl, fun q => absurd h0 q, ?_⟩
      have : ((List.replicate len z.cells).flatten).length = 0 := by simp [hzn, h0]
      rw [List.length_eq_zero_iff.1 this, h0]; simp; exact .nil
    · exact ⟨zv.cells, fun q => absurd q h0, fun _ => rfl, rep_zero _ _ hrz len n hzn⟩
  obtain ⟨vs, hv1, hv2, hrel⟩ := base
  obtain ⟨us, g1, g2⟩ := fill_sound parts.toList ps _ _ r hc hx hrel hf
  have hus : us.size = len * n := by
    have e1 := g2.len
    have key : ∀ (ps : List (Nat × Nat × Opd)) (cs r : List AV), fillA e cs ps = some r → r.length = cs.length := by
      intro ps
      induction ps with
      | nil => intro cs r h; simp [fillA] at h; rw [h]
      | cons p ps ih =>
        obtain ⟨off, size, x⟩ := p
        intro cs r h
        simp only [fillA] at h
        cases hb : (Nat.beq (e x).cells.length size && Nat.ble (off + size) cs.length && allOne (e x).cells) with
        | false => simp [hb] at h
        | true =>
          simp only [hb, cond_true] at h
          simp only [Bool.and_eq_true, Tr.nbeq, decide_eq_true_eq, Nat.ble_eq] at hb
          rw [ih _ _ h]; simp [setSeg]; omega
    have := key ps _ r hf
    simp at e1; simp [hzn] at this; omega
  have := new_cells h hK el r us.toList [] g2
  simp only [List.append_nil, Array.length_toList] at this
  refine ⟨.slice (some ⟨w.heap.size, 0, none⟩) len len, _, _, ?_, .slc H.next 0 len n len true _ len (Pl.put_same _ _ _) (Nat.le_refl _) (Nat.le_refl _) (fun _ => rfl) (by simp [hus]), this.1, this.2⟩
  have hng : ¬ len * n > 2 ^ 24 := by omega
  have g1' : Instr.fill (fun i => some (i * n, n)) ((Array.range (len * n)).map (vs[· % vs.size]!)) ((parts.map fun (i, x) => (i, ρ x)).toList) = some us := by rw [Array.toList_map]; exact g1
  simp only [Instr.buildSlice, Sem.run_bind, run_underlying, ht, Result.andThen_ok, run_sizeOf hn, if_neg hng]
  by_cases h0 : len * n = 0
  · rw [if_pos h0]
    rw [hv1 h0] at g1'
    simp only [Sem.run_bind, Sem.run_pure, Result.andThen_ok]
    rw [g1']
    simp [newRow]
  · rw [if_neg h0]
    rw [hv2 h0] at g1'
    simp only [Sem.run_bind, hr, Sem.run_pure, Result.andThen_ok]
    rw [g1']
    simp [newRow]
theorem bytesOf_sound {φ : Pl} : ∀ (xs : List AV) (vs : List Value) (s : List Nat), LRel φ xs vs → bytesOf xs = some s → ∀ (b : ByteArray) (w : World),
    ∃ b' : ByteArray, (forIn vs b (fun c s => (do
      let .int .u8 n := c | stuck "bytesToString: byte expected"
      pure (ForInStep.yield (s.push (UInt8.ofNat n.toNat))) : Sem (ForInStep ByteArray))) : Sem ByteArray).run P w = .ok b' w ∧ natsOf b' = natsOf b ++ s
  | [], vs, s, hl, h, b, w => by cases hl; simp [bytesOf] at h; subst h; exact ⟨b, by simp, by simp⟩
  | x :: xs, vs, s, hl, h, b, w => by
    cases hl with
    | cons hx ht =>
      unfold bytesOf at h
      split at h
      · rename_i e; cases e
      · rename_i n r e
        obtain ⟨rfl, rfl⟩ := by simpa using e
        split at h
        · rename_i hn
          cases hr : bytesOf xs with
          | none => simp [hr] at h
          | some q =>
            simp [hr] at h; subst h
            cases hx
            obtain ⟨b', g1, g2⟩ := bytesOf_sound xs _ q ht hr (b.push (UInt8.ofNat n.toNat)) w
            refine ⟨b', ?_, ?_⟩
            · simp only [List.forIn_cons, Sem.run_bind, Sem.run_pure, Result.andThen_ok]; exact g1
            · rw [g2]
              have : natsOf (b.push (UInt8.ofNat n.toNat)) = natsOf b ++ [n.toNat] := by
                simp [natsOf, ByteArray.push, UInt8.toNat_ofNat']
                omega
              simp [this]
        · cases h
      · cases h
end Go.AI
