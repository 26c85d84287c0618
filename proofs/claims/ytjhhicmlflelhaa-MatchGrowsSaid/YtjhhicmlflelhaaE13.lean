/- Operations that write do what their abstract ones do, continued. No claim by itself. -/
import Derived.Test.YtjhhicmlflelhaaE12
namespace Go.AI
variable {P : Program}
theorem loadFrom_drawn (w : World) : ∀ (k i : Nat) (a : Addr) (acc r : Array Value) (d1 d2 : Nat), (loadCellsFrom a i k acc).run P { w with drawn := d1 } = .ok r { w with drawn := d1 } → (loadCellsFrom a i k acc).run P { w with drawn := d2 } = .ok r { w with drawn := d2 } := by
  intro k
  induction k with
  | zero => intro i a acc r d1 d2 h; simp [loadCellsFrom] at h ⊢; exact h
  | succ k ih =>
    intro i a acc r d1 d2 h
    simp only [loadCellsFrom, Sem.run_bind, run_load] at h ⊢
    have ec : World.cell? { w with drawn := d1 } (a.add i) = World.cell? { w with drawn := d2 } (a.add i) := rfl
    rw [ec] at h
    cases hc : World.cell? { w with drawn := d2 } (a.add i) with
    | some v => simp only [hc, Result.andThen_ok] at h ⊢; exact ih _ _ _ _ _ _ h
    | none =>
      simp only [hc] at h ⊢
      have ef : World.farLoad P { w with drawn := d1 } (a.add i) (Mode.plain == Mode.atomic) = World.farLoad P { w with drawn := d2 } (a.add i) (Mode.plain == Mode.atomic) := rfl
      rw [ef] at h
      cases hfl : World.farLoad P { w with drawn := d2 } (a.add i) (Mode.plain == Mode.atomic) with
      | ok q => obtain ⟨v, _⟩ := q; simp only [hfl, Result.andThen_ok] at h ⊢; exact ih _ _ _ _ _ _ h
      | error q => simp [hfl] at h
/-- An object of one's own is given up. -/
theorem kill {B W Z : Nat} {φ : Pl} {H : Heap} {w : World} {o : Nat} {L : Loc} {x0 : AObj} (hH : HRel B W Z φ H w) (hL : φ o = some L) (hx : H.get o = some x0) (hd : x0 ≠ .dead) (hf : H.floor ≤ o) :
    HRel B W Z φ (H.set o .dead) w ∧ Step φ H w φ (H.set o .dead) w :=
  hH.set (w' := w) .dead hL hx hd hf rfl rfl rfl rfl (fun _ _ => rfl) trivial
theorem get_setO {H : Heap} {o p : Nat} {x : AObj} : (H.set o x).get p = if p = o then some x else H.get p := Tr.get_set _ _ _ _
/-- An object that lies nowhere dies. -/
theorem kill0 {B W Z : Nat} {φ : Pl} {H : Heap} {w : World} {o : Nat} {x0 : AObj} (hH : HRel B W Z φ H w) (hL : φ o = none) (hx : H.get o = some x0) (hf : H.floor ≤ o) :
    HRel B W Z φ (H.set o .dead) w ∧ Step φ H w φ (H.set o .dead) w := by
  have ne : ∀ p L, φ p = some L → p ≠ o := fun p L h q => by subst q; rw [hL] at h; cases h
  have lv : ∀ p L, φ p = some L → live (H.set o .dead) p → live H p := fun p L h l => by
    obtain ⟨x, hx, hd⟩ := l
    rw [get_setO, if_neg (ne p L h)] at hx
    exact ⟨x, hx, hd⟩
  refine ⟨⟨hH.fl, hH.fn, hH.wsz, hH.dom, ?_, ?_, hH.low, ?_, ?_⟩, ⟨Pl.le_refl φ, ?_, Nat.le_refl _, rfl, rfl, rfl, rfl, Nat.le_refl _, fun _ _ _ => rfl, ?_, ?_⟩⟩
  · intro p hp
    have hp' : H.next ≤ p := hp
    have : p ≠ o := fun q => by subst q; rw [hH.fresh p hp'] at hx; cases hx
    rw [get_setO, if_neg this]; exact hH.fresh p hp'
  · intro p L x h hx
    rw [get_setO, if_neg (ne p L h)] at hx
    exact hH.obj p L x h hx
  · exact fun p L h hp l => hH.high p L h hp (lv p L h l)
  · exact fun p p' L L' h h' hp hp' l l' => hH.inj p p' L L' h h' hp hp' (lv p L h l) (lv p' L' h' l')
  · intro p L h k; rw [h] at k; cases k
  · exact fun p L h k l => .inr ⟨p, L, h, k, lv p L k l, rfl⟩
  · intro p hp
    have : p ≠ o := fun q => by subst q; exact absurd hf (by omega)
    rw [get_setO, if_neg this]
/-- Room for what is appended: it is written in place, and the slice has the block. -/
theorem append_room {B W Z : Nat} {φ : Pl} {H : Heap} {w : World} {t u el ty : TypeId} {e n len cap : Nat} {a : Addr} {yv : Value} {nv : List Value} {w' : World}
    (ht : P.underlying t = some (.slice el)) (hu : (∃ q, P.underlying u = some (.slice q)) ∨ P.underlying u = some .string) (he : tySize P el = some e)
    (hlen : (Builtin.lenOf yv).run P w = .ok n w) (hnew : (Builtin.firstCells e n yv).run P w = .ok nv.toArray w) (hcap : len + n ≤ cap) (hst : (storeCells (a.add (len * e)) nv).run P w = .ok () w') :
    (Builtin.append_ #[t, u] ty #[.slice (some a) len cap, yv]).run P w = .ok (.slice (some a) (len + n) cap) w' := by
  have e0 : (#[t, u] : Array TypeId)[0]? = some t := rfl
  have e1 : (#[t, u] : Array TypeId)[1]? = some u := rfl
  have e2 : (#[Value.slice (some a) len cap, yv] : Array Value)[0]? = some (.slice (some a) len cap) := rfl
  have e3 : (#[Value.slice (some a) len cap, yv] : Array Value)[1]? = some yv := rfl
  rcases hu with ⟨q, hu⟩ | hu
  · simp only [Builtin.append_, e0, e1, e2, e3, Sem.run_bind, run_underlying, ht, hu, Result.andThen_ok, run_sizeOf he, Sem.run_pure, Bool.false_eq_true, if_false, hlen, hcap, if_true, Bool.not_false, hnew, hst]
  · simp only [Builtin.append_, e0, e1, e2, e3, Sem.run_bind, run_underlying, ht, hu, Result.andThen_ok, run_sizeOf he, Sem.run_pure, Bool.false_eq_true, if_false, hlen, hcap, if_true, Bool.not_false, hnew, hst]
theorem append_nil {w : World} {t u el ty : TypeId} {e len cap : Nat} {base : Option Addr} {yv : Value}
    (ht : P.underlying t = some (.slice el)) (hu : (∃ q, P.underlying u = some (.slice q)) ∨ P.underlying u = some .string) (he : tySize P el = some e)
    (hlen : (Builtin.lenOf yv).run P w = .ok 0 w) (hnew : (Builtin.firstCells e 0 yv).run P w = .ok #[] w) (hcap : len ≤ cap) :
    (Builtin.append_ #[t, u] ty #[.slice base len cap, yv]).run P w = .ok (.slice base len cap) w := by
  have e0 : (#[t, u] : Array TypeId)[0]? = some t := rfl
  have e1 : (#[t, u] : Array TypeId)[1]? = some u := rfl
  have e2 : (#[Value.slice base len cap, yv] : Array Value)[0]? = some (.slice base len cap) := rfl
  have e3 : (#[Value.slice base len cap, yv] : Array Value)[1]? = some yv := rfl
  have hs : ∀ a : Addr, (storeCells a []).run P w = .ok () w := fun a => by simp [storeCells]
  cases base <;> rcases hu with ⟨q, hu⟩ | hu <;>
    simp [Builtin.append_, run_underlying, ht, hu, run_sizeOf he, hlen, hcap, hnew, hs]
theorem append_sound {B W Z : Nat} {φ : Pl} {H H' : Heap} {w : World} {t u el ty : TypeId} {e by_ : Nat} {z x y a : AV} {xv yv : Value}
    (hH : HRel B W Z φ H w) (ht : P.underlying t = some (.slice el)) (hu : (∃ q, P.underlying u = some (.slice q)) ∨ P.underlying u = some .string) (he : tySize P el = some e) (hb : tyBytes P el = some by_) (hz : tyZero P el = some z) (hz1 : z.cells.length = e) (hz2 : allOne z.cells = true) (hb0 : by_ ≠ 0)
    (hx : VRel φ x xv) (hy : VRel φ y yv) (h : appendA e by_ H x y = some (a, H')) (hK : H'.next ≤ Z) :
    ∃ v φ' w', (Builtin.append_ #[t, u] ty #[xv, yv]).run P w = .ok v w' ∧ VRel φ' a v ∧ HRel B W Z φ' H' w' ∧ Step φ H w φ' H' w' := by
  unfold appendA at h
  split at h
  · cases h
  rename_i n new hsrc
  cases h1 : allOne new with
  | false => simp [h1] at h
  | true =>
  simp only [h1, cond_true] at h
  have src : ∀ d', (Builtin.lenOf yv).run P { w with drawn := d' } = .ok n { w with drawn := d' } ∧ ∃ vs : List Value, (Builtin.firstCells e n yv).run P { w with drawn := d' } = .ok vs.toArray { w with drawn := d' } ∧ LRel φ new vs ∧ new.length = n * e :=
    fun d' => src_sound (P := P) (hH.congr (w' := { w with drawn := d' }) rfl) hy hsrc
  obtain ⟨hlen, nv, hnew, rn, ln⟩ := src w.drawn
  have hnew' : ∀ d', (Builtin.firstCells e n yv).run P { w with drawn := d' } = .ok nv.toArray { w with drawn := d' } := by
    intro d'
    -- what is read hangs on the heap alone
    obtain ⟨_, vs, q1, q2, q3⟩ := src d'
    cases hy with
    | nils => simp [Builtin.firstCells] at hnew q1 ⊢; rw [hnew]
    | str b => simp only [Builtin.firstCells, Sem.run_pure, Result.ok.injEq, and_true] at hnew ⊢; exact hnew
    | slc o off len e' lo ex L cap hL a1 a2 a3 a4 =>
      simp only [Builtin.firstCells] at hnew q1 ⊢
      exact loadFrom_drawn w _ _ _ _ _ _ _ hnew
    | slc0 o off e' ex a =>
      unfold srcA at hsrc
      cases hbe : Nat.beq e e' with
      | false => simp [hbe] at hsrc
      | true =>
        simp only [hbe, cond_true] at hsrc
        rw [Nat.zero_mul] at hsrc
        cases hr : H.readSeg o off 0 with
        | none => simp [hr] at hsrc
        | some cs =>
          simp [hr] at hsrc; obtain ⟨rfl, rfl⟩ := hsrc
          simp [Builtin.firstCells, loadCells, loadCellsFrom] at hnew ⊢; exact hnew
    | _ => simp [srcA] at hsrc
  split at h
  · cases hx
    cases hn : Nat.beq n 0 with
    | true =>
      have := Nat.eq_of_beq_eq_true hn; subst this
      simp only [hn, cond_true] at h; cases h
      have : nv = [] := by have := rn.len; simp at ln; rw [ln] at this; simpa using this.symm
      subst this
      exact ⟨_, φ, w, append_nil ht hu he hlen hnew (Nat.le_refl _), .nils, hH, Step.refl _ _ _⟩
    | false =>
      have hn0 : n ≠ 0 := fun q => by subst q; simp at hn
      simp only [hn, cond_false] at h
      cases hbd : Nat.ble ((2 * n + 1024) * by_) (2 ^ 48) with
      | false => simp only [hbd, cond_false] at h; cases h
      | true =>
        simp only [hbd, cond_true] at h; cases h
        have := append_grows (P := P) (ty := ty) (len := 0) (cap := 0) (base := none) (old := []) (ov := []) hH hK ht hu he hb hz hz1 hz2 hb0 hlen hnew' (fun d' => by simp [Builtin.firstCells]) rn .nil ln (by simp) (by omega) (by have := Nat.le_of_ble_eq_true hbd; simpa using this)
        simpa using this
  · rename_i o off len e' lo ex
    cases hee : Nat.beq e e' with
    | false => simp [hee] at h
    | true =>
      have := Nat.eq_of_beq_eq_true hee; subst this
      simp only [hee, cond_true] at h
      cases hn : Nat.beq n 0 with
      | true =>
        have := Nat.eq_of_beq_eq_true hn; subst this
        simp only [hn, cond_true] at h; cases h
        have : nv = [] := by have := rn.len; simp at ln; rw [ln] at this; simpa using this.symm
        subst this
        have hx' := hx
        cases hx with
        | slc _ _ _ _ _ _ L cap hL a1 a2 a3 a4 => exact ⟨_, φ, w, append_nil ht hu he hlen hnew (by omega), hx', hH, Step.refl _ _ _⟩
        | slc0 => exact ⟨_, φ, w, append_nil ht hu he hlen hnew (Nat.le_refl _), hx', hH, Step.refl _ _ _⟩
      | false =>
        have hn0 : n ≠ 0 := fun q => by subst q; simp at hn
        simp only [hn, cond_false] at h
        cases hlo : Nat.ble (len + n) lo with
        | true =>
          have hlo' := Nat.le_of_ble_eq_true hlo
          simp only [hlo, cond_true] at h
          cases hw : H.writeSeg o (off + len * e) new with
          | none => simp [hw] at h
          | some H2 =>
            simp [hw] at h; obtain ⟨rfl, rfl⟩ := h
            cases hx with
            | slc _ _ _ _ _ _ L cap hL a1 a2 a3 a4 =>
              obtain ⟨w', g1, g2, g3⟩ := writeSeg_sound (P := P) hH hL hw rn
              rw [← Nat.add_assoc] at g1
              refine ⟨_, φ, w', append_room (B := B) (W := W) (Z := Z) (φ := φ) (H := H) ht hu he hlen hnew (by omega) (by rw [add_mk]; exact g1), ?_, g2, g3⟩
              exact .slc o off (len + n) e lo ex L cap hL hlo' a2 a3 a4
            | slc0 => omega
        | false =>
          have hlo' : lo < len + n := by
            rcases Nat.lt_or_ge lo (len + n) with q | q
            · exact q
            · rw [Nat.ble_eq_true_of_le q] at hlo; cases hlo
          simp only [hlo, cond_false] at h
          cases hbd : Nat.ble ((2 * (len + n) + 1024) * by_) (2 ^ 48) with
          | false => simp only [hbd, cond_false] at h; cases h
          | true =>
            have hbd' := Nat.le_of_ble_eq_true hbd
            simp only [hbd, cond_true] at h
            split at h
            · cases h
            rename_i old hrs
            have hold : ∀ d', ∃ (a0 : Addr) (cap : Nat) (ov : List Value), xv = .slice (some a0) len cap ∧ (loadCells a0 (len * e)).run P { w with drawn := d' } = .ok ov.toArray { w with drawn := d' } ∧ LRel φ old ov := fun d' =>
              slice_cells (P := P) (hH.congr (w' := { w with drawn := d' }) rfl) hx (Nat.le_refl _) hrs
            obtain ⟨a0, cap, ov, rfl, hld, ro⟩ := hold w.drawn
            obtain ⟨cs, hcs, hsg⟩ := readSeg_some hrs
            obtain ⟨sg1, sg2⟩ := seg_some hsg
            have lold : old.length = len * e := by rw [sg2]; simp; omega
            have hld' : ∀ d', (Builtin.firstCells e len (.slice (some a0) len cap)).run P { w with drawn := d' } = .ok ov.toArray { w with drawn := d' } := by
              intro d'
              simp only [Builtin.firstCells]
              exact loadFrom_drawn w _ _ _ _ _ _ _ hld
            have hK0 : H.next < Z := by
              cases ex with
              | true => simp only [cond_true] at h; cases h; exact hK
              | false =>
                simp only [cond_false] at h
                cases hf : Nat.ble H.floor o with
                | false => simp [hf] at h
                | true => simp only [hf, cond_true] at h; cases h; exact hK
            have grows : cap < len + n → ∃ v φ' w', (Builtin.append_ #[t, u] ty #[.slice (some a0) len cap, yv]).run P w = .ok v w' ∧ VRel φ' (.slc H.next 0 (len + n) e (len + n) false) v ∧ HRel B W Z φ' (H.push (.cells (old ++ new))) w' ∧ Step φ H w φ' (H.push (.cells (old ++ new))) w' := fun hc =>
              append_grows hH hK0 ht hu he hb hz hz1 hz2 hb0 hlen hnew' hld' rn ro ln lold hc hbd'
            cases ex with
            | true =>
              simp only [cond_true] at h; cases h
              refine grows ?_
              cases hx with
              | slc _ _ _ _ _ _ L _ hL a1 a2 a3 a4 => have := a3 rfl; omega
              | slc0 => omega
            | false =>
              simp only [cond_false] at h
              cases hf : Nat.ble H.floor o with
              | false => simp [hf] at h
              | true =>
                have hf' := Nat.le_of_ble_eq_true hf
                simp only [hf, cond_true] at h; cases h
                by_cases hc : cap < len + n
                · have hk : HRel B W Z φ (H.set o .dead) w ∧ Step φ H w φ (H.set o .dead) w := by
                    cases hL : φ o with
                    | none => exact kill0 hH hL (live_cells hcs).1 hf'
                    | some L => exact kill hH hL (live_cells hcs).1 (live_cells hcs).2 hf'
                  obtain ⟨v, φ', w', g1, g2, g3, g4⟩ := append_grows (P := P) (ty := ty) (t := t) (u := u) hk.1 hK ht hu he hb hz hz1 hz2 hb0 hlen hnew' hld' rn ro ln lold hc hbd'
                  exact ⟨v, φ', w', g1, g2, g3, hk.2.trans g4⟩
                · cases hx with
                  | slc0 => omega
                  | slc _ _ _ _ _ _ L _ hL a1 a2 a3 a4 =>
                    obtain ⟨hat, hsz, hown⟩ := hH.at_ hL hcs
                    have hroom : L.base + off + (len + n) * e ≤ L.size := by
                      have : (len + n) * e ≤ cap * e := Nat.mul_le_mul_right _ (by omega)
                      omega
                    have hadd : (len + n) * e = len * e + n * e := Nat.add_mul _ _ _
                    obtain ⟨w', c, c', ct, fz, g1, g2, g3, g4, g5, g6, g7, g8, g9, g10, g11⟩ := store_block (P := P) (off := off + len * e) (hown (Nat.le_trans hH.fl hf')) rn h1 (by omega)
                    have hrun := append_room (P := P) (B := B) (W := W) (Z := Z) (φ := φ) (H := H) (ty := ty) (a := ⟨L.blk, L.base + off, none⟩) (cap := cap) (len := len) ht hu he hlen hnew (by omega) (by rw [add_mk, Nat.add_assoc]; exact g1)
                    have hle := Pl.le_put ⟨L.blk, L.base + off, L.size⟩ (hH.next_none hK)
                    have ht' := hH.take hK (w' := w') (L' := ⟨L.blk, L.base + off, L.size⟩) (.cells (old ++ new)) hL (live_cells hcs).1 (live_cells hcs).2 hf' g9 g10 g11 g8 rfl g7
                      ⟨fun i b hb => by
                        have hlv := rn.len
                        by_cases q : i < len * e
                        · rw [List.getElem?_append_left (by omega)] at hb
                          rw [sg2, List.getElem?_take, if_pos q, List.getElem?_drop] at hb
                          obtain ⟨v, k1, k2⟩ := hat (off + i) b hb
                          refine ⟨v, ?_, k2.mono hle⟩
                          rw [cell_of_block g2] at k1
                          rw [cell_of_block g3, g5, if_pos (by simp only; omega)]
                          simpa [Nat.add_assoc] using k1
                        · rw [List.getElem?_append_right (by omega), lold] at hb
                          obtain ⟨v, k1, k2⟩ := rn.getE hb
                          have hi : i - len * e < nv.length := by
                            rcases Nat.lt_or_ge (i - len * e) nv.length with r | r
                            · exact r
                            · rw [List.getElem?_eq_none r] at k1; cases k1
                          refine ⟨v, ?_, k2.mono hle⟩
                          rw [cell_of_block g3, g5, if_neg (by simp only; omega), if_pos (by simp only; omega)]
                          have : L.base + off + i - (L.base + (off + len * e)) = i - len * e := by omega
                          simp only [this]; exact k1, by simp only [List.length_append, lold, ln]; omega, fun _ => ⟨c', ct, fz, g3, g4, fun j hj hj' => g6 j (by simp only at hj; omega) hj'⟩⟩
                    refine ⟨_, _, w', hrun, ?_, ht'.1, ht'.2⟩
                    have := VRel.slc (φ := φ.put H.next ⟨L.blk, L.base + off, L.size⟩) H.next 0 (len + n) e (len + n) false ⟨L.blk, L.base + off, L.size⟩ cap (Pl.put_same _ _ _) (Nat.le_refl _) (by omega) (fun q => by cases q) (by simpa using a4)
                    simpa using this
  · cases h
end Go.AI
