/- From the model's operations to abstract ones: the translation, and laws of memory. No claim by itself. -/
import Derived.Test.YtjhhicmlflelhaaE1
namespace Go.AI
variable {P : Program}
/-! ### Constants and operands -/
def cvalOne : Value → Option AV
  | .bool b => some (.bool b)
  | .int k n => some (.int k n)
  | .string b => some (.str (natsOf b))
  | .pointer none => some .nilp
  | .slice none 0 0 => some .nils
  | .map none => some .nilm
  | .nilFunc => some .nilf
  | _ => none
def cvals : List Value → Option (List AV)
  | [] => some []
  | v :: vs => match cvalOne v with | none => none | some a => (cvals vs).map (a :: ·)
def cval : Value → Option AV
  | .agg cs => (cvals cs.toList).map .agg
  | .func (.func f) ⟨[]⟩ ⟨[]⟩ => some (.fn f [] [])
  | .tuple ⟨[]⟩ => some (.tup [])
  | v => cvalOne v
theorem cvalOne_rel {φ : Pl} {v : Value} {a : AV} (h : cvalOne v = some a) : VRel φ a v := by
  unfold cvalOne at h
  split at h <;> first | cases h | skip
  all_goals constructor
theorem cvals_rel {φ : Pl} : ∀ {vs : List Value} {as : List AV}, cvals vs = some as → LRel φ as vs
  | [], as, h => by simp [cvals] at h; subst h; exact .nil
  | v :: vs, as, h => by
    simp only [cvals] at h
    split at h
    · cases h
    · rename_i a ha
      cases hv : cvals vs with
      | none => simp [hv] at h
      | some l => simp [hv] at h; subst h; exact .cons (cvalOne_rel ha) (cvals_rel hv)
theorem cval_rel {φ : Pl} {v : Value} {a : AV} (h : cval v = some a) : VRel φ a v := by
  unfold cval at h
  split at h
  · rename_i cs
    cases hv : cvals cs.toList with
    | none => simp [hv] at h
    | some l => simp [hv] at h; subst h; exact .agg _ _ (cvals_rel hv)
  · cases h; exact .fn _ [] [] _ _ .nil .nil
  · cases h; exact .tup [] _ .nil
  · exact cvalOne_rel h
def copd : Operand → Option Opd
  | .tmp t => some (.tmp t)
  | .const v => (cval v).map .const
  | .func f => some (.const (.fn f [] []))
  | .global _ => none
def copds : List Operand → Option (List Opd)
  | [] => some []
  | x :: xs => match copd x with | none => none | some y => (copds xs).map (y :: ·)
/-- Operands are related. -/
def XRel (φ : Pl) (e : Opd → AV) (ρ : Operand → Value) (xs : List Operand) : Prop := ∀ x ∈ xs, ∀ y, copd x = some y → VRel φ (e y) (ρ x)
theorem XRel.list {φ : Pl} {e : Opd → AV} {ρ : Operand → Value} : ∀ {xs : List Operand} {ys : List Opd}, copds xs = some ys → XRel φ e ρ xs → LRel φ (ys.map e) (xs.map ρ)
  | [], ys, h, _ => by simp [copds] at h; subst h; exact .nil
  | x :: xs, ys, h, hr => by
    simp only [copds] at h
    split at h
    · cases h
    · rename_i y hy
      cases hv : copds xs with
      | none => simp [hv] at h
      | some l =>
        simp [hv] at h; subst h
        exact .cons (hr x (by simp) y hy) (XRel.list hv fun z hz => hr z (by simp [hz]))
/-! ### Types -/
def tyAgg (P : Program) (t : TypeId) : Option (Option Nat) :=
  match P.underlying t with
  | some (.struct _) => (P.info? t).map fun i => some i.size
  | some (.array _ _) => (P.info? t).map fun i => some i.size
  | some _ => some none
  | none => none
def tySize (P : Program) (t : TypeId) : Option Nat := (P.info? t).map (·.size)
def tyBytes (P : Program) (t : TypeId) : Option Nat := (P.info? t).map (·.bytes)
def tyZero (P : Program) (t : TypeId) : Option AV := ((P.info? t).bind (·.zero)).bind cval
@[simp] theorem run_typeInfo (t : TypeId) (w : World) : (typeInfo t).run P w = match P.info? t with | some i => .ok i w | none => .halt (.stuck "no such type") w := by
  simp only [typeInfo, Sem.run_bind, run_program, Result.andThen_ok]; split <;> simp_all
@[simp] theorem run_underlying (t : TypeId) (w : World) : (underlying t).run P w = match P.underlying t with | some i => .ok i w | none => .halt (.stuck "no such type") w := by
  simp only [underlying, Sem.run_bind, run_program, Result.andThen_ok]; split <;> simp_all
theorem run_sizeOf {t : TypeId} {n : Nat} (h : tySize P t = some n) (w : World) : (sizeOf t).run P w = .ok n w := by
  unfold tySize at h; unfold sizeOf
  cases hi : P.info? t with
  | none => simp [hi] at h
  | some i => simp [hi] at h; simp [hi, h]
theorem run_zeroValue {t : TypeId} {a : AV} (h : tyZero P t = some a) (φ : Pl) : ∃ v, VRel φ a v ∧ cval v = some a ∧ ∀ w, (zeroValue t).run P w = .ok v w := by
  unfold tyZero at h; unfold zeroValue
  cases hi : P.info? t with
  | none => simp [hi] at h
  | some i =>
    cases hz : i.zero with
    | none => simp [hi, hz] at h
    | some v => simp [hi, hz] at h; exact ⟨v, cval_rel h, h, fun w => by simp [hi, hz]⟩
theorem run_isAgg_some {t : TypeId} {n : Nat} (h : tyAgg P t = some (some n)) (w : World) : (isAgg t).run P w = .ok true w ∧ tySize P t = some n := by
  unfold tyAgg at h; unfold isAgg tySize
  split at h
  · rename_i hu; cases hi : P.info? t <;> simp [hi] at h; simp [hu, h]
  · rename_i hu; cases hi : P.info? t <;> simp [hi] at h; simp [hu, h]
  · simp at h
  · cases h
theorem run_isAgg_none {t : TypeId} (h : tyAgg P t = some none) (w : World) : (isAgg t).run P w = .ok false w := by
  unfold tyAgg at h; unfold isAgg
  split at h
  · cases hi : P.info? t <;> simp [hi] at h
  · cases hi : P.info? t <;> simp [hi] at h
  · rename_i d hu hn1 hn2
    cases d <;> simp_all
  · cases h
/-! ### Cells -/
theorem add_mk (b o n : Nat) : Addr.add ⟨b, o, none⟩ n = ⟨b, o + n, none⟩ := by
  unfold Addr.add; split
  · rename_i h; subst h; rfl
  · rfl
theorem seg_some {cs xs : List AV} {off n : Nat} (h : seg cs off n = some xs) : off + n ≤ cs.length ∧ xs = (cs.drop off).take n := by
  unfold seg at h
  cases hb : Nat.ble (off + n) cs.length with
  | true => rw [hb] at h; simp at h; exact ⟨Nat.le_of_ble_eq_true hb, h.symm⟩
  | false => rw [hb] at h; simp at h
theorem At.seg {φ : Pl} {w : World} {L : Loc} {cs xs : List AV} {off n : Nat} (h : At φ w L cs) (hs : seg cs off n = some xs) :
    xs.length = n ∧ At φ w ⟨L.blk, L.base + off, L.size⟩ xs := by
  obtain ⟨h1, rfl⟩ := seg_some hs
  refine ⟨by simp; omega, fun i a ha => ?_⟩
  have : cs[off + i]? = some a := by
    rw [List.getElem?_take] at ha
    split at ha
    · rw [List.getElem?_drop] at ha; exact ha
    · cases ha
  obtain ⟨u, hu, hv⟩ := h (off + i) a this
  exact ⟨u, by simpa [Nat.add_assoc] using hu, hv⟩
theorem run_loadCellsFrom {φ : Pl} {w : World} (b : Nat) : ∀ (xs : List AV) (o i : Nat) (acc : Array Value), At φ w ⟨b, o + i, 0⟩ xs →
    ∃ vs : List Value, (loadCellsFrom ⟨b, o, none⟩ i xs.length acc).run P w = .ok (acc ++ vs.toArray) w ∧ LRel φ xs vs
  | [], o, i, acc, _ => ⟨[], by simp [loadCellsFrom], .nil⟩
  | x :: xs, o, i, acc, h => by
    obtain ⟨u, hu, hv⟩ := h 0 x rfl
    simp only [Nat.add_zero] at hu
    obtain ⟨vs, hr, hl⟩ := run_loadCellsFrom b xs o (i + 1) (acc.push u) fun j a ha => by
      obtain ⟨u', h1, h2⟩ := h (j + 1) a (by simpa using ha)
      exact ⟨u', by simpa [Nat.add_assoc, Nat.add_comm 1 j] using h1, h2⟩
    refine ⟨u :: vs, ?_, .cons hv hl⟩
    simp only [loadCellsFrom, List.length_cons, Sem.run_bind, run_load, add_mk, hu, Result.andThen_ok, hr]
    simp
theorem run_loadCells {φ : Pl} {w : World} {b o : Nat} {xs : List AV} (h : At φ w ⟨b, o, 0⟩ xs) :
    ∃ vs : List Value, (loadCells ⟨b, o, none⟩ xs.length).run P w = .ok vs.toArray w ∧ LRel φ xs vs := by
  obtain ⟨vs, h1, h2⟩ := run_loadCellsFrom (P := P) b xs o 0 #[] h
  exact ⟨vs, by simpa [loadCells] using h1, h2⟩
theorem At.size {φ : Pl} {w : World} {b o s s' : Nat} {xs : List AV} (h : At φ w ⟨b, o, s⟩ xs) : At φ w ⟨b, o, s'⟩ xs := h
/-- A variable is read. -/
theorem run_loadVar {φ : Pl} {w : World} {t : TypeId} {L : Loc} {cs : List AV} {off : Nat} {n : Option Nat} {a : AV} (ht : tyAgg P t = some n) (h : At φ w L cs) (hp : partA cs off n = some a) :
    ∃ v, (loadVar t ⟨L.blk, L.base + off, none⟩).run P w = .ok v w ∧ VRel φ a v := by
  cases n with
  | none =>
    simp only [partA] at hp
    obtain ⟨u, hu, hv⟩ := h off a hp
    refine ⟨u, ?_, hv⟩
    simp [loadVar, run_isAgg_none ht, hu]
  | some n =>
    simp only [partA] at hp
    cases hs : AI.seg cs off n with
    | none => simp [hs] at hp
    | some xs =>
      simp [hs] at hp; subst hp
      obtain ⟨hl, hat⟩ := h.seg hs
      obtain ⟨vs, hr, hv⟩ := run_loadCells (P := P) hat.size
      refine ⟨.agg vs.toArray, ?_, .agg _ _ (by simpa using hv)⟩
      have := run_isAgg_some ht w
      rw [hl] at hr
      simp [loadVar, this.1, run_sizeOf this.2, hr]
/-- A part of an aggregate. -/
theorem run_part {φ : Pl} {w : World} {t : TypeId} {cs : List AV} {vs : Array Value} {off : Nat} {n : Option Nat} {a : AV} (ht : tyAgg P t = some n) (h : LRel φ cs vs.toList) (hp : partA cs off n = some a) :
    ∃ v, (part t vs off).run P w = .ok v w ∧ VRel φ a v := by
  cases n with
  | none =>
    simp only [partA] at hp
    obtain ⟨v, hv, hr⟩ := h.getE hp
    refine ⟨v, ?_, hr⟩
    have : vs[off]? = some v := by rw [← Array.getElem?_toList]; exact hv
    simp [part, run_isAgg_none ht, this]
  | some n =>
    simp only [partA] at hp
    cases hs : AI.seg cs off n with
    | none => simp [hs] at hp
    | some xs =>
      simp [hs] at hp; subst hp
      obtain ⟨h1, rfl⟩ := seg_some hs
      have := run_isAgg_some ht w
      refine ⟨.agg (vs.extract off (off + n)), by simp [part, this.1, run_sizeOf this.2], .agg _ _ ?_⟩
      have e : (vs.extract off (off + n)).toList = (vs.toList.drop off).take n := by
        simp
      rw [e]; exact (h.drop off).take n
theorem take_set_succ {α : Type} : ∀ (l : List α) (n : Nat) (v : α), n < l.length → (l.set n v).take (n + 1) = l.take n ++ [v]
  | [], _, _, h => by simp at h
  | x :: l, 0, v, _ => by simp
  | x :: l, n + 1, v, h => by simp at h; simp [take_set_succ l n v h]
/-- Cells are written into a block of cells. -/
theorem run_storeCells : ∀ (vs : List Value) (w : World) (b o i : Nat) (c : Array Value) (t : TypeId) (fz : Nat × Nat), w.heap[b]? = some (.cells c t fz) → o + i + vs.length ≤ c.size →
    (∀ v ∈ vs, v.oneCell' = true) → (∀ j, o + i ≤ j → j < o + i + vs.length → ¬ (fz.1 ≤ j ∧ j < fz.2)) →
    ∃ w' c', (storeCells ⟨b, o, none⟩ vs i).run P w = .ok () w' ∧ w'.heap[b]? = some (.cells c' t fz) ∧ c'.toList = c.toList.take (o + i) ++ vs ++ c.toList.drop (o + i + vs.length) ∧
      (∀ k, k ≠ b → w'.heap[k]? = w.heap[k]?) ∧ w'.heap.size = w.heap.size ∧ w'.os = w.os ∧ w'.tape = w.tape ∧ w'.output = w.output
  | [], w, b, o, i, c, t, fz, hc, _, _, _ => ⟨w, c, by simp [storeCells], hc, by simp, fun _ _ => rfl, rfl, rfl, rfl, rfl⟩
  | v :: vs, w, b, o, i, c, t, fz, hc, hl, h1, hf => by
    have hlt : o + i < c.size := by simp at hl; omega
    have hcell : w.cell? ⟨b, o + i, none⟩ = some c[o + i] := by simp [World.cell?, hc, hlt]
    have hfz : w.frozen? ⟨b, o + i, none⟩ = false := by
      simp only [World.frozen?, hc]
      have := hf (o + i) (Nat.le_refl _) (by simp)
      simpa using this
    have hset : (w.setCell ⟨b, o + i, none⟩ v).heap[b]? = some (.cells (c.setIfInBounds (o + i) v) t fz) := by
      simp only [World.setCell, Array.getElem?_modify, if_true, hc, Option.map_some]
      simp
    obtain ⟨w', c', hr, hb, hcl, hk, hs, e1, e2, e3⟩ := run_storeCells vs (w.setCell ⟨b, o + i, none⟩ v) b o (i + 1) _ t fz hset (by simp at hl ⊢; omega) (fun u hu => h1 u (by simp [hu])) (fun j hj hj' => hf j (by omega) (by simp; omega))
    refine ⟨w', c', ?_, hb, ?_, fun k hk' => ?_, by rw [hs]; simp [World.setCell], e1, e2, e3⟩
    · rw [storeCells, Sem.run_bind, add_mk, run_store P w _ v _ (h1 v (by simp))]
      simp only [hcell, hfz, Bool.false_eq_true, if_false, Result.andThen_ok]
      exact hr
    · rw [hcl]
      have e : o + (i + 1) = o + i + 1 := by omega
      rw [e]
      simp only [Array.toList_setIfInBounds, List.length_cons]
      have hlt' : o + i < c.toList.length := by simpa using hlt
      rw [take_set_succ _ _ _ hlt', List.drop_set_of_lt (by omega)]
      simp [Nat.add_assoc, Nat.add_comm 1]
    · rw [hk k hk']
      simp only [World.setCell, Array.getElem?_modify]
      rw [if_neg (by omega)]
end Go.AI
