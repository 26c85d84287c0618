/- Lists built by appending; rings; numbers compared. No claim by itself. -/
import Derived.Test.YtjhhicmlflelhaaMC
import Derived.Test.YtjhhicmlflelhaaE25
namespace Go.Proofs.Ytjhhicmlflelhaa.Gr
open Go Go.AI
/-- A slice that this run built: its object holds just its items. -/
def Ow {α : Type} (e : Nat) (enc : α → List AV) (H : Heap) (v : AV) (xs : List α) : Prop :=
  (v = .nils ∧ xs = []) ∨ ∃ o, v = .slc o 0 xs.length e xs.length false ∧ xs ≠ [] ∧ H.get o = some (.cells (xs.flatMap enc)) ∧ H.floor ≤ o
/-- A slice that reads whole. -/
def Sw {α : Type} (e : Nat) (enc : α → List AV) (H : Heap) (v : AV) (xs : List α) : Prop :=
  (v = .nils ∧ xs = []) ∨ ∃ o off lo ex, v = .slc o off xs.length e lo ex ∧ H.readSeg o off (xs.length * e) = some (xs.flatMap enc)
section
variable {α : Type} {e : Nat} {enc : α → List AV} {H H0 : Heap} {v : AV} {xs ys : List α}
theorem flat_len (hn : ∀ x, (enc x).length = e) : ∀ (xs : List α), (xs.flatMap enc).length = xs.length * e
  | [] => by simp
  | x :: xs => by rw [List.flatMap_cons, List.length_append, hn, flat_len hn xs, List.length_cons, Nat.succ_mul]; omega
theorem Ow.sl (hn : ∀ x, (enc x).length = e) (h : Ow e enc H v xs) : Sl e enc H v xs := by
  rcases h with h | ⟨o, rfl, _, h2, _⟩
  · exact .inl h
  · exact Sl.ofCells hn h2
theorem seg_all {cs : List AV} {n : Nat} (h : cs.length = n) : seg cs 0 n = some cs := by
  have hb : Nat.ble (0 + n) cs.length = true := Nat.ble_eq_true_of_le (by omega)
  simp only [seg, hb, cond_true, List.drop_zero]
  rw [List.take_of_length_le (by omega)]
theorem Ow.sw (hn : ∀ x, (enc x).length = e) (h : Ow e enc H v xs) : Sw e enc H v xs := by
  rcases h with h | ⟨o, rfl, _, h2, _⟩
  · exact .inl h
  · refine .inr ⟨o, 0, _, _, rfl, ?_⟩
    unfold Heap.readSeg
    rw [cellsAt_get h2]
    exact seg_all (flat_len hn xs)
theorem Ow.keep {H' : Heap} (h : Ow e enc H v xs) (hf : H'.floor = H.floor) (k : ∀ o, rowObj v = some o → H'.get o = H.get o) : Ow e enc H' v xs := by
  rcases h with h | ⟨o, rfl, h1, h2, h3⟩
  · exact .inl h
  · exact .inr ⟨o, rfl, h1, by rw [k o rfl]; exact h2, by rw [hf]; exact h3⟩
theorem Ow.app (hn : ∀ x, (enc x).length = e) (he : 1 ≤ e) (h1 : ∀ x, allOne (enc x) = true) {bytes : Nat} {y : AV} (hw : H.Wf) (hx : Ow e enc H v xs) (hy : Sw e enc H y ys) (hb : (2 * (xs.length + ys.length) + 1024) * bytes ≤ 2 ^ 48) :
    ∃ v' H', appendA e bytes H v y = some (v', H') ∧ Ow e enc H' v' (xs ++ ys) ∧ H'.Wf ∧ H'.floor = H.floor ∧ H.next ≤ H'.next ∧ (∀ o, o < H.next → rowObj v ≠ some o → H'.get o = H.get o) ∧ ∀ o, rowObj v' = some o → rowObj v = some o ∨ (H.next ≤ o ∧ o < H'.next) := by
  have hone : ∀ zs : List α, allOne (zs.flatMap enc) = true := by
    intro zs
    unfold allOne
    rw [List.all_eq_true]
    intro a ha
    obtain ⟨z, _, hz⟩ := List.mem_flatMap.1 ha
    have := h1 z
    unfold allOne at this
    rw [List.all_eq_true] at this
    exact this a hz
  have hsrc : srcA e H y = some (ys.length, ys.flatMap enc) := by
    rcases hy with ⟨rfl, rfl⟩ | ⟨o, off, lo, ex, rfl, hr⟩
    · rfl
    · simp only [srcA, Nat.beq_refl, cond_true, hr, Option.map_some]
  by_cases h0 : ys = []
  · subst h0
    refine ⟨v, H, ?_, by rw [List.append_nil]; exact hx, hw, rfl, Nat.le_refl _, fun _ _ _ => rfl, fun o q => .inl q⟩
    rcases hx with ⟨rfl, rfl⟩ | ⟨o, rfl, h2, h3, h4⟩
    · simp only [appendA, hsrc, hone, cond_true]; rfl
    · simp [appendA, hsrc, hone]
  · have hl0 : Nat.beq ys.length 0 = false := by
      rw [Tr.nbeq]
      have : ys.length ≠ 0 := fun q => h0 (List.length_eq_zero_iff.1 q)
      simp [this]
    rcases hx with ⟨rfl, rfl⟩ | ⟨o, rfl, h2, h3, h4⟩
    · have hbig : Nat.ble ((2 * ys.length + 1024) * bytes) (2 ^ 48) = true := Nat.ble_eq_true_of_le (by simpa using hb)
      refine ⟨.slc H.next 0 ys.length e ys.length false, H.push (.cells (ys.flatMap enc)), ?_, .inr ⟨H.next, rfl, h0, get_pushN.trans (if_pos rfl), hw.1⟩, hw.push _, rfl, Nat.le_succ _, fun o ho _ => get_pushN.trans (if_neg (by omega)), fun o q => .inr ?_⟩
      · simp only [appendA, hsrc, hone, cond_true, hl0, cond_false, hbig]
      · cases q; exact ⟨Nat.le_refl _, Nat.lt_succ_self _⟩
    · have hb1 : Nat.ble (xs.length + ys.length) xs.length = false := by
        cases hh : Nat.ble (xs.length + ys.length) xs.length with
        | false => rfl
        | true =>
          have := Nat.le_of_ble_eq_true hh
          have : ys.length ≠ 0 := fun q => h0 (List.length_eq_zero_iff.1 q)
          omega
      have hbig : Nat.ble ((2 * (xs.length + ys.length) + 1024) * bytes) (2 ^ 48) = true := Nat.ble_eq_true_of_le hb
      have ho : o < H.next := Classical.byContradiction fun q => by
        have := hw.2 o (by omega); rw [this] at h3; cases h3
      have hread : H.readSeg o 0 (xs.length * e) = some (xs.flatMap enc) := by
        unfold Heap.readSeg
        rw [cellsAt_get h3]
        exact seg_all (flat_len hn xs)
      have hfl : Nat.ble H.floor o = true := Nat.ble_eq_true_of_le h4
      have hne : xs ++ ys ≠ [] := fun q => h2 (List.append_eq_nil_iff.1 q).1
      refine ⟨.slc H.next 0 (xs.length + ys.length) e (xs.length + ys.length) false, (H.set o .dead).push (.cells (xs.flatMap enc ++ ys.flatMap enc)), ?_, .inr ⟨H.next, by rw [List.length_append], hne, ?_, hw.1⟩, (Wf.set hw ho).push _, rfl, Nat.le_succ _, fun o' ho' hne' => ?_, fun o' q => .inr ?_⟩
      · simp only [appendA, hsrc, hone, cond_true, Nat.beq_refl, hl0, cond_false, hb1, hbig, hread, hfl]
      · rw [List.flatMap_append]; exact get_pushN.trans (if_pos rfl)
      · have q : o' ≠ o := fun q => hne' (by rw [q]; rfl)
        exact (get_pushN.trans (if_neg (by show ¬ o' = H.next; omega))).trans (get_setH.trans (if_neg q))
      · cases q; exact ⟨Nat.le_refl _, Nat.lt_succ_self _⟩
/-- Building a list over the memory H0, of which the object X may be used up. -/
structure Bx (X : Option Nat) (e : Nat) (enc : α → List AV) (H0 H : Heap) (v : AV) (xs : List α) : Prop where
  wf : H.Wf
  fl : H.floor = H0.floor
  nx : H0.next ≤ H.next
  old : ∀ o x, o < H0.next → X ≠ some o → H0.get o = some x → H.get o = some x
  ow : Ow e enc H v xs
  fresh : ∀ o, rowObj v = some o → (X = some o ∨ H0.next ≤ o) ∧ o < H.next
abbrev Bd (e : Nat) (enc : α → List AV) (H0 H : Heap) (v : AV) (xs : List α) : Prop := Bx none e enc H0 H v xs
variable {X : Option Nat}
theorem Bd.init (hw : H.Wf) : Bd e enc H H .nils ([] : List α) := ⟨hw, rfl, Nat.le_refl _, fun _ _ _ _ q => q, .inl ⟨rfl, rfl⟩, fun _ q => by cases q⟩
theorem Bx.start (hw : H.Wf) (h : Ow e enc H v xs) : Bx (rowObj v) e enc H H v xs := ⟨hw, rfl, Nat.le_refl _, fun _ _ _ _ q => q, h, fun o q => by
  refine ⟨.inl q, ?_⟩
  rcases h with ⟨rfl, _⟩ | ⟨o', rfl, _, h2, _⟩
  · cases q
  · cases q
    exact Classical.byContradiction fun k => by have := hw.2 o (by omega); rw [this] at h2; cases h2⟩
theorem Bd.ext (h : Bd e enc H0 H v xs) (hw0 : H0.Wf) : Ext H0 H := ⟨h.fl, h.nx, fun o x q => by
  have ho : o < H0.next := Classical.byContradiction fun k => by
    have := hw0.2 o (by omega); rw [this] at q; cases q
  exact h.old o x ho (fun q => by cases q) q, h.wf⟩
theorem Bx.keep {β : Type} {e' : Nat} {enc' : β → List AV} {w : AV} {ys : List β} (h : Bx X e enc H0 H v xs) (hw0 : H0.Wf) (k : Sl e' enc' H0 w ys) (d : ∀ o, rowObj w = some o → X ≠ some o) : Sl e' enc' H w ys := by
  rcases k with k | ⟨o, off, lo, ex, cs, a, b, c⟩
  · exact .inl k
  · refine .inr ⟨o, off, lo, ex, cs, a, ?_, c⟩
    unfold Heap.cellsAt at b ⊢
    cases q : H0.get o with
    | none => rw [q] at b; cases b
    | some x =>
      have ho : o < H0.next := Classical.byContradiction fun k => by
        have := hw0.2 o (by omega); rw [this] at q; cases q
      rw [h.old o x ho (d o (by rw [a]; rfl)) q]
      rw [q] at b; exact b
theorem Bx.after {H' : Heap} (h : Bx X e enc H0 H v xs) (k : Ext H H') : Bx X e enc H0 H' v xs := by
  have := h.nx
  have := k.next
  refine ⟨k.wf, k.floor.trans h.fl, by omega, fun o x a b c => k.keep o x (h.old o x a b c), ?_, fun o q => ?_⟩
  · rcases h.ow with q | ⟨o, rfl, h1, h2, h3⟩
    · exact .inl q
    · exact .inr ⟨o, rfl, h1, k.keep _ _ h2, by rw [k.floor]; exact h3⟩
  · have := h.fresh o q; exact ⟨this.1, by omega⟩
theorem Bx.push (h : Bx X e enc H0 H v xs) {x : AObj} : Bx X e enc H0 (H.push x) v xs := h.after (Ext.push h.wf x)
/-- More items at once. -/
theorem Bx.appS (hn : ∀ x, (enc x).length = e) (he : 1 ≤ e) (h1 : ∀ x, allOne (enc x) = true) {bytes : Nat} {y : AV} (h : Bx X e enc H0 H v xs) (hy : Sw e enc H y ys) (hb : (2 * (xs.length + ys.length) + 1024) * bytes ≤ 2 ^ 48) :
    ∃ v' H', appendA e bytes H v y = some (v', H') ∧ Bx X e enc H0 H' v' (xs ++ ys) ∧ H.next ≤ H'.next ∧ (∀ o, o < H.next → rowObj v ≠ some o → H'.get o = H.get o) ∧ ∀ o, rowObj v' = some o → rowObj v = some o ∨ H.next ≤ o := by
  have hnx := h.nx
  obtain ⟨v', H', k1, k2, k3, k4, k5, k6, k7⟩ := h.ow.app hn he h1 (bytes := bytes) h.wf hy hb
  refine ⟨v', H', k1, ⟨k3, k4.trans h.fl, by omega, ?_, k2, ?_⟩, k5, k6, fun o q => (k7 o q).imp id fun q => q.1⟩
  · intro o x ho hX hx
    rw [k6 o (by omega) (fun q => by
      rcases (h.fresh o q).1 with k | k
      · exact hX k
      · omega)]
    exact h.old o x ho hX hx
  · intro o ho
    rcases k7 o ho with q | ⟨q1, q2⟩
    · have := h.fresh o q; exact ⟨this.1, by omega⟩
    · exact ⟨.inr (by omega), q2⟩
/-- One more item. -/
theorem Bx.app1 (hn : ∀ x, (enc x).length = e) (he : 1 ≤ e) (h1 : ∀ x, allOne (enc x) = true) {bytes : Nat} (h : Bx X e enc H0 H v xs) (x : α) (hb : (2 * (xs.length + 1) + 1024) * bytes ≤ 2 ^ 48) :
    ∃ v' H', appendA e bytes (H.push (.cells (enc x))) v (.slc H.next 0 1 e 1 true) = some (v', H') ∧ Bx X e enc H0 H' v' (xs ++ [x]) ∧ H.next ≤ H'.next ∧ (∀ o, o < H.next → rowObj v ≠ some o → H'.get o = H.get o) ∧ ∀ o, rowObj v' = some o → rowObj v = some o ∨ H.next ≤ o := by
  have hp := h.push (x := .cells (enc x))
  have hy : Sw e enc (H.push (.cells (enc x))) (.slc H.next 0 1 e 1 true) [x] := by
    refine .inr ⟨H.next, 0, 1, true, rfl, ?_⟩
    unfold Heap.readSeg
    rw [cellsAt_get (get_pushN.trans (if_pos rfl))]
    simp only [List.flatMap_cons, List.flatMap_nil, List.append_nil]
    exact seg_all (by rw [hn]; simp)
  obtain ⟨v', H', k1, k2, k3, k4, k5⟩ := hp.appS hn he h1 (bytes := bytes) hy (by simpa using hb)
  have k3' : H.next + 1 ≤ H'.next := k3
  refine ⟨v', H', k1, k2, by omega, ?_, ?_⟩
  · intro o ho hne
    rw [k4 o (by show o < H.next + 1; omega) hne]
    exact get_pushN.trans (if_neg (by omega))
  · intro o ho
    rcases k5 o ho with q | q
    · exact .inl q
    · have q1 : H.next + 1 ≤ o := q
      exact .inr (by omega)
theorem Bx.sl (hn : ∀ x, (enc x).length = e) (h : Bx X e enc H0 H v xs) : Sl e enc H v xs := h.ow.sl hn
end
theorem pairc_len (x : Int × Int) : (pairc x).length = 2 := rfl
theorem pairc_one (x : Int × Int) : allOne (pairc x) = true := rfl
theorem i64c_len (x : Int) : (i64c x).length = 1 := rfl
theorem i64c_one (x : Int) : allOne (i64c x) = true := rfl
@[simp] theorem fillV_pair {e : Opd → AV} {cs : List AV} {off : Nat} {k k' : IntKind} {a b : Int} {r : List (Nat × Nat × Opd)} : fillV e cs off 2 (.agg [.int k a, .int k' b]) r = if off + 2 ≤ cs.length then fillA e (setSeg cs off [.int k a, .int k' b]) r else none := by
  simp [fillV]
@[simp] theorem setSeg_pair {a b x y : AV} : setSeg [a, b] 0 [x, y] = [x, y] := by simp [setSeg]
theorem tmod_nat (a b : Nat) : Int.tmod (a : Int) (b : Int) = ((a % b : Nat) : Int) := (Int.ofNat_tmod a b).symm
def ringE (n f i : Nat) : Int × Int := (((f + i : Nat) : Int), ((f + (i + 1) % n : Nat) : Int))
def ringL (n f : Nat) : List (Int × Int) := (List.range n).map (ringE n f)
section
variable {FT : Nat → Option FnD} {H : Heap}
theorem ring18 (h18 : FT 18 = some (.code A18)) (hw : H.Wf) {n f : Nat} (hn : n ≤ 1000000) (hf : f ≤ 1000000) :
    Cp FT 18 [.int .i64 n, .int .i64 f] H (fun r H' => Bd 2 pairc H H' r (ringL n f)) := by
  refine Cp_code A18 h18 rfl ?_
  simp [A18]
  refine Wp_loop (fun g τ H' => ∃ (i : Nat) (v : AV), i ≤ n ∧ g = n - i ∧ Bd 2 pairc H H' v ((List.range i).map (ringE n f)) ∧ Env.at τ 0 = .int .i64 (n : Int) ∧ Env.at τ 1 = .int .i64 (f : Int) ∧ Env.at τ 5 = v ∧ Env.at τ 6 = .int .i64 (i : Int)) ?_ n _ _ ⟨0, .nils, by omega, rfl, Bd.init hw, by simp, by simp, by simp, by simp⟩
  rintro g τ H1 ⟨i, v, hi, rfl, bd, t0, t1, t5, t6⟩
  simp only [Wp_seq, Wp_region, Wp_block]
  by_cases hc : i < n
  · have w : IntKind.i64.wrap ((i : Int) + 1) = ((i + 1 : Nat) : Int) := wrap64 (by omega) (by omega)
    have w1 : IntKind.i64.wrap ((f : Int) + (i : Int)) = ((f : Int) + (i : Int)) := wrap64 (by omega) (by omega)
    have hmod : (i + 1) % n < n := Nat.mod_lt _ (by omega)
    have tm := tmod_nat (i + 1) n
    rw [show ((i + 1 : Nat) : Int) = (i : Int) + 1 by simp] at tm
    obtain ⟨v', H2, ap, bd2, _⟩ := bd.app1 (bytes := 16) pairc_len (by omega) pairc_one (ringE n f i) (by rw [List.length_map, List.length_range]; omega)
    have hlst : (List.range (i + 1)).map (ringE n f) = (List.range i).map (ringE n f) ++ [ringE n f i] := by
      rw [List.range_succ, List.map_append]; rfl
    rw [← hlst] at bd2
    have e : pairc (ringE n f i) = [.int .i64 ((f : Int) + i), .int .i64 ((f : Int) + ((i + 1) % n : Nat))] := by
      simp only [pairc, ringE, Int.natCast_add]
    rw [e] at ap
    clear e
    generalize (i + 1) % n = q at hmod tm ap
    have w2 : IntKind.i64.wrap ((f : Int) + (q : Int)) = ((f : Int) + (q : Int)) := wrap64 (by omega) (by omega)
    have hn0 : ¬ n = 0 := by omega
    have w0 : IntKind.i64.wrap ((i : Int) + 1) = (i : Int) + 1 := wrap64 (by omega) (by omega)
    simp [hc, t0, t1, t5, t6, w0, w1, hn0, tm, w2, ap]
    exact ⟨_, by omega, i + 1, by omega, rfl, v', bd2, rfl, by simp⟩
  · have : i = n := by omega
    subst this
    simp [t0, t5, t6]
    exact bd
theorem same17 (h17 : FT 17 = some (.code A17)) {v u : AV} {xs ys : List Int} (hx : Ints H v xs) (hy : Ints H u ys) (hl : xs.length ≤ 9223372036854775806) :
    Cp FT 17 [v, u] H (fun r H' => r = .bool (decide (xs = ys)) ∧ H' = H) := by
  refine Cp_code A17 h17 rfl ?_
  by_cases hlen : xs.length = ys.length
  · have e1 : ((xs.length : Int) != (ys.length : Int)) = false := by rw [hlen]; simp
    simp [A17, hx.len, hy.len, e1]
    refine Wp_loop (fun f τ H' => H' = H ∧ ∃ i : Nat, i ≤ xs.length ∧ f = xs.length - i ∧ xs.take i = ys.take i ∧ Env.at τ 0 = v ∧ Env.at τ 1 = u ∧ Env.at τ 5 = .int .i64 (i : Int)) ?_ xs.length _ _ ⟨rfl, 0, by omega, rfl, rfl, by simp, by simp, by simp⟩
    rintro f τ _ ⟨rfl, i, hi, rfl, ht, t0, t1, t5⟩
    simp only [Wp_seq, Wp_region, Wp_block]
    by_cases hc : i < xs.length
    · have w : IntKind.i64.wrap ((i : Int) + 1) = ((i + 1 : Nat) : Int) := wrap64 (by omega) (by omega)
      obtain ⟨p, x, hgx, hp, hld⟩ := Ints.idx hx (k := .i64) (i := i) (by omega) (by omega)
      obtain ⟨p', y, hgy, hp', hld'⟩ := Ints.idx hy (k := .i64) (i := i) (by omega) (by omega)
      rw [Int.toNat_natCast] at hgx hgy
      by_cases hxy : x = y
      · subst hxy
        simp [t0, t1, t5, hx.len, hc, hp, hld, hp', hld', w]
        exact ⟨_, by omega, i + 1, by omega, rfl, by rw [List.take_add_one, List.take_add_one, ht, hgx, hgy], by simp⟩
      · have hne : (x != y) = true := by rw [bne_iff_ne]; exact hxy
        simp [t0, t1, t5, hx.len, hc, hp, hld, hp', hld', hne]
        intro e; rw [e, hgy] at hgx; cases hgx; exact hxy rfl
    · have : i = xs.length := by omega
      subst this
      simp [t0, t1, t5, hx.len]
      rw [List.take_length] at ht
      rw [ht, hlen, List.take_length]
  · have e1 : ((xs.length : Int) != (ys.length : Int)) = true := by rw [bne_iff_ne]; omega
    simp [A17, hx.len, hy.len, e1]
    intro e; rw [e] at hlen; exact hlen rfl
theorem wrapU_nonneg (x : Int) : 0 ≤ IntKind.wrap .u64 x := by
  unfold IntKind.wrap
  simp [IntKind.bits, IntKind.signed]
  omega
theorem mod_u64 (x : Int) (d : Nat) (hd : 0 < d) : ∃ q : Nat, q < d ∧ Int.tmod (IntKind.wrap .u64 x) (d : Int) = (q : Int) := by
  have h0 := wrapU_nonneg x
  obtain ⟨w, hw⟩ := Int.eq_ofNat_of_zero_le h0
  refine ⟨w % d, Nat.mod_lt _ hd, ?_⟩
  rw [hw]; exact tmod_nat w d
end
/-- Two lists built side by side. -/
structure B2 (H0 H : Heap) (v u : AV) (xs ys : List (Int × Int)) : Prop where
  l : Bd 2 pairc H0 H v xs
  r : Bd 2 pairc H0 H u ys
  d : ∀ o, rowObj v = some o → rowObj u ≠ some o
theorem B2.swap {H0 H : Heap} {v u : AV} {xs ys : List (Int × Int)} (h : B2 H0 H v u xs ys) : B2 H0 H u v ys xs := ⟨h.r, h.l, fun o a b => h.d o b a⟩
theorem B2.app {H0 H : Heap} {v u : AV} {xs ys : List (Int × Int)} (h : B2 H0 H v u xs ys) (x : Int × Int) (hb : xs.length ≤ 1000000) :
    ∃ v' H', appendA 2 16 (H.push (.cells (pairc x))) v (.slc H.next 0 1 2 1 true) = some (v', H') ∧ B2 H0 H' v' u (xs ++ [x]) ys := by
  obtain ⟨v', H', k1, k2, k3, k4, k5⟩ := h.l.app1 (bytes := 16) pairc_len (by omega) pairc_one x (by omega)
  have kp : ∀ o, rowObj u = some o → H'.get o = H.get o := fun o q => k4 o (h.r.fresh o q).2 (fun e => h.d o e q)
  refine ⟨v', H', k1, k2, ⟨k2.wf, k2.fl, k2.nx, k2.old, h.r.ow.keep (k2.fl.trans h.l.fl.symm) kp, fun o q => ?_⟩, fun o a b => ?_⟩
  · have := h.r.fresh o q; exact ⟨this.1, by omega⟩
  · rcases k5 o a with q | q
    · exact h.d o q b
    · have := (h.r.fresh o b).2; omega
theorem max_size {N k : Nat} {l : List (Int × Int)} (hr : rightM (N : Int) l = true) (lo : ∃ m, Mt (Adj (natE l)) m ∧ 2 * k ≤ Gr.cnt N m) (hi : ∀ m, Mt (Adj (natE l)) m → Gr.cnt N m ≤ 2 * k + 1) :
    Go.Proofs.Ytjhhicmlflelhaa.cnt (mateL N (maxOf N (natE l))) / 2 = k := by
  obtain ⟨_, k2, k3⟩ := maxOf_ok hr
  rw [Int.toNat_natCast] at k2 k3
  obtain ⟨m, h1, h2⟩ := lo
  have a := k3 m h1
  have b := hi _ k2
  rw [cnt_mateL]; omega
end Go.Proofs.Ytjhhicmlflelhaa.Gr
