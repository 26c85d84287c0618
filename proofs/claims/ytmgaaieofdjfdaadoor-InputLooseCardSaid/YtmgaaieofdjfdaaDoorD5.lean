/- The document's numbers by digits: digits, sizes, signs. No claim by itself. -/
import Derived.Test.YtmgaaieofdjfdaaDoorD2
namespace Go.Proofs.YtmgaaieofdjfdaaDoor
open Go Go.AI
/-- The number told by a sign and digits. -/
def zval (m : Bool) (ds : List Nat) : Int := if m = true then -(dval ds : Int) else dval ds
section
variable {FT : Nat → Option FnD} {H : Heap}
theorem digit51 (h51 : FT 51 = some (.code A51)) {v : AV} {ds : List Nat} (h : Nats H v ds) (_hl : ds.length ≤ 1000) {i : Nat} (_hi : i ≤ 100000) :
    Cp FT 51 [v, .int .i64 i] H (fun r H' => r = .int .i64 (((ds[i]?).getD 0 : Nat) : Int) ∧ H' = H) := by
  refine Cp_code A51 h51 rfl ?_
  by_cases hc : i < ds.length
  · obtain ⟨p, x, hx, hp, hld⟩ := Nats.idx h (k := .i64) hc
    have hv := (List.getElem?_eq_some_iff.1 hx).2
    simp [A51, h.len, hc, hp, hld, hv]
  · have : ds[i]? = none := by simp; omega
    simp [A51, h.len, hc]
theorem dval_top {a b : List Nat} {k : Nat} (da : Dg a) (_db : Dg b) (hl : a.length = b.length) (hk : k < a.length) (ht : a.drop (k + 1) = b.drop (k + 1)) {x y : Nat} (hx : a[k]? = some x) (hy : b[k]? = some y) (h : x < y) : dval a < dval b := by
  have ea : a = a.take k ++ (x :: a.drop (k + 1)) := by rw [← drop_get hx, List.take_append_drop]
  have eb : b = b.take k ++ (y :: b.drop (k + 1)) := by rw [← drop_get hy, List.take_append_drop]
  have la : (a.take k).length = k := by simp; omega
  have lb : (b.take k).length = k := by simp; omega
  have h1 := dval_lt (da.take k)
  rw [la] at h1
  rw [ea, eb, dval_append, dval_append, la, lb, ht]
  simp only [dval]
  generalize dval (b.drop (k + 1)) = t
  have h2 : 65536 ^ k * (x + 65536 * t + 1) ≤ 65536 ^ k * (y + 65536 * t) := Nat.mul_le_mul_left _ (by omega)
  rw [Nat.mul_add] at h2
  omega
structure Inv52 (H : Heap) (u v : AV) (a b : List Nat) (k : Nat) (τ : Env) (H' : Heap) : Prop where
  hh : H' = H
  kl : k ≤ a.length
  eq : a.drop k = b.drop k
  t0 : Env.at τ 0 = u
  t1 : Env.at τ 1 = v
  t5 : Env.at τ 5 = .int .i64 ((k : Int) - 1)
theorem size52 (h52 : FT 52 = some (.code A52)) {u v : AV} {a b : List Nat} (ha : Nats H u a) (hb : Nats H v b) (da : Dg a) (db : Dg b) (na : Nm a) (nb : Nm b) (la : a.length ≤ 1000) (lb : b.length ≤ 1000) :
    Cp FT 52 [u, v] H (fun r H' => ∃ n : Int, r = .int .i64 n ∧ (n < 0 ↔ dval a < dval b) ∧ (n = 0 ↔ dval a = dval b) ∧ H' = H) := by
  refine Cp_code A52 h52 rfl ?_
  by_cases hlen : a.length = b.length
  · have e1 : ((a.length : Int) != (b.length : Int)) = false := by rw [hlen]; simp
    have w1 : IntKind.i64.wrap ((a.length : Int) - 1) = (a.length : Int) - 1 := wrap64 (by omega) (by omega)
    simp [A52, ha.len, hb.len, e1, w1]
    refine Wp_loop (Inv52 H u v a b) ?_ a.length _ _ ⟨rfl, Nat.le_refl _, by rw [List.drop_length, hlen, List.drop_length], by simp, by simp, by simp⟩
    rintro k τ _ ⟨rfl, hk, heq, t0, t1, t5⟩
    simp only [Wp_seq, Wp_region]
    cases k with
    | zero =>
      have t5' : Env.at τ 5 = .int .i64 (-1) := by simpa using t5
      have hab : a = b := by simpa using heq
      simp [t5', hab]
    | succ k =>
      obtain ⟨p, x, hx, hp, hl1⟩ := Nats.idx ha (k := .i64) (i := k) (by omega)
      obtain ⟨q, y, hy, hq, hl2⟩ := Nats.idx hb (k := .i64) (i := k) (by omega)
      have t5' : Env.at τ 5 = .int .i64 (k : Int) := by rw [t5]; congr 1; omega
      have hx6 := da x (List.mem_of_getElem? hx)
      have hy6 := db y (List.mem_of_getElem? hy)
      have wk : IntKind.i64.wrap ((k : Int) - 1) = (k : Int) - 1 := wrap64 (by omega) (by omega)
      have ws : IntKind.i64.wrap ((x : Int) - (y : Int)) = (x : Int) - y := wrap64 (by omega) (by omega)
      by_cases hxy : x = y
      · subst hxy
        simp [t0, t1, t5', hp, hq, hl1, hl2, wk]
        exact ⟨k, by omega, rfl, by omega, by rw [drop_get hx, drop_get hy, heq], by simp [t0], by simp [t1], by simp⟩
      · have hne : ((x : Int) != (y : Int)) = true := by rw [bne_iff_ne]; omega
        simp [t0, t1, t5', hp, hq, hl1, hl2, hne, ws]
        rcases Nat.lt_or_gt_of_ne hxy with h | h
        · have := dval_top da db hlen (by omega) heq hx hy h
          omega
        · have := dval_top db da hlen.symm (by omega) heq.symm hy hx h
          omega
  · have e1 : ((a.length : Int) != (b.length : Int)) = true := by rw [bne_iff_ne]; omega
    have w1 : IntKind.i64.wrap ((a.length : Int) - (b.length : Int)) = (a.length : Int) - b.length := wrap64 (by omega) (by omega)
    have key : ∀ {a b : List Nat}, Dg a → Nm b → a.length < b.length → dval a < dval b := by
      intro a b da nb h
      have h1 := dval_lt da
      have h2 := dval_ge nb (fun q => by rw [q] at h; simp at h)
      have h3 : 65536 ^ a.length ≤ 65536 ^ (b.length - 1) := Nat.pow_le_pow_right (by omega) (by omega)
      omega
    simp [A52, ha.len, hb.len, e1, w1]
    rcases Nat.lt_or_gt_of_ne hlen with h | h
    · have := key da nb h; omega
    · have := key db na h; omega
theorem neg53 (h53 : FT 53 = some (.code A53)) (hw : H.Wf) {v : AV} {m : Bool} {ds : List Nat} (h : NumR H v m ds) : Cp FT 53 [v] H (fun r H' => NumR H' r (!m && decide (ds ≠ [])) ds ∧ Ext H H') := by
  obtain ⟨dg, nm, hlen, u, rfl, hcu, hu⟩ := h
  refine Cp_code A53 h53 rfl ?_
  obtain ⟨ou, cu⟩ := hu.one
  have hone : allOne [AV.bool m, u] = true := by simp [allOne_of ou]
  obtain ⟨g0, e0⟩ := push_new hw (.cells [.bool m, u])
  obtain ⟨g1, e1⟩ := push_new e0.wf (.cells [.bool false, .nils])
  have hn1 : (H.push (.cells [.bool m, u])).next = H.next + 1 := rfl
  have g0' := e1.keep _ _ g0
  generalize hH1 : (H.push (.cells [.bool m, u])).push (.cells [.bool false, .nils]) = H1 at *
  have l0 : loadA H1 none (.ptr H.next 0) = some (.bool m) := load_get g0' rfl
  have l1 : loadA H1 none (.ptr H.next 1) = some u := load_get g0' rfl
  have e01 := e0.trans e1
  have fl : H1.floor ≤ H.next + 1 := by rw [e01.floor]; have := hw.1; omega
  have fin : ∀ b : Bool, b = (!m && decide (ds ≠ [])) → ∃ H', storeA H1 2 (.ptr (H.next + 1) 0) (.agg [.bool b, u]) = some (undefA, H') ∧ H'.cellsAt (H.next + 1) = some [.bool b, u] ∧ NumR H' (.agg [.bool b, u]) (!m && decide (ds ≠ [])) ds ∧ Ext H H' := by
    intro b hb
    obtain ⟨H', s, g, f⟩ := store_whole (n := 2) (x := .agg [.bool b, u]) e1.wf rfl rfl fl g1 rfl (by simp [allOne_of ou])
    have ex : Ext H H' := ((e01.fr (S := [])).trans hw f (by simp)).ext
    exact ⟨H', s, cellsAt_get g, ⟨dg, nm, hlen, u, by rw [hb], hcu, hu.ext ex⟩, ex⟩
  cases m with
  | true =>
    obtain ⟨H', s, g, k, ex⟩ := fin false (by simp)
    simp [A53, hone, hH1, l0, l1, fillV_val ou cu, s, resultsA, resultA, g, partA, seg, packA]
    exact ⟨by simpa using k, ex⟩
  | false =>
    by_cases hd : ds = []
    · subst hd
      obtain ⟨H', s, g, k, ex⟩ := fin false (by simp)
      simp [A53, hone, hH1, l0, l1, hu.len, fillV_val ou cu, s, resultsA, resultA, g, partA, seg, packA]
      exact ⟨by simpa using k, ex⟩
    · obtain ⟨H', s, g, k, ex⟩ := fin true (by simp [hd])
      have hl : 0 < ds.length := by
        have : ds.length ≠ 0 := fun q => hd (List.length_eq_zero_iff.1 q)
        omega
      simp [A53, hone, hH1, l0, l1, hu.len, hl, fillV_val ou cu, s, resultsA, resultA, g, partA, seg, packA, hd]
      exact ⟨by simpa [hd] using k, ex⟩
theorem sign54 (h54 : FT 54 = some (.code A54)) (hw : H.Wf) {v : AV} {m : Bool} {ds : List Nat} (h : NumR H v m ds) : Cp FT 54 [v] H (fun r H' => r = .int .i64 (zval m ds).sign ∧ Ext H H') := by
  obtain ⟨dg, nm, hlen, u, rfl, hcu, hu⟩ := h
  refine Cp_code A54 h54 rfl ?_
  obtain ⟨ou, cu⟩ := hu.one
  have hone : allOne [AV.bool m, u] = true := by simp [allOne_of ou]
  obtain ⟨g0, e0⟩ := push_new hw (.cells [.bool m, u])
  have l0 : loadA (H.push (.cells [.bool m, u])) none (.ptr H.next 0) = some (.bool m) := load_get g0 rfl
  have l1 : loadA (H.push (.cells [.bool m, u])) none (.ptr H.next 1) = some u := load_get g0 rfl
  by_cases hd : ds = []
  · subst hd
    simp [A54, hone, l1, hu.len, zval, dval]
    exact e0
  · have hl0 : ((ds.length : Int) == 0) = false := by
      rw [beq_eq_false_iff_ne]
      have : ds.length ≠ 0 := fun q => hd (List.length_eq_zero_iff.1 q)
      omega
    have hpos := dval_pos nm hd
    cases m with
    | true =>
      have hs : (zval true ds).sign = -1 := by unfold zval; rw [if_pos rfl]; exact Int.sign_eq_neg_one_of_neg (by omega)
      simp [A54, hone, l0, l1, hu.len, hl0, hs]
      exact e0
    | false =>
      have hs : (zval false ds).sign = 1 := by unfold zval; rw [if_neg (by simp)]; exact Int.sign_eq_one_of_pos (by omega)
      simp [A54, hone, l0, l1, hu.len, hl0, hs]
      exact e0
end
end Go.Proofs.YtmgaaieofdjfdaaDoor
