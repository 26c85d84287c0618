/- Is it a matching: both askings. No claim by itself. -/
import Derived.Test.YtjhhicmlflelhaaS3
namespace Go.Proofs.Ytjhhicmlflelhaa
open Go Go.AI
theorem eqlPair (x y : Int × Int) : binA .eql (.flat [.int, .int]) (.agg (pairc x)) (.agg (pairc y)) = some (.bool (decide (x = y))) := by
  obtain ⟨a, b⟩ := x
  obtain ⟨c, d⟩ := y
  have e : binA .eql (.flat [.int, .int]) (.agg (pairc (a, b))) (.agg (pairc (c, d))) = (match some (a == c) with | some true => (match some (b == d) with | some true => some true | some false => some false | none => none) | some false => some false | none => none : Option Bool).map .bool := rfl
  rw [e]
  cases h1 : (a == c) <;> cases h2 : (b == d) <;> simp_all
theorem index36 {FT : Nat → Option FnD} (h36 : FT 36 = some (.code A36)) {v : AV} {l : List (Int × Int)} {y : Int × Int} {H : Heap} (h : Pairs H v l) (hw : H.Wf) (hl : l.length ≤ 9223372036854775806) :
    Cp FT 36 [v, .agg (pairc y)] H (fun r H' => (∃ k : Int, r = .int .i64 k ∧ (0 ≤ k ↔ hasT (fun x => decide (y = x)) l = true)) ∧ Ext H H') := by
  refine Cp_code A36 h36 rfl ?_
  have he := Ext.push hw (.cells (pairc y))
  have hb : allOne (pairc y) = true := rfl
  have hc0 : AV.cells (.agg (pairc y)) = pairc y := rfl
  have l1 : loadA (H.push (.cells (pairc y))) (some 2) (.ptr H.next 0) = some (.agg (pairc y)) := by rw [loadA_ptr, cellsAt_push]; rfl
  have h' := h.ext he
  simp [A36, hb, hc0, h.len]
  refine Wp_loop (fun m τ H' => H' = H.push (.cells (pairc y)) ∧ ∃ i : Nat, i ≤ l.length ∧ m = l.length - i ∧ Env.at τ 0 = v ∧ Env.at τ 3 = .ptr H.next 0 ∧ Env.at τ 7 = .int .i64 l.length ∧ Env.at τ 8 = .int .i64 i ∧ hasT (fun x => decide (y = x)) (l.take i) = false) ?_ l.length _ _ ⟨rfl, 0, by simp, by simp, by simp, by simp, by simp, by simp, hasT_zero⟩
  rintro m τ H' ⟨rfl, i, hi, rfl, t0, t3, t7, t8, hall⟩
  simp only [Wp_seq, Wp_region]
  by_cases hc : i < l.length
  · obtain ⟨o, off, x, hx, hp, hl0, hl1, hl2⟩ := Pairs.idx h' (k := .i64) (i := i) (by omega) (by omega)
    have hx' : l[i]? = some x := hx
    have e0 := eqlPair y x
    by_cases htx : y = x
    · have : hasT (fun x => decide (y = x)) l = true := hasT_of hx' (by simp [htx])
      have e1 : binA .eql (.flat [.int, .int]) (.agg (pairc y)) (.agg (pairc x)) = some (.bool true) := by rw [e0]; simp [htx]
      simp [hc, t0, t3, t7, t8, hp, hl0, l1, e1, this, he]
    · simp [hc, t0, t3, t7, t8, hp, hl0, l1, e0, htx]
      exact ⟨_, by omega, i + 1, by omega, rfl, wrap64 (by omega) (by omega), by rw [hasT_succ hx', hall]; simp [htx]⟩
  · rw [List.take_of_length_le (by omega)] at hall
    simp [hc, t0, t3, t7, t8, hall, he]
theorem contains28 {FT : Nat → Option FnD} (h28 : FT 28 = some (.code A28)) (h36 : FT 36 = some (.code A36)) {v : AV} {l : List (Int × Int)} {y : Int × Int} {H : Heap} (h : Pairs H v l) (hw : H.Wf) (hl : l.length ≤ 9223372036854775806) :
    Cp FT 28 [v, .agg (pairc y)] H (fun r H' => r = .bool (hasT (fun x => decide (y = x)) l) ∧ Ext H H') := by
  refine Cp_code A28 h28 rfl ?_
  have he := Ext.push hw (.cells (pairc y))
  have hb : allOne (pairc y) = true := rfl
  have hc0 : AV.cells (.agg (pairc y)) = pairc y := rfl
  have l1 : loadA (H.push (.cells (pairc y))) (some 2) (.ptr H.next 0) = some (.agg (pairc y)) := by rw [loadA_ptr, cellsAt_push]; rfl
  simp [A28, hb, hc0, l1]
  refine (index36 h36 (h.ext he) he.wf hl).mono ?_
  rintro r H' ⟨⟨k, rfl, hk⟩, he'⟩
  simp [he.trans he']
  cases hh : hasT (fun x => decide (y = x)) l <;> simp [hh] at hk <;> simp [hk]
def hasE (a b : Int) (x : Int × Int) : Bool := ((x.1 == a) && (x.2 == b)) || ((x.1 == b) && (x.2 == a))
theorem joined26 {FT : Nat → Option FnD} (h26 : FT 26 = some (.code A26)) {v : AV} {l : List (Int × Int)} {a b : Int} {H : Heap} (h : Pairs H v l) (hl : l.length ≤ 9223372036854775806) :
    Cp FT 26 [v, .int .i64 a, .int .i64 b] H (fun r H' => r = .bool (hasT (hasE a b) l) ∧ H' = H) := by
  refine Cp_code A26 h26 rfl ?_
  simp [A26]
  refine Wp_loop (fun m τ H' => H' = H ∧ ∃ i : Nat, i ≤ l.length ∧ m = l.length - i ∧ Env.at τ 0 = v ∧ Env.at τ 1 = .int .i64 a ∧ Env.at τ 2 = .int .i64 b ∧ Env.at τ 7 = .int .i64 i ∧ hasT (hasE a b) (l.take i) = false) ?_ l.length _ _ ⟨rfl, 0, by simp, by simp, by simp, by simp, by simp, by simp, hasT_zero⟩
  rintro m τ H' ⟨rfl, i, hi, rfl, t0, t1, t2, t7, hall⟩
  simp only [Wp_seq, Wp_region]
  by_cases hc : i < l.length
  · obtain ⟨o, off, x, hx, hp, hl0, hl1, hl2⟩ := Pairs.idx h (k := .i64) (i := i) (by omega) (by omega)
    have hx' : l[i]? = some x := hx
    have yes : hasE a b x = true → hasT (hasE a b) l = true := hasT_of hx'
    have no : hasE a b x = false → hasT (hasE a b) (l.take (i + 1)) = false := fun q => by rw [hasT_succ hx', hall, q]; rfl
    have w : IntKind.i64.wrap ((i : Int) + 1) = ((i + 1 : Nat) : Int) := wrap64 (by omega) (by omega)
    have fin : hasE a b x = false → ∃ m', m' < l.length - i ∧ ∃ i_1 : Nat, i_1 ≤ l.length ∧ m' = l.length - i_1 ∧ IntKind.i64.wrap ((i : Int) + 1) = (i_1 : Int) ∧ hasT (hasE a b) (l.take i_1) = false :=
      fun q => ⟨_, by omega, i + 1, by omega, rfl, w, no q⟩
    cases d1 : (x.1 == a) <;> cases d2 : (x.2 == b) <;> cases d3 : (x.1 == b) <;> cases d4 : (x.2 == a) <;> simp [h.len, hc, t0, t1, t2, t7, hp, hl1, hl2, d1, d2, d3, d4] <;>
      first | exact yes (by simp [hasE, d1, d2, d3, d4]) | exact fin (by simp [hasE, d1, d2, d3, d4])
  · rw [List.take_of_length_le (by omega)] at hall
    simp [h.len, hc, t0, t1, t2, t7, hall]
end Go.Proofs.Ytjhhicmlflelhaa
