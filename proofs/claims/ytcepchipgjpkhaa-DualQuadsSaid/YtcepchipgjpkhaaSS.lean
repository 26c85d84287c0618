/- Is it a graph: both askings. No claim by itself. -/
import Derived.Test.YtcepchipgjpkhaaTab
import Derived.Test.YtcepchipgjpkhaaE24
namespace Go.Proofs.Ytcepchipgjpkhaa
open Go Go.AI
def badE (n : Int) (s : Int × Int) : Bool := decide (s.1 < 0) || decide (s.2 < 0) || decide (n ≤ s.1) || decide (n ≤ s.2) || decide (s.1 = s.2)
def okTo (n : Int) (l : List (Int × Int)) (i : Nat) : Bool := (l.take i).all fun s => !badE n s
def rightM (n : Int) (l : List (Int × Int)) : Bool := decide (0 ≤ n) && decide (n ≤ 1000) && l.all fun s => !badE n s
end Go.Proofs.Ytcepchipgjpkhaa

/- Is it a graph: the program's own asking, by a closure. No claim by itself. -/
namespace Go.Proofs.Ytcepchipgjpkhaa
open Go Go.AI
def hasT {α : Type} (t : α → Bool) (l : List α) : Bool := l.any t
theorem hasT_succ {α : Type} {t : α → Bool} {l : List α} {i : Nat} {x : α} (h : l[i]? = some x) : hasT t (l.take (i + 1)) = (hasT t (l.take i) || t x) := by
  unfold hasT; rw [List.take_add_one, h]; simp [List.any_append]
theorem hasT_of {α : Type} {t : α → Bool} {l : List α} {i : Nat} {x : α} (h : l[i]? = some x) (ht : t x = true) : hasT t l = true := List.any_eq_true.2 ⟨x, List.mem_of_getElem? h, ht⟩
theorem hasT_zero {α : Type} {t : α → Bool} {l : List α} : hasT t (l.take 0) = false := by simp [hasT]
end Go.Proofs.Ytcepchipgjpkhaa

/- Is it a matching: both askings. No claim by itself. -/
namespace Go.Proofs.Ytcepchipgjpkhaa
open Go Go.AI
theorem eqlPair (x y : Int × Int) : binA .eql (.flat [.int, .int]) (.agg (pairc x)) (.agg (pairc y)) = some (.bool (decide (x = y))) := by
  obtain ⟨a, b⟩ := x
  obtain ⟨c, d⟩ := y
  have e : binA .eql (.flat [.int, .int]) (.agg (pairc (a, b))) (.agg (pairc (c, d))) = (match some (a == c) with | some true => (match some (b == d) with | some true => some true | some false => some false | none => none) | some false => some false | none => none : Option Bool).map .bool := rfl
  rw [e]
  cases h1 : (a == c) <;> cases h2 : (b == d) <;> simp_all
theorem index36 {FT : Nat → Option FnD} (h36 : FT 134 = some (.code A134)) {v : AV} {l : List (Int × Int)} {y : Int × Int} {H : Heap} (h : Pairs H v l) (hw : H.Wf) (hl : l.length ≤ 9223372036854775806) :
    Cp FT 134 [v, .agg (pairc y)] H (fun r H' => (∃ k : Int, r = .int .i64 k ∧ (0 ≤ k ↔ hasT (fun x => decide (y = x)) l = true)) ∧ Ext H H') := by
  refine Cp_code A134 h36 rfl ?_
  have he := Ext.push hw (.cells (pairc y))
  have hb : allOne (pairc y) = true := rfl
  have hc0 : AV.cells (.agg (pairc y)) = pairc y := rfl
  have l1 : loadA (H.push (.cells (pairc y))) (some 2) (.ptr H.next 0) = some (.agg (pairc y)) := by rw [loadA_ptr, cellsAt_push]; rfl
  have h' := h.ext he
  simp [A134, hb, hc0, h.len]
  refine Wp_loop (fun m τ H' => H' = H.push (.cells (pairc y)) ∧ ∃ i : Nat, i ≤ l.length ∧ m = l.length - i ∧ Env.at τ 0 = v ∧ Env.at τ 3 = .ptr H.next 0 ∧ Env.at τ 7 = .int .i64 l.length ∧ Env.at τ 8 = .int .i64 i ∧ hasT (fun x => decide (y = x)) (l.take i) = false) ?_ l.length _ _ ⟨rfl, 0, by simp, by simp, by simp, by simp, by simp, by simp, hasT_zero⟩
  rintro m τ H' ⟨rfl, i, hi, rfl, t0, t3, t7, t8, hall⟩
  simp only [Wp_seq, Wp_region]
  by_cases hc : i < l.length
  · obtain ⟨o, off, x, hx, hp, hl0, hl1, hl2⟩ := Pairs.idx h' (k := .i64) (i := i) (by omega) (by omega)
    have hx' : l[i]? = some x := hx
    have e0 := eqlPair y x
    by_cases htx : y = x
    · have : hasT (fun x => decide (y = x)) l = true := hasT_of hx' (by simp [htx])
      have e1 : binA .eql (.flat [.int, .int]) (.agg (pairc y)) (.agg (pairc x)) = some (.bool true) := by rw [e0]; simp [htx]
      simp [hc, t0, t3, t7, t8, hp, hl0, l1, e1, this, he]
    · simp [hc, t0, t3, t7, t8, hp, hl0, l1, e0, htx]
      exact ⟨_, by omega, i + 1, by omega, rfl, wrap64 (by omega) (by omega), by rw [hasT_succ hx', hall]; simp [htx]⟩
  · rw [List.take_of_length_le (by omega)] at hall
    simp [hc, t3, t7, t8, hall, he]
theorem contains28 {FT : Nat → Option FnD} (h28 : FT 108 = some (.code A108)) (h36 : FT 134 = some (.code A134)) {v : AV} {l : List (Int × Int)} {y : Int × Int} {H : Heap} (h : Pairs H v l) (hw : H.Wf) (hl : l.length ≤ 9223372036854775806) :
    Cp FT 108 [v, .agg (pairc y)] H (fun r H' => r = .bool (hasT (fun x => decide (y = x)) l) ∧ Ext H H') := by
  refine Cp_code A108 h28 rfl ?_
  have he := Ext.push hw (.cells (pairc y))
  have hb : allOne (pairc y) = true := rfl
  have hc0 : AV.cells (.agg (pairc y)) = pairc y := rfl
  have l1 : loadA (H.push (.cells (pairc y))) (some 2) (.ptr H.next 0) = some (.agg (pairc y)) := by rw [loadA_ptr, cellsAt_push]; rfl
  simp [A108, hb, hc0, l1]
  refine (index36 h36 (h.ext he) he.wf hl).mono ?_
  rintro r H' ⟨⟨k, rfl, hk⟩, he'⟩
  simp [he.trans he']
  cases hh : hasT (fun x => decide (y = x)) l <;> simp [hh] at hk <;> simp [hk]
def hasE (a b : Int) (x : Int × Int) : Bool := ((x.1 == a) && (x.2 == b)) || ((x.1 == b) && (x.2 == a))
end Go.Proofs.Ytcepchipgjpkhaa
