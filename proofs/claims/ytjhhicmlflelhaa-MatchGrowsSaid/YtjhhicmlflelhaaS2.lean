/- Is it a graph: both askings. No claim by itself. -/
import Derived.Test.YtjhhicmlflelhaaTab
import Derived.Test.YtjhhicmlflelhaaE24
namespace Go.Proofs.Ytjhhicmlflelhaa
open Go Go.AI
def badE (n : Int) (s : Int × Int) : Bool := decide (s.1 < 0) || decide (s.2 < 0) || decide (n ≤ s.1) || decide (n ≤ s.2) || decide (s.1 = s.2)
def okTo (n : Int) (l : List (Int × Int)) (i : Nat) : Bool := (l.take i).all fun s => !badE n s
def rightM (n : Int) (l : List (Int × Int)) : Bool := decide (0 ≤ n) && decide (n ≤ 1000) && l.all fun s => !badE n s
theorem okTo_zero {n : Int} {l : List (Int × Int)} : okTo n l 0 = true := by simp [okTo]
theorem okTo_succ {n : Int} {l : List (Int × Int)} {i : Nat} {x : Int × Int} (h : l[i]? = some x) : okTo n l (i + 1) = (okTo n l i && !badE n x) := by
  unfold okTo; rw [List.take_add_one, h]; simp
theorem right_no {n : Int} {l : List (Int × Int)} {i : Nat} {x : Int × Int} (h : l[i]? = some x) (hb : badE n x = true) : rightM n l = false := by
  have hx : x ∈ l := List.mem_of_getElem? h
  have : (l.all fun s => !badE n s) = false := by
    rw [List.all_eq_false]; exact ⟨x, hx, by simp [hb]⟩
  unfold rightM; rw [this]; simp
theorem right_yes {n : Int} {l : List (Int × Int)} {i : Nat} (hi : l.length ≤ i) (h : okTo n l i = true) : rightM n l = (decide (0 ≤ n) && decide (n ≤ 1000)) := by
  unfold okTo at h; rw [List.take_of_length_le hi] at h
  unfold rightM; rw [h]; simp
theorem right11 {FT : Nat → Option FnD} (h11 : FT 11 = some (.code A11)) {n : Int} {v : AV} {l : List (Int × Int)} {H : Heap} (h : Pairs H v l) (hl : l.length ≤ 9223372036854775806) :
    Cp FT 11 [.int .i64 n, v] H (fun r H' => r = .bool (rightM n l) ∧ H' = H) := by
  refine Cp_code A11 h11 rfl ?_
  simp [A11]
  refine Wp_loop (fun m τ H' => H' = H ∧ ∃ i : Nat, i ≤ l.length ∧ m = l.length - i ∧ Env.at τ 0 = .int .i64 n ∧ Env.at τ 1 = v ∧ Env.at τ 5 = .int .i64 i ∧ okTo n l i = true) ?_ l.length _ _ ⟨rfl, 0, by simp, by simp, by simp, by simp, by simp, okTo_zero⟩
  rintro m τ _ ⟨rfl, i, hi, rfl, t0, t1, t5, hall⟩
  simp only [Wp_seq, Wp_region, Wp_block]
  by_cases hc : i < l.length
  · obtain ⟨o, off, x, hx, hp, _, hl1, hl2⟩ := Pairs.idx h (k := .i64) (i := i) (by omega) (by omega)
    have hx' : l[i]? = some x := hx
    by_cases c1 : x.1 < 0
    · simp [hc, t0, t1, t5, hp, hl1, hl2, h.len, c1]
      exact right_no hx' (by simp [badE, c1])
    by_cases c2 : x.2 < 0
    · simp [hc, t0, t1, t5, hp, hl1, hl2, h.len, c1, c2]
      exact right_no hx' (by simp [badE, c2])
    by_cases c3 : n ≤ x.1
    · simp [hc, t0, t1, t5, hp, hl1, hl2, h.len, c1, c2, c3]
      exact right_no hx' (by simp [badE, c3])
    by_cases c4 : n ≤ x.2
    · simp [hc, t0, t1, t5, hp, hl1, hl2, h.len, c1, c2, c3, c4]
      exact right_no hx' (by simp [badE, c4])
    by_cases c5 : x.1 = x.2
    · simp [hc, t0, t1, t5, hp, hl1, hl2, h.len, c1, c2, c3, c4, c5]
      exact right_no hx' (by simp [badE, c5])
    · simp [hc, t0, t1, t5, hp, hl1, hl2, h.len, c1, c2, c3, c4, c5]
      exact ⟨_, by omega, i + 1, by omega, rfl, wrap64 (by omega) (by omega), by rw [okTo_succ hx', hall]; simp [badE, c1, c2, c3, c4, c5]⟩
  · rw [right_yes (by omega) hall]
    by_cases c1 : 0 ≤ n <;> simp [hc, t0, t1, t5, h.len, c1]
end Go.Proofs.Ytjhhicmlflelhaa
