/- How many pairs: both countings. No claim by itself. -/
import Derived.Test.YtcepchipgjpkhaaTab
import Derived.Test.YtcepchipgjpkhaaE23
namespace Go.Proofs.Ytcepchipgjpkhaa
open Go Go.AI
def cnt (xs : List Int) : Nat := (xs.filter (fun x => decide (x >= 0))).length
theorem zbu5 {xs : List Int} {i : Nat} {x : Int} (h : xs[i]? = some x) : cnt (xs.take (i + 1)) = cnt (xs.take i) + if 0 <= x then 1 else 0 := by
 unfold cnt
 rw [List.take_add_one, h]
 by_cases hx : 0 <= x <;> simp [List.filter_append, hx]
theorem zch2 (xs : List Int) : cnt xs <= xs.length := by unfold cnt; exact List.length_filter_le _ _
theorem zax8 (xs : List Int) (i : Nat) : cnt (xs.take i) <= i := Nat.le_trans (zch2 _) (by simp; omega)
theorem zcc6 {FT : Nat -> Option FnD} (h16 : FT 70 = some (.code A70)) {v : AV} {xs : List Int} {H : Heap} (h : Ints H v xs) (hl : xs.length <= 9223372036854775806) :
  Cp FT 70 [v] H (fun r H' => r = .int .i64 (cnt xs / 2 : Nat) /\ H' = H) := by
 refine zb1 A70 h16 rfl ?_
 simp [A70, h.len]
 refine zb7 (fun m τ H' => H' = H /\ ∃ i : Nat, i <= xs.length /\ m = xs.length - i /\ Env.at τ 6 = v /\ Env.at τ 7 = .int .i64 xs.length /\ Env.at τ 8 = .int .i64 i /\ Env.at τ 3 = .int .i64 (cnt (xs.take i))) ?_ xs.length _ _ ⟨rfl, 0, by simp, by simp, by simp, by simp, by simp, by simp [cnt]⟩
 rintro m τ _ ⟨rfl, i, hi, rfl, t6, t7, t8, t3⟩
 simp [t6, t7, t8, t3]
 have h2 := zax8 xs i
 by_cases hc : i < xs.length
 ·obtain ⟨p, x, hx, hp, hld⟩ := Ints.idx h (k := .i64) (i := i) (by omega) (by omega)
  simp [hc, t6, t7, t8, t3, hp, hld]
  have h3 := zbu5 hx
  split <;> rename_i q
  ·exact ⟨_, by omega, i + 1, by omega, rfl, wrap64 (by omega) (by omega), by simp [q] at h3; rw [h3, wrap64] <;> omega⟩
  ·exact ⟨_, by omega, i + 1, by omega, rfl, wrap64 (by omega) (by omega), by simp [q] at h3; rw [h3]⟩
 ·simp [hc]
  have : xs.take i = xs := List.take_of_length_le (by omega)
  rw [this] at h2 ⊢
  rw [wrap64] <;> omega
end Go.Proofs.Ytcepchipgjpkhaa
