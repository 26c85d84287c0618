/- The table, with the library's sorts told. No claim by itself. -/
import Derived.Test.YtcepchipgjpkhaaTab
import Derived.Test.YtcepchipgjpkhaaED
import Derived.Test.YtcepchipgjpkhaaE50
import Derived.Test.YtcepchipgjpkhaaEH
import Derived.Test.YtcepchipgjpkhaaSh
namespace Go.Proofs.Ytcepchipgjpkhaa
open Go Go.AI Go.Sort
def zbs0 (x : Int × Int) : List Int := [x.1, x.2]
def cf2 (x y : Int × Int) : Int := if x.1 < y.1 then -1 else if y.1 < x.1 then 1 else if x.2 < y.2 then -1 else if y.2 < x.2 then 1 else 0
theorem zaq5 (x y : Int × Int) : ltOf cf2 x y = ltS x y := by
 unfold ltOf cf2 ltS
 by_cases h1 : x.1 < y.1
 ·simp [h1]
 ·by_cases h2 : y.1 < x.1
  ·have : ¬ x.1 = y.1 := by omega
   simp [h1, h2, this]
  ·have : x.1 = y.1 := by omega
   by_cases h3 : x.2 < y.2
   ·simp [h3, this]
   ·by_cases h4 : y.2 < x.2 <;> simp [h3, h4, this]
theorem zb09 : SWO (ltOf cf2) where
 irrefl x := by rw [zaq5]; simp [ltS]
 trans x y z h1 h2 := by rw [zaq5] at *; simp only [ltS, decide_eq_true_eq] at *; omega
 ntrans x y z h1 h2 := by rw [zaq5] at *; simp only [ltS, decide_eq_false_iff_not] at *; omega
theorem zb08 (x y : Int × Int) (h1 : ltOf cf2 x y = false) (h2 : ltOf cf2 y x = false) : x = y := by
 rw [zaq5] at h1 h2
 simp only [ltS, decide_eq_false_iff_not] at h1 h2
 exact Prod.ext (by omega) (by omega)
theorem zcc3 (l : List (Int × Int)) : (l.mergeSort fun x y => !(ltOf cf2) y x) = srtS l := by
 unfold srtS srtB
 congr 1
 funext x y
 rw [zaq5]
section
variable {FT : Nat -> Option FnD} {H : Heap}
theorem zce6 (h113 : FT 113 = some (.code A113)) {n : Int} : Cp FT 113 [.int .i64 n] H (fun r H' => r = .bool false /\ H' = H) := by
 refine zb1 A113 h113 rfl ?_
 simp [A113]
theorem zk8 (h88 : FT 88 = some (.code A88)) (h113 : FT 113 = some (.code A113)) {a b : Int} : Cp FT 88 [.int .i64 a, .int .i64 b] H (fun r H' => r = .int .i64 (if a < b then -1 else if b < a then 1 else 0) /\ H' = H) := by
 refine zb1 A88 h88 rfl ?_
 simp [A88]
 refine (zce6 h113).mono ?_
 rintro _ _ ⟨rfl, rfl⟩
 simp
 refine (zce6 h113).mono ?_
 rintro _ _ ⟨rfl, rfl⟩
 by_cases c1 : a < b
 ·simp [c1]
 ·by_cases c2 : b < a
  ·simp [c1, c2]
  ·simp [c1, c2]
def orL : List Int -> Int
 | [] => 0
 | x :: l => if x = 0 then orL l else x
theorem zbq8 {l : List Int} {i : Nat} {x : Int} (h : l[i]? = some x) : orL (l.drop i) = if x = 0 then orL (l.drop (i + 1)) else x := by rw [zo0 h]; rfl
theorem or40 (h87 : FT 87 = some (.code A87)) {v : AV} {l : List Int} (h : Ints H v l) (hl : l.length <= 1000000) : Cp FT 87 [v] H (fun r H' => r = .int .i64 (orL l) /\ H' = H) := by
 refine zb1 A87 h87 rfl ?_
 simp [A87, h.len]
 refine zb7 (fun m τ H' => H' = H /\ ∃ i : Nat, i <= l.length /\ m = l.length - i /\ Env.at τ 3 = .int .i64 0 /\ Env.at τ 6 = v /\ Env.at τ 7 = .int .i64 l.length /\ Env.at τ 8 = .int .i64 i /\ orL (l.drop i) = orL l) ?_ l.length _ _ ⟨rfl, 0, by omega, by omega, by simp, by simp, by simp, by simp, by simp⟩
 rintro m τ _ ⟨rfl, i, hi, rfl, t3, t6, t7, t8, ho⟩
 simp only [zi9, zd3]
 by_cases c : i < l.length
 ·obtain ⟨p, x, hx, hp, hld⟩ := Ints.idx h (k := .i64) (i := i) (by omega) (by omega)
  rw [Int.toNat_natCast] at hx
  rw [zbq8 hx] at ho
  have w : IntKind.i64.wrap ((i : Int) + 1) = ((i + 1 : Nat) : Int) := wrap64 (by omega) (by omega)
  by_cases q : x = 0
  ·rw [if_pos q] at ho
   simp [c, t3, t6, t7, t8, hp, hld, q, w]
   exact ⟨_, by omega, i + 1, by omega, rfl, by simp, ho⟩
  ·rw [if_neg q] at ho
   have q' : ¬ orL l = 0 := by rw [<- ho]; exact q
   simp [c, t3, t6, t7, t8, hp, hld, ho, q']
 ·have c' : ¬ ((i : Int) < l.length) := by omega
  rw [List.drop_of_length_le (by omega)] at ho
  simp [c, t3, t7, t8, <- ho, orL]
end
end Go.Proofs.Ytcepchipgjpkhaa
