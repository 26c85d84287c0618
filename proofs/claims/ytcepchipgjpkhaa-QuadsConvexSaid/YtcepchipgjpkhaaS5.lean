/- Is it a matching: both askings. No claim by itself. -/
import Derived.Test.YtcepchipgjpkhaaSS
namespace Go.Proofs.Ytcepchipgjpkhaa
open Go Go.AI
def okAt (n : Int) (l : List (Int × Int)) (mate : List Int) (i : Nat) : Bool :=
 match mate[i]? with
 | some k => (k == -1) || (!decide (k < 0) && !decide (n <= k) && (mate.getD k.toNat 0 == (i : Int)) && z00 (hasE i k) l)
 | none => false
def zah0 (n : Int) (l : List (Int × Int)) (mate : List Int) (i : Nat) : Bool := (List.range i).all (okAt n l mate)
def isM (n : Int) (l : List (Int × Int)) (mate : List Int) : Bool := zj2 n l && ((mate.length : Int) == n) && zah0 n l mate mate.length
theorem za87 {n : Int} {l : List (Int × Int)} {mate : List Int} {i : Nat} : zah0 n l mate (i + 1) = (zah0 n l mate i && okAt n l mate i) := by
 unfold zah0; rw [List.range_succ]; simp
theorem za86 {n : Int} {l : List (Int × Int)} {mate : List Int} : zah0 n l mate 0 = true := rfl
theorem za20 {n : Int} {l : List (Int × Int)} {mate : List Int} {i : Nat} (hi : i < mate.length) (h : okAt n l mate i = false) : isM n l mate = false := by
 have : zah0 n l mate mate.length = false := by
  unfold zah0; rw [List.all_eq_false]; exact ⟨i, List.mem_range.2 hi, by simp [h]⟩
 unfold isM; rw [this]; simp
theorem zax0 {l : List (Int × Int)} {a b : Int} : z00 (hasE a b) l = (z00 (fun x => decide ((a, b) = x)) l || z00 (fun x => decide ((b, a) = x)) l) := by
 unfold z00
 induction l with
 | nil => rfl
 | cons x l ih =>
  simp only [List.any_cons, ih]
  obtain ⟨c, d⟩ := x
  have e1 : decide ((a, b) = (c, d)) = ((c == a) && (d == b)) := by
   rw [Bool.eq_iff_iff]; simp [Prod.mk.injEq]; constructor <;> rintro ⟨rfl, rfl⟩ <;> simp
  have e2 : decide ((b, a) = (c, d)) = ((c == b) && (d == a)) := by
   rw [Bool.eq_iff_iff]; simp [Prod.mk.injEq]; constructor <;> rintro ⟨rfl, rfl⟩ <;> simp
  rw [e1, e2]
  simp only [hasE]
  cases (c == a && d == b) <;> cases (c == b && d == a) <;> simp
end Go.Proofs.Ytcepchipgjpkhaa
