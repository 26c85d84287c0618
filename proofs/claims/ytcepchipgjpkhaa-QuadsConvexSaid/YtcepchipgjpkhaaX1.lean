/- The table with the library's sorts. No claim by itself. -/
import Derived.Test.YtcepchipgjpkhaaX
namespace Go.Proofs.Ytcepchipgjpkhaa
open Go Go.AI Go.Sort
theorem zap9 : ∀ {xs ys : List (Int × Int)}, xs.flatMap za2 = ys.flatMap za2 -> xs = ys
 | [], [], _ => rfl
 | [], y :: ys, h => by simp [za2] at h
 | x :: xs, [], h => by simp [za2] at h
 | x :: xs, y :: ys, h => by
  simp only [List.flatMap_cons, za2, List.cons_append, List.nil_append, List.cons.injEq, AV.int.injEq, true_and] at h
  obtain ⟨h1, h2, h3⟩ := h
  rw [zap9 h3, Prod.ext h1 h2]
theorem fn85 : FnOk Try.prog 85 := ⟨_, Try.func85, by kernel_rfl, rfl⟩
def K85 (args : List AV) (H : Heap) (v : AV) (H' : Heap) : Prop :=
 v = .tup [] /\ ((args = [.nils, .fn 92 [] []] /\ H' = H) \/ ∃ o lo ex xs, args = [.slc o 0 xs.length 2 lo ex, .fn 92 [] []] /\ H.get o = some (.cells (xs.flatMap za2)) /\ H' = H.set o (.cells ((srtS xs).flatMap za2)))
def K62 (args : List AV) (H : Heap) (v : AV) (H' : Heap) : Prop :=
 v = .tup [] /\ ((args = [.nils] /\ H' = H) \/ ∃ o lo ex, ∃ xs : List Int, args = [.slc o 0 xs.length 1 lo ex] /\ H.get o = some (.cells (xs.map (.int .i64 ·))) /\ H' = H.set o (.cells ((srtI xs).map (.int .i64 ·))))
noncomputable def FS (f : Nat) : Option FnD := if f = 85 then some (.ext (zai3 Try.prog 85 K85)) else if f = 62 then some (.ext (zai3 Try.prog 62 K62)) else FT f
theorem zcs4 {G : World -> Prop} : zg3 Try.prog G FS := by
 intro f
 unfold FS
 split
 ·rename_i h; subst h; exact ⟨fun af e => (by cases e), fun g e => (by cases e; exact zad8)⟩
 split
 ·rename_i h; subst h; exact ⟨fun af e => (by cases e), fun g e => (by cases e; exact zad8)⟩
 ·exact zb86 f
section
variable {FT' : Nat -> Option FnD}
end
end Go.Proofs.Ytcepchipgjpkhaa
