/- The table with the library's sorts. No claim by itself. -/
import Derived.Test.YtcepchipgjpkhaaX
namespace Go.Proofs.Ytcepchipgjpkhaa
open Go Go.AI Go.Sort
theorem pairs_inj : ∀ {xs ys : List (Int × Int)}, xs.flatMap pairc = ys.flatMap pairc → xs = ys
  | [], [], _ => rfl
  | [], y :: ys, h => by simp [pairc] at h
  | x :: xs, [], h => by simp [pairc] at h
  | x :: xs, y :: ys, h => by
    simp only [List.flatMap_cons, pairc, List.cons_append, List.nil_append, List.cons.injEq, AV.int.injEq, true_and] at h
    obtain ⟨h1, h2, h3⟩ := h
    rw [pairs_inj h3, Prod.ext h1 h2]
theorem ints_inj : ∀ {xs ys : List Int}, xs.map (AV.int .i64 ·) = ys.map (AV.int .i64 ·) → xs = ys
  | [], [], _ => rfl
  | [], y :: ys, h => by simp at h
  | x :: xs, [], h => by simp at h
  | x :: xs, y :: ys, h => by
    simp only [List.map_cons, List.cons.injEq, AV.int.injEq, true_and] at h
    rw [ints_inj h.2, h.1]
theorem fn85 : FnOk Try.prog 85 := ⟨_, Try.func85, by kernel_rfl, rfl⟩
theorem fn62 : FnOk Try.prog 62 := ⟨_, Try.func62, by kernel_rfl, rfl⟩
def K85 (args : List AV) (H : Heap) (v : AV) (H' : Heap) : Prop :=
  v = .tup [] ∧ ((args = [.nils, .fn 92 [] []] ∧ H' = H) ∨ ∃ o lo ex xs, args = [.slc o 0 xs.length 2 lo ex, .fn 92 [] []] ∧ H.get o = some (.cells (xs.flatMap pairc)) ∧ H' = H.set o (.cells ((srtS xs).flatMap pairc)))
def K62 (args : List AV) (H : Heap) (v : AV) (H' : Heap) : Prop :=
  v = .tup [] ∧ ((args = [.nils] ∧ H' = H) ∨ ∃ o lo ex, ∃ xs : List Int, args = [.slc o 0 xs.length 1 lo ex] ∧ H.get o = some (.cells (xs.map (.int .i64 ·))) ∧ H' = H.set o (.cells ((srtI xs).map (.int .i64 ·))))
noncomputable def FS (f : Nat) : Option FnD := if f = 85 then some (.ext (pickG Try.prog 85 K85)) else if f = 62 then some (.ext (pickG Try.prog 62 K62)) else FT f
theorem FS_ok {G : World → Prop} : TableOk Try.prog G FS := by
  intro f
  unfold FS
  split
  · rename_i h; subst h; exact ⟨fun af e => (by cases e), fun g e => (by cases e; exact pick_ok)⟩
  split
  · rename_i h; subst h; exact ⟨fun af e => (by cases e), fun g e => (by cases e; exact pick_ok)⟩
  · exact FT_ok f
theorem srtI_eq (l : List Int) : (l.mergeSort fun x y => decide (x ≤ y)) = srtI l := by
  unfold srtI srtB
  congr 1
  funext x y
  unfold ltI
  by_cases h : x ≤ y
  · have : ¬ y < x := by omega
    simp [h, this]
  · have : y < x := by omega
    simp [h, this]
theorem good62 {H : Heap} {o lo : Nat} {ex : Bool} {xs : List Int} (hg : H.get o = some (.cells (xs.map (.int .i64 ·)))) (hf : H.floor ≤ o) (hx : xs ≠ []) (hn : xs.length < 4611686018427387904) :
    AI.Good Try.prog 62 [.slc o 0 xs.length 1 lo ex] H (.tup []) (H.set o (.cells ((srtI xs).map (.int .i64 ·)))) :=
  by
  rw [← srtI_eq]
  exact sort1_good fn62 (fun blk off cap zs w h1 h2 h3 => Try.slices_Sort_int blk off cap zs w h1 h2 h3) hg hf hx hn
theorem good62n {H : Heap} : AI.Good Try.prog 62 [.nils] H (.tup []) H := sort1_none Try.prog fn62 fun p cap w => Try.slices_Sort_int_none p cap w
section
variable {FT' : Nat → Option FnD}
theorem sort62 (hs : FT' 62 = FS 62) {H : Heap} {o lo : Nat} {ex : Bool} {xs : List Int} (hg : H.get o = some (.cells (xs.map (.int .i64 ·)))) (hf : H.floor ≤ o) (hx : xs ≠ []) (hn : xs.length < 4611686018427387904) :
    Cp FT' 62 [.slc o 0 xs.length 1 lo ex] H (fun r H' => r = .tup [] ∧ H' = H.set o (.cells ((srtI xs).map (.int .i64 ·)))) := by
  refine (Cp_pick (K := K62) hs (good62 hg hf hx hn) ⟨rfl, .inr ⟨o, lo, ex, xs, rfl, hg, rfl⟩⟩).mono ?_
  rintro _ H' ⟨rfl, ⟨h, _⟩ | ⟨o', lo', ex', ys, h1, h2, h3⟩⟩
  · cases h
  · have ho : o = o' := by injection h1 with h1 _; injection h1
    subst ho
    rw [hg] at h2
    have := ints_inj (AObj.cells.inj (Option.some.inj h2))
    subst this
    exact ⟨rfl, h3⟩
theorem sort62n (hs : FT' 62 = FS 62) {H : Heap} : Cp FT' 62 [.nils] H (fun r H' => r = .tup [] ∧ H' = H) := by
  refine (Cp_pick (K := K62) hs good62n ⟨rfl, .inl ⟨rfl, rfl⟩⟩).mono ?_
  rintro _ H' ⟨rfl, ⟨_, h⟩ | ⟨o', lo', ex', ys, h1, h2, h3⟩⟩
  · exact ⟨rfl, h⟩
  · cases h1
end
end Go.Proofs.Ytcepchipgjpkhaa
