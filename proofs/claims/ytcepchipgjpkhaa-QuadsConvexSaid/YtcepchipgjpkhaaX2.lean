/- The table with Check, Grow, and the sort of pairs, told. No claim by itself. -/
import Derived.Test.YtcepchipgjpkhaaX1
import Derived.Test.YtcepchipgjpkhaaShG
import Derived.Test.YtcepchipgjpkhaaE64
import Derived.Test.YtcepchipgjpkhaaNE
namespace Go.Proofs.Ytcepchipgjpkhaa
open Go Go.AI Go.Sort
theorem zcq8 : FnOk Try.prog 157 := ⟨_, Try.func157, by kernel_rfl, rfl⟩
section
variable {F : Nat -> Option FnD} {H : Heap}
theorem zcr1 (h86 : F 86 = some (.code A86)) (h87 : F 87 = some (.code A87)) (h88 : F 88 = some (.code A88)) (h113 : F 113 = some (.code A113)) (hw : H.Wf) {x y : Int × Int} : Cp F 86 [.agg (encA zbs0 x), .agg (encA zbs0 y)] H (fun r _ => r = .int .i64 (cf2 x y)) := by
 refine zb1 A86 h86 rfl ?_
 have e1 := Ext.push hw (.cells [.int .i64 x.1, .int .i64 x.2])
 have g1 : (H.push (.cells [.int .i64 x.1, .int .i64 x.2])).get H.next = some (.cells [.int .i64 x.1, .int .i64 x.2]) := za6.trans (if_pos rfl)
 have e2 := Ext.push e1.wf (.cells [.int .i64 y.1, .int .i64 y.2])
 have g2 : ((H.push (.cells [.int .i64 x.1, .int .i64 x.2])).push (.cells [.int .i64 y.1, .int .i64 y.2])).get (H.next + 1) = some (.cells [.int .i64 y.1, .int .i64 y.2]) := za6.trans (if_pos rfl)
 have g1' := e2.keep _ _ g1
 have hn2 : ((H.push (.cells [.int .i64 x.1, .int .i64 x.2])).push (.cells [.int .i64 y.1, .int .i64 y.2])).next = H.next + 2 := rfl
 have hw2 := e2.wf
 generalize hH2 : (H.push (.cells [.int .i64 x.1, .int .i64 x.2])).push (.cells [.int .i64 y.1, .int .i64 y.2]) = H2 at *
 have l1 : za9 H2 none (.ptr H.next 0) = some (.int .i64 x.1) := za1 g1' rfl
 have l2 : za9 H2 none (.ptr H.next 1) = some (.int .i64 x.2) := za1 g1' rfl
 have l3 : za9 H2 none (.ptr (H.next + 1) 0) = some (.int .i64 y.1) := za1 g2 rfl
 have l4 : za9 H2 none (.ptr (H.next + 1) 1) = some (.int .i64 y.2) := za1 g2 rfl
 simp [A86, encA, zbs0, hH2, l1, l3]
 refine Cp.quietEq (zk8 h88 h113) ?_
 simp [l2, l4]
 refine (zk8 h88 h113).mono ?_
 rintro _ H3 ⟨rfl, rfl⟩
 simp [setSeg]
 generalize hn : (if x.1 < y.1 then (-1 : Int) else if y.1 < x.1 then 1 else 0) = a
 generalize hm : (if x.2 < y.2 then (-1 : Int) else if y.2 < x.2 then 1 else 0) = b
 obtain ⟨g3, e3⟩ := za4 hw2 (.cells ([a, b].flatMap zi7))
 have hs : Ints (H3.push (.cells ([a, b].flatMap zi7))) (.slc H3.next 0 2 1 2 true) [a, b] := (zi1 zc9 g3).sl zc9
 refine (or40 h87 hs (by simp)).mono ?_
 rintro _ _ ⟨rfl, rfl⟩
 simp [orL]
 unfold cf2
 by_cases c1 : x.1 < y.1
 ·simp [c1] at hn; subst hn; simp [c1]
 ·by_cases c2 : y.1 < x.1
  ·simp [c1, c2] at hn; subst hn; simp [c1, c2]
  ·simp [c1, c2] at hn; subst hn; simp [c1, c2, hm]
   exact fun h => h.symm
end
def K85b (args : List AV) (H : Heap) (v : AV) (H' : Heap) : Prop :=
 v = .tup [] /\ ((args = [.nils, .fn 86 [] []] /\ H' = H) \/ ∃ o lo ex xs, args = [.slc o 0 xs.length 2 lo ex, .fn 86 [] []] /\ H.get o = some (.cells (xs.flatMap za2)) /\ H' = H.set o (.cells ((srtS xs).flatMap za2)))
def K157 (args : List AV) (H : Heap) (v : AV) (H' : Heap) : Prop := ∃ n : Nat, args = [.nils, .int .i64 n] /\ v = .slc H.next 0 0 1 n false /\ H' = H.push (.cells (List.replicate n (.int .i64 0)))
noncomputable def FM (f : Nat) : Option FnD := if f = 75 then some (.ext (zai3 Try.prog 75 K75)) else if f = 157 then some (.ext (zai3 Try.prog 157 K157)) else if f = 85 then some (.ext (zai3 Try.prog 85 K85b)) else FS f
theorem zcs5 {G : World -> Prop} : zg3 Try.prog G FM := by
 intro f
 unfold FM
 split
 ·rename_i h; subst h; exact ⟨fun af e => (by cases e), fun g e => (by cases e; exact zad8)⟩
 split
 ·rename_i h; subst h; exact ⟨fun af e => (by cases e), fun g e => (by cases e; exact zad8)⟩
 split
 ·rename_i h; subst h; exact ⟨fun af e => (by cases e), fun g e => (by cases e; exact zad8)⟩
 ·exact zcs4 f
theorem zb55 {H : Heap} {n : Nat} (h1 : 0 < n) (hn : n <= 1000000) : AI.Good Try.prog 157 [.nils, .int .i64 n] H (.slc H.next 0 0 1 n false) (H.push (.cells (List.replicate n (.int .i64 0)))) := by
 have h : (Try.prog.info? (Try.grow157_ren.t 25)).map (fun i => (i.zero, i.size, decide (i.bytes <= 64))) = some (some (Value.int .i64 0), 1, true) := by kernel_rfl
 cases q : Try.prog.info? (Try.grow157_ren.t 25) with
 | none => rw [q] at h; cases h
 | some i0 =>
  rw [q] at h
  simp only [Option.map_some, Option.some.injEq, Prod.mk.injEq, decide_eq_true_eq] at h
  exact zbi0 Try.grow157 q h.1 h.2.1 h.2.2 zcq8 h1 hn
end Go.Proofs.Ytcepchipgjpkhaa
