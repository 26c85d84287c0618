/- Faces that are convex, as the program tells. No claim by itself. -/
import Derived.Test.YtcepchipgjpkhaaNB
namespace Go.Proofs.Ytcepchipgjpkhaa
open Go Go.AI
section
variable {FT : Nat -> Option FnD} {H H' : Heap}
def k37a : za0 := zf3 [1, 0, 1] A37.body
def k37i : za0 := zf3 [0, 0, 1, 1, 0, 0, 1, 1, 0, 1] k37a
theorem zci5 : A37.body = putAt [1, 0, 1] A37.body k37a := rfl
theorem zb76 : k37a = putAt [0, 0, 1, 1, 0, 0, 1, 1, 0, 1] k37a k37i := rfl
structure Qf1 (H H' : Heap) (vP vF vr v7 : AV) (P : List (Int × Int)) (f : List Int) (nF i : Nat) (τ : Env) (k m : Nat) : Prop where
 ex : Ext H H'
 mi : Mine 2 za2 H H' v7 ((f.take k).map (ptQ P))
 ok : inQ P (f.take k)
 le : k <= f.length
 hm : m = f.length - k
 t : Tm τ [(0, vP), (7, v7), (10, vF), (11, .int .i64 nF), (12, .int .i64 i), (16, vr), (17, .int .i64 f.length), (18, .int .i64 k)]
structure QfQ (H H' : Heap) (vP vF v7 : AV) (P : List (Int × Int)) (f : List Int) (nF i : Nat) (τ : Env) : Prop where
 ex : Ext H H'
 mi : Mine 2 za2 H H' v7 (f.map (ptQ P))
 ok : inQ P f
 t : Tm τ [(0, vP), (7, v7), (10, vF), (11, .int .i64 nF), (12, .int .i64 i)]
theorem zb31 (hw : H.Wf) {vP vF vr : AV} {P : List (Int × Int)} {f : List Int} {nF i : Nat} (hP : zh3 H vP P) (hr : Ints H vr f) (_hpl : P.length <= 1000000000) (hfl : f.length <= 1000000000) {τ0 : Env}
  (u : Tm τ0 [(0, vP), (7, .nils), (10, vF), (11, .int .i64 nF), (12, .int .i64 i), (16, vr), (17, .int .i64 f.length), (18, .int .i64 0)]) :
  Wp FT k37i τ0 H (fun c τ H' => (c = .next /\ ∃ v7, QfQ H H' vP vF v7 P f nF i τ) \/ (c = .ret /\ Ext H H' /\ ¬ inQ P f /\ Tm τ [(4, .bool false)])) := by
 simp at u
 obtain ⟨u0, u7, u10, u11, u12, u16, u17, u18⟩ := u
 simp [k37i, k37a, zf3, A37]
 refine zb7 (fun m τ H' => ∃ k v7, Qf1 H H' vP vF vr v7 P f nF i τ k m) ?_ f.length _ _ ⟨0, .nils, ⟨Ext.refl hw, by simpa using Mine.nil, by simp [inQ], by omega, by omega, by simp [u0, u7, u10, u11, u12, u16, u17, u18]⟩⟩
 rintro m τ H1 ⟨k, v7, ⟨e1, mi, ok, hk, rfl, t⟩⟩
 simp at t
 obtain ⟨t0, t7, t10, t11, t12, t16, t17, t18⟩ := t
 have hr1 := hr.ext e1
 have hP1 := hP.ext e1
 by_cases q : k < f.length
 ·have w : IntKind.i64.wrap ((k : Int) + 1) = (k : Int) + 1 := wrap64 (by omega) (by omega)
  obtain ⟨p1, x, b1, b2, b3⟩ := Ints.idx hr1 (k := .i64) (i := (k : Int)) (by omega) (by omega)
  rw [Int.toNat_natCast] at b1
  have hxm := List.mem_of_getElem? b1
  by_cases c1 : x < 0
  ·have hn : ¬ inQ P f := fun h => by have := (h x hxm).1; omega
   simp [q, t0, t16, t17, t18, b2, b3, c1]
   exact ⟨e1, hn⟩
  by_cases c2 : (P.length : Int) <= x
  ·have hn : ¬ inQ P f := fun h => by have := (h x hxm).2; omega
   simp [q, t0, t16, t17, t18, b2, b3, c1, c2, hP1.len]
   exact ⟨e1, hn⟩
  obtain ⟨p2, y, d1, d2, d3, _⟩ := Sl.idx hP1 (k := .i64) (i := x) (by omega) (by omega)
  have hy : ptQ P x = y := by unfold ptQ; rw [List.getD_eq_getElem?_getD, d1]; rfl
  obtain ⟨v', H2, g1, g2, g3, g4⟩ := mi.app1 zc6 (by omega) zad9 (bytes := 16) e1.wf e1.next y (by simp; omega)
  have g1' : zc4 2 16 (H1.push (.cells [.int .i64 y.1, .int .i64 y.2])) v7 (.slc H1.next 0 1 2 1 true) = some (v', H2) := g1
  have e2 : Ext H H2 := zp3 hw e1 g3 (fun p hp => mi.new p (by simpa using hp))
  have htk : (f.take (k + 1)).map (ptQ P) = (f.take k).map (ptQ P) ++ [y] := by rw [List.take_add_one, b1, <- hy]; simp
  have d3' : za9 H1 (some 2) p2 = some (.agg [.int .i64 y.1, .int .i64 y.2]) := d3
  simp [setSeg, q, t0, t7, t16, t17, t18, b2, b3, c1, c2, hP1.len, d2, d3', g1', w]
  exact ⟨_, by omega, k + 1, v', ⟨e2, by rw [htk]; exact g2, za21 ok b1 ⟨by omega, by omega⟩, by omega, rfl, by simp [t0, t10, t11, t12, t16, t17]⟩⟩
 ·have hkl : k = f.length := by omega
  subst hkl
  rw [List.take_length] at mi ok
  simp [t17, t18]
  exact ⟨v7, e1, mi, ok, by simp [t0, t7, t10, t11, t12]⟩
structure Qf2 (H H' : Heap) (vP vF : AV) (P : List (Int × Int)) (F : List (List Int)) (τ : Env) (i m : Nat) : Prop where
 ex : Ext H H'
 ok : zr9 P (F.take i)
 le : i <= F.length
 hm : m = F.length - i
 t : Tm τ [(0, vP), (10, vF), (11, .int .i64 F.length), (12, .int .i64 i)]
open Classical in
theorem za39 (T : z10 FT) (h37 : FT 37 = some (.code A37)) (hw : H.Wf) {vP vF : AV} {P : List (Int × Int)} {F : List (List Int)} (hP : zh3 H vP P) (hF : Gd H vF F) (hpl : P.length <= 1000000000) (hl : F.length <= 1000000000) (hr : ∀ f, f ∈ F -> f.length <= 1000000000) :
  Cp FT 37 [vP, vF] H (fun r H' => r = .bool (decide (zr9 P F)) /\ Ext H H') := by
 refine zb1 A37 h37 rfl ?_
 rw [zci5, zb76]
 generalize hki : k37i = ki
 simp [k37a, zf3, putAt, A37, hF.len]
 refine zb7 (fun m τ H' => ∃ i, Qf2 H H' vP vF P F τ i m) ?_ F.length _ _ ⟨0, ⟨Ext.refl hw, by simp [zr9], by omega, by omega, by simp⟩⟩
 rintro m τ H1 ⟨i, ⟨e1, ok, hi, rfl, t⟩⟩
 simp at t
 obtain ⟨t0, t10, t11, t12⟩ := t
 have hF1 := hF.ext e1
 have hP1 := hP.ext e1
 by_cases q : i < F.length
 ·have w : IntKind.i64.wrap ((i : Int) + 1) = (i : Int) + 1 := wrap64 (by omega) (by omega)
  obtain ⟨p, r, f, a1, a2, a3, a4⟩ := hF1.idx (k := .i64) (i := (i : Int)) (by omega) (by omega)
  rw [Int.toNat_natCast] at a1
  have hm := List.mem_of_getElem? a1
  simp [q, t10, t11, t12, a2, a3, a4.len]
  rw [<- hki]
  refine (zb31 (vF := vF) (nF := F.length) (i := i) e1.wf hP1 (a4.sl zc9) hpl (hr _ hm) (by simp [t0, t10, t11, t12])).mono ?_
  rintro c τ2 H2 (⟨rfl, v7, ⟨e2, mi, oki, t⟩⟩ | ⟨rfl, e2, h, t⟩)
  ·simp at t
   obtain ⟨t0, t7, t10, t11, t12⟩ := t
   simp [t7]
   refine (za38 T e2.wf (mi.ow.sl zc6) (by rw [List.length_map]; exact hr _ hm)).mono ?_
   rintro _ H3 ⟨rfl, e3⟩
   by_cases z : zx4 (f.map (ptQ P))
   ·simp [z, t12, w]
    exact ⟨_, by omega, i + 1, ⟨e1.trans (e2.trans e3), zaf9 ok a1 ⟨oki, z⟩, by omega, rfl, by simp [t0, t10, t11]⟩⟩
   ·have hn : ¬ zr9 P F := fun h => z (h _ hm).2
    simp [z, hn]
    exact e1.trans (e2.trans e3)
  ·simp at t
   have hn : ¬ zr9 P F := fun g => h (g _ hm).1
   simp [t, hn]
   exact e1.trans e2
 ·have hil : i = F.length := by omega
  subst hil
  rw [List.take_length] at ok
  simp [t11, t12, ok]
  exact e1
end
end Go.Proofs.Ytcepchipgjpkhaa
