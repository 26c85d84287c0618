/- Orders of segments and triangles, as the program tells. No claim by itself. -/
import Derived.Test.YtcepchipgjpkhaaX
import Derived.Test.YtcepchipgjpkhaaND
import Derived.Test.YtcepchipgjpkhaaNB
import Derived.Test.YtcepchipgjpkhaaEH
namespace Go.Proofs.Ytcepchipgjpkhaa
open Go Go.AI
section
variable {FT : Nat -> Option FnD} {H H' : Heap}
def cf1 (a b : Int) : Int := if a < b then -1 else if b < a then 1 else 0
def cf3 (x y : Tri) : Int := if cf1 x.1 y.1 = 0 then (if cf1 x.2.1 y.2.1 = 0 then cf1 x.2.2 y.2.2 else cf1 x.2.1 y.2.1) else cf1 x.1 y.1
theorem zbz1 (x y : Int × Int) : 0 <= cf2 x y ↔ ltS x y = false := by
 unfold cf2 ltS
 simp only [decide_eq_false_iff_not]
 split
 ·simp; omega
 ·split
  ·simp; omega
  ·split
   ·simp; omega
   ·split <;> simp <;> omega
theorem zbz0 (x y : Tri) : 0 <= cf3 x y ↔ ltT x y = false := by
 unfold cf3 cf1 ltT
 simp only [decide_eq_false_iff_not]
 by_cases a1 : x.1 < y.1
 ·simp [a1]
 ·by_cases a2 : y.1 < x.1
  ·have : ¬ x.1 = y.1 := by omega
   simp [a1, a2, this]
  ·have e1 : x.1 = y.1 := by omega
   by_cases b1 : x.2.1 < y.2.1
   ·simp [e1, b1]
   ·by_cases b2 : y.2.1 < x.2.1
    ·have : ¬ x.2.1 = y.2.1 := by omega
     simp [e1, b1, b2, this]
    ·have e2 : x.2.1 = y.2.1 := by omega
     by_cases c1 : x.2.2 < y.2.2
     ·simp [e1, e2, c1]
     ·by_cases c2 : y.2.2 < x.2.2 <;> simp [e1, e2, c1, c2]
structure CmpT (FT : Nat -> Option FnD) : Prop where
 h87 : FT 87 = some (.code A87)
 h88 : FT 88 = some (.code A88)
 h113 : FT 113 = some (.code A113)
theorem zbu9 (T : CmpT FT) (h105 : FT 105 = some (.code A105)) (hw : H.Wf) {x y : Int × Int} : Cp FT 105 [.agg (za2 x), .agg (za2 y)] H (fun r H' => r = .int .i64 (cf2 x y) /\ Ext H H') := by
 refine zb1 A105 h105 rfl ?_
 obtain ⟨g1, e1⟩ := za4 hw (.cells (za2 x))
 obtain ⟨g2, e2⟩ := za4 e1.wf (.cells (za2 y))
 have g1' := e2.keep _ _ g1
 have hx : za2 x = [.int .i64 x.1, .int .i64 x.2] := rfl
 have hy : za2 y = [.int .i64 y.1, .int .i64 y.2] := rfl
 have ex := e1.trans e2
 simp only [zo9] at g2
 simp only [hx, hy] at *
 generalize hH2 : (H.push (.cells [.int .i64 x.1, .int .i64 x.2])).push (.cells [.int .i64 y.1, .int .i64 y.2]) = H2 at *
 have l1 : za9 H2 none (.ptr H.next 0) = some (.int .i64 x.1) := za1 g1' rfl
 have l2 : za9 H2 none (.ptr H.next 1) = some (.int .i64 x.2) := za1 g1' rfl
 have l3 : za9 H2 none (.ptr (H.next + 1) 0) = some (.int .i64 y.1) := za1 g2 rfl
 have l4 : za9 H2 none (.ptr (H.next + 1) 1) = some (.int .i64 y.2) := za1 g2 rfl
 simp [A105, hH2, l1, l3]
 refine Cp.quietEq (zk8 T.h88 T.h113) ?_
 simp [l2, l4]
 refine (zk8 T.h88 T.h113).mono ?_
 rintro _ H3 ⟨rfl, rfl⟩
 simp [setSeg]
 generalize hn : (if x.1 < y.1 then (-1 : Int) else if y.1 < x.1 then 1 else 0) = a
 generalize hm : (if x.2 < y.2 then (-1 : Int) else if y.2 < x.2 then 1 else 0) = b
 obtain ⟨g3, e3⟩ := za4 ex.wf (.cells ([a, b].flatMap zi7))
 have hs : Ints (H3.push (.cells ([a, b].flatMap zi7))) (.slc H3.next 0 2 1 2 true) [a, b] := (zi1 (xs := [a, b]) zc9 g3).sl zc9
 refine (or40 T.h87 hs (by simp)).mono ?_
 rintro _ _ ⟨rfl, rfl⟩
 simp [orL]
 refine ⟨?_, ex.trans e3⟩
 unfold cf2
 by_cases c1 : x.1 < y.1
 ·simp [c1] at hn; subst hn; simp [c1]
 ·by_cases c2 : y.1 < x.1
  ·simp [c1, c2] at hn; subst hn; simp [c1, c2]
  ·simp [c1, c2] at hn; subst hn; simp [c1, c2, hm]
   exact fun h => h.symm
theorem zbu8 (T : CmpT FT) (h103 : FT 103 = some (.code A103)) (hw : H.Wf) {x y : Tri} : Cp FT 103 [.agg (zh2 x), .agg (zh2 y)] H (fun r H' => r = .int .i64 (cf3 x y) /\ Ext H H') := by
 refine zb1 A103 h103 rfl ?_
 obtain ⟨g1, e1⟩ := za4 hw (.cells (zh2 x))
 obtain ⟨g2, e2⟩ := za4 e1.wf (.cells (zh2 y))
 have g1' := e2.keep _ _ g1
 have hx : zh2 x = [.int .i64 x.1, .int .i64 x.2.1, .int .i64 x.2.2] := rfl
 have hy : zh2 y = [.int .i64 y.1, .int .i64 y.2.1, .int .i64 y.2.2] := rfl
 have ex := e1.trans e2
 simp only [zo9] at g2
 simp only [hx, hy] at *
 generalize hH2 : (H.push (.cells [.int .i64 x.1, .int .i64 x.2.1, .int .i64 x.2.2])).push (.cells [.int .i64 y.1, .int .i64 y.2.1, .int .i64 y.2.2]) = H2 at *
 have l1 : za9 H2 none (.ptr H.next 0) = some (.int .i64 x.1) := za1 g1' rfl
 have l2 : za9 H2 none (.ptr H.next 1) = some (.int .i64 x.2.1) := za1 g1' rfl
 have l3 : za9 H2 none (.ptr H.next 2) = some (.int .i64 x.2.2) := za1 g1' rfl
 have m1 : za9 H2 none (.ptr (H.next + 1) 0) = some (.int .i64 y.1) := za1 g2 rfl
 have m2 : za9 H2 none (.ptr (H.next + 1) 1) = some (.int .i64 y.2.1) := za1 g2 rfl
 have m3 : za9 H2 none (.ptr (H.next + 1) 2) = some (.int .i64 y.2.2) := za1 g2 rfl
 simp [A103, hH2, l1, m1]
 refine Cp.quietEq (zk8 T.h88 T.h113) ?_
 simp [l2, m2]
 refine Cp.quietEq (zk8 T.h88 T.h113) ?_
 simp [l3, m3]
 refine (zk8 T.h88 T.h113).mono ?_
 rintro _ H3 ⟨rfl, rfl⟩
 simp [setSeg]
 have hc : ∀ a b : Int, (if a < b then (-1 : Int) else if b < a then 1 else 0) = cf1 a b := fun a b => rfl
 simp only [hc]
 generalize hn : cf1 x.1 y.1 = a
 generalize hm : cf1 x.2.1 y.2.1 = b
 generalize hk : cf1 x.2.2 y.2.2 = c
 obtain ⟨g3, e3⟩ := za4 ex.wf (.cells ([a, b, c].flatMap zi7))
 have hs : Ints (H3.push (.cells ([a, b, c].flatMap zi7))) (.slc H3.next 0 3 1 3 true) [a, b, c] := (zi1 (xs := [a, b, c]) zc9 g3).sl zc9
 refine (or40 T.h87 hs (by simp)).mono ?_
 rintro _ _ ⟨rfl, rfl⟩
 simp
 refine ⟨?_, ex.trans e3⟩
 unfold cf3
 rw [hn, hm, hk]
 simp only [orL]
 split
 ·split
  ·split
   ·rename_i q
    exact q.symm
   ·rfl
  ·rfl
 ·rfl
end
end Go.Proofs.Ytcepchipgjpkhaa
namespace Go.Proofs.Ytcepchipgjpkhaa
open Go Go.AI
section
variable {FT : Nat -> Option FnD} {H H' : Heap}
theorem zbx6 (x y : Tri) : zi8 .neq (.flat [.int, .int, .int]) (.agg (zh2 x)) (.agg (zh2 y)) = some (.bool (!decide (x = y))) := by
 obtain ⟨a, b, c⟩ := x
 obtain ⟨d, e, f⟩ := y
 have h : zi8 .neq (.flat [.int, .int, .int]) (.agg (zh2 (a, b, c))) (.agg (zh2 (d, e, f))) = (match some (a == d) with | some true => (match some (b == e) with | some true => (match some (c == f) with | some true => some true | some false => some false | none => none) | some false => some false | none => none) | some false => some false | none => none : Option Bool).map fun r => AV.bool !r := rfl
 rw [h]
 cases h1 : (a == d) <;> cases h2 : (b == e) <;> cases h3 : (c == f) <;> simp_all
theorem zcf8 {t : Tri} {s : Int × Int} {i : Nat} (h : (zp9 t)[i]? = some s) : zbh5 3 2 (some 2) (.agg ((zp9 t).flatMap za2)) (.int .i64 (i : Int)) = some (.agg (za2 s)) := by
 have hi : i < 3 := by have := (List.getElem?_eq_some_iff.1 h).1; simpa [zp9] using this
 have : i = 0 \/ i = 1 \/ i = 2 := by omega
 rcases this with rfl | rfl | rfl <;> (simp [zp9] at h; subst h; rfl)
structure ChkT (FT : Nat -> Option FnD) : Prop where
 or : Or96 FT
 cm : CmpT FT
 h102 : FT 102 = some (.code A102)
 h103 : FT 103 = some (.code A103)
 h104 : FT 104 = some (.code A104)
 h105 : FT 105 = some (.code A105)
 h106 : FT 106 = some (.code A106)
def k75a : za0 := match N75.body with | .seq _ (.seq _ (.seq (.det c) _)) => c | _ => .skip
def k75i : za0 := zf3 [1, 0, 0, 1, 1, 0, 0, 1, 1, 1] k75a
theorem zb68 : k75a = putAt [1, 0, 0, 1, 1, 0, 0, 1, 1, 1] k75a k75i := rfl
structure Es (H H' : Heap) (om : Nat) (L : List (Int × Int)) : Prop where
 ex : Ext H H'
 gm : H'.get om = some (.map (L.map entb))
 om0 : H.next <= om
 nd : L.Nodup
theorem Es.to {H2 : Heap} {om : Nat} {L : List (Int × Int)} (h : Es H H' om L) (e : Ext H' H2) : Es H H2 om L := ⟨h.ex.trans e, e.keep _ _ h.gm, h.om0, h.nd⟩
theorem Es.upd {om : Nat} {L : List (Int × Int)} {s : Int × Int} (hw : H.Wf) (h : Es H H' om L) (hn : s ∉ L) : ∃ H2, zl7 H' (.flat [.int, .int]) (.map om) (.agg (za2 s)) (.bool true) = some (zb8, H2) /\ Es H H2 om (L ++ [s]) /\ Fr [om] H' H2 :=
 ⟨_, zaw8 (by rw [h.ex.floor]; exact Nat.le_trans hw.1 h.om0) h.gm hn, ⟨h.ex.setNew hw h.om0 (h.ex.wf.lt h.gm), za7.trans (if_pos rfl), h.om0, by
  rw [List.nodup_append]
  exact ⟨h.nd, by simp, fun a ha b hb => by simp at hb; subst hb; exact fun q => hn (q ▸ ha)⟩⟩, Fr.set h.ex.wf (h.ex.wf.lt h.gm) _⟩
structure Kj (H H1 H' : Heap) (om : Nat) (L0 : List (Int × Int)) (t : Tri) (v1 v16 v17 v18 : AV) (τ : Env) (j m : Nat) : Prop where
 es : Es H H' om (L0 ++ (zp9 t).take j)
 fr : Fr [om] H1 H'
 le : j <= 3
 hm : m = 3 - j
 t : Tm τ [(1, v1), (3, .map om), (16, v16), (17, v17), (18, v18), (58, .agg ((zp9 t).flatMap za2)), (59, .int .i64 j)]
theorem zch5 (hw : H.Wf) {H1 : Heap} {om : Nat} {L0 : List (Int × Int)} {t : Tri} {v1 v16 v17 v18 : AV} (es : Es H H1 om L0) {τ0 : Env}
  (w : Tm τ0 [(1, v1), (3, .map om), (16, v16), (17, v17), (18, v18), (58, .agg ((zp9 t).flatMap za2)), (59, .int .i64 0)]) :
  Wp FT k75i τ0 H1 (fun s τ H' => (s = .next /\ Es H H' om (L0 ++ zp9 t) /\ Fr [om] H1 H' /\ Tm τ [(1, v1), (3, .map om), (16, v16), (17, v17), (18, v18)]) \/ (s = .ret /\ ¬ (L0 ++ zp9 t).Nodup /\ Ext H H' /\ Tm τ [(2, .int .i64 2)])) := by
 simp at w
 obtain ⟨w1, w3, w16, w17, w18, w58, w59⟩ := w
 simp [k75i, k75a, N75, zf3]
 refine zb7 (fun m τ H' => ∃ j, Kj H H1 H' om L0 t v1 v16 v17 v18 τ j m) ?_ 3 _ _ ⟨0, ⟨by simpa using es, Fr.refl es.ex.wf, by omega, rfl, by simp [w1, w3, w16, w17, w18, w58, w59]⟩⟩
 have hw1 := es.ex.wf
 rintro m τ H2 ⟨j, ⟨es, fr, hj, rfl, u⟩⟩
 simp at u
 obtain ⟨t1, t3, t16, t17, t18, t58, t59⟩ := u
 by_cases q : j < 3
 ·have hjl : j < (zp9 t).length := q
  obtain ⟨s, hs⟩ : ∃ s, (zp9 t)[j]? = some s := ⟨_, List.getElem?_eq_getElem hjl⟩
  have q' : (j : Int) < 3 := by omega
  have hidx := zcf8 hs
  have wj : IntKind.i64.wrap ((j : Int) + 1) = (j : Int) + 1 := wrap64 (by omega) (by omega)
  have htake : (zp9 t).take (j + 1) = (zp9 t).take j ++ [s] := by rw [List.take_add_one, hs]; rfl
  obtain ⟨H3, st, g9, e3, n3⟩ := zd4 es.ex.wf (z := [.int .i64 0, .int .i64 0]) (n := 2) (x := .agg (za2 s)) (cs := za2 s) rfl rfl rfl rfl
  have es3 := es.to e3
  have l9 : za9 H3 (some 2) (.ptr H2.next 0) = some (.agg (za2 s)) := zc0 g9 rfl
  have hlk := zp0 (s := s) es3.gm
  by_cases c : s ∈ L0 ++ (zp9 t).take j
  ·have hbad : ¬ (L0 ++ zp9 t).Nodup := by
    have e : zp9 t = (zp9 t).take j ++ s :: (zp9 t).drop (j + 1) := by rw [<- zo0 hs, List.take_append_drop]
    rw [e, <- List.append_assoc, List.nodup_append]
    intro h
    exact h.2.2 s c s (by simp) rfl
   rw [decide_eq_true c] at hlk
   simp [-zg9, q', t3, t58, t59, hidx, st, l9, hlk]
   exact ⟨hbad, es3.ex⟩
  ·rw [decide_eq_false c] at hlk
   obtain ⟨H4, m1, es4, fr4⟩ := es3.upd hw c
   simp [-zg9, q', t3, t58, t59, hidx, st, l9, hlk, m1, wj]
   refine ⟨_, by omega, j + 1, ⟨by rw [htake, <- List.append_assoc]; exact es4, (fr.thenE hw1 e3).trans hw1 fr4 (fun o h => .inl h), by omega, rfl, by simp [t1, t3, t16, t17, t18, t58]⟩⟩
 ·have hj3 : j = 3 := by omega
  subst hj3
  have hall : (zp9 t).take 3 = zp9 t := rfl
  rw [hall] at es
  simp [t59]
  exact ⟨es, fr, by simp [t1, t3, t16, t17, t18]⟩
structure Ka (H H' : Heap) (vP vT vS : AV) (P : List (Int × Int)) (T : List Tri) (om : Nat) (τ : Env) (i m : Nat) : Prop where
 es : Es H H' om (zx2 (T.take i))
 g1 : H'.get H.next = some (.cells [vP, vT, vS])
 tri : ∀ t, t ∈ T.take i -> zx7 P t
 rise : Rise ltT (T.take i)
 le : i <= T.length
 hm : m = T.length - i
 t : Tm τ [(1, .ptr H.next 0), (3, .map om), (16, vT), (17, .int .i64 T.length), (18, .int .i64 i)]
structure KaQ (H H' : Heap) (vP vT vS : AV) (P : List (Int × Int)) (T : List Tri) (om : Nat) (τ : Env) : Prop where
 es : Es H H' om (zx2 T)
 g1 : H'.get H.next = some (.cells [vP, vT, vS])
 tri : ∀ t, t ∈ T -> zx7 P t
 rise : Rise ltT T
 t : Tm τ [(1, .ptr H.next 0), (3, .map om)]
def zaz9 (P : List (Int × Int)) (T : List Tri) : Prop := ¬ ((∀ t, t ∈ T -> zx7 P t) /\ Rise ltT T /\ (zx2 T).Nodup)
theorem zam9 {T : List Tri} {i : Nat} (h : (zx2 T).Nodup) : (zx2 (T.take i)).Nodup := by
 rw [zax6] at *
 have e : T = T.take i ++ T.drop i := (List.take_append_drop _ _).symm
 rw [e, List.flatMap_append, List.nodup_append] at h
 exact h.1
theorem zcr4 (C : ChkT FT) (hw : H.Wf) {H1 : Heap} {vP vT vS : AV} {P : List (Int × Int)} {T : List Tri} {om : Nat} (hP : zh3 H vP P) (hT : Tris H vT T) (lP : P.length <= 1000000000) (lT : T.length <= 1000000000) (es : Es H H1 om []) (g1 : H1.get H.next = some (.cells [vP, vT, vS])) (hom : om ≠ H.next) {τ0 : Env}
  (w : Tm τ0 [(1, .ptr H.next 0), (3, .map om)]) :
  Wp FT k75a τ0 H1 (fun s τ H' => (s = .next /\ KaQ H H' vP vT vS P T om τ) \/ (s = .ret /\ zaz9 P T /\ Ext H H' /\ Tm τ [(2, .int .i64 2)])) := by
 simp at w
 obtain ⟨w1, w3⟩ := w
 rw [zb68]
 generalize hki : k75i = ki
 have f1 : za9 H1 none (.ptr H.next 1) = some vT := za1 g1 rfl
 simp [k75a, N75, putAt, w1, f1, hT.len]
 refine zb7 (fun m τ H' => ∃ i, Ka H H' vP vT vS P T om τ i m) ?_ T.length _ _ ⟨0, ⟨by simpa [zx2, allE, zj6] using es, g1, by simp, by simp, by omega, by omega, by simp [w1, w3]⟩⟩
 rintro m τ H2 ⟨i, ⟨es, g1, tri, rise, hi, rfl, u⟩⟩
 simp at u
 obtain ⟨t1, t3, t16, t17, t18⟩ := u
 by_cases q : i < T.length
 ·have hT2 := hT.ext es.ex
  have hP2 := hP.ext es.ex
  have wi : IntKind.i64.wrap ((i : Int) + 1) = (i : Int) + 1 := wrap64 (by omega) (by omega)
  obtain ⟨o1, off1, t, a1, a2, a3, _⟩ := Tris.idx hT2 (k := .i64) (i := (i : Int)) (by omega) (by omega)
  rw [Int.toNat_natCast] at a1
  have htm := List.mem_of_getElem? a1
  have htk : T.take (i + 1) = T.take i ++ [t] := by rw [List.take_add_one, a1]; rfl
  obtain ⟨H3, st3, g5, e3, n3⟩ := zd4 es.ex.wf (z := [.int .i64 0, .int .i64 0, .int .i64 0]) (n := 3) (x := .agg (zh2 t)) (cs := zh2 t) rfl rfl rfl rfl
  have x3 := es.ex.trans e3
  have f0 : za9 H3 none (.ptr H.next 0) = some vP := za1 (e3.keep _ _ g1) rfl
  have b0 : za9 H3 none (.ptr H2.next 0) = some (.int .i64 t.1) := za1 g5 rfl
  have b1 : za9 H3 none (.ptr H2.next 1) = some (.int .i64 t.2.1) := za1 g5 rfl
  have b2 : za9 H3 none (.ptr H2.next 2) = some (.int .i64 t.2.2) := za1 g5 rfl
  simp [q, t1, t16, t17, t18, a2, a3, st3, f0, b0, b1, b2]
  refine (zcb7 C.or C.h102 e3.wf (hP2.ext e3) lP).mono ?_
  rintro _ H4 ⟨rfl, e4⟩
  obtain ⟨H5, st6, g6, e6, n6⟩ := zd4 e4.wf (z := [.int .i64 0, .int .i64 0, .int .i64 0]) (n := 3) (x := .agg (zh2 ((triF P t.1 t.2.1 t.2.2).getD (0, 0, 0)))) (cs := zh2 ((triF P t.1 t.2.1 t.2.2).getD (0, 0, 0))) rfl rfl rfl rfl
  have x5 := x3.trans (e4.trans e6)
  have bad : triF P t.1 t.2.1 t.2.2 ≠ some t -> zaz9 P T := fun h k => h (zba5.2 (k.1 t htm))
  have l6 : za9 H5 (some 3) (.ptr H4.next 0) = some (.agg (zh2 ((triF P t.1 t.2.1 t.2.2).getD (0, 0, 0)))) := zc0 g6 rfl
  have l5 : za9 H5 (some 3) (.ptr H2.next 0) = some (.agg (zh2 t)) := zd6 (zd6 (zc0 g5 rfl) e4) e6
  have f1' : za9 H5 none (.ptr H.next 1) = some vT := za1 (e6.keep _ _ (e4.keep _ _ (e3.keep _ _ g1))) rfl
  cases ho : triF P t.1 t.2.1 t.2.2 with
  | none =>
   rw [ho] at st6
   simp only [Option.getD_none] at st6
   have hb := bad (by rw [ho]; simp)
   simp [-ze4, st6]
   exact ⟨hb, x5⟩
  | some u =>
   rw [ho] at st6 l6
   simp only [Option.getD_some] at st6 l6
   by_cases hu : u = t
   ·subst hu
    have htok : zx7 P u := zba5.1 ho
    have hne := zbx6 u u
    rw [decide_eq_true rfl] at hne
    by_cases i0 : i = 0
    ·subst i0
     have hrise : Rise ltT (T.take (0 + 1)) := by rw [htk]; simp
     simp [-ze4, st6, l6, l5, hne]
     refine (za36 C.h104 e6.wf (t := u)).mono ?_
     rintro _ H7 ⟨rfl, e7⟩
     have es7 := es.to ((e3.trans (e4.trans e6)).trans e7)
     have g17 := e7.keep _ _ (e6.keep _ _ (e4.keep _ _ (e3.keep _ _ g1)))
     simp
     rw [<- hki]
     refine (zch5 hw (H1 := H7) (om := om) (L0 := zx2 (T.take 0)) (t := u) (v1 := .ptr H.next 0) (v16 := vT) (v17 := .int .i64 T.length) (v18 := .int .i64 ((0 : Nat) : Int)) es7 (by simp [t1, t3, t16, t17, t18])).mono ?_
     rintro c τ2 H8 (⟨rfl, es8, fr8, w⟩ | ⟨rfl, hb, e8, w⟩)
     ·simp at w
      obtain ⟨t1, t3, t16, t17, t18⟩ := w
      simp [t18, show IntKind.i64.wrap 1 = 1 from rfl]
      refine ⟨_, by omega, 0 + 1, ⟨by rw [zt9 a1]; exact es8, fr8.keep _ _ (by simpa using fun e => hom e.symm) g17, ?_, hrise, by omega, rfl, by simp [t1, t3, t16, t17]⟩⟩
      intro x hx
      rw [htk] at hx
      rcases List.mem_append.1 hx with r | r
      ·exact tri x r
      ·simp at r; subst r; exact htok
     ·simp at w
      simp [w]
      refine ⟨fun h => hb ?_, e8⟩
      rw [<- zt9 a1]
      exact zam9 h.2.2
    ·have i0' : 0 < (i : Int) := by omega
     obtain ⟨i', rfl⟩ : ∃ i', i = i' + 1 := ⟨i - 1, by omega⟩
     have wm : IntKind.i64.wrap (i' : Int) = i' := wrap64 (by omega) (by omega)
     have hT5 := hT.ext x5
     obtain ⟨o2, off2, y, b1', b2', b3', _⟩ := Tris.idx hT5 (k := .i64) (i := (i' : Int)) (by omega) (by omega)
     rw [Int.toNat_natCast] at b1'
     push_cast at i0' wi
     simp [-ze4, st6, l6, l5, hne, t1, i0', wm, f1', b2', b3']
     refine (zbu8 C.cm C.h103 e6.wf).mono ?_
     rintro _ H6 ⟨rfl, e7'⟩
     by_cases hge : 0 <= cf3 y u
     ·have hb : zaz9 P T := fun h => zbd1 b1' a1 ((zbz0 y u).1 hge) h.2.1
      simp [hge]
      exact ⟨hb, x5.trans e7'⟩
     ·have hlt : ltT y u = true := by
       cases r : ltT y u with
       | true => rfl
       | false => exact absurd ((zbz0 y u).2 r) hge
      have hrise : Rise ltT (T.take (i' + 1 + 1)) := zap1 stoT rise b1' a1 hlt
      have l5' := zd6 l5 e7'
      simp [hge, l5']
      refine (za36 C.h104 (e6.trans e7').wf (t := u)).mono ?_
      rintro _ H7 ⟨rfl, e7⟩
      have es7 := es.to ((e3.trans (e4.trans (e6.trans e7'))).trans e7)
      have g17 := e7.keep _ _ ((e6.trans e7').keep _ _ (e4.keep _ _ (e3.keep _ _ g1)))
      simp
      rw [<- hki]
      refine (zch5 hw (H1 := H7) (om := om) (L0 := zx2 (T.take (i' + 1))) (t := u) (v1 := .ptr H.next 0) (v16 := vT) (v17 := .int .i64 T.length) (v18 := .int .i64 ((i' + 1 : Nat) : Int)) es7 (by simp [t1, t3, t16, t17, t18])).mono ?_
      rintro c τ2 H8 (⟨rfl, es8, fr8, w⟩ | ⟨rfl, hb, e8, w⟩)
      ·simp at w
       obtain ⟨t1, t3, t16, t17, t18⟩ := w
       simp [t18, wi]
       refine ⟨_, by omega, i' + 1 + 1, ⟨by rw [zt9 a1]; exact es8, fr8.keep _ _ (by simpa using fun e => hom e.symm) g17, ?_, hrise, by omega, rfl, by simp [t1, t3, t16, t17]⟩⟩
       intro x hx
       rw [htk] at hx
       rcases List.mem_append.1 hx with r | r
       ·exact tri x r
       ·simp at r; subst r; exact htok
      ·simp at w
       simp [w]
       refine ⟨fun h => hb ?_, e8⟩
       rw [<- zt9 a1]
       exact zam9 h.2.2
   ·have hb := bad (by rw [ho]; simpa using hu)
    have hne := zbx6 u t
    rw [decide_eq_false hu] at hne
    simp [-ze4, st6, l6, l5, hne]
    exact ⟨hb, x5⟩
 ·have hil : i = T.length := by omega
  subst hil
  rw [List.take_length] at es tri rise
  simp [t17, t18]
  exact ⟨es, g1, tri, rise, by simp [t1, t3]⟩
end
end Go.Proofs.Ytcepchipgjpkhaa
namespace Go.Proofs.Ytcepchipgjpkhaa
open Go Go.AI
section
variable {FT : Nat -> Option FnD} {H H' : Heap}
def k75b : za0 := match N75.body with | .seq _ (.seq _ (.seq _ (.seq _ (.seq (.det c) _)))) => c | _ => .skip
structure zai6 (E S : List (Int × Int)) : Prop where
 up : ∀ s, s ∈ S -> s.1 < s.2
 rise : Rise ltS S
 ed : ∀ s, s ∈ S -> s ∈ E \/ rev s ∈ E
structure Kb (H H' : Heap) (vP vT vS : AV) (E S : List (Int × Int)) (om os : Nat) (τ : Env) (i m : Nat) : Prop where
 es : Es H H' os (S.take i)
 gm : H'.get om = some (.map (E.map entb))
 g1 : H'.get H.next = some (.cells [vP, vT, vS])
 ok : zai6 E (S.take i)
 le : i <= S.length
 hm : m = S.length - i
 t : Tm τ [(1, .ptr H.next 0), (3, .map om), (10, .map os), (71, vS), (72, .int .i64 S.length), (73, .int .i64 i)]
structure KbQ (H H' : Heap) (E S : List (Int × Int)) (om os : Nat) (τ : Env) : Prop where
 es : Es H H' os S
 gm : H'.get om = some (.map (E.map entb))
 ok : zai6 E S
 t : Tm τ [(3, .map om), (10, .map os)]
theorem zcr3 (C : ChkT FT) (hw : H.Wf) {H1 : Heap} {vP vT vS : AV} {E S : List (Int × Int)} {om os : Nat} (hS : zh3 H vS S) (lS : S.length <= 1000000000) (es : Es H H1 os []) (gm : H1.get om = some (.map (E.map entb))) (g1 : H1.get H.next = some (.cells [vP, vT, vS])) (n1 : os ≠ H.next) (n2 : os ≠ om) {τ0 : Env}
  (w : Tm τ0 [(1, .ptr H.next 0), (3, .map om), (10, .map os)]) :
  Wp FT k75b τ0 H1 (fun s τ H' => (s = .next /\ KbQ H H' E S om os τ) \/ (s = .ret /\ ¬ zai6 E S /\ Ext H H' /\ Tm τ [(2, .int .i64 2)])) := by
 simp at w
 obtain ⟨w1, w3, w10⟩ := w
 have f2 : za9 H1 none (.ptr H.next 2) = some vS := za1 g1 rfl
 simp [k75b, N75, w1, f2, hS.len]
 refine zb7 (fun m τ H' => ∃ i, Kb H H' vP vT vS E S om os τ i m) ?_ S.length _ _ ⟨0, ⟨by simpa using es, gm, g1, ⟨by simp, by simp, by simp⟩, by omega, by omega, by simp [w1, w3, w10]⟩⟩
 rintro m τ H2 ⟨i, ⟨es, gm, g1, ok, hi, rfl, u⟩⟩
 simp at u
 obtain ⟨t1, t3, t10, t71, t72, t73⟩ := u
 by_cases q : i < S.length
 ·have hS2 := hS.ext es.ex
  have wi : IntKind.i64.wrap ((i : Int) + 1) = (i : Int) + 1 := wrap64 (by omega) (by omega)
  obtain ⟨o1, off1, s, a1, a2, a3, _⟩ := zh3.idx hS2 (k := .i64) (i := (i : Int)) (by omega) (by omega)
  rw [Int.toNat_natCast] at a1
  have hsm := List.mem_of_getElem? a1
  have htk : S.take (i + 1) = S.take i ++ [s] := by rw [List.take_add_one, a1]; rfl
  obtain ⟨H3, st3, g5, e3, n3⟩ := zd4 es.ex.wf (z := [.int .i64 0, .int .i64 0]) (n := 2) (x := .agg (za2 s)) (cs := za2 s) rfl rfl rfl rfl
  have x3 := es.ex.trans e3
  have gm3 := e3.keep _ _ gm
  have f2' : za9 H3 none (.ptr H.next 2) = some vS := za1 (e3.keep _ _ g1) rfl
  have b0 : za9 H3 none (.ptr H2.next 0) = some (.int .i64 s.1) := za1 g5 rfl
  have b1 : za9 H3 none (.ptr H2.next 1) = some (.int .i64 s.2) := za1 g5 rfl
  have b2 : za9 H3 (some 2) (.ptr H2.next 0) = some (.agg (za2 s)) := zc0 g5 rfl
  by_cases c1 : s.2 <= s.1
  ·have hb : ¬ zai6 E S := fun h => by have := h.up s hsm; omega
   simp [q, t71, t72, t73, a2, a3, st3, b0, b1, c1]
   exact ⟨hb, x3⟩
  ·by_cases i0 : i = 0
   ·subst i0
    have hrise : Rise ltS (S.take (0 + 1)) := by rw [htk]; simp
    have a2z : zd7 2 vS (.int .i64 0) = some (.ptr o1 off1) := a2
    have gmX := gm3
    have esX := es.to e3
    have hl1 := zp0 (s := s) gmX
    have hl2 : (zp1 H3 (.flat [.int, .int]) (.map om) (.agg [.int .i64 s.2, .int .i64 s.1])).map (zt3 (.bool false) false) = some (.bool (decide (rev s ∈ E))) := zp0 (s := rev s) gmX
    have hns : s ∉ S.take 0 := fun h => by
     have hn := hrise.nodup stoS
     rw [htk, List.nodup_append] at hn
     exact hn.2.2 s h s (by simp) rfl
    obtain ⟨H7, m1, es7, fr7⟩ := esX.upd hw hns
    rw [<- htk] at es7
    have gm7 := fr7.keep _ _ (by simpa using fun e => n2 e.symm) gmX
    have g17 := fr7.keep _ _ (by simpa using fun e => n1 e.symm) (e3.keep _ _ g1)
    have fin : (s ∈ E \/ rev s ∈ E) -> zai6 E (S.take (0 + 1)) := fun h => by
     refine ⟨fun x hx => ?_, hrise, fun x hx => ?_⟩
     ·rw [htk] at hx
      rcases List.mem_append.1 hx with r | r
      ·exact ok.up x r
      ·simp at r; subst r; omega
     ·rw [htk] at hx
      rcases List.mem_append.1 hx with r | r
      ·exact ok.ed x r
      ·simp at r; subst r; exact h
    by_cases h1 : s ∈ E
    ·rw [decide_eq_true h1] at hl1
     simp [q, t71, t72, a2z, a3, st3, b0, b1, c1, t3, b2, hl1, m1, t10, t73, show IntKind.i64.wrap 1 = 1 from rfl]
     exact ⟨_, by omega, 0 + 1, ⟨es7, gm7, g17, fin (.inl h1), by omega, rfl, by simp [t1, t3, t10, t71, t72]⟩⟩
    ·rw [decide_eq_false h1] at hl1
     by_cases h2 : rev s ∈ E
     ·rw [decide_eq_true h2] at hl2
      simp [q, t71, t72, a2z, a3, st3, b0, b1, c1, t3, b2, hl1, hl2, m1, setSeg, t10, t73, show IntKind.i64.wrap 1 = 1 from rfl]
      exact ⟨_, by omega, 0 + 1, ⟨es7, gm7, g17, fin (.inr h2), by omega, rfl, by simp [t1, t3, t10, t71, t72]⟩⟩
     ·rw [decide_eq_false h2] at hl2
      have hb : ¬ zai6 E S := fun h => by
       rcases h.ed s hsm with r | r
       ·exact h1 r
       ·exact h2 r
      simp [q, t71, t72, t73, a2z, a3, st3, b0, b1, c1, t3, b2, hl1, hl2, setSeg]
      exact ⟨hb, esX.ex⟩
   ·have i0' : 0 < (i : Int) := by omega
    obtain ⟨i', rfl⟩ : ∃ i', i = i' + 1 := ⟨i - 1, by omega⟩
    have wm : IntKind.i64.wrap (i' : Int) = i' := wrap64 (by omega) (by omega)
    have hS3 := hS.ext x3
    obtain ⟨o2, off2, y, b1', b2', b3', _⟩ := zh3.idx hS3 (k := .i64) (i := (i' : Int)) (by omega) (by omega)
    rw [Int.toNat_natCast] at b1'
    push_cast at i0' wi a2
    have q' : (i' : Int) + 1 < S.length := by omega
    simp [q', t1, t71, t72, t73, a2, a3, st3, b0, b1, c1, i0', wm, f2', b2', b3', b2]
    refine (zbu9 C.cm C.h105 e3.wf).mono ?_
    rintro _ H6 ⟨rfl, e6⟩
    by_cases hge : 0 <= cf2 y s
    ·have hb : ¬ zai6 E S := fun h => zbd1 b1' a1 ((zbz1 y s).1 hge) h.rise
     simp [hge]
     exact ⟨hb, x3.trans e6⟩
    ·have hlt : ltS y s = true := by
      cases r : ltS y s with
      | true => rfl
      | false => exact absurd ((zbz1 y s).2 r) hge
     have hrise : Rise ltS (S.take (i' + 1 + 1)) := zap1 stoS ok.rise b1' a1 hlt
     have b0' := zd6 b0 e6
     have b1'' := zd6 b1 e6
     have b2'' := zd6 b2 e6
     have gmX := e6.keep _ _ gm3
     have esX := es.to (e3.trans e6)
     have hl1 := zp0 (s := s) gmX
     have hl2 : (zp1 H6 (.flat [.int, .int]) (.map om) (.agg [.int .i64 s.2, .int .i64 s.1])).map (zt3 (.bool false) false) = some (.bool (decide (rev s ∈ E))) := zp0 (s := rev s) gmX
     have hns : s ∉ S.take (i' + 1) := fun h => by
      have hn := hrise.nodup stoS
      rw [htk, List.nodup_append] at hn
      exact hn.2.2 s h s (by simp) rfl
     obtain ⟨H7, m1, es7, fr7⟩ := esX.upd hw hns
     rw [<- htk] at es7
     have gm7 := fr7.keep _ _ (by simpa using fun e => n2 e.symm) gmX
     have g17 := fr7.keep _ _ (by simpa using fun e => n1 e.symm) ((e3.trans e6).keep _ _ g1)
     have fin : (s ∈ E \/ rev s ∈ E) -> zai6 E (S.take ((i' + 1) + 1)) := fun h => by
      refine ⟨fun x hx => ?_, hrise, fun x hx => ?_⟩
      ·rw [htk] at hx
       rcases List.mem_append.1 hx with r | r
       ·exact ok.up x r
       ·simp at r; subst r; omega
      ·rw [htk] at hx
       rcases List.mem_append.1 hx with r | r
       ·exact ok.ed x r
       ·simp at r; subst r; exact h
     by_cases h1 : s ∈ E
     ·rw [decide_eq_true h1] at hl1
      simp [hge, b2'', t3, hl1, m1, t10, t73, wi]
      exact ⟨_, by omega, (i' + 1) + 1, ⟨es7, gm7, g17, fin (.inl h1), by omega, rfl, by simp [t1, t3, t10, t71, t72]⟩⟩
     ·rw [decide_eq_false h1] at hl1
      by_cases h2 : rev s ∈ E
      ·rw [decide_eq_true h2] at hl2
       simp [hge, b0', b1'', b2'', t3, hl1, hl2, m1, setSeg, t10, t73, wi]
       exact ⟨_, by omega, (i' + 1) + 1, ⟨es7, gm7, g17, fin (.inr h2), by omega, rfl, by simp [t1, t3, t10, t71, t72]⟩⟩
      ·rw [decide_eq_false h2] at hl2
       have hb : ¬ zai6 E S := fun h => by
        rcases h.ed s hsm with r | r
        ·exact h1 r
        ·exact h2 r
       simp [hge, b0', b1'', b2'', t3, hl1, hl2, setSeg]
       exact ⟨hb, esX.ex⟩
 ·have hil : i = S.length := by omega
  subst hil
  rw [List.take_length] at es ok
  simp [t72, t73]
  exact ⟨es, gm, ok, by simp [t3, t10]⟩
end
end Go.Proofs.Ytcepchipgjpkhaa
namespace Go.Proofs.Ytcepchipgjpkhaa
open Go Go.AI
theorem exW {p : Type} {F : Nat -> Option FnD} {c : za0} {τ : Env} {H : Heap} {Q' : Post} {R : p -> Post} (h : Wp F c τ H Q') (k : ∀ s τ' H', Q' s τ' H' -> ∃ x, R x s τ' H') : ∃ x, Wp F c τ H (R x) := by
 obtain ⟨n, s, τ', H', e, q⟩ := h
 obtain ⟨x, hx⟩ := k s τ' H' q
 exact ⟨x, n, s, τ', H', e, hx⟩
def zcf7 : za0 := match N75.body with | .seq (.det c) _ => c | _ => .skip
def zcf6 : za0 := match N75.body with | .seq _ (.seq (.det c) _) => c | _ => .skip
def zcf5 : za0 := match N75.body with | .seq _ (.seq _ (.seq _ (.seq (.det c) _))) => c | _ => .skip
def zb50 : za0 := match N75.body with | .seq _ (.seq _ (.seq _ (.seq _ (.seq _ (.seq _ (.det c)))))) => c | _ => .skip
def k75r : NC := match N75.body with | .seq _ (.seq _ (.seq _ (.seq _ (.seq _ (.seq c _))))) => c | _ => .det .skip
theorem zch8 : N75.body = .seq (.det zcf7) (.seq (.det zcf6) (.seq (.det k75a) (.seq (.det zcf5) (.seq (.det k75b) (.seq k75r (.det zb50)))))) := rfl
theorem zcl4 : z10 FT := ⟨rfl, rfl, rfl, rfl, rfl, rfl, rfl, rfl, rfl, rfl, rfl, rfl, rfl, rfl, rfl, rfl, rfl⟩
theorem cmpT : CmpT FT := ⟨rfl, rfl, rfl⟩
theorem chkT : ChkT FT := ⟨fun hw => zal7 zcl4 hw, cmpT, rfl, rfl, rfl, rfl, rfl⟩
def zbd3 (E S : List (Int × Int)) (s : Int × Int) : Prop := rev s ∈ E \/ upE s ∈ S
section
variable {H H' : Heap}
structure Rr (Hs H' : Heap) (E S : List (Int × Int)) (om os it : Nat) (seen : List Nat) (τ : Env) : Prop where
 ex : Ext Hs H'
 nx : H'.next <= Hs.next + 4 * seen.length
 nd : seen.Nodup
 lt : ∀ i, i ∈ seen -> i < E.length
 ok : ∀ i s, i ∈ seen -> E[i]? = some s -> zbd3 E S s
 t : Tm τ [(3, .map om), (10, .map os), (118, .ptr it 0)]
theorem zcr2 {H4 : Heap} {E S : List (Int × Int)} {om os : Nat} {v : AV} {H' : Heap} (hw4 : H4.Wf) (gm : H4.get om = some (.map (E.map entb))) (gs : H4.get os = some (.map (S.map entb))) (v0 : (∀ s, s ∈ E -> zbd3 E S s) -> v = .int .i64 0) (v2 : (∃ s, s ∈ E /\ ¬ zbd3 E S s) -> v = .int .i64 2)
  (hfl : H'.floor = H4.floor) (hnx : H4.next + 2 + 4 * E.length <= H'.next) (hhi : ∀ o, H'.next <= o -> H'.get o = none) (hget : ∀ o x, H'.get o = some x -> H4.get o = some x) {τ0 : Env} (w : Tm τ0 [(3, .map om), (10, .map os)]) :
  WpN FT (.seq k75r (.det zb50)) τ0 H4 (finQ N75.results fun r H1 => Outs r H1 v H') := by
 simp at w
 obtain ⟨w3, w10⟩ := w
 have hlm := hw4.lt gm
 have hls := hw4.lt gs
 have e2 := Ext.push hw4 .dead
 generalize hHs : ({ H4.push .dead with floor := H4.next } : Heap) = Hs
 have ns : Hs.next = H4.next + 1 := by rw [<- hHs]; rfl
 have fs : Hs.floor = H4.next := by rw [<- hHs]
 have ws : Hs.Wf := by rw [<- hHs]; exact ⟨by show H4.next <= H4.next + 1; omega, e2.wf.2⟩
 have gk : ∀ o x, H4.get o = some x -> Hs.get o = some x := fun o x q => by rw [<- hHs]; exact e2.keep o x q
 have out : ∀ {H5 : Heap} {r : AV}, Ext Hs H5 -> H5.next <= Hs.next + 4 * E.length + 1 -> r = v -> Outs r { H5 with floor := H4.floor } v H' := by
  intro H5 r ex nx hr
  subst hr
  exact Outs.same hfl (by show H5.next <= H'.next; omega) hhi fun o x q => ex.keep _ _ (gk _ _ (hget o x q))
 rw [zay8]
 simp only [k75r, N75]
 rw [zb82]
 unfold RngW
 simp [w3]
 refine ⟨E.map entb, H4.next, fun seen τ H' => Rr Hs H' E S om os H4.next seen τ, ?_⟩
 refine ⟨hw4.1, Nat.le_refl _, hlm, gm, ?_, fun h => by have := h.t; simp at this; exact this.2.2, ?_, ?_⟩
 ·rw [hHs]
  exact ⟨Ext.refl ws, by simp, by simp, by simp, by simp, by simp [w3, w10]⟩
 ·rintro seen τ H2 i e ⟨ex, nx, nd, lt, ok, t⟩ hi he
  simp at t
  obtain ⟨t3, t10, t118⟩ := t
  rw [List.getElem?_map] at he
  cases hE : E[i]? with
  | none => rw [hE] at he; cases he
  | some s =>
   rw [hE] at he
   cases he
   have hil : i < E.length := (List.getElem?_eq_some_iff.1 hE).1
   have hsm := List.mem_of_getElem? hE
   have nd' : (i :: seen).Nodup := List.nodup_cons.2 ⟨hi, nd⟩
   have lt' : ∀ j, j ∈ i :: seen -> j < E.length := fun j hj => by
    rcases List.mem_cons.1 hj with r | r
    ·rw [r]; exact hil
    ·exact lt j r
   have hsl : seen.length <= E.length := by
    have hsub : seen ⊆ List.range E.length := fun x hx => List.mem_range.2 (lt x hx)
    have := List.Nodup.length_le_of_subset nd hsub
    simpa using this
   have hsl' : (i :: seen).length <= E.length := by
    have hsub : (i :: seen) ⊆ List.range E.length := fun x hx => List.mem_range.2 (lt' x hx)
    have := List.Nodup.length_le_of_subset nd' hsub
    simpa using this
   have ok' : zbd3 E S s -> ∀ j s', j ∈ i :: seen -> E[j]? = some s' -> zbd3 E S s' := fun h j s' hj hs => by
    rcases List.mem_cons.1 hj with r | r
    ·subst r; rw [hE] at hs; cases hs; exact h
    ·exact ok j s' r hs
   obtain ⟨H3, st, g3, e3, n3⟩ := zd4 ex.wf (z := [.int .i64 0, .int .i64 0]) (n := 2) (x := .agg (za2 s)) (cs := za2 s) rfl rfl rfl rfl
   have ex3 := ex.trans e3
   have lp1 : za9 H3 none (.ptr H2.next 0) = some (.int .i64 s.1) := za1 g3 rfl
   have lp2 : za9 H3 none (.ptr H2.next 1) = some (.int .i64 s.2) := za1 g3 rfl
   have lp3 : za9 H3 (some 2) (.ptr H2.next 0) = some (.agg (za2 s)) := zc0 g3 rfl
   have gm3 := ex3.keep _ _ (gk _ _ gm)
   have hl1 : (zp1 H3 (.flat [.int, .int]) (.map om) (.agg [.int .i64 s.2, .int .i64 s.1])).map (zt3 (.bool false) false) = some (.bool (decide (rev s ∈ E))) := zp0 (s := rev s) gm3
   by_cases h1 : rev s ∈ E
   ·rw [decide_eq_true h1] at hl1
    simp [entb, st, t3, lp1, lp2, setSeg, hl1]
    exact ⟨ex3, by rw [List.length_cons]; omega, nd', lt', ok' (.inl h1), by simp [t3, t10, t118]⟩
   ·rw [decide_eq_false h1] at hl1
    simp [entb, st, t3, t10, lp1, lp2, lp3, setSeg, hl1]
    refine (zcl1 rfl e3.wf).mono ?_
    rintro _ H6 ⟨rfl, e6, n6⟩
    have ex6 := ex3.trans e6
    have gs6 := ex6.keep _ _ (gk _ _ gs)
    have hl2 := zp0 (s := upE s) gs6
    by_cases h2 : upE s ∈ S
    ·rw [decide_eq_true h2] at hl2
     simp [hl2]
     exact ⟨ex6, by rw [List.length_cons]; omega, nd', lt', ok' (.inr h2), by simp [t3, t10, t118]⟩
    ·rw [decide_eq_false h2] at hl2
     have hb : v = .int .i64 2 := v2 ⟨s, hsm, fun h => by
      rcases h with r | r
      ·exact h1 r
      ·exact h2 r⟩
     rw [List.length_cons] at hsl'
     simp [hl2]
     exact out ex6 (by omega) hb.symm
 ·rintro seen τ H2 ⟨ex, nx, nd, lt, ok, t⟩ hall
  rw [List.length_map] at hall
  have hv : v = .int .i64 0 := v0 fun s hs => by
   obtain ⟨i, hi⟩ := List.getElem?_of_mem hs
   exact ok i s (hall i (List.getElem?_eq_some_iff.1 hi).1) hi
  have hsl : seen.length <= E.length := by
   have hsub : seen ⊆ List.range E.length := fun x hx => List.mem_range.2 (lt x hx)
   have := List.Nodup.length_le_of_subset nd hsub
   simpa using this
  simp [zb50, N75]
  exact out ex (by omega) hv.symm
theorem zb41 {P : List (Int × Int)} {T : List Tri} {S : List (Int × Int)} (h : ¬ zai6 (zx2 T) S) : ¬ zi5 P T S := fun k => h ⟨k.segU, k.segR, k.segE⟩
theorem zb40 {P : List (Int × Int)} {T : List Tri} {S : List (Int × Int)} (h : zaz9 P T) : ¬ zi5 P T S := fun k => h ⟨k.tri, k.rise, k.nod⟩
theorem zch4 (hw : H.Wf) {vP vT vS : AV} {P : List (Int × Int)} {T : List Tri} {S : List (Int × Int)} (hP : Rw 2 za2 H vP P) (hT : Rw 3 zh2 H vT T) (hS : Rw 2 za2 H vS S) (lP : P.length <= 1000000000) (lT : T.length <= 1000000000) (lS : S.length <= 1000000000) :
  ∃ H' : Heap, WpN FT N75.body (zf9 0 [.agg [vP, vT, vS]] .leaf) H (finQ N75.results fun r H1 => Outs r H1 (.int .i64 (chkM P T S)) H') /\ (∃ n, H.next <= n /\ H' = { H with next := n }) := by
 have hall : za5 [vP, vT, vS] = true := by simp [za5, hP.one.1, hT.one.1, hS.one.1]
 obtain ⟨g1, e1⟩ := za4 hw (.cells [vP, vT, vS])
 obtain ⟨gm, e2⟩ := za4 e1.wf (.map [])
 have big : ∀ {H1 : Heap} (_ : Ext H H1) (n : Nat), H1.next <= n -> ∀ {r : AV}, r = .int .i64 (chkM P T S) -> Outs r H1 (.int .i64 (chkM P T S)) { H with next := n } := by
  intro H1 ex n hn r hr
  subst hr
  exact Outs.same ex.floor.symm hn (fun o ho => hw.2 o (by have := ex.next; have : n <= o := ho; omega)) (fun o x q => ex.keep _ _ q)
 have key : ∃ n : Nat, H.next <= n /\ WpN FT N75.body (zf9 0 [.agg [vP, vT, vS]] .leaf) H (finQ N75.results fun r H1 => Outs r H1 (.int .i64 (chkM P T S)) { H with next := n }) := by
  suffices h : ∃ x : { n : Nat // H.next <= n }, WpN FT N75.body (zf9 0 [.agg [vP, vT, vS]] .leaf) H (finQ N75.results fun r H1 => Outs r H1 (.int .i64 (chkM P T S)) { H with next := x.1 }) by
   obtain ⟨x, hx⟩ := h
   exact ⟨x.1, x.2, hx⟩
  rw [zch8]
  simp only [zay8, zbl7]
  refine exW (Q' := fun s τ H1 => s = .next /\ H1 = H.push (.cells [vP, vT, vS]) /\ Tm τ [(1, .ptr H.next 0)]) (by simp [zcf7, N75, hall]) ?_
  rintro s τ1 _ ⟨rfl, rfl, u⟩
  simp at u
  simp only [zr2]
  generalize H.push (.cells [vP, vT, vS]) = H1 at *
  refine exW (Q' := fun s τ H2 => s = .next /\ H2 = H1.push (.map []) /\ Tm τ [(1, .ptr H.next 0), (3, .map H1.next)]) (by simp [zcf6, N75, u]) ?_
  rintro s τ2 _ ⟨rfl, rfl, u⟩
  simp only [zr2]
  have n1 := e1.next
  have hn1 : H.next < H1.next := e1.wf.lt g1
  have es0 : Es H (H1.push (.map [])) H1.next [] := ⟨e1.trans e2, gm, n1, by simp⟩
  have g1' := e2.keep _ _ g1
  generalize H1.push (.map []) = H2 at *
  refine exW (zcr4 chkT hw (hP.sl zc6) (hT.sl zq0) lP lT es0 g1' (by omega) u) ?_
  rintro s τ3 H3 (⟨rfl, ⟨es3, g3, tri, rise, u⟩⟩ | ⟨rfl, hb, ex, u⟩)
  ·simp at u
   obtain ⟨u1, u3⟩ := u
   simp only [zr2]
   refine exW (Q' := fun s τ H4 => s = .next /\ H4 = H3.push (.map []) /\ Tm τ [(1, .ptr H.next 0), (3, .map H1.next), (10, .map H3.next)]) (by simp [zcf5, N75, u1, u3]) ?_
   rintro s τ4 _ ⟨rfl, rfl, u⟩
   simp only [zr2]
   obtain ⟨gs, e4⟩ := za4 es3.ex.wf (.map [])
   have hom3 := es3.ex.wf.lt es3.gm
   have hob3 := es3.ex.wf.lt g3
   have es4 : Es H (H3.push (.map [])) H3.next [] := ⟨es3.ex.trans e4, gs, es3.ex.next, by simp⟩
   have gm4 := e4.keep _ _ es3.gm
   have g4 := e4.keep _ _ g3
   generalize H3.push (.map []) = H4 at *
   refine exW (zcr3 chkT hw (hS.sl zc6) lS es4 gm4 g4 (by omega) (by omega) u) ?_
   rintro s τ5 H5 (⟨rfl, ⟨es5, gm5, ok, u⟩⟩ | ⟨rfl, hb, ex, u⟩)
   ·simp only [zr2]
    have hnx := es5.ex.next
    refine ⟨⟨H5.next + 2 + 4 * (zx2 T).length, by omega⟩, ?_⟩
    have := zcr2 (v := .int .i64 (chkM P T S)) (H' := { H with next := H5.next + 2 + 4 * (zx2 T).length }) es5.ex.wf gm5 es5.gm (fun h => by
     rw [zay0 ⟨tri, rise, es3.nd, ok.up, ok.rise, ok.ed, h⟩]) (fun h => by
     rw [zag3 fun k => by
      obtain ⟨s, hs, hn⟩ := h
      exact hn (k.rim s hs)]) es5.ex.floor.symm (Nat.le_refl _) (fun o ho => hw.2 o (by have : H5.next + 2 + 4 * (zx2 T).length <= o := ho; omega)) (fun o x q => es5.ex.keep _ _ q) u
    simpa only [zay8, zbl7] using this
   ·simp at u
    refine ⟨⟨H5.next, ex.next⟩, ?_⟩
    simp only [zaq4]
    simp [N75, u]
    exact big ex _ (Nat.le_refl _) (by rw [zag3 (zb41 hb)])
  ·simp at u
   refine ⟨⟨H3.next, ex.next⟩, ?_⟩
   simp only [zaq4]
   simp [N75, u]
   exact big ex _ (Nat.le_refl _) (by rw [zag3 (zb40 hb)])
 obtain ⟨n, h1, h2⟩ := key
 exact ⟨_, h2, n, h1, rfl⟩
def K75 (args : List AV) (H : Heap) (v : AV) (H' : Heap) : Prop := ∃ av P T S, args = [av] /\ Msh H av P T S /\ v = .int .i64 (chkM P T S) /\ Ext H H'
theorem zcg1 (hw : H.Wf) {av : AV} {P : List (Int × Int)} {T : List Tri} {S : List (Int × Int)} (hm : Msh H av P T S) (lP : P.length <= 1000000000) (lT : T.length <= 1000000000) (lS : S.length <= 1000000000) :
  ∃ v H', AI.Good Try.prog 75 [av] H v H' /\ K75 [av] H v H' := by
 obtain ⟨vP, vT, vS, rfl, a, b, c⟩ := hm.ex
 obtain ⟨H', h1, n, h2, rfl⟩ := zch4 hw a b c lP lT lS
 have low : ∀ o, o < H.floor -> ({ H with next := n } : Heap).get o = H.get o := fun o _ => rfl
 have g : AI.Good Try.prog 75 [.agg [vP, vT, vS]] H (.int .i64 (chkM P T S)) { H with next := n } := zbs6 (FT := FT) (fun G => zb86) zcl8 (by show 1 <= 138; omega) low h1
 refine ⟨.int .i64 (chkM P T S), { H with next := n }, g, .agg [vP, vT, vS], P, T, S, rfl, hm, rfl, ?_⟩
 exact ⟨rfl, h2, fun _ _ e => e, ⟨Nat.le_trans hw.1 h2, fun o ho => hw.2 o (Nat.le_trans h2 ho)⟩⟩
end
end Go.Proofs.Ytcepchipgjpkhaa
