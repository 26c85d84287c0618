/- Triangles made one by a matching: the program's Merge. No claim by itself. -/
import Derived.Test.YtcepchipgjpkhaaM5
import Derived.Test.YtcepchipgjpkhaaNF
namespace Go.Proofs.Ytcepchipgjpkhaa
open Go Go.AI
open Gr (zbh4 zv4 zm7 TB zu9 Adj Mt zb48 maxOf zaw7)
section
variable {FT : Nat -> Option FnD} {H H' : Heap}
theorem za09 {P S : List (Int × Int)} {T : List Tri} (ok : zi5 P T S) : (zz0 P T S).length <= 3 * T.length := by
 rw [<- zbe6 ok.nod, show (srtS (prL P T S T.length)).length = (prL P T S T.length).length from za03 _]
 exact zal5 P T S T.length
noncomputable def zw7 (P : List (Int × Int)) (T : List Tri) (S : List (Int × Int)) (mate : List Int) (i : Nat) : List (List Int) := (List.range i).flatMap (fcM P T S mate)
theorem zq3 (P : List (Int × Int)) (T : List Tri) (S : List (Int × Int)) (mate : List Int) (i : Nat) : zw7 P T S mate (i + 1) = zw7 P T S mate i ++ fcM P T S mate i := by unfold zw7; rw [List.range_succ, List.flatMap_append]; simp
theorem zcg6 (P : List (Int × Int)) (T : List Tri) (S : List (Int × Int)) (mate : List Int) (i : Nat) : (fcM P T S mate i).length <= 1 := by
 unfold fcM
 split
 ·split
  ·simp
  ·split <;> simp
 ·simp
theorem zae5 (P : List (Int × Int)) (T : List Tri) (S : List (Int × Int)) (mate : List Int) : ∀ i, (zw7 P T S mate i).length <= i
 | 0 => by simp [zw7]
 | i + 1 => by
  have := zae5 P T S mate i
  have h := zcg6 P T S mate i
  rw [zq3, List.length_append]
  omega
theorem Rows.lt {Hb : Heap} {v : AV} {F : List (List Int)} (h : Go.AI.Rows Hb H v F) (hw : H.Wf) {p : Nat} (hp : rowObj v = some p) : p < H.next /\ Hb.next <= p := by
 obtain ⟨rs, a, _, _⟩ := h.ex
 exact ⟨a.lt hw hp, a.new p hp⟩
theorem Rows.base {Ha Hb : Heap} {v : AV} {F : List (List Int)} (h : Go.AI.Rows Hb H v F) (hn : Ha.next <= Hb.next) : Go.AI.Rows Ha H v F := by
 obtain ⟨rs, a, b, c⟩ := h.ex
 exact ⟨rs, ⟨a.ow, fun p hp => Nat.le_trans hn (a.new p hp)⟩, b, fun i r f q1 q2 => ⟨(c i r f q1 q2).1, fun p hp => ⟨Nat.le_trans hn ((c i r f q1 q2).2 p hp).1, ((c i r f q1 q2).2 p hp).2⟩⟩⟩
structure MgR (H0 H' : Heap) (P : List (Int × Int)) (T : List Tri) (S : List (Int × Int)) (mate : List Int) (r : AV) : Prop where
 yes : zi5 P T S -> isM (T.length : Int) (zz0 P T S) mate = true -> ∃ v, r = .tup [v, .int .i64 0] /\ Go.AI.Rows H0 H' v (za16 P T S mate)
 no : ¬ (zi5 P T S /\ isM (T.length : Int) (zz0 P T S) mate = true) -> r = .tup [.nils, .int .i64 2]
def k65b : za0 := zf3 [1, 1, 1, 1] A65.body
theorem zci0 : A65.body = putAt [1, 1, 1, 1] A65.body k65b := rfl
structure Mg1 (H1 H' : Heap) (o2 : Nat) (u vT v8 : AV) (P : List (Int × Int)) (T : List Tri) (S : List (Int × Int)) (mate : List Int) (τ : Env) (i m : Nat) : Prop where
 ex : Ext H1 H'
 rows : Go.AI.Rows H1 H' v8 (zw7 P T S mate i)
 le : i <= T.length
 hm : m = T.length - i
 t : Tm τ [(1, u), (2, .ptr o2 0), (8, v8), (31, vT), (32, .int .i64 T.length), (33, .int .i64 i)]
theorem zb47 (L : zaz0 FT) {H0 H1 : Heap} (_hw0 : H0.Wf) (e0 : Ext H0 H1) {o2 : Nat} {u vP vT vS : AV} {P : List (Int × Int)} {T : List Tri} {S : List (Int × Int)} {mate : List Int} (hm : Msh H1 (.agg [vP, vT, vS]) P T S) (rT : Tris H1 vT T) (g2 : H1.get o2 = some (.cells [vP, vT, vS])) (hu : Ints H1 u mate) (hl : mate.length = T.length) (ok : zi5 P T S) (hM : isM (T.length : Int) (zz0 P T S) mate = true) (lP : P.length <= 1000000000) (lT : T.length <= 1000000) (lS : S.length <= 1000000000) {τ0 : Env}
  (w : Tm τ0 [(1, u), (2, .ptr o2 0), (8, .nils)]) :
  Wp FT k65b τ0 H1 (finQ A65.results fun r H' => MgR H0 H' P T S mate r /\ Ext H0 H') := by
 simp at w
 obtain ⟨w1, w2, w8⟩ := w
 have f1 : za9 H1 none (.ptr o2 1) = some vT := za1 g2 rfl
 have hw1 := e0.wf
 simp [k65b, zf3, A65, w2, f1, rT.len]
 refine zb7 (fun m τ H' => ∃ i v8, Mg1 H1 H' o2 u vT v8 P T S mate τ i m) ?_ T.length _ _ ⟨0, .nils, ⟨Ext.refl hw1, by simpa [zw7] using Go.AI.Rows.nil, by omega, by omega, by simp [w1, w2, w8]⟩⟩
 rintro m τ H2 ⟨i, v8, ⟨ex, rows, hi, rfl, t⟩⟩
 simp at t
 obtain ⟨t1, t2, t8, t31, t32, t33⟩ := t
 by_cases q : i < T.length
 ·have wi : IntKind.i64.wrap ((i : Int) + 1) = (i : Int) + 1 := wrap64 (by omega) (by omega)
  have hT2 := rT.ext ex
  obtain ⟨o1, off1, t, a1, a2, a3, _⟩ := Tris.idx hT2 (k := .i64) (i := (i : Int)) (by omega) (by omega)
  rw [Int.toNat_natCast] at a1
  obtain ⟨H3, st3, g10, e3, n3⟩ := zd4 ex.wf (z := [.int .i64 0, .int .i64 0, .int .i64 0]) (n := 3) (x := .agg (zh2 t)) (cs := zh2 t) rfl rfl rfl rfl
  have x3 := ex.trans e3
  obtain ⟨p, k, b1, b2, _, b4⟩ := Sl.idx (hu.ext x3) (k := .i64) (i := (i : Int)) (by omega) (by omega)
  rw [Int.toNat_natCast] at b1
  have b5 := b4 _ rfl rfl
  have hfc : fcM P T S mate i = if k < 0 then [rowT t] else if (i : Int) < k then [(zm6 P T S i k).getD []] else [] := by unfold fcM; rw [b1, a1]
  have hml := zae5 P T S mate i
  have nx2 := ex.next
  have nx3 := x3.next
  have rows3 := rows.ext e3
  have vlt : ∀ p, Go.AI.rowObj v8 = some p -> p < H2.next /\ H1.next <= p := fun p hp => Rows.lt rows ex.wf hp
  by_cases c1 : k < 0
  ·rw [if_pos c1] at hfc
   have d0 : za9 H3 none (.ptr H2.next 0) = some (.int .i64 t.1) := za1 g10 rfl
   have d1 : za9 H3 none (.ptr H2.next 1) = some (.int .i64 t.2.1) := za1 g10 rfl
   have d2 : za9 H3 none (.ptr H2.next 2) = some (.int .i64 t.2.2) := za1 g10 rfl
   obtain ⟨g4, e4⟩ := za4 x3.wf (.cells ((rowT t).flatMap zi7))
   have r4 := zi1 (xs := rowT t) zc9 g4
   have x4 := x3.trans e4
   obtain ⟨v8', H5, s1, s2, s3, s4⟩ := (rows3.ext e4).snoc (r := .slc H3.next 0 3 1 3 true) (f := rowT t) (bytes := 24) x4.wf x4.next r4 (fun p hp => by cases hp; omega) (fun p hp => by cases hp; exact fun h => by have := (vlt _ h).1; omega) (by omega)
   have x5 := zp3 hw1 x4 s3 (fun p hp => (vlt p (by simpa using hp)).2)
   have s1' : zc4 1 24 ((H3.push (.cells [.int .i64 t.1, .int .i64 t.2.1, .int .i64 t.2.2])).push (.cells [.slc H3.next 0 3 1 3 true])) v8 (.slc (H3.next + 1) 0 1 1 1 true) = some (v8', H5) := s1
   simp [-ze4, q, t1, t8, t31, t32, t33, a2, a3, st3, b2, b5, c1, d0, d1, d2, setSeg, s1', wi]
   exact ⟨_, by omega, i + 1, v8', ⟨x5, by rw [zq3, hfc]; exact s2, by omega, rfl, by simp [t1, t2, t31, t32]⟩⟩
  ·rw [if_neg c1] at hfc
   by_cases c2 : (i : Int) < k
   ·rw [if_pos c2] at hfc
    have l3 : za9 H3 (some 3) (.ptr o2 0) = some (.agg [vP, vT, vS]) := zc0 (x3.keep _ _ g2) rfl
    simp [-ze4, q, t1, t2, t31, t32, t33, a2, a3, st3, b2, b5, c1, c2, l3]
    refine (zcd7 L x3.wf (i := i) (k := k) (hm.ext x3) lP lT lS).mono ?_
    rintro _ H4 ⟨⟨v12, rfl, h12, n12⟩, e4⟩
    have x4 := x3.trans e4
    have hr : Rw 1 zi7 H4 v12 ((zm6 P T S i k).getD []) /\ ∀ p, Go.AI.rowObj v12 = some p -> H3.next <= p := by
     cases hq : zm6 P T S i k with
     | none => rw [n12 hq]; exact ⟨⟨.inl ⟨rfl, rfl⟩, rfl⟩, fun p hp => (by cases hp)⟩
     | some f => exact h12 f hq
    obtain ⟨v8', H5, s1, s2, s3, s4⟩ := (rows3.ext e4).snoc (r := v12) (f := (zm6 P T S i k).getD []) (bytes := 24) x4.wf x4.next hr.1 (fun p hp => by have := hr.2 p hp; omega) (fun p hp h => by have := (vlt _ h).1; have := hr.2 p hp; omega) (by omega)
    have x5 := zp3 hw1 x4 s3 (fun p hp => (vlt p (by simpa using hp)).2)
    obtain ⟨o1', o2'⟩ := hr.1.one
    simp [t8, t33, zi4 o1' o2', setSeg, s1, wi]
    exact ⟨_, by omega, i + 1, v8', ⟨x5, by rw [zq3, hfc]; exact s2, by omega, rfl, by simp [t1, t2, t31, t32]⟩⟩
   ·rw [if_neg c2] at hfc
    simp [-ze4, q, t1, t31, t32, t33, a2, a3, st3, b2, b5, c1, c2, wi]
    exact ⟨_, by omega, i + 1, v8, ⟨x3, by rw [zq3, hfc, List.append_nil]; exact rows3, by omega, rfl, by simp [t1, t2, t8, t31, t32]⟩⟩
 ·have hiT : i = T.length := by omega
  subst hiT
  simp [t8, t32, t33]
  exact ⟨⟨fun _ _ => ⟨v8, rfl, Rows.base rows e0.next⟩, fun h => absurd ⟨ok, hM⟩ h⟩, e0.trans ex⟩
theorem zaw6 (L : zaz0 FT) (B : TB FT) (h65 : FT 65 = some (.code A65)) (hw : H.Wf) {x u : AV} {P : List (Int × Int)} {T : List Tri} {S : List (Int × Int)} {mate : List Int} (hm : Msh H x P T S) (hu : Ints H u mate) (lP : P.length <= 1000000000) (lT : T.length <= 300000) (lS : S.length <= 1000000000) (lm : mate.length <= 1000000000) :
  Cp FT 65 [x, u] H (fun r H' => MgR H H' P T S mate r /\ Ext H H') := by
 obtain ⟨vP, vT, vS, rfl, rP, rT, rS⟩ := hm.ex
 refine zb1 A65 h65 rfl ?_
 rw [zci0]
 have hkb := @zb47 FT L H
 generalize k65b = kb at hkb ⊢
 obtain ⟨g1, e1⟩ := za4 hw (.cells [vP, vT, vS])
 have hall : za5 [vP, vT, vS] = true := by simp [za5, rP.one.1, rT.one.1, rS.one.1]
 generalize hH1 : H.push (.cells [vP, vT, vS]) = H1 at g1 e1
 have l1 : za9 H1 (some 3) (.ptr H.next 0) = some (.agg [vP, vT, vS]) := zc0 g1 rfl
 simp [A65, putAt, hall, hH1, l1]
 refine (zbf1 L e1.wf (hm.ext e1) lP (by omega) lS).mono ?_
 rintro _ H2 ⟨⟨hy, hn⟩, e2⟩
 have x2 := e1.trans e2
 by_cases ok : zi5 P T S
 ·obtain ⟨v6, rfl, r6, _⟩ := hy ok
  have f1 : za9 H2 none (.ptr H.next 1) = some vT := za1 (e2.keep _ _ g1) rfl
  have rT2 := rT.ext x2
  have hlen := za09 ok
  simp [f1, rT2.len]
  refine (is15 B.h15 B.h21 B.h30 B.h31 B.h37 B.h28 B.h36 (r6.sl zc6) (hu.ext x2) e2.wf (by omega) (by omega)).mono ?_
  rintro _ H3 ⟨rfl, e3⟩
  have x3 := x2.trans e3
  cases hM : isM (T.length : Int) (zz0 P T S) mate with
  | true =>
   have hmt := zbh4 hM
   have hl : mate.length = T.length := by rw [hmt.2.1, zm7]; omega
   simp
   exact hkb hw x3 (o2 := H.next) (hm.ext x3) ((rT.sl zq0).ext x3) (e3.keep _ _ (e2.keep _ _ g1)) (hu.ext x3) hl ok hM lP (by omega) lS (by simp)
  | false =>
   simp
   exact ⟨⟨fun _ h => (by rw [hM] at h; cases h), fun _ => rfl⟩, x3⟩
 ·rw [hn ok]
  simp
  exact ⟨⟨fun h => absurd h ok, fun _ => rfl⟩, x2⟩
end
end Go.Proofs.Ytcepchipgjpkhaa
