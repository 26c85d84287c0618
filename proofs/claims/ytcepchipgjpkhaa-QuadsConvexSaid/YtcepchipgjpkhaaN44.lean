/- The chapter's example of layer 19: the square, faces compared, the program's Pair. No claim by itself. -/
import Derived.Test.YtcepchipgjpkhaaN43
import Derived.Test.YtcepchipgjpkhaaN10
namespace Go.Proofs.Ytcepchipgjpkhaa
open Go Go.AI
open Gr (zbh4 zby4 zv4 zm7 TB zu9 Adj Mt zb48 maxOf zam1 zaw7)
section
variable {FT : Nat -> Option FnD} {H H' : Heap}
theorem zab5 (h64 : FT 64 = some (.code A64)) (hw : H.Wf) : Cp FT 64 [] H (fun r H' => (Msh H' r sqP cutT cutS /\ ∃ a b, r = .agg [.slc (H.next + 1) 0 4 2 4 true, a, b]) /\ Ext H H') := by
 refine zb1 A64 h64 rfl ?_
 obtain ⟨g0, e0⟩ := za4 hw (.cells [.nils, .nils, .nils])
 obtain ⟨g1, e1⟩ := za4 e0.wf (.cells (sqP.flatMap za2))
 obtain ⟨g2, e2⟩ := za4 e1.wf (.cells (cutT.flatMap zh2))
 obtain ⟨g3, e3⟩ := za4 e2.wf (.cells (cutS.flatMap za2))
 have f3 : ∀ (e : Opd -> AV) (cs : List AV) (off : Nat) (a b c : Int) (r : List (Nat × Nat × Opd)), zj7 e cs off 3 (.agg [.int .i64 a, .int .i64 b, .int .i64 c]) r = if off + 3 <= cs.length then zh0 e (setSeg cs off [.int .i64 a, .int .i64 b, .int .i64 c]) r else none := fun e cs off a b c r => by simp [zj7]
 have k0 := e3.keep _ _ (e2.keep _ _ (e1.keep _ _ g0))
 have ex := ((e0.trans e1).trans e2).trans e3
 obtain ⟨H5, s1, s2, s3⟩ := ze0 (n := 3) (x := .agg [.slc (H.next + 1) 0 4 2 4 true, .slc (H.next + 1 + 1) 0 2 3 2 true, .slc (H.next + 1 + 1 + 1) 0 4 2 4 true]) ex.wf rfl rfl (by rw [ex.floor]; exact hw.1) k0 rfl rfl
 have q1 : (H.push (.cells [.nils, .nils, .nils])).next ∉ [H.next] := by simp
 have q2 : ((H.push (.cells [.nils, .nils, .nils])).push (.cells (sqP.flatMap za2))).next ∉ [H.next] := by simp; omega
 have q3 : (((H.push (.cells [.nils, .nils, .nils])).push (.cells (sqP.flatMap za2))).push (.cells (cutT.flatMap zh2))).next ∉ [H.next] := by simp; omega
 have g1' := s3.keep _ _ q1 (e3.keep _ _ (e2.keep _ _ g1))
 have g2' := s3.keep _ _ q2 (e3.keep _ _ g2)
 have g3' := s3.keep _ _ q3 g3
 have hm := zbg3 s3.wf g1' g2' g3'
 have s2' := za3 s2
 have e5 : Ext H H5 := zp3 hw ex s3 (fun p hp => by simp at hp; omega)
 simp [-ze4, A64, setSeg, f3]
 refine Eq.mpr (congrArg (opK FT none [] _ _) s1) ?_
 simp [zb5, ze1, s2', ze2, seg, zg8]
 exact ⟨hm, e5⟩
theorem zbx2 (h32 : FT 32 = some (.code A32)) (h66 : FT 66 = some (.code A66)) {v w : AV} {F G : List (List Int)} (hF : Gd H v F) (hG : Gd H w G) (lF : F.length <= 1000000000) (lr : ∀ f, f ∈ F -> f.length <= 1000000000) :
  Cp FT 66 [v, w] H (fun r H' => r = .bool (decide (F = G)) /\ H' = H) := by
 refine zb1 A66 h66 rfl ?_
 simp [A66, hF.len, hG.len]
 by_cases hl : F.length = G.length
 ·have hl' : (F.length : Int) = G.length := by omega
  simp [hl']
  refine zb7 (fun m τ H' => H = H' /\ ∃ i, i <= F.length /\ m = F.length - i /\ F.take i = G.take i /\ Tm τ [(0, v), (1, w), (5, .int .i64 (i : Int))]) ?_ F.length _ _ ⟨rfl, 0, by omega, by omega, by simp, by simp⟩
  rintro m τ _ ⟨rfl, i, hi, rfl, heq, t⟩
  simp at t
  obtain ⟨t0, t1, t5⟩ := t
  by_cases q : i < F.length
  ·obtain ⟨p1, r1, f, a1, a2, a3, a4⟩ := hF.idx (k := .i64) (i := (i : Int)) (by omega) (by omega)
   obtain ⟨p2, r2, g, b1, b2, b3, b4⟩ := hG.idx (k := .i64) (i := (i : Int)) (by omega) (by omega)
   rw [Int.toNat_natCast] at a1 b1
   have wi : IntKind.i64.wrap ((i : Int) + 1) = (i : Int) + 1 := wrap64 (by omega) (by omega)
   simp [q, t0, t1, t5, hF.len, a2, a3, b2, b3]
   refine (zb26 h32 (a4.sl zc9) (b4.sl zc9) (lr f (List.mem_of_getElem? a1))).mono ?_
   rintro _ _ ⟨rfl, rfl⟩
   by_cases hfg : f = g
   ·simp [hfg, t0, t1, t5, wi]
    exact ⟨_, by omega, i + 1, by omega, rfl, by rw [List.take_add_one, List.take_add_one, a1, b1, heq, hfg], by omega⟩
   ·have hne : F ≠ G := fun h => hfg (by subst h; rw [a1] at b1; cases b1; rfl)
    simp [hfg, hne]
  ·rw [List.take_of_length_le (by omega), List.take_of_length_le (by omega)] at heq
   subst heq
   simp [q, t0, t5, hF.len]
 ·have hl' : ¬ (F.length : Int) = G.length := by omega
  have hne : F ≠ G := fun h => hl (by rw [h])
  simp [hl', hne]
structure PrQ (H0 H' : Heap) (P : List (Int × Int)) (T : List Tri) (S : List (Int × Int)) (r : AV) : Prop where
 yes : zi5 P T S -> ∃ v, r = .tup [v, .int .i64 (cnt (zv4 T.length (maxOf T.length (zu9 (zz0 P T S)))) / 2 : Nat), .int .i64 0] /\ Go.AI.Rows H0 H' v (za16 P T S (zv4 T.length (maxOf T.length (zu9 (zz0 P T S)))))
 no : ¬ zi5 P T S -> r = .tup [.nils, .int .i64 0, .int .i64 2]
theorem zce0 (L : zaz0 FT) (B : TB FT) (h41 : FT 41 = some (.code A41)) (h65 : FT 65 = some (.code A65)) (h70 : FT 70 = some (.code A70)) (hw : H.Wf) {x : AV} {P : List (Int × Int)} {T : List Tri} {S : List (Int × Int)} (hm : Msh H x P T S) (lP : P.length <= 1000000000) (lT : T.length <= 1000) (lS : S.length <= 1000000000) :
  Cp FT 41 [x] H (fun r H' => PrQ H H' P T S r /\ Ext H H') := by
 obtain ⟨vP, vT, vS, rfl, rP, rT, rS⟩ := hm.ex
 refine zb1 A41 h41 rfl ?_
 obtain ⟨g1, e1⟩ := za4 hw (.cells [vP, vT, vS])
 have hall : za5 [vP, vT, vS] = true := by simp [za5, rP.one.1, rT.one.1, rS.one.1]
 generalize hH1 : H.push (.cells [vP, vT, vS]) = H1 at g1 e1
 have l1 : za9 H1 (some 3) (.ptr H.next 0) = some (.agg [vP, vT, vS]) := zc0 g1 rfl
 simp [A41, hall, hH1, l1]
 refine (zbf1 L e1.wf (hm.ext e1) lP (by omega) lS).mono ?_
 rintro _ H2 ⟨⟨hy, hn⟩, e2⟩
 have x2 := e1.trans e2
 by_cases ok : zi5 P T S
 ·obtain ⟨v5, rfl, r5, _⟩ := hy ok
  have f1 : za9 H2 none (.ptr H.next 1) = some vT := za1 (e2.keep _ _ g1) rfl
  have rT2 := rT.ext x2
  have hlen := za09 ok
  have hright := zbe5 (P := P) (S := S) (T := T) lT
  simp [f1, rT2.len]
  refine (zb48 B e2.wf (n := (T.length : Int)) (r5.sl zc6) (by omega)).mono ?_
  rintro _ H3 ⟨e3, ⟨_, u, rfl, hu, nu⟩ | ⟨hb, _⟩⟩
  ·rw [Int.toNat_natCast] at hu
   obtain ⟨_, hmt, _⟩ := zam1 hright
   rw [Int.toNat_natCast] at hmt
   have hM : isM (T.length : Int) (zz0 P T S) (zv4 T.length (maxOf T.length (zu9 (zz0 P T S)))) = true := by
    have := zby4 hright hmt
    rw [Int.toNat_natCast] at this
    exact this
   have x3 := x2.trans e3
   have l3 : za9 H3 (some 3) (.ptr H.next 0) = some (.agg [vP, vT, vS]) := zd6 l1 (e2.trans e3)
   have hml := zm7 (n := T.length) (m := maxOf T.length (zu9 (zz0 P T S)))
   generalize hme : zv4 T.length (maxOf T.length (zu9 (zz0 P T S))) = mate at *
   simp [l3]
   refine (zaw6 L B h65 x3.wf (hm.ext x3) hu lP (by omega) lS (by omega)).mono ?_
   rintro _ H4 ⟨⟨my, _⟩, e4⟩
   obtain ⟨v, rfl, rows⟩ := my ok hM
   simp
   refine (zcc6 h70 (hu.ext e4) (by omega)).mono ?_
   rintro _ _ ⟨rfl, rfl⟩
   simp
   exact ⟨⟨fun _ => ⟨v, by rw [hme]; simp, by rw [hme]; exact Rows.base rows x3.next⟩, fun h => absurd ok h⟩, x3.trans e4⟩
  ·rw [hright] at hb; cases hb
 ·rw [hn ok]
  simp
  exact ⟨⟨fun h => absurd h ok, fun _ => rfl⟩, x2⟩
end
end Go.Proofs.Ytcepchipgjpkhaa
