/- The chapter's example of layer 19, and QuadsConvex. No claim by itself. -/
import Derived.Test.YtcepchipgjpkhaaN44
import Derived.Test.YtcepchipgjpkhaaN11
namespace Go.Proofs.Ytcepchipgjpkhaa
open Go Go.AI
open Gr (zv4 TB zu9 maxOf)
theorem zb15 : zv4 2 (maxOf 2 (zu9 [(0, 1)])) = [1, 0] := by decide +kernel
theorem zb17 : isM 2 [(0, 1)] [-1, -1] = true := by decide +kernel
theorem zb16 : isM 2 [(0, 1)] [1] = false := by decide +kernel
theorem zbb2 : zm6 sqP cutT cutS 0 1 = some [0, 1, 2, 3] := by rw [<- zbe3]; exact zb13
theorem zbo6 : za16 sqP cutT cutS [1, 0] = [[0, 1, 2, 3]] := by
 show fcM sqP cutT cutS [1, 0] 0 ++ (fcM sqP cutT cutS [1, 0] 1 ++ []) = _
 have h0 : fcM sqP cutT cutS [1, 0] 0 = [[0, 1, 2, 3]] := by
  show (if (1 : Int) < 0 then [rowT (0, 1, 2)] else if ((0 : Nat) : Int) < 1 then [(zm6 sqP cutT cutS ((0 : Nat) : Int) 1).getD []] else []) = _
  rw [if_neg (by decide), if_pos (by decide)]
  rw [show ((0 : Nat) : Int) = 0 from rfl, zbb2]
  rfl
 have h1 : fcM sqP cutT cutS [1, 0] 1 = [] := by
  show (if (0 : Int) < 0 then [rowT (0, 2, 3)] else if ((1 : Nat) : Int) < 0 then [(zm6 sqP cutT cutS ((1 : Nat) : Int) 0).getD []] else []) = _
  rw [if_neg (by decide), if_neg (by decide)]
 rw [h0, h1]
 rfl
theorem zbb4 : za16 sqP cutT cutS [-1, -1] = [[0, 1, 2], [0, 2, 3]] := by
 show fcM sqP cutT cutS [-1, -1] 0 ++ (fcM sqP cutT cutS [-1, -1] 1 ++ []) = _
 rfl
section
variable {FT : Nat -> Option FnD} {H H' : Heap}
theorem zb18 : zr9 sqP [[0, 1, 2, 3]] := by
 intro f hf
 simp only [List.mem_cons, List.not_mem_nil, or_false] at hf
 subst hf
 refine ⟨fun x hx => ?_, ?_⟩
 ·simp only [List.mem_cons, List.not_mem_nil, or_false] at hx
  show 0 <= x /\ x < 4
  omega
 ·exact zag0.1 (by decide)
theorem zbi3 {H : Heap} {o : Nat} {rs : List OneV} {F : List (List Int)} (g : H.get o = some (.cells (rs.flatMap onec))) (hl : rs.length = F.length) (hr : ∀ (i : Nat) (r : OneV) (f : List Int), rs[i]? = some r -> F[i]? = some f -> Rw 1 zi7 H r.1 f) : Gd H (.slc o 0 rs.length 1 rs.length true) F := ⟨rs, zi1 zq2 g, hl, hr⟩
theorem zb49 (L : zaz0 FT) (h32 : FT 32 = some (.code A32)) (B : TB FT) (T : z10 FT) (h36 : FT 36 = some (.code A36)) (h37 : FT 37 = some (.code A37)) (h41 : FT 41 = some (.code A41)) (h64 : FT 64 = some (.code A64)) (h65 : FT 65 = some (.code A65)) (h66 : FT 66 = some (.code A66)) (h70 : FT 70 = some (.code A70)) (hw : H.Wf) :
  Cp FT 36 [] H (fun r _ => r = .bool true) := by
 refine zb1 A36 h36 rfl ?_
 have lP : sqP.length <= 1000000000 := by decide
 have lT : cutT.length <= 1000 := by decide
 have lS : cutS.length <= 1000000000 := by decide
 have hT2 : cutT.length = 2 := rfl
 simp [A36]
 refine (zab5 h64 hw).mono ?_
 rintro v1 H1 ⟨⟨m1, _⟩, e1⟩
 simp
 refine (zce0 L B h41 h65 h70 e1.wf m1 lP lT lS).mono ?_
 rintro r1 H2 ⟨⟨y1, _⟩, e2⟩
 obtain ⟨w1, rfl, rows1⟩ := y1 zb14
 rw [zbb3, hT2, zb15] at rows1 ⊢
 rw [zbo6] at rows1
 have x2 := e1.trans e2
 simp
 refine (zab5 h64 x2.wf).mono ?_
 rintro v3 H3 ⟨⟨m3, _⟩, e3⟩
 have x3 := x2.trans e3
 obtain ⟨g4, e4⟩ := za4 x3.wf (.cells ([(-1 : Int), -1].flatMap zi7))
 have u4 : Ints (H3.push (.cells ([(-1 : Int), -1].flatMap zi7))) (.slc H3.next 0 2 1 2 true) [-1, -1] := (zi1 (xs := [(-1 : Int), -1]) zc9 g4).sl zc9
 simp [setSeg]
 refine (zaw6 L B h65 e4.wf (m3.ext e4) u4 lP (by omega) lS (by simp)).mono ?_
 rintro r4 H5 ⟨⟨y5, _⟩, e5⟩
 rw [zbb3] at y5
 obtain ⟨w5, rfl, rows5⟩ := y5 zb14 zb17
 rw [zbb4] at rows5
 have x5 := (x3.trans e4).trans e5
 simp
 refine (zab5 h64 e5.wf).mono ?_
 rintro v6 H6 ⟨⟨m6, _⟩, e6⟩
 have x6 := x5.trans e6
 obtain ⟨g7, e7⟩ := za4 x6.wf (.cells ([(1 : Int)].flatMap zi7))
 have u7 : Ints (H6.push (.cells ([(1 : Int)].flatMap zi7))) (.slc H6.next 0 1 1 1 true) [1] := (zi1 (xs := [(1 : Int)]) zc9 g7).sl zc9
 simp [setSeg]
 refine (zaw6 L B h65 e7.wf (m6.ext e7) u7 lP (by omega) lS (by simp)).mono ?_
 rintro r7 H8 ⟨⟨_, n8⟩, e8⟩
 rw [zbb3] at n8
 rw [n8 (fun h => by rw [show ((cutT.length : Nat) : Int) = 2 from rfl, zb16] at h; exact absurd h.2 (by simp))]
 have x8 := (x6.trans e7).trans e8
 have hc : (cnt [1, 0] : Int) / 2 = 1 := by decide
 have gd1 := rows1.gd.ext (((((e3.trans e4).trans e5).trans e6).trans e7).trans e8)
 obtain ⟨g9, e9⟩ := za4 x8.wf (.cells ([(0 : Int), 1, 2, 3].flatMap zi7))
 obtain ⟨gA, eA⟩ := za4 e9.wf (.cells ([(⟨.slc H8.next 0 4 1 4 true, rfl⟩ : OneV)].flatMap onec))
 have gdA := zbi3 (F := [[0, 1, 2, 3]]) gA rfl (fun i r f h1 h2 => by
  cases i with
  | zero => cases h1; cases h2; exact (zi1 (xs := [(0 : Int), 1, 2, 3]) zc9 g9).ext eA
  | succ i => simp at h1)
 have xA := e9.trans eA
 simp [setSeg]
 refine (zbx2 h32 h66 (gd1.ext xA) gdA (by simp) (by simp)).mono ?_
 rintro _ HA ⟨rfl, rfl⟩
 have gd5 := rows5.gd.ext (((e6.trans e7).trans e8).trans xA)
 simp [hc]
 obtain ⟨gB, eB⟩ := za4 xA.wf (.cells ([(0 : Int), 1, 2].flatMap zi7))
 obtain ⟨gC, eC⟩ := za4 eB.wf (.cells ([(0 : Int), 2, 3].flatMap zi7))
 obtain ⟨gD, eD⟩ := za4 eC.wf (.cells ([(⟨.slc (H8.next + 1 + 1) 0 3 1 3 true, rfl⟩ : OneV), ⟨.slc (H8.next + 1 + 1 + 1) 0 3 1 3 true, rfl⟩].flatMap onec))
 have xD := (eB.trans eC).trans eD
 have gdD := zbi3 (F := [[0, 1, 2], [0, 2, 3]]) gD rfl (fun i r f h1 h2 => by
  cases i with
  | zero => cases h1; cases h2; exact ((zi1 (xs := [(0 : Int), 1, 2]) zc9 gB).ext eC).ext eD
  | succ i =>
   cases i with
   | zero => cases h1; cases h2; exact (zi1 (xs := [(0 : Int), 2, 3]) zc9 gC).ext eD
   | succ i => simp at h1)
 refine (zbx2 h32 h66 (gd5.ext xD) gdD (by simp) (by simp)).mono ?_
 rintro _ HE ⟨rfl, rfl⟩
 simp
 refine (zab5 h64 xD.wf).mono ?_
 rintro v54 HF ⟨⟨mF, a54, b54, rfl⟩, eF⟩
 obtain ⟨vP, vT, vS, hv, rP, _, _⟩ := mF.ex
 simp only [AV.agg.injEq, List.cons.injEq] at hv
 obtain ⟨rfl, _⟩ := hv
 simp [ze2]
 refine (za39 T h37 eF.wf (rP.sl zc6) (((gd1.ext xA).ext xD).ext eF) lP (by simp) (by simp)).mono ?_
 rintro _ HG ⟨rfl, _⟩
 simp [zb18]
end
end Go.Proofs.Ytcepchipgjpkhaa
