/- Triangles of three places, edges, sides. No claim by itself. -/
import Derived.Test.YtcepchipgjpkhaaNB
import Derived.Test.YtcepchipgjpkhaaMM
import Derived.Test.YtcepchipgjpkhaaE49
namespace Go.Proofs.Ytcepchipgjpkhaa
open Go Go.AI
section
variable {FT : Nat -> Option FnD} {H H' : Heap}
theorem zcl1 (h106 : FT 106 = some (.code A106)) (hw : H.Wf) {s : Int × Int} : Cp FT 106 [.agg (za2 s)] H (fun r H' => r = .agg (za2 (upE s)) /\ Ext H H' /\ H'.next = H.next + 2) := by
 refine zb1 A106 h106 rfl ?_
 obtain ⟨g0, e0⟩ := za4 hw (.cells (za2 s))
 have hp : H.push (.cells [.int .i64 s.1, .int .i64 s.2]) = H.push (.cells (za2 s)) := rfl
 have hps : za2 s = [.int .i64 s.1, .int .i64 s.2] := rfl
 obtain ⟨H2, st, g2, e2, n2⟩ := zd4 e0.wf (z := [.int .i64 0, .int .i64 0]) (n := 2) (x := .agg [.int .i64 (upE s).1, .int .i64 (upE s).2]) (cs := za2 (upE s)) rfl rfl rfl rfl
 have l0 : za9 ((H.push (.cells (za2 s))).push (.cells [.int .i64 0, .int .i64 0])) none (.ptr H.next 0) = some (.int .i64 s.1) := zd6 (za1 g0 rfl) (Ext.push e0.wf _)
 have l1 : za9 ((H.push (.cells (za2 s))).push (.cells [.int .i64 0, .int .i64 0])) none (.ptr H.next 1) = some (.int .i64 s.2) := zd6 (za1 g0 rfl) (Ext.push e0.wf _)
 have g2' := za3 g2
 have hmin : maxA false (.int .i64 s.1) [.int .i64 s.2] = some (.int .i64 (upE s).1) := by
  by_cases c : s.1 < s.2
  ·have c' : ¬ s.2 < s.1 := by omega
   simp [maxA, upE, c, c']
  ·by_cases c' : s.2 < s.1
   ·simp [maxA, upE, c, c']
   ·have : s.1 = s.2 := by omega
    simp [maxA, upE, this]
 have hmax : maxA true (.int .i64 s.1) [.int .i64 s.2] = some (.int .i64 (upE s).2) := by
  by_cases c : s.1 < s.2
  ·have c' : ¬ s.2 < s.1 := by omega
   simp [maxA, upE, c]
  ·by_cases c' : s.2 < s.1
   ·simp [maxA, upE, c]
   ·have : s.1 = s.2 := by omega
    simp [maxA, upE, this]
 have n2' : H2.next = H.next + 2 := n2
 simp only [zo9] at st g2'
 simp only [hps]
 simp [A106, hp, l0, l1, hmin, hmax, setSeg, st, zb5, ze1, g2', ze2, seg, zg8]
 exact ⟨rfl, e0.trans e2, n2'⟩
theorem za36 (h104 : FT 104 = some (.code A104)) (hw : H.Wf) {t : Tri} : Cp FT 104 [.agg (zh2 t)] H (fun r H' => r = .agg ((zp9 t).flatMap za2) /\ Ext H H') := by
 refine zb1 A104 h104 rfl ?_
 obtain ⟨g0, e0⟩ := za4 hw (.cells (zh2 t))
 have hp : H.push (.cells [.int .i64 t.1, .int .i64 t.2.1, .int .i64 t.2.2]) = H.push (.cells (zh2 t)) := rfl
 have hps : zh2 t = [.int .i64 t.1, .int .i64 t.2.1, .int .i64 t.2.2] := rfl
 obtain ⟨H2, st, g2, e2, n2⟩ := zd4 e0.wf (z := [.int .i64 0, .int .i64 0, .int .i64 0, .int .i64 0, .int .i64 0, .int .i64 0]) (n := 6) (x := .agg [.int .i64 t.1, .int .i64 t.2.1, .int .i64 t.2.1, .int .i64 t.2.2, .int .i64 t.2.2, .int .i64 t.1]) (cs := [.int .i64 t.1, .int .i64 t.2.1, .int .i64 t.2.1, .int .i64 t.2.2, .int .i64 t.2.2, .int .i64 t.1]) rfl rfl rfl rfl
 have ld := fun (n : Nat) (x : AV) (h : (zh2 t)[n]? = some x) => zd6 (za1 (off := n) g0 h) (Ext.push e0.wf (.cells [.int .i64 0, .int .i64 0, .int .i64 0, .int .i64 0, .int .i64 0, .int .i64 0]))
 have l0 := ld 0 _ rfl
 have l1 := ld 1 _ rfl
 have l2 := ld 2 _ rfl
 have g2' := za3 g2
 have f2 : ∀ (e : Opd -> AV) (cs : List AV) (off : Nat) (a b : Int) (r : List (Nat × Nat × Opd)), zj7 e cs off 2 (.agg [.int .i64 a, .int .i64 b]) r = if off + 2 <= cs.length then zh0 e (setSeg cs off [.int .i64 a, .int .i64 b]) r else none := fun e cs off a b r => zbj1 rfl rfl
 simp only [zo9] at st g2'
 simp only [hps]
 simp [A104, hp, l0, l1, l2, setSeg, f2, st, zb5, ze1, g2', ze2, seg, zg8]
 exact ⟨rfl, e0.trans e2⟩
theorem zak9 (h84 : FT 84 = some (.code A84)) (hw : H.Wf) {t : Tri} : Cp FT 84 [.agg (zh2 t)] H (fun r H' => r = .agg ((sd3 t).flatMap zh2) /\ Ext H H') := by
 refine zb1 A84 h84 rfl ?_
 obtain ⟨g0, e0⟩ := za4 hw (.cells (zh2 t))
 have hp : H.push (.cells [.int .i64 t.1, .int .i64 t.2.1, .int .i64 t.2.2]) = H.push (.cells (zh2 t)) := rfl
 have hps : zh2 t = [.int .i64 t.1, .int .i64 t.2.1, .int .i64 t.2.2] := rfl
 obtain ⟨H2, st, g2, e2, n2⟩ := zd4 e0.wf (z := [.int .i64 0, .int .i64 0, .int .i64 0, .int .i64 0, .int .i64 0, .int .i64 0, .int .i64 0, .int .i64 0, .int .i64 0]) (n := 9) (x := .agg [.int .i64 t.1, .int .i64 t.2.1, .int .i64 t.2.2, .int .i64 t.2.1, .int .i64 t.2.2, .int .i64 t.1, .int .i64 t.2.2, .int .i64 t.1, .int .i64 t.2.1]) (cs := [.int .i64 t.1, .int .i64 t.2.1, .int .i64 t.2.2, .int .i64 t.2.1, .int .i64 t.2.2, .int .i64 t.1, .int .i64 t.2.2, .int .i64 t.1, .int .i64 t.2.1]) rfl rfl rfl rfl
 have ld := fun (n : Nat) (x : AV) (h : (zh2 t)[n]? = some x) => zd6 (za1 (off := n) g0 h) (Ext.push e0.wf (.cells [.int .i64 0, .int .i64 0, .int .i64 0, .int .i64 0, .int .i64 0, .int .i64 0, .int .i64 0, .int .i64 0, .int .i64 0]))
 have l0 := ld 0 _ rfl
 have l1 := ld 1 _ rfl
 have l2 := ld 2 _ rfl
 have g2' := za3 g2
 have f3 : ∀ (e : Opd -> AV) (cs : List AV) (off : Nat) (a b c : Int) (r : List (Nat × Nat × Opd)), zj7 e cs off 3 (.agg [.int .i64 a, .int .i64 b, .int .i64 c]) r = if off + 3 <= cs.length then zh0 e (setSeg cs off [.int .i64 a, .int .i64 b, .int .i64 c]) r else none := fun e cs off a b c r => by simp [zj7]
 simp only [zo9] at st g2'
 simp only [hps]
 simp [A84, hp, l0, l1, l2, setSeg, f3, st, zb5, ze1, g2', ze2, seg, zg8]
 exact ⟨rfl, e0.trans e2⟩
end
end Go.Proofs.Ytcepchipgjpkhaa
namespace Go.Proofs.Ytcepchipgjpkhaa
open Go Go.AI
section
variable {FT : Nat -> Option FnD} {H H' : Heap}
def Or96 (FT : Nat -> Option FnD) : Prop := ∀ {H : Heap} {a b c : Int × Int}, H.Wf -> Cp FT 96 [.agg (za2 a), .agg (za2 b), .agg (za2 c)] H (fun r H' => r = .int .i64 (orZ a b c) /\ Ext H H')
structure Tr1 (H1 H' : Heap) (vP : AV) (a b c : Int) (o n : Nat) (τ : Env) (j m : Nat) : Prop where
 eq : H1 = H'
 le : j <= 3
 hm : m = 3 - j
 ok : (1 <= j -> inN n a) /\ (2 <= j -> inN n b) /\ (3 <= j -> inN n c)
 t : Tm τ [(0, vP), (1, .int .i64 a), (2, .int .i64 b), (3, .int .i64 c), (8, .ptr o 0), (15, .agg [.int .i64 a, .int .i64 b, .int .i64 c]), (16, .int .i64 j)]
structure Tr2 (H1 H' : Heap) (a b c : Int) (o : Nat) (τ : Env) (m : Nat) : Prop where
 eq : H1 = H'
 ex : ∃ x y z, Tm τ [(1, .int .i64 x), (2, .int .i64 y), (3, .int .i64 z), (8, .ptr o 0)] /\ ((x = a /\ y = b /\ z = c /\ m = 2) \/ (x = b /\ y = c /\ z = a /\ m = 1 /\ ¬ (a <= b /\ a <= c)) \/ (x = c /\ y = a /\ z = b /\ m = 0 /\ ¬ (a <= b /\ a <= c) /\ ¬ (b <= c /\ b <= a)))
def zbr9 : za0 := zf3 [1, 1, 1, 0] A102.body
theorem zb79 : A102.body = putAt [1, 1, 1, 0] A102.body zbr9 := rfl
theorem zba4 {a b c : Int} {o : Nat} {τ0 : Env} {H : Heap} (u : Tm τ0 [(1, .int .i64 a), (2, .int .i64 b), (3, .int .i64 c), (8, .ptr o 0)]) :
  Wp FT zbr9 τ0 H (fun s τ H' => s = .next /\ H' = H /\ Tm τ [(1, .int .i64 (rotM a b c).1), (2, .int .i64 (rotM a b c).2.1), (3, .int .i64 (rotM a b c).2.2), (8, .ptr o 0)]) := by
 simp at u
 obtain ⟨u1, u2, u3, u8⟩ := u
 simp [zbr9, zf3, A102]
 refine zb7 (fun m τ H' => Tr2 H H' a b c o τ m) ?_ 2 _ _ ⟨rfl, a, b, c, by simp [u1, u2, u3, u8], .inl ⟨rfl, rfl, rfl, rfl⟩⟩
 rintro m τ _ ⟨rfl, x, y, z, t, hc⟩
 simp at t
 obtain ⟨t1, t2, t3, t8⟩ := t
 by_cases c1 : y < x
 ·simp [t1, t2, t3, t8, c1]
  rcases hc with ⟨rfl, rfl, rfl, rfl⟩ | ⟨rfl, rfl, rfl, rfl, h⟩ | ⟨rfl, rfl, rfl, rfl, h, k⟩
  ·exact ⟨1, by omega, rfl, y, z, x, by simp [t8], .inr (.inl ⟨rfl, rfl, rfl, rfl, by omega⟩)⟩
  ·exact ⟨0, by omega, rfl, y, z, x, by simp [t8], .inr (.inr ⟨rfl, rfl, rfl, rfl, h, by omega⟩)⟩
  ·omega
 ·by_cases c2 : z < x
  ·simp [t1, t2, t3, t8, c1, c2]
   rcases hc with ⟨rfl, rfl, rfl, rfl⟩ | ⟨rfl, rfl, rfl, rfl, h⟩ | ⟨rfl, rfl, rfl, rfl, h, k⟩
   ·exact ⟨1, by omega, rfl, y, z, x, by simp [t8], .inr (.inl ⟨rfl, rfl, rfl, rfl, by omega⟩)⟩
   ·exact ⟨0, by omega, rfl, y, z, x, by simp [t8], .inr (.inr ⟨rfl, rfl, rfl, rfl, h, by omega⟩)⟩
   ·omega
  ·simp [t1, t2, t3, t8, c1, c2]
   rcases hc with ⟨rfl, rfl, rfl, rfl⟩ | ⟨rfl, rfl, rfl, rfl, h⟩ | ⟨rfl, rfl, rfl, rfl, h, k⟩
   ·have : rotM x y z = (x, y, z) := if_pos ⟨by omega, by omega⟩
    rw [this]; exact ⟨rfl, rfl, rfl⟩
   ·have : rotM z x y = (x, y, z) := by unfold rotM; rw [if_neg h, if_pos ⟨by omega, by omega⟩]
    rw [this]; exact ⟨rfl, rfl, rfl⟩
   ·have : rotM y z x = (x, y, z) := by unfold rotM; rw [if_neg h, if_neg k]
    rw [this]; exact ⟨rfl, rfl, rfl⟩
theorem zcb7 (ho : Or96 FT) (h102 : FT 102 = some (.code A102)) (hw : H.Wf) {vP : AV} {P : List (Int × Int)} {a b c : Int} (hP : zh3 H vP P) (_hl : P.length <= 1000000000) :
  Cp FT 102 [vP, .int .i64 a, .int .i64 b, .int .i64 c] H (fun r H' => r = .tup [.agg (zh2 ((triF P a b c).getD (0, 0, 0))), .bool (triF P a b c).isSome] /\ Ext H H') := by
 refine zb1 A102 h102 rfl ?_
 rw [zb79]
 generalize hkc : zbr9 = kc
 obtain ⟨g0, e0⟩ := za4 hw (.cells [.int .i64 0, .int .i64 0, .int .i64 0])
 generalize hH1 : H.push (.cells [.int .i64 0, .int .i64 0, .int .i64 0]) = H1 at e0 g0
 have hP1 := hP.ext e0
 have wr : ∀ {H2 : Heap}, Ext H1 H2 -> ∀ x y z : Int, ∃ H3, zf6 H2 3 (.ptr H.next 0) (.agg [.int .i64 x, .int .i64 y, .int .i64 z]) = some (zb8, H3) /\ Ext H H3 /\ H3.cellsAt H.next = some [.int .i64 x, .int .i64 y, .int .i64 z] := by
  intro H2 e x y z
  obtain ⟨H3, s1, s2, s3⟩ := ze0 (n := 3) (x := .agg [.int .i64 x, .int .i64 y, .int .i64 z]) e.wf rfl rfl (by rw [e.floor, e0.floor]; exact hw.1) (e.keep _ _ g0) rfl rfl
  exact ⟨H3, s1, zp3 hw (e0.trans e) s3 (fun p hp => by simp at hp; omega), za3 s2⟩
 have hpr : ∀ x : Int × Int, AV.agg [.int .i64 x.1, .int .i64 x.2] = .agg (za2 x) := fun _ => rfl
 simp [A102, putAt, hH1]
 refine zb7 (fun m τ H' => ∃ j, Tr1 H1 H' vP a b c H.next P.length τ j m) ?_ 3 _ _ ⟨0, ⟨rfl, by omega, rfl, ⟨by omega, by omega, by omega⟩, by simp⟩⟩
 rintro m τ _ ⟨j, ⟨rfl, hj, rfl, ok, t⟩⟩
 simp at t
 obtain ⟨t0, t1, t2, t3, t8, t15, t16⟩ := t
 by_cases q : j < 3
 ·obtain ⟨x, hx, hxx⟩ : ∃ x, zbh5 3 1 none (.agg [.int .i64 a, .int .i64 b, .int .i64 c]) (.int .i64 (j : Int)) = some (.int .i64 x) /\ ((j = 0 /\ x = a) \/ (j = 1 /\ x = b) \/ (j = 2 /\ x = c)) := by
   have : j = 0 \/ j = 1 \/ j = 2 := by omega
   rcases this with rfl | rfl | rfl
   ·exact ⟨a, rfl, .inl ⟨rfl, rfl⟩⟩
   ·exact ⟨b, rfl, .inr (.inl ⟨rfl, rfl⟩)⟩
   ·exact ⟨c, rfl, .inr (.inr ⟨rfl, rfl⟩)⟩
  have q' : (j : Int) < 3 := by omega
  have bad : ¬ inN P.length x -> triF P a b c = none := fun h => by
   unfold triF
   rw [if_neg]
   rintro ⟨h1, h2, h3⟩
   rcases hxx with ⟨_, rfl⟩ | ⟨_, rfl⟩ | ⟨_, rfl⟩
   ·exact h h1
   ·exact h h2
   ·exact h h3
  obtain ⟨H3, s1, s2, s3⟩ := wr (Ext.refl e0.wf) 0 0 0
  by_cases c1 : x < 0
  ·have hn := bad (fun h => by have := h.1; omega)
   simp [-zg9, q', t0, t8, t15, t16, hx, c1, s1, s3, zb5, ze1, ze2, seg, zg8, hn, zh2]
   exact s2
  ·by_cases c2 : (P.length : Int) <= x
   ·have hn := bad (fun h => by have := h.2; omega)
    simp [-zg9, q', t0, t8, t15, t16, hx, c1, c2, hP1.len, s1, s3, zb5, ze1, ze2, seg, zg8, hn, zh2]
    exact s2
   ·have w : IntKind.i64.wrap ((j : Int) + 1) = (j : Int) + 1 := wrap64 (by omega) (by omega)
    simp [-zg9, q', t0, t8, t15, t16, hx, c1, c2, hP1.len, w]
    refine ⟨_, by omega, j + 1, ⟨rfl, by omega, rfl, ?_, by simp [t0, t1, t2, t3, t8, t15]⟩⟩
    have hin : inN P.length x := ⟨by omega, by omega⟩
    rcases hxx with ⟨rfl, rfl⟩ | ⟨rfl, rfl⟩ | ⟨rfl, rfl⟩
    ·exact ⟨fun _ => hin, by omega, by omega⟩
    ·exact ⟨fun _ => ok.1 (by omega), fun _ => hin, by omega⟩
    ·exact ⟨fun _ => ok.1 (by omega), fun _ => ok.2.1 (by omega), fun _ => hin⟩
 ·have hj3 : j = 3 := by omega
  subst hj3
  have ia := ok.1 (by omega)
  have ib := ok.2.1 (by omega)
  have ic := ok.2.2 (by omega)
  obtain ⟨p1, xa, a1, a2, a3, _⟩ := Sl.idx hP1 (k := .i64) (i := a) ia.1 ia.2
  obtain ⟨p2, xb, b1, b2, b3, _⟩ := Sl.idx hP1 (k := .i64) (i := b) ib.1 ib.2
  obtain ⟨p3, xc, c1, c2, c3, _⟩ := Sl.idx hP1 (k := .i64) (i := c) ic.1 ic.2
  have ea : ptQ P a = xa := by unfold ptQ; rw [List.getD_eq_getElem?_getD, a1]; rfl
  have eb : ptQ P b = xb := by unfold ptQ; rw [List.getD_eq_getElem?_getD, b1]; rfl
  have ec : ptQ P c = xc := by unfold ptQ; rw [List.getD_eq_getElem?_getD, c1]; rfl
  have hor : orT P a b c = orZ xa xb xc := by unfold orT; rw [ea, eb, ec]
  simp [t0, t1, t2, t3, t16, a2, a3, b2, b3, c2, c3]
  refine (ho e0.wf).mono ?_
  rintro _ H2 ⟨rfl, e2⟩
  rw [<- hor]
  by_cases z : orT P a b c = 0
  ·have hn : triF P a b c = none := by unfold triF; rw [if_pos ⟨ia, ib, ic⟩, if_pos z]
   obtain ⟨H3, s1, s2, s3⟩ := wr e2 0 0 0
   simp [z, t8, s1, s3, zb5, ze1, ze2, seg, zg8, hn, zh2]
   exact s2
  ·by_cases z1 : orT P a b c = -1
   ·have hn : triF P a b c = some (rotM a c b) := by unfold triF; rw [if_pos ⟨ia, ib, ic⟩, if_neg z, if_pos z1]
    obtain ⟨H3, s1, s2, s3⟩ := wr e2 (rotM a c b).1 (rotM a c b).2.1 (rotM a c b).2.2
    simp [z1, t2, t3]
    rw [<- hkc]
    refine (zba4 (a := a) (b := c) (c := b) (o := H.next) (by simp [t1, t8])).mono ?_
    rintro _ τ2 _ ⟨rfl, rfl, u⟩
    simp at u
    obtain ⟨u1, u2, u3, u8⟩ := u
    simp [u1, u2, u3, u8, setSeg, s1, s3, zb5, ze1, ze2, seg, zg8, hn, zh2]
    exact s2
   ·have hn : triF P a b c = some (rotM a b c) := by unfold triF; rw [if_pos ⟨ia, ib, ic⟩, if_neg z, if_neg z1]
    obtain ⟨H3, s1, s2, s3⟩ := wr e2 (rotM a b c).1 (rotM a b c).2.1 (rotM a b c).2.2
    simp [z, z1]
    rw [<- hkc]
    refine (zba4 (a := a) (b := b) (c := c) (o := H.next) (by simp [t1, t2, t3, t8])).mono ?_
    rintro _ τ2 _ ⟨rfl, rfl, u⟩
    simp at u
    obtain ⟨u1, u2, u3, u8⟩ := u
    simp [u1, u2, u3, u8, setSeg, s1, s3, zb5, ze1, ze2, seg, zg8, hn, zh2]
    exact s2
end
end Go.Proofs.Ytcepchipgjpkhaa
namespace Go.Proofs.Ytcepchipgjpkhaa
open Go Go.AI
section
variable {FT : Nat -> Option FnD} {H H' : Heap}
def z81 (q : Quad) : List AV := [.int .i64 q.1, .int .i64 q.2.1, .int .i64 q.2.2.1, .int .i64 q.2.2.2]
def zaq9 (L : List Quad) : Quad := L.getLast?.getD (0, 0, 0, 0)
theorem za73 (L : List Quad) (q : Quad) : zaq9 (L ++ [q]) = q := by unfold zaq9; simp
theorem za22 {t x : Tri} {i : Nat} (h : (sd3 t)[i]? = some x) : zbh5 3 3 (some 3) (.agg ((sd3 t).flatMap zh2)) (.int .i64 (i : Int)) = some (.agg (zh2 x)) := by
 have hi : i < 3 := by have := (List.getElem?_eq_some_iff.1 h).1; simpa [sd3] using this
 have : i = 0 \/ i = 1 \/ i = 2 := by omega
 rcases this with rfl | rfl | rfl <;> (simp [sd3] at h; subst h; rfl)
structure Sh1 (H H' : Heap) (u : Tri) (L : List Quad) : Prop where
 ex : Ext H H'
 g3 : H'.get (H.next + 1) = some (.cells (zh2 u))
 g4 : H'.get (H.next + 2) = some (.cells [.int .i64 0, .int .i64 0, .int .i64 0, .int .i64 0])
 g6 : H'.get (H.next + 3) = some (.cells (z81 (zaq9 L)))
 ln : L.length <= 100
theorem Sh1.to {u : Tri} {L : List Quad} {H2 : Heap} (h : Sh1 H H' u L) (e : Ext H' H2) : Sh1 H H2 u L := ⟨h.ex.trans e, e.keep _ _ h.g3, e.keep _ _ h.g4, e.keep _ _ h.g6, h.ln⟩
theorem Sh1.put {u : Tri} {L : List Quad} (hw : H.Wf) (h : Sh1 H H' u L) (q : Quad) (hl : L.length < 100) : ∃ H2, zf6 H' 4 (.ptr (H.next + 3) 0) (.agg (z81 q)) = some (zb8, H2) /\ Sh1 H H2 u (L ++ [q]) /\ Fr [H.next + 3] H' H2 := by
 obtain ⟨H2, s1, s2, s3⟩ := ze0 (n := 4) (x := .agg (z81 q)) h.ex.wf rfl rfl (by rw [h.ex.floor]; have := hw.1; omega) h.g6 rfl rfl
 exact ⟨H2, s1, ⟨zp3 hw h.ex s3 (fun p hp => by simp at hp; omega), s3.keep _ _ (by simp) h.g3, s3.keep _ _ (by simp) h.g4, by rw [za73]; exact s2, by simp; omega⟩, s3⟩
def zbr8 : za0 := zf3 [1, 1, 1, 0, 1, 0, 0, 1, 1, 0, 0, 1, 1] A107.body
theorem zb78 : A107.body = putAt [1, 1, 1, 0, 1, 0, 0, 1, 1, 0, 0, 1, 1] A107.body zbr8 := rfl
structure Sj (H H' : Heap) (x u : Tri) (L0 : List Quad) (o9 : Nat) (v13 : AV) (i : Nat) (τ : Env) (j m : Nat) : Prop where
 sh : Sh1 H H' u (L0 ++ ((sd3 u).take j).filterMap (hit x))
 g9 : H'.get o9 = some (.cells (zh2 x))
 le : j <= 3
 hm : m = 3 - j
 t : Tm τ [(3, .ptr (H.next + 1) 0), (4, .ptr (H.next + 2) 0), (6, .ptr (H.next + 3) 0), (7, .int .i64 (L0 ++ ((sd3 u).take j).filterMap (hit x)).length), (9, .ptr o9 0), (13, v13), (14, .int .i64 i), (18, .agg ((sd3 u).flatMap zh2)), (19, .int .i64 j)]
theorem zbp3 (hw : H.Wf) {H1 : Heap} {x u : Tri} {L0 : List Quad} {o9 : Nat} {v13 : AV} {i : Nat} (sh : Sh1 H H1 u L0) (hl : L0.length <= 50) (g9 : H1.get o9 = some (.cells (zh2 x))) (ne : o9 ≠ H.next + 3) {τ0 : Env}
  (w : Tm τ0 [(3, .ptr (H.next + 1) 0), (4, .ptr (H.next + 2) 0), (6, .ptr (H.next + 3) 0), (7, .int .i64 L0.length), (9, .ptr o9 0), (13, v13), (14, .int .i64 i), (18, .agg ((sd3 u).flatMap zh2)), (19, .int .i64 0)]) :
  Wp FT zbr8 τ0 H1 (fun s τ H' => s = .next /\ Sh1 H H' u (L0 ++ (sd3 u).filterMap (hit x)) /\ Tm τ [(3, .ptr (H.next + 1) 0), (4, .ptr (H.next + 2) 0), (6, .ptr (H.next + 3) 0), (7, .int .i64 (L0 ++ (sd3 u).filterMap (hit x)).length), (13, v13), (14, .int .i64 i)]) := by
 simp at w
 obtain ⟨w3, w4, w6, w7, w9, w13, w14, w18, w19⟩ := w
 simp [-List.length_append, zbr8, zf3, A107]
 refine zb7 (fun m τ H' => ∃ j, Sj H H' x u L0 o9 v13 i τ j m) ?_ 3 _ _ ⟨0, ⟨by simpa using sh, g9, by omega, rfl, by simp [w3, w4, w6, w7, w9, w13, w14, w18, w19]⟩⟩
 rintro m τ H2 ⟨j, ⟨sh, g9, hj, rfl, t⟩⟩
 simp [-List.length_append] at t
 obtain ⟨t3, t4, t6, t7, t9, t13, t14, t18, t19⟩ := t
 by_cases q : j < 3
 ·have hjl : j < (sd3 u).length := q
  obtain ⟨y, hy⟩ : ∃ y, (sd3 u)[j]? = some y := ⟨_, List.getElem?_eq_getElem hjl⟩
  have q' : (j : Int) < 3 := by omega
  have hidx := za22 hy
  have wj : IntKind.i64.wrap ((j : Int) + 1) = (j : Int) + 1 := wrap64 (by omega) (by omega)
  have htake : ((sd3 u).take (j + 1)).filterMap (hit x) = ((sd3 u).take j).filterMap (hit x) ++ (hit x y).toList := by
   rw [List.take_add_one, hy, List.filterMap_append]
   cases hh : hit x y <;> simp [hh]
  have hle : (((sd3 u).take j).filterMap (hit x)).length <= 3 := by
   have h1 := List.length_filterMap_le (hit x) ((sd3 u).take j)
   have h2 : ((sd3 u).take j).length <= 3 := by rw [List.length_take]; omega
   omega
  obtain ⟨H3, st, g11, e3, n3⟩ := zd4 sh.ex.wf (z := [.int .i64 0, .int .i64 0, .int .i64 0]) (n := 3) (x := .agg (zh2 y)) (cs := zh2 y) rfl rfl rfl rfl
  have sh3 := sh.to e3
  have g9' := e3.keep _ _ g9
  have a0 : za9 H3 none (.ptr o9 0) = some (.int .i64 x.1) := za1 g9' rfl
  have a1 : za9 H3 none (.ptr o9 1) = some (.int .i64 x.2.1) := za1 g9' rfl
  have a2 : za9 H3 none (.ptr o9 2) = some (.int .i64 x.2.2) := za1 g9' rfl
  have b0 : za9 H3 none (.ptr H2.next 0) = some (.int .i64 y.1) := za1 g11 rfl
  have b1 : za9 H3 none (.ptr H2.next 1) = some (.int .i64 y.2.1) := za1 g11 rfl
  have b2 : za9 H3 none (.ptr H2.next 2) = some (.int .i64 y.2.2) := za1 g11 rfl
  have x0 : ∀ o, zw9 3 1 (.ptr o 0) (.int .i64 0) = some (.ptr o 0) := fun o => rfl
  have x1 : ∀ o, zw9 3 1 (.ptr o 0) (.int .i64 1) = some (.ptr o 1) := fun o => rfl
  have x2 : ∀ o, zw9 3 1 (.ptr o 0) (.int .i64 2) = some (.ptr o 2) := fun o => rfl
  generalize hN : L0 ++ ((sd3 u).take j).filterMap (hit x) = N at sh sh3 t7
  have hNl : N.length <= 53 := by rw [<- hN, List.length_append]; omega
  have htk : L0 ++ ((sd3 u).take (j + 1)).filterMap (hit x) = N ++ (hit x y).toList := by rw [htake, <- List.append_assoc, hN]
  by_cases c1 : x.1 = y.2.1
  ·by_cases c2 : x.2.1 = y.1
   ·have hh : hit x y = some (x.1, y.2.2, x.2.1, x.2.2) := if_pos ⟨c1, c2⟩
    obtain ⟨H4, s1, sh4, fr4⟩ := sh3.put hw (x.1, y.2.2, x.2.1, x.2.2) (by omega)
    have wn : IntKind.i64.wrap ((N.length : Int) + 1) = (N.length : Int) + 1 := wrap64 (by omega) (by omega)
    have s1' : zf6 H3 4 (.ptr (H.next + 3) 0) (.agg [.int .i64 y.2.1, .int .i64 y.2.2, .int .i64 y.1, .int .i64 x.2.2]) = some (zb8, H4) := by rw [<- c1, <- c2]; exact s1
    simp [-zg9, -ze4, q', t6, t7, t9, t18, t19, hidx, st, x0, x1, x2, a0, a1, a2, b0, b1, b2, c1, c2, setSeg, s1', wn, wj]
    refine ⟨_, by omega, j + 1, ⟨by rw [htk, hh]; exact sh4, fr4.keep _ _ (by simpa using ne) g9', by omega, rfl, ?_⟩⟩
    rw [htk, hh]
    simp [t3, t4, t6, t9, t13, t14, t18]
   ·have hh : hit x y = none := if_neg fun h => c2 h.2
    simp [-zg9, q', t6, t7, t9, t18, t19, hidx, st, x0, x1, x2, a0, a1, b0, b1, c1, c2, wj]
    refine ⟨_, by omega, j + 1, ⟨by rw [htk, hh]; simpa using sh3, g9', by omega, rfl, ?_⟩⟩
    rw [htk, hh]
    simp [t3, t4, t6, t7, t9, t13, t14, t18]
  ·have hh : hit x y = none := if_neg fun h => c1 h.1
   simp [-zg9, q', t6, t7, t9, t18, t19, hidx, st, x0, x1, x2, a0, b1, c1, wj]
   refine ⟨_, by omega, j + 1, ⟨by rw [htk, hh]; simpa using sh3, g9', by omega, rfl, ?_⟩⟩
   rw [htk, hh]
   simp [t3, t4, t6, t7, t9, t13, t14, t18]
 ·have hj3 : j = 3 := by omega
  subst hj3
  have hall : (sd3 u).take 3 = sd3 u := rfl
  rw [hall] at sh t7
  simp [-List.length_append, t19]
  exact ⟨sh, by simp [-List.length_append, t3, t4, t6, t7, t13, t14]⟩
structure Si (H H' : Heap) (t u : Tri) (τ : Env) (i m : Nat) : Prop where
 sh : Sh1 H H' u (((sd3 t).take i).flatMap fun x => (sd3 u).filterMap (hit x))
 le : i <= 3
 hm : m = 3 - i
 ln : (((sd3 t).take i).flatMap fun x => (sd3 u).filterMap (hit x)).length <= 3 * i
 t : Tm τ [(3, .ptr (H.next + 1) 0), (4, .ptr (H.next + 2) 0), (6, .ptr (H.next + 3) 0), (7, .int .i64 (((sd3 t).take i).flatMap fun x => (sd3 u).filterMap (hit x)).length), (13, .agg ((sd3 t).flatMap zh2)), (14, .int .i64 i)]
def ShR (t u : Tri) (r : AV) : Prop := ∃ q, r = .tup [.agg (z81 q), .bool (zh4 t u).isSome] /\ ∀ q', zh4 t u = some q' -> q = q'
theorem zbc2 (h84 : FT 84 = some (.code A84)) (h107 : FT 107 = some (.code A107)) (hw : H.Wf) {t u : Tri} : Cp FT 107 [.agg (zh2 t), .agg (zh2 u)] H (fun r H' => ShR t u r /\ Ext H H') := by
 refine zb1 A107 h107 rfl ?_
 rw [zb78]
 generalize hkj : zbr8 = kj
 obtain ⟨g2, e2⟩ := za4 hw (.cells (zh2 t))
 obtain ⟨g3, e3⟩ := za4 e2.wf (.cells (zh2 u))
 obtain ⟨g4, e4⟩ := za4 e3.wf (.cells [.int .i64 0, .int .i64 0, .int .i64 0, .int .i64 0])
 obtain ⟨g6, e6⟩ := za4 e4.wf (.cells [.int .i64 0, .int .i64 0, .int .i64 0, .int .i64 0])
 have hpt : zh2 t = [.int .i64 t.1, .int .i64 t.2.1, .int .i64 t.2.2] := rfl
 have hpu : zh2 u = [.int .i64 u.1, .int .i64 u.2.1, .int .i64 u.2.2] := rfl
 have ex := ((e2.trans e3).trans e4).trans e6
 have k2 := e6.keep _ _ (e4.keep _ _ (e3.keep _ _ g2))
 have k3 := e6.keep _ _ (e4.keep _ _ g3)
 have k4 := e6.keep _ _ g4
 simp only [hpt, hpu] at *
 generalize hH1 : (((H.push (.cells [.int .i64 t.1, .int .i64 t.2.1, .int .i64 t.2.2])).push (.cells [.int .i64 u.1, .int .i64 u.2.1, .int .i64 u.2.2])).push (.cells [.int .i64 0, .int .i64 0, .int .i64 0, .int .i64 0])).push (.cells [.int .i64 0, .int .i64 0, .int .i64 0, .int .i64 0]) = H1 at *
 simp only [zo9] at k3 k4 g6
 have l2 : za9 H1 (some 3) (.ptr H.next 0) = some (.agg [.int .i64 t.1, .int .i64 t.2.1, .int .i64 t.2.2]) := zc0 k2 rfl
 simp [A107, putAt, hH1, l2]
 refine (zak9 h84 ex.wf (t := t)).mono ?_
 rintro _ H2 ⟨rfl, x2⟩
 have sh0 : Sh1 H H2 u [] := ⟨ex.trans x2, x2.keep _ _ k3, x2.keep _ _ k4, x2.keep _ _ g6, by simp⟩
 simp
 refine zb7 (fun m τ H' => ∃ i, Si H H' t u τ i m) ?_ 3 _ _ ⟨0, ⟨by simpa using sh0, by omega, rfl, by simp, by simp⟩⟩
 rintro m τ H3 ⟨i, ⟨sh, hi, rfl, ln, w⟩⟩
 simp [-List.length_append, -List.length_flatMap] at w
 obtain ⟨t3, t4, t6, t7, t13, t14⟩ := w
 by_cases q : i < 3
 ·have hil : i < (sd3 t).length := q
  obtain ⟨x, hx⟩ : ∃ x, (sd3 t)[i]? = some x := ⟨_, List.getElem?_eq_getElem hil⟩
  have q' : (i : Int) < 3 := by omega
  have hidx := za22 hx
  have wi : IntKind.i64.wrap ((i : Int) + 1) = (i : Int) + 1 := wrap64 (by omega) (by omega)
  have htake : (((sd3 t).take (i + 1)).flatMap fun x => (sd3 u).filterMap (hit x)) = (((sd3 t).take i).flatMap fun x => (sd3 u).filterMap (hit x)) ++ (sd3 u).filterMap (hit x) := by
   rw [List.take_add_one, hx]; simp
  have hle : ((sd3 u).filterMap (hit x)).length <= 3 := List.length_filterMap_le (hit x) (sd3 u)
  obtain ⟨H4, st, g9, e4', n4⟩ := zd4 sh.ex.wf (z := [.int .i64 0, .int .i64 0, .int .i64 0]) (n := 3) (x := .agg (zh2 x)) (cs := zh2 x) rfl rfl rfl rfl
  have sh4 := sh.to e4'
  have l3 : za9 H4 (some 3) (.ptr (H.next + 1) 0) = some (.agg (zh2 u)) := zc0 sh4.g3 rfl
  have hlt : H.next + 3 < H3.next := sh.ex.wf.lt sh.g6
  generalize hN : (((sd3 t).take i).flatMap fun x => (sd3 u).filterMap (hit x)) = N at sh sh4 t7 ln htake
  simp [-zg9, q', t3, t13, t14, hidx, st, l3]
  refine (zak9 h84 sh4.ex.wf (t := u)).mono ?_
  rintro _ H5 ⟨rfl, x5⟩
  simp
  rw [<- hkj]
  refine (zbp3 hw (x := x) (L0 := N) (o9 := H3.next) (v13 := .agg ((sd3 t).flatMap zh2)) (i := i) (sh4.to x5) (by omega) (x5.keep _ _ g9) (by omega) (by simp [t3, t4, t6, t7, t13, t14])).mono ?_
  rintro _ τ2 H6 ⟨rfl, sh6, w⟩
  simp [-List.length_append] at w
  obtain ⟨t3, t4, t6, t7, t13, t14⟩ := w
  simp [-List.length_append, t14, wi]
  refine ⟨_, by omega, i + 1, ⟨by rw [htake]; exact sh6, by omega, rfl, by rw [htake, List.length_append]; omega, ?_⟩⟩
  rw [htake]
  simp [-List.length_append, t3, t4, t6, t7, t13]
 ·have hi3 : i = 3 := by omega
  subst hi3
  have hall : (((sd3 t).take 3).flatMap fun x => (sd3 u).filterMap (hit x)) = hits t u := rfl
  rw [hall] at sh t7
  have l6 : za9 H3 (some 4) (.ptr (H.next + 3) 0) = some (.agg (z81 (zaq9 (hits t u)))) := zc0 sh.g6 rfl
  obtain ⟨H4, s1, s2, s3⟩ := ze0 (n := 4) (x := .agg (z81 (zaq9 (hits t u)))) sh.ex.wf rfl rfl (by rw [sh.ex.floor]; have := hw.1; omega) sh.g4 rfl rfl
  have s2' := za3 s2
  have hseg : seg (z81 (zaq9 (hits t u))) 0 4 = some (z81 (zaq9 (hits t u))) := rfl
  have hb : decide ((hits t u).length = 1) = (zh4 t u).isSome := by
   unfold zh4
   cases hh : hits t u with
   | nil => rfl
   | cons a l => cases l with
    | nil => rfl
    | cons b l => simp
  simp [-List.length_flatMap, t4, t6, t7, t14, l6, s1, zb5, ze1, s2', ze2, hseg, zg8]
  refine ⟨⟨zaq9 (hits t u), ?_, fun q' hq => ?_⟩, zp3 hw sh.ex s3 (fun p hp => by simp at hp; omega)⟩
  ·rw [<- hb]
   by_cases c : (hits t u).length = 1
   ·simp [c]
   ·have c' : ¬ ((hits t u).length : Int) = 1 := by omega
    simp [c, c']
  ·rw [zm2 hq]; rfl
end
end Go.Proofs.Ytcepchipgjpkhaa
namespace Go.Proofs.Ytcepchipgjpkhaa
open Go Go.AI
section
variable {FT : Nat -> Option FnD} {H H' : Heap}
structure Room (H : Heap) (v : AV) (o n : Nat) (xs : List Int) : Prop where
 v : v = .slc o 0 xs.length 1 n false
 get : H.get o = some (.cells (xs.flatMap zi7 ++ List.replicate (n - xs.length) (.int .i64 0)))
 le : xs.length <= n
 fl : H.floor <= o
theorem Room.app {v y : AV} {o n bytes : Nat} {xs ys : List Int} (h : Room H v o n xs) (hw : H.Wf) (hy : Sw 1 zi7 H y ys) (hl : xs.length + ys.length <= n) : ∃ v' H', zc4 1 bytes H v y = some (v', H') /\ Room H' v' o n (xs ++ ys) /\ Fr [o] H H' := by
 have hone : za5 (ys.flatMap zi7) = true := by
  clear hl hy
  induction ys with
  | nil => rfl
  | cons a l ih => exact ih
 have hfl : ∀ zs : List Int, (zs.flatMap zi7).length = zs.length := fun zs => by rw [zg6 (e := 1) zc9]; omega
 have hsrc : srcA 1 H y = some (ys.length, ys.flatMap zi7) := by
  rcases hy with ⟨rfl, rfl⟩ | ⟨o, off, lo, ex, rfl, hr⟩
  ·rfl
  ·simp only [srcA, Nat.beq_refl, cond_true, hr, Option.map_some]
 obtain ⟨rfl, g, le, fl⟩ := h
 by_cases h0 : ys = []
 ·subst h0
  refine ⟨_, H, ?_, ⟨by rw [List.append_nil], by rw [List.append_nil]; exact g, by simpa using le, fl⟩, Fr.refl hw⟩
  simp [zc4, hsrc]
 ·have hn0 : Nat.beq ys.length 0 = false := by
   cases hq : Nat.beq ys.length 0 with
   | false => rfl
   | true => exact absurd (List.length_eq_zero_iff.1 (Nat.eq_of_beq_eq_true hq)) h0
  have hbl : Nat.ble (xs.length + ys.length) n = true := Nat.ble_eq_true_of_le hl
  have hf : Nat.ble H.floor o = true := Nat.ble_eq_true_of_le fl
  have hb2 : Nat.ble (0 + xs.length * 1 + (ys.flatMap zi7).length) (xs.flatMap zi7 ++ List.replicate (n - xs.length) (AV.int .i64 0)).length = true := by
   apply Nat.ble_eq_true_of_le
   rw [List.length_append, hfl, hfl, List.length_replicate]; omega
  have hset : setSeg (xs.flatMap zi7 ++ List.replicate (n - xs.length) (AV.int .i64 0)) (0 + xs.length * 1) (ys.flatMap zi7) = (xs ++ ys).flatMap zi7 ++ List.replicate (n - (xs ++ ys).length) (AV.int .i64 0) := by
   unfold setSeg
   have e1 : 0 + xs.length * 1 = (xs.flatMap zi7).length := by rw [hfl]; omega
   have e2 : (xs.flatMap zi7 ++ List.replicate (n - xs.length) (AV.int .i64 0)).drop ((xs.flatMap zi7).length + ys.length) = List.replicate (n - (xs ++ ys).length) (AV.int .i64 0) := by
    rw [<- List.drop_drop, List.drop_left, List.drop_replicate, List.length_append]
    congr 1; omega
   rw [e1, List.take_left, List.flatMap_append, hfl ys, e2]
  refine ⟨.slc o 0 (xs.length + ys.length) 1 n false, H.set o (.cells ((xs ++ ys).flatMap zi7 ++ List.replicate (n - (xs ++ ys).length) (AV.int .i64 0))), ?_, ⟨by rw [List.length_append], za7.trans (if_pos rfl), by rw [List.length_append]; exact hl, fl⟩, Fr.set hw (hw.lt g) _⟩
  simp only [zc4, hsrc, hone, cond_true, Nat.beq_refl, hn0, cond_false, hbl, Heap.writeSeg, hf, za3 g, hb2, Bool.and_self, hset, Option.map_some]
theorem Room.rw {v : AV} {o : Nat} {xs : List Int} (h : Room H v o xs.length xs) : Rw 1 zi7 H v xs := by
 obtain ⟨rfl, g, _, _⟩ := h
 refine ⟨.inr ⟨o, 0, xs.length, false, rfl, ?_⟩, by simp [zo2]⟩
 unfold Heap.readSeg
 rw [za3 g]
 simp only [Nat.sub_self, List.replicate_zero, List.append_nil]
 exact zo7 (zg6 (e := 1) zc9 _)
def zcj2 (l : List Int) (r : AV) : Prop := ∃ m, r = .int .i64 m /\ m ∈ l /\ ∀ x, x ∈ l -> m <= x
structure Mi1 (H H' : Heap) (v : AV) (l : List Int) (τ : Env) (k : Nat) (m : Int) (f : Nat) : Prop where
 eq : H = H'
 lo : 1 <= k
 le : k <= l.length
 hm : f = l.length - k
 mem : m ∈ l.take k
 all : ∀ x, x ∈ l.take k -> m <= x
 t : Tm τ [(0, v), (3, .int .i64 m), (4, .int .i64 k)]
theorem zcf0 (h135 : FT 135 = some (.code A135)) {v : AV} {l : List Int} (hv : Ints H v l) (hl : l.length <= 1000000000) (h1 : 1 <= l.length) : Cp FT 135 [v] H (fun r H' => zcj2 l r /\ H' = H) := by
 refine zb1 A135 h135 rfl ?_
 have c1 : ¬ (l.length : Int) < 1 := by omega
 obtain ⟨p0, x0, a1, a2, a3⟩ := Ints.idx hv (k := .i64) (i := (0 : Int)) (by omega) (by omega)
 have a1' : l[0]? = some x0 := a1
 have ht1 : l.take 1 = [x0] := by rw [List.take_add_one (i := 0), a1']; rfl
 simp [A135, hv.len, c1, a2, a3]
 refine zb7 (fun f τ H' => ∃ k m, Mi1 H H' v l τ k m f) ?_ (l.length - 1) _ _ ⟨1, x0, ⟨rfl, by omega, h1, rfl, by rw [ht1]; simp, by rw [ht1]; simp, by simp⟩⟩
 rintro f τ _ ⟨k, m, ⟨rfl, lo, le, rfl, mem, all, t⟩⟩
 simp at t
 obtain ⟨t0, t3, t4⟩ := t
 by_cases q : k < l.length
 ·have w : IntKind.i64.wrap ((k : Int) + 1) = (k : Int) + 1 := wrap64 (by omega) (by omega)
  obtain ⟨p, x, b1, b2, b3⟩ := Ints.idx hv (k := .i64) (i := (k : Int)) (by omega) (by omega)
  rw [Int.toNat_natCast] at b1
  have htk : l.take (k + 1) = l.take k ++ [x] := by rw [List.take_add_one, b1]; rfl
  have hmA : maxA false (.int .i64 m) [.int .i64 x] = some (.int .i64 (if x < m then x else m)) := by
   by_cases c : x < m <;> simp [maxA, c]
  simp [q, t0, t3, t4, hv.len, b2, b3, hmA, w]
  refine ⟨_, by omega, k + 1, (if x < m then x else m), ⟨rfl, by omega, by omega, rfl, ?_, ?_, by simp [t0]⟩⟩
  ·rw [htk]
   split
   ·simp
   ·exact List.mem_append_left _ mem
  ·rw [htk]
   intro y hy
   rcases List.mem_append.1 hy with r | r
   ·have := all y r
    split <;> omega
   ·simp at r; subst r
    split <;> omega
 ·have hk : k = l.length := by omega
  subst hk
  rw [List.take_length] at mem all
  simp [t0, t3, t4, hv.len]
  exact ⟨m, rfl, mem, all⟩
def zcs3 (l : List Int) (y : Int) (r : AV) : Prop := ∃ k : Nat, r = .int .i64 k /\ l[k]? = some y /\ y ∉ l.take k
structure Ix1 (H H' : Heap) (v : AV) (l : List Int) (y : Int) (τ : Env) (k : Nat) (f : Nat) : Prop where
 eq : H = H'
 le : k <= l.length
 hm : f = l.length - k
 no : y ∉ l.take k
 t : Tm τ [(0, v), (1, .int .i64 y), (7, .int .i64 l.length), (8, .int .i64 k)]
theorem zbs1 (h114 : FT 114 = some (.code A114)) {v : AV} {l : List Int} {y : Int} (hv : Ints H v l) (hl : l.length <= 1000000000) (hy : y ∈ l) : Cp FT 114 [v, .int .i64 y] H (fun r H' => zcs3 l y r /\ H' = H) := by
 refine zb1 A114 h114 rfl ?_
 simp [A114, hv.len]
 refine zb7 (fun f τ H' => ∃ k, Ix1 H H' v l y τ k f) ?_ l.length _ _ ⟨0, ⟨rfl, by omega, by omega, by simp, by simp⟩⟩
 rintro f τ _ ⟨k, ⟨rfl, le, rfl, no, t⟩⟩
 simp at t
 obtain ⟨t0, t1, t7, t8⟩ := t
 by_cases q : k < l.length
 ·have w : IntKind.i64.wrap ((k : Int) + 1) = (k : Int) + 1 := wrap64 (by omega) (by omega)
  obtain ⟨p, x, b1, b2, b3⟩ := Ints.idx hv (k := .i64) (i := (k : Int)) (by omega) (by omega)
  rw [Int.toNat_natCast] at b1
  by_cases c : y = x
  ·subst c
   simp [q, t0, t1, t7, t8, b2, b3]
   exact ⟨k, rfl, b1, no⟩
  ·simp [q, t0, t1, t7, t8, b2, b3, c, w]
   refine ⟨_, by omega, k + 1, ⟨rfl, by omega, rfl, ?_, by simp [t0, t1, t7]⟩⟩
   rw [List.take_add_one, b1]
   simp [no, c]
 ·have hk : k = l.length := by omega
  subst hk
  rw [List.take_length] at no
  exact absurd hy no
def zbv8 (FT : Nat -> Option FnD) : Prop := ∀ {H : Heap} {n : Nat}, H.Wf -> 0 < n -> n <= 1000000 -> Cp FT 157 [.nils, .int .i64 n] H (fun r H' => r = .slc H.next 0 0 1 n false /\ H' = H.push (.cells (List.replicate n (.int .i64 0))))
theorem zbj8 (hg : zbv8 FT) (h136 : FT 136 = some (.code A136)) (hw : H.Wf) {v1 v2 : AV} {o : Nat} {xs ys : List Int} (hc : H.get o = some (.cells [v1, v2])) (h1 : Rw 1 zi7 H v1 xs) (h2 : Rw 1 zi7 H v2 ys) (hn : 0 < xs.length + ys.length) (hl : xs.length + ys.length <= 1000000) :
  Cp FT 136 [.slc o 0 2 1 2 true] H (fun r H' => Rw 1 zi7 H' r (xs ++ ys) /\ Ext H H' /\ ∀ p, rowObj r = some p -> H.next <= p) := by
 refine zb1 A136 h136 rfl ?_
 have l1 : za9 H none (.ptr o 0) = some v1 := za1 hc rfl
 have l2 : za9 H none (.ptr o 1) = some v2 := za1 hc rfl
 have i0 : zd7 1 (.slc o 0 2 1 2 true) (.int .i64 0) = some (.ptr o 0) := rfl
 have i1 : zd7 1 (.slc o 0 2 1 2 true) (.int .i64 1) = some (.ptr o 1) := rfl
 have w0 : IntKind.i64.wrap (xs.length : Int) = xs.length := wrap64 (by omega) (by omega)
 have w1 : IntKind.i64.wrap ((xs.length : Int) + ys.length) = (xs.length : Int) + ys.length := wrap64 (by omega) (by omega)
 have c1 : ¬ (xs.length : Int) < 0 := by omega
 have c2 : ¬ (xs.length : Int) + ys.length < 0 := by omega
 have wi : IntKind.i64.wrap 1 = 1 := rfl
 have wi2 : IntKind.i64.wrap 2 = 2 := rfl
 simp [A136]
 refine zs1 ?_
 simp [i0, l1, h1.len, w0, c1, wi]
 refine zs1 ?_
 simp [i1, l2, h2.len, w1, c2, wi2]
 refine zs1 ?_
 simp
 have hG := hg hw hn hl
 push_cast at hG
 refine hG.mono ?_
 rintro _ _ ⟨rfl, rfl⟩
 obtain ⟨g0, e0⟩ := za4 hw (.cells (List.replicate (xs.length + ys.length) (.int .i64 0)))
 generalize hH1 : H.push (.cells (List.replicate (xs.length + ys.length) (.int .i64 0))) = H1 at e0 g0
 have hol : o < H.next := hw.lt hc
 have r0 : Room H1 (.slc H.next 0 0 1 (xs.length + ys.length) false) H.next (xs.length + ys.length) [] := ⟨rfl, by simpa using g0, by simp, by rw [e0.floor]; exact hw.1⟩
 obtain ⟨v3, H3, p1, r3, f3⟩ := r0.app (bytes := 8) e0.wf (h1.ext e0).sw (by simp)
 rw [List.nil_append] at r3
 have hrow : ∀ {v : AV} {zs : List Int}, Rw 1 zi7 H v zs -> Rw 1 zi7 H3 v zs := fun h => (h.ext e0).fr f3 fun p hp hm => by
  simp at hm
  have := h.rowLt zc9 hw hp
  omega
 obtain ⟨v4, H4, p2, r4, f4⟩ := r3.app (bytes := 8) f3.wf (hrow h2).sw (Nat.le_refl _)
 have hc1 := e0.keep _ _ hc
 have hc3 := f3.keep _ _ (by simp; omega) hc1
 have m1 : za9 H1 none (.ptr o 0) = some v1 := za1 hc1 rfl
 have m2 : za9 H3 none (.ptr o 1) = some v2 := za1 hc3 rfl
 simp
 refine zs1 ?_
 simp [i0, m1, p1, wi]
 refine zs1 ?_
 simp [i1, m2, p2, wi2]
 refine zs1 ?_
 simp
 have r5 : Room H4 v4 H.next (xs ++ ys).length (xs ++ ys) := by rw [List.length_append]; exact r4
 have e4 : Ext H H4 := zp3 hw (zp3 hw e0 f3 (fun p hp => by simp at hp; omega)) f4 (fun p hp => by simp at hp; omega)
 refine ⟨r5.rw, e4, fun p hp => ?_⟩
 rw [r5.v] at hp
 cases hp
 exact Nat.le_refl _
end
end Go.Proofs.Ytcepchipgjpkhaa
