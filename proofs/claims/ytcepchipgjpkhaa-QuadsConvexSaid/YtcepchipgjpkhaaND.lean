/- Two triangles as one face, as the program tells. No claim by itself. -/
import Derived.Test.YtcepchipgjpkhaaNC
import Derived.Test.YtcepchipgjpkhaaMM
import Derived.Test.YtcepchipgjpkhaaSS
namespace Go.Proofs.Ytcepchipgjpkhaa
open Go Go.AI
section
variable {FT : Nat -> Option FnD} {H H' : Heap}
def zac9 (n sz : Nat) (H : Heap) (x : AV) (lo hi : Option AV) : Option AV :=
 match x with
 | .ptr o off =>
  match H.cellsAt o with
  | some cs => bif Nat.ble (off + n * sz) cs.length then (zd8 n n true lo hi none).map fun r => .slc o (off + r.1 * sz) (r.2.1 - r.1) sz (r.2.2.1 - r.1) r.2.2.2 else none
  | none => none
 | _ => none
theorem za10 {e : Opd -> AV} {n sz : Nat} {x : Opd} {lo hi : Option Opd} : zb2 e H (.sliceA n sz x lo hi) = lft H (zac9 n sz H (e x) (lo.map e) (hi.map e)) := by
 show (match e x with | .ptr o off => (match H.cellsAt o with | some cs => (bif Nat.ble (off + n * sz) cs.length then (zd8 n n true (lo.map e) (hi.map e) none).map fun (l, h, m, ex) => (AV.slc o (off + l * sz) (h - l) sz (m - l) ex, H) else none) | none => none) | _ => none) = _
 unfold zac9
 cases e x with
 | ptr o off =>
  simp only
  cases H.cellsAt o with
  | none => rfl
  | some cs =>
   simp only
   cases Nat.ble (off + n * sz) cs.length with
   | false => rfl
   | true =>
    simp only [cond_true]
    cases zd8 n n true (lo.map e) (hi.map e) none <;> rfl
 | _ => rfl
theorem zbb9 {o n : Nat} {cs : List AV} {H1 : Heap} (h : H1.cellsAt o = some cs) (hl : cs.length = n) : zac9 n 1 H1 (.ptr o 0) none none = some (.slc o 0 n 1 n true) := by
 unfold zac9
 have : Nat.ble (0 + n * 1) cs.length = true := Nat.ble_eq_true_of_le (by omega)
 simp only [h, this, cond_true]
 simp [zd8]
theorem zbp1 {o n k : Nat} {cs : List AV} {H1 : Heap} (h : H1.cellsAt o = some cs) (hl : cs.length = n) (hk : k <= n) : zac9 n 1 H1 (.ptr o 0) (some (.int .i64 k)) none = some (.slc o k (n - k) 1 (n - k) true) := by
 unfold zac9
 have : Nat.ble (0 + n * 1) cs.length = true := Nat.ble_eq_true_of_le (by omega)
 have b1 : (0 : Int) <= (k : Int) /\ (k : Int) <= ((n : Nat) : Int) := by omega
 simp only [h, this, cond_true]
 simp only [zd8, zl1, if_pos b1, Option.map_some, Int.toNat_natCast, Nat.mul_one, Nat.zero_add]
theorem zbp2 {o n k : Nat} {cs : List AV} {H1 : Heap} (h : H1.cellsAt o = some cs) (hl : cs.length = n) (hk : k <= n) : zac9 n 1 H1 (.ptr o 0) none (some (.int .i64 k)) = some (.slc o 0 k 1 n true) := by
 unfold zac9
 have : Nat.ble (0 + n * 1) cs.length = true := Nat.ble_eq_true_of_le (by omega)
 have b1 : (0 : Int) <= (k : Int) /\ (k : Int) <= ((n : Nat) : Int) := by omega
 simp only [h, this, cond_true]
 simp only [zd8, zl1, if_pos b1, Option.map_some, Int.toNat_natCast, Nat.mul_one, Nat.zero_add, Nat.sub_zero]
theorem zcd4 {f : Nat} {args : List AV} {K : AV -> Heap -> Prop} {L : AV -> Prop} (_hw : H.Wf) (h : Cp FT f args H.up (fun r H' => L r /\ H' = H.up)) (kk : ∀ r, L r -> K r H) :
  Cp FT f args { t := H.t, next := H.next, floor := H.next } (zat3 H.floor K) := h.mono fun r H' q => by rw [q.2]; exact kk r q.1
theorem zb56 (hg : zbv8 FT) (h114 : FT 114 = some (.code A114)) (h135 : FT 135 = some (.code A135)) (h136 : FT 136 = some (.code A136)) (h109 : FT 109 = some (.code A109)) (hw : H.Wf) {q : Quad} :
  Cp FT 109 [.agg (z81 q)] H (fun r H' => Rw 1 zi7 H' r (zar5 q.1 q.2.1 q.2.2.1 q.2.2.2) /\ Ext H H' /\ ∀ p, rowObj r = some p -> H.next <= p) := by
 refine zb1 A109 h109 rfl ?_
 obtain ⟨a, b, c, d⟩ := q
 obtain ⟨g1, e1⟩ := za4 hw (.cells [.int .i64 a, .int .i64 b, .int .i64 c, .int .i64 d])
 have hq : z81 (a, b, c, d) = [.int .i64 a, .int .i64 b, .int .i64 c, .int .i64 d] := rfl
 simp only [hq]
 generalize hH1 : H.push (.cells [.int .i64 a, .int .i64 b, .int .i64 c, .int .i64 d]) = H1 at g1 e1
 have c1 := za3 g1
 have hrow : Rw 1 zi7 H1 (.slc H.next 0 4 1 4 true) [a, b, c, d] := zi1 (xs := [a, b, c, d]) zc9 g1
 have s1 : ∀ fl : Nat, zac9 4 1 { t := H1.t, next := H1.next, floor := fl } (.ptr H.next 0) none none = some (.slc H.next 0 4 1 4 true) := fun fl => zbb9 (H1 := { t := H1.t, next := H1.next, floor := fl }) c1 rfl
 have s2 : ∀ (fl k : Nat), k <= 4 -> zac9 4 1 { t := H1.t, next := H1.next, floor := fl } (.ptr H.next 0) (some (.int .i64 k)) none = some (.slc H.next k (4 - k) 1 (4 - k) true) := fun fl k hk => zbp1 (H1 := { t := H1.t, next := H1.next, floor := fl }) c1 rfl hk
 have s3 : ∀ (fl k : Nat), k <= 4 -> zac9 4 1 { t := H1.t, next := H1.next, floor := fl } (.ptr H.next 0) none (some (.int .i64 k)) = some (.slc H.next 0 k 1 4 true) := fun fl k hk => zbp2 (H1 := { t := H1.t, next := H1.next, floor := fl }) c1 rfl hk
 simp [A109, hH1, za10, s1]
 refine zcd4 (L := zcj2 [a, b, c, d]) e1.wf (zcf0 h135 (hrow.sl zc9).up (by simp) (by simp)) ?_
 rintro _ ⟨m, rfl, hm, hall⟩
 simp
 refine (zbs1 h114 (hrow.sl zc9) (by simp) hm).mono ?_
 rintro _ H2 ⟨⟨k, rfl, hk, hno⟩, rfl⟩
 have hk4 : k < 4 := by have := (List.getElem?_eq_some_iff.1 hk).1; simpa using this
 have s2k := fun fl => s2 fl k (by omega)
 have s3k := fun fl => s3 fl k (by omega)
 have r1 : Rw 1 zi7 H2 (.slc H.next k (4 - k) 1 (4 - k) true) ([a, b, c, d].drop k) := by
  have : k = 0 \/ k = 1 \/ k = 2 \/ k = 3 := by omega
  rcases this with rfl | rfl | rfl | rfl <;> exact ⟨.inr ⟨H.next, _, _, true, rfl, by unfold Heap.readSeg; rw [c1]; rfl⟩, rfl⟩
 have r2 : Rw 1 zi7 H2 (.slc H.next 0 k 1 4 true) ([a, b, c, d].take k) := by
  have : k = 0 \/ k = 1 \/ k = 2 \/ k = 3 := by omega
  rcases this with rfl | rfl | rfl | rfl <;> exact ⟨.inr ⟨H.next, _, _, true, rfl, by unfold Heap.readSeg; rw [c1]; rfl⟩, rfl⟩
 have hfrom : [a, b, c, d].drop k ++ [a, b, c, d].take k = zar5 a b c d := by
  have ha := hall a (by simp)
  have hb := hall b (by simp)
  have hc := hall c (by simp)
  have hd := hall d (by simp)
  have : k = 0 \/ k = 1 \/ k = 2 \/ k = 3 := by omega
  unfold zar5
  rcases this with rfl | rfl | rfl | rfl
  ·simp at hk
   rw [if_pos (by omega)]; rfl
  ·simp at hk hno
   rw [if_neg (by omega), if_pos (by omega)]; rfl
  ·simp at hk hno
   rw [if_neg (by omega), if_neg (by omega), if_pos (by omega)]; rfl
  ·simp at hk hno
   rw [if_neg (by omega), if_neg (by omega), if_neg (by omega)]; rfl
 have hlen : ([a, b, c, d].drop k).length + ([a, b, c, d].take k).length = 4 := by
  rw [List.length_drop, List.length_take]; simp; omega
 simp [za10, s2k, s3k]
 obtain ⟨g3, e3⟩ := za4 e1.wf (.cells [.slc H.next k (4 - k) 1 (4 - k) true, .slc H.next 0 k 1 4 true])
 refine (zbj8 hg h136 e3.wf g3 (r1.ext e3) (r2.ext e3) (by omega) (by omega)).mono ?_
 rintro r H3 ⟨h1, h2, h3⟩
 rw [hfrom] at h1
 simp
 exact ⟨h1, e1.trans (e3.trans h2), fun p hp => by have := h3 p hp; have := e1.next; have := e3.next; omega⟩
end
end Go.Proofs.Ytcepchipgjpkhaa
namespace Go.Proofs.Ytcepchipgjpkhaa
open Go Go.AI
section
variable {FT : Nat -> Option FnD} {H H' : Heap}
theorem zcd3 {f : Nat} {args : List AV} {K : AV -> Heap -> Prop} {L : AV -> Prop} (hw : H.Wf) (h : Cp FT f args H.up (fun r H' => L r /\ Ext H.up H')) (kk : ∀ r H', L r -> Ext H H' -> K r H') :
  Cp FT f args { t := H.t, next := H.next, floor := H.next } (zat3 H.floor K) := h.mono fun r _H' q => kk r _ q.1 (Ext.back hw q.2)
open Classical in
def Cv67 (FT : Nat -> Option FnD) : Prop := ∀ {H : Heap} {v : AV} {l : List (Int × Int)}, H.Wf -> zh3 H v l -> l.length <= 1000000000 -> Cp FT 67 [v] H (fun r H' => r = .bool (decide (zx4 l)) /\ Ext H H')
structure zbl9 (FT : Nat -> Option FnD) : Prop where
 or : Or96 FT
 cv : Cv67 FT
 gr : zbv8 FT
 h76 : FT 76 = some (.code A76)
 h84 : FT 84 = some (.code A84)
 h107 : FT 107 = some (.code A107)
 h108 : FT 108 = some (.code A108)
 h109 : FT 109 = some (.code A109)
 h114 : FT 114 = some (.code A114)
 h134 : FT 134 = some (.code A134)
 h135 : FT 135 = some (.code A135)
 h136 : FT 136 = some (.code A136)
def QdR (H0 H' : Heap) (o : Option (List Int)) (r : AV) : Prop := ∃ v, r = .tup [v, .bool o.isSome] /\ (∀ f, o = some f -> Rw 1 zi7 H' v f /\ ∀ p, rowObj v = some p -> H0.next <= p) /\ (o = none -> v = .nils)
theorem QdR.nil {H0 : Heap} {o : Option (List Int)} (h : o = none) : QdR H0 H' o (.tup [.nils, .bool false]) := ⟨.nils, by rw [h]; rfl, ⟨fun f e => (by rw [h] at e; cases e), fun _ => rfl⟩⟩
theorem zbs5 {l : List (Int × Int)} {y : Int × Int} : z00 (fun x => decide (y = x)) l = decide (y ∈ l) := by
 unfold z00
 rw [Bool.eq_iff_iff]
 simp
theorem zbg2 (a c : Int) : maxA false (.int .i64 a) [.int .i64 c] = some (.int .i64 (upM a c).1) /\ maxA true (.int .i64 a) [.int .i64 c] = some (.int .i64 (upM a c).2) := by
 unfold upM
 constructor
 ·by_cases h : c < a
  ·have : min a c = c := by omega
   simp [maxA, h, this]
  ·have : min a c = a := by omega
   simp [maxA, h, this]
 ·by_cases h : a < c
  ·have : max a c = c := by omega
   simp [maxA, h, this]
  ·have : max a c = a := by omega
   simp [maxA, h, this]
theorem zbc1 {P : List (Int × Int)} {t u : Tri} {a b c d : Int} (tt : zx7 P t) (tu : zx7 P u) (h : zh4 t u = some (a, b, c, d)) : inN P.length a /\ inN P.length b /\ inN P.length c /\ inN P.length d := by
 have hm : (a, b, c, d) ∈ hits t u := by rw [zm2 h]; simp
 obtain ⟨x, y, hx, hy, c1, c2, e⟩ := zab7.1 hm
 simp only [Prod.mk.injEq] at e
 obtain ⟨e1, e2, e3, e4⟩ := e
 obtain ⟨⟨x1, x2, x3⟩, _⟩ := zbx1 tt hx
 obtain ⟨⟨_, _, y3⟩, _⟩ := zbx1 tu hy
 rw [e1, e2, e3, e4]
 exact ⟨x1, y3, x2, x3⟩
theorem zbx5 (T : zbl9 FT) (hw : H.Wf) {vP vT vS : AV} {P : List (Int × Int)} {Ts : List Tri} {S : List (Int × Int)} (hP : zh3 H vP P) (hT : Tris H vT Ts) (hS : zh3 H vS S) (_lP : P.length <= 1000000000) (_lT : Ts.length <= 1000000000) (lS : S.length <= 1000000000) (oP : vP.one = true /\ vP.cells = [vP]) (oT : vT.one = true /\ vT.cells = [vT]) (oS : vS.one = true /\ vS.cells = [vS])
  {i k : Nat} {t u : Tri} (hi : Ts[i]? = some t) (hk : Ts[k]? = some u) (tt : zx7 P t) (tu : zx7 P u) :
  Cp FT 76 [.agg [vP, vT, vS], .int .i64 i, .int .i64 k] H (fun r H' => QdR H H' (zq5 P S t u) r /\ Ext H H') := by
 refine zb1 A76 T.h76 rfl ?_
 have il : i < Ts.length := (List.getElem?_eq_some_iff.1 hi).1
 have kl : k < Ts.length := (List.getElem?_eq_some_iff.1 hk).1
 obtain ⟨g3, e3⟩ := za4 hw (.cells [vP, vT, vS])
 have hall : za5 [vP, vT, vS] = true := by simp [za5, oP.1, oT.1, oS.1]
 generalize hH1 : H.push (.cells [vP, vT, vS]) = H1 at g3 e3
 have f0 : za9 H1 none (.ptr H.next 0) = some vP := za1 g3 rfl
 have f1 : za9 H1 none (.ptr H.next 1) = some vT := za1 g3 rfl
 have f2 : za9 H1 none (.ptr H.next 2) = some vS := za1 g3 rfl
 have hT1 := hT.ext e3
 obtain ⟨o1, off1, x1, a1, a2, a3, _⟩ := Tris.idx hT1 (k := .i64) (i := (i : Int)) (by omega) (by omega)
 obtain ⟨o2, off2, x2, b1, b2, b3, _⟩ := Tris.idx hT1 (k := .i64) (i := (k : Int)) (by omega) (by omega)
 rw [Int.toNat_natCast, hi] at a1
 rw [Int.toNat_natCast, hk] at b1
 cases a1
 cases b1
 simp [A76, hall, hH1, f1, a2, a3, b2, b3]
 refine zcd3 (L := ShR t u) e3.wf (zbc2 T.h84 T.h107 e3.wf.up (t := t) (u := u)) ?_
 rintro _ H2 ⟨q, rfl, hq⟩ e2
 obtain ⟨H3, st, g8, e8, n8⟩ := zd4 e2.wf (z := [.int .i64 0, .int .i64 0, .int .i64 0, .int .i64 0]) (n := 4) (x := .agg (z81 q)) (cs := z81 q) rfl rfl rfl rfl
 have x3 := e3.trans (e2.trans e8)
 cases hs : zh4 t u with
 | none =>
  have hn : zq5 P S t u = none := by unfold zq5; rw [hs]
  simp [st]
  exact ⟨QdR.nil hn, x3⟩
 | some q' =>
  have := hq q' hs
  subst this
  obtain ⟨a, b, c, d⟩ := q
  have f2' : za9 H3 none (.ptr H.next 2) = some vS := zd6 (zd6 f2 e2) e8
  have f0' : za9 H3 none (.ptr H.next 0) = some vP := zd6 (zd6 f0 e2) e8
  have l0 : za9 H3 none (.ptr H2.next 0) = some (.int .i64 a) := za1 g8 rfl
  have l1 : za9 H3 none (.ptr H2.next 1) = some (.int .i64 b) := za1 g8 rfl
  have l2 : za9 H3 none (.ptr H2.next 2) = some (.int .i64 c) := za1 g8 rfl
  have l3 : za9 H3 none (.ptr H2.next 3) = some (.int .i64 d) := za1 g8 rfl
  have x0 : ∀ o, zw9 4 1 (.ptr o 0) (.int .i64 0) = some (.ptr o 0) := fun o => rfl
  have x1 : ∀ o, zw9 4 1 (.ptr o 0) (.int .i64 1) = some (.ptr o 1) := fun o => rfl
  have x2 : ∀ o, zw9 4 1 (.ptr o 0) (.int .i64 2) = some (.ptr o 2) := fun o => rfl
  have x3' : ∀ o, zw9 4 1 (.ptr o 0) (.int .i64 3) = some (.ptr o 3) := fun o => rfl
  have hmm := zbg2 a c
  have hup : AV.agg [.int .i64 (upM a c).1, .int .i64 (upM a c).2] = .agg (za2 (upM a c)) := rfl
  have hS3 := hS.ext x3
  simp [st, f2', l0, l2, x0, x2, hmm.1, hmm.2, setSeg]
  refine (z98 T.h108 T.h134 hS3 x3.wf (y := upM a c) (by omega)).mono ?_
  rintro _ H4 ⟨rfl, e4⟩
  rw [zbs5]
  have x4 := x3.trans e4
  by_cases hin : upM a c ∈ S
  ·have hn : zq5 P S t u = none := by unfold zq5; rw [hs]; simp only; rw [if_pos hin]
   simp [hin]
   exact ⟨QdR.nil hn, x4⟩
  ·obtain ⟨ia, ib, ic, id'⟩ := zbc1 tt tu hs
   have hP4 := hP.ext x4
   have pt : ∀ x : Int, inN P.length x -> ∃ p, zd7 2 vP (.int .i64 x) = some p /\ za9 H4 (some 2) p = some (.agg [.int .i64 (ptQ P x).1, .int .i64 (ptQ P x).2]) := fun x hx => by
    obtain ⟨p, y, y1, y2, y3, _⟩ := Sl.idx hP4 (k := .i64) (i := x) hx.1 hx.2
    have : ptQ P x = y := by unfold ptQ; rw [List.getD_eq_getElem?_getD, y1]; rfl
    exact ⟨p, y2, by rw [this]; exact y3⟩
   obtain ⟨pa, a1, a2⟩ := pt a ia
   obtain ⟨pb, b1, b2⟩ := pt b ib
   obtain ⟨pc, c1, c2⟩ := pt c ic
   obtain ⟨pd, d1, d2⟩ := pt d id'
   have f0'' := zd6 f0' e4
   have l0' := zd6 l0 e4
   have l1' := zd6 l1 e4
   have l2' := zd6 l2 e4
   have l3' := zd6 l3 e4
   generalize hpa : ptQ P a = qa at *
   generalize hpb : ptQ P b = qb at *
   generalize hpc : ptQ P c = qc at *
   generalize hpd : ptQ P d = qd at *
   simp [hin, f0'', l0', l1', l2', l3', x0, x1, x2, x3', a1, a2, b1, b2, c1, c2, d1, d2, setSeg]
   obtain ⟨g9, e9⟩ := za4 e4.wf (.cells ([qa, qb, qc, qd].flatMap za2))
   have hv9 : zh3 (H4.push (.cells ([qa, qb, qc, qd].flatMap za2))) (.slc H4.next 0 4 2 4 true) [qa, qb, qc, qd] := (zi1 (xs := [qa, qb, qc, qd]) zc6 g9).sl zc6
   refine (T.cv e9.wf hv9 (by simp)).mono ?_
   rintro _ H5 ⟨rfl, e5⟩
   have x5 := x4.trans (e9.trans e5)
   by_cases z : zx4 [qa, qb, qc, qd]
   ·have hn : zq5 P S t u = some (zar5 a b c d) := by
     unfold zq5
     rw [hs]
     simp only
     rw [if_neg hin, hpa, hpb, hpc, hpd, if_pos (zag0.2 z)]
    have l8 : za9 H5 (some 4) (.ptr H2.next 0) = some (.agg (z81 (a, b, c, d))) := zd6 (zd6 (zd6 (zc0 g8 rfl) e4) e9) e5
    simp [z, l8]
    refine (zb56 T.gr T.h114 T.h135 T.h136 T.h109 e5.wf (q := (a, b, c, d))).mono ?_
    rintro r H6 ⟨r1, e6, r3⟩
    simp
    exact ⟨⟨r, by rw [hn]; rfl, ⟨fun f e => by
     rw [hn] at e
     cases e
     exact ⟨r1, fun p hp => by have := r3 p hp; have := x5.next; omega⟩, fun e => (by rw [hn] at e; cases e)⟩⟩, x5.trans e6⟩
   ·have hn : zq5 P S t u = none := by
     unfold zq5
     rw [hs]
     simp only
     rw [if_neg hin, hpa, hpb, hpc, hpd, if_neg fun q => z (zag0.1 q)]
    simp [z]
    exact ⟨QdR.nil hn, x5⟩
end
end Go.Proofs.Ytcepchipgjpkhaa
