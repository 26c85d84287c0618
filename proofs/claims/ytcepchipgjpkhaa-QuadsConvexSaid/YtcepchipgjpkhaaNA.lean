/- The document's predicates: numbers, differences, areas. No claim by itself. -/
import Derived.Test.YtcepchipgjpkhaaDD
import Derived.Test.YtcepchipgjpkhaaEG
import Derived.Test.YtcepchipgjpkhaaEH
namespace Go.Proofs.Ytcepchipgjpkhaa
open Go Go.AI
section
variable {FT : Nat -> Option FnD} {H H' : Heap} {v : AV} {z : Int} {k : Nat}
structure zs2 (H : Heap) (v : AV) (z : Int) (k : Nat) : Prop where
 ex : ∃ m ds, NumR H v m ds /\ zval m ds = z /\ ds.length <= k /\ (m = true -> ds ≠ [])
theorem zs2.ext (h : zs2 H v z k) (e : Ext H H') : zs2 H' v z k := by
 obtain ⟨m, ds, a, b, c, d⟩ := h; exact ⟨m, ds, a.ext e, b, c, d⟩
theorem zs2.up (h : zs2 H v z k) : zs2 H.up v z k := by
 obtain ⟨m, ds, a, b, c, d⟩ := h; exact ⟨m, ds, a.up, b, c, d⟩
theorem zs2.fl {f : Nat} (h : zs2 H v z k) : zs2 { H with floor := f } v z k := by
 obtain ⟨m, ds, a, b, c, d⟩ := h; exact ⟨m, ds, a.fl, b, c, d⟩
theorem zs2.cells (h : zs2 H v z k) : ∃ m u, v = .agg [.bool m, u] /\ za5 [AV.bool m, u] = true := by
 obtain ⟨m, ds, a, _⟩ := h
 obtain ⟨u, h1, h2⟩ := a.cells
 exact ⟨m, u, h1, h2⟩
theorem zs2.weak {j : Nat} (h : zs2 H v z k) (hj : k <= j) : zs2 H v z j := by
 obtain ⟨m, ds, a, b, c, d⟩ := h; exact ⟨m, ds, a, b, by omega, d⟩
theorem zcc9 {cs ys : List AV} {off n : Nat} (h : seg cs off n = some ys) {y : AV} (hy : y ∈ ys) : y ∈ cs := by
 unfold seg at h
 cases q : Nat.ble (off + n) cs.length with
 | true => rw [q] at h; cases h; exact List.mem_of_mem_drop (List.mem_of_mem_take hy)
 | false => rw [q] at h; cases h
theorem zb44 {H1 H' : Heap} {o : Nat} {u : AV} {ds : List Nat} {xs : List AV} (h : Nats H1 u ds) {c0 : List AV} (g : H1.get o = some (.cells c0)) (hc0 : ∀ x : Int, AV.int .i64 x ∉ c0) (f : Fr [o] H1 H') (g' : H'.get o = some (.cells xs)) : Nats H' u ds := by
 rcases h with h | ⟨o', off, lo, ex, cs, rfl, hc, hx⟩
 ·exact .inl h
 ·by_cases e : o' = o
  ·subst e
   rw [za3 g] at hc
   cases hc
   refine .inr ⟨o', off, lo, ex, xs, rfl, za3 g', fun i x hi => ?_⟩
   have := zcc9 (hx i x hi) (y := .int .i64 (x : Int)) (by simp [n64c])
   exact absurd this (hc0 _)
  ·exact .inr ⟨o', off, lo, ex, cs, rfl, za3 (f.keep _ _ (by simpa using e) (zp2 hc)), hx⟩
theorem zae2 {H0 H1 : Heap} (hw : H0.Wf) {o : Nat} (ho : H0.next <= o) (e : Ext H0 H1) {b0 : Bool} {u0 : AV} (g : H1.get o = some (.cells [.bool b0, u0])) (hu0 : ∀ x : Int, u0 ≠ .int .i64 x) {m : Bool} {u : AV} (h : zs2 H1 (.agg [.bool m, u]) z k) :
  ∃ H', zf6 H1 2 (.ptr o 0) (.agg [.bool m, u]) = some (zb8, H') /\ H'.cellsAt o = some [.bool m, u] /\ zs2 H' (.agg [.bool m, u]) z k /\ Ext H0 H' /\ Fr [o] H1 H' := by
 have hone : za5 [AV.bool m, u] = true := by
  obtain ⟨m', u', q1, q2⟩ := h.cells
  cases q1; exact q2
 obtain ⟨H', s, g', f⟩ := ze0 (n := 2) (x := .agg [.bool m, u]) e.wf rfl rfl (by rw [e.floor]; have := hw.1; omega) g rfl hone
 have ex : Ext H0 H' := zp3 hw e f (fun p hp => by simp at hp; omega)
 refine ⟨H', s, za3 g', ?_, ex, f⟩
 obtain ⟨m1, ds, a, b, c, d⟩ := h
 obtain ⟨dg, nm, ln, u1, hu1, cu, nu⟩ := a
 cases hu1
 refine ⟨m, ds, ⟨dg, nm, ln, u, rfl, cu, zb44 nu g (fun x q => by simp at q; exact hu0 x q.symm) f g'⟩, b, c, d⟩
theorem zs2.noint {m : Bool} {u : AV} (h : zs2 H (.agg [.bool m, u]) z k) : ∀ x : Int, u ≠ .int .i64 x := fun x q => by
 obtain ⟨m', ds, a, _⟩ := h
 obtain ⟨_, _, _, u', e, _, n⟩ := a
 cases e
 subst q
 rcases n with ⟨h1, _⟩ | ⟨_, _, _, _, _, h1, _⟩ <;> cases h1
theorem zbo8 (h50 : FT 50 = some (.code A50)) (h80 : FT 80 = some (.code A80)) (hw : H.Wf) {n : Int} (h0 : -9223372036854775807 <= n) (h1 : n <= 9223372036854775807) :
  Cp FT 50 [.int .i64 n] H (fun r H' => zs2 H' r n 4 /\ Ext H H') := by
 refine (zb20 h50 h80 hw h0 h1).mono ?_
 rintro r H' ⟨ds, a, b, e⟩
 refine ⟨⟨_, ds, a, ?_, zce2 a.nm (by rw [b]; simp; omega), fun q => ?_⟩, e⟩
 ·unfold zval; rw [b]; simp only [decide_eq_true_iff]; split <;> omega
 ·intro r; subst r; simp [ze9] at b; simp at q; omega
theorem zao5 (h111 : FT 111 = some (.code A111)) (h79 : FT 79 = some (.code A79)) (h80 : FT 80 = some (.code A80)) (hw : H.Wf) {x y : AV} {a b : Int} {j k : Nat} (ha : zs2 H x a j) (hb : zs2 H y b k) (hl : j + k <= 90) :
  Cp FT 111 [x, y] H (fun r H' => zs2 H' r (a * b) (j + k + 1) /\ Ext H H') := by
 obtain ⟨ma, da, a1, a2, a3, a4⟩ := ha
 obtain ⟨mb, db, b1, b2, b3, b4⟩ := hb
 refine (zbo0 h111 h79 h80 hw a1 b1 (by omega)).mono ?_
 rintro r H' ⟨ds, n, hd, hl, e⟩
 have hz : ds = [] ↔ ze9 ds = 0 := (zaf5 n.nm).symm
 refine ⟨⟨_, ds, n, ?_, by omega, fun q r => by subst r; simp at q⟩, e⟩
 subst a2 b2
 unfold zval
 by_cases h : ds = []
 ·have h0 := hz.1 h
  rw [hd] at h0
  have h0' : (ze9 da : Int) * (ze9 db : Int) = 0 := by exact_mod_cast h0
  have hd0 : ze9 ds = 0 := by rw [hd]; exact h0
  simp only [h, ne_eq, not_true_eq_false, decide_false, Bool.and_false]
  rw [if_neg (by simp)]
  simp only [ze9]
  cases ma <;> cases mb <;> simp [h0', Int.mul_neg, Int.neg_mul]
 ·rw [hd]
  cases ma <;> cases mb <;> simp [h, Int.mul_neg, Int.neg_mul]
theorem zce5 (h82 : FT 82 = some (.code A82)) (hw : H.Wf) (h : zs2 H v z k) : Cp FT 82 [v] H (fun r H' => zs2 H' r (-z) k /\ Ext H H') := by
 obtain ⟨m, ds, a, b, c, d⟩ := h
 refine (zcp8 h82 hw a).mono ?_
 rintro r H' ⟨n, e⟩
 refine ⟨⟨_, ds, n, ?_, c, fun q r => by subst r; simp at q⟩, e⟩
 subst b
 unfold zval
 by_cases h : ds = []
 ·subst h
  cases m <;> simp [ze9]
 ·cases m <;> simp [h]
theorem zav7 (h47 : FT 47 = some (.code A47)) (h81 : FT 81 = some (.code A81)) (h79 : FT 79 = some (.code A79)) (h80 : FT 80 = some (.code A80)) (hw : H.Wf) {x y : AV} {a b : Int} {k : Nat} (ha : zs2 H x a k) (hb : zs2 H y b k) (hl : k <= 90) :
  Cp FT 47 [x, y] H (fun r H' => zs2 H' r (a + b) (k + 1) /\ Ext H H') := by
 obtain ⟨ma, da, a1, a2, a3, a4⟩ := ha
 obtain ⟨mb, db, b1, b2, b3, b4⟩ := hb
 refine (zcd8 h47 h81 h79 h80 hw a1 b1 (by omega) (by omega)).mono ?_
 rintro r H' ⟨m, ds, n, hz, hm, hl, e⟩
 exact ⟨⟨m, ds, n, by rw [hz, a2, b2], by omega, hm⟩, e⟩
theorem zb22 (h83 : FT 83 = some (.code A83)) (hw : H.Wf) (h : zs2 H v z k) : Cp FT 83 [v] H (fun r H' => r = .int .i64 z.sign /\ Ext H H') := by
 obtain ⟨m, ds, a, b, c, d⟩ := h
 refine (zcc7 h83 hw a).mono ?_
 rintro r H' ⟨q, e⟩
 exact ⟨by rw [q, b], e⟩
theorem zab0 (h78 : FT 78 = some (.code A78)) (h50 : FT 50 = some (.code A50)) (h80 : FT 80 = some (.code A80)) (hw : H.Wf) {n : Int} (h0 : -9223372036854775807 <= n) (h1 : n <= 9223372036854775807) :
  Cp FT 78 [.int .i64 n] H (fun r H' => zs2 H' r n 4 /\ Ext H H') := by
 refine zb1 A78 h78 rfl ?_
 obtain ⟨g0, e0⟩ := za4 hw (.cells [.bool false, .nils])
 simp [A78]
 refine (zbo8 h50 h80 e0.wf h0 h1).mono ?_
 rintro r H1 ⟨hn, e1⟩
 obtain ⟨m, u, rfl, _⟩ := hn.cells
 obtain ⟨H2, s, c, hn2, e2, _⟩ := zae2 hw (Nat.le_refl _) (e0.trans e1) (e1.keep _ _ g0) (fun x q => by cases q) hn
 simp [s, zb5, ze1, c, ze2, seg, zg8]
 exact ⟨hn2, e2⟩
theorem zbr2 (h110 : FT 110 = some (.code A110)) (h82 : FT 82 = some (.code A82)) (h47 : FT 47 = some (.code A47)) (h81 : FT 81 = some (.code A81)) (h79 : FT 79 = some (.code A79)) (h80 : FT 80 = some (.code A80)) (hw : H.Wf) {x y : AV} {a b : Int} {k : Nat} (ha : zs2 H x a k) (hb : zs2 H y b k) (hl : k <= 90) :
  Cp FT 110 [x, y] H (fun r H' => zs2 H' r (a - b) (k + 1) /\ Ext H H') := by
 obtain ⟨ma, u, rfl, hou⟩ := ha.cells
 obtain ⟨mb, v, rfl, hov⟩ := hb.cells
 refine zb1 A110 h110 rfl ?_
 obtain ⟨g0, e0⟩ := za4 hw (.cells [.bool ma, u])
 obtain ⟨g1, e1⟩ := za4 e0.wf (.cells [.bool mb, v])
 obtain ⟨g2, e2⟩ := za4 (e0.trans e1).wf (.cells [.bool false, .nils])
 simp [A110, hou, hov]
 have e02 := (e0.trans e1).trans e2
 have g0' := e2.keep _ _ (e1.keep _ _ g0)
 have g1' := e2.keep _ _ g1
 generalize hH1 : ((H.push (.cells [.bool ma, u])).push (.cells [.bool mb, v])).push (.cells [.bool false, .nils]) = H1 at *
 have g1'' : H1.get (H.next + 1) = some (.cells [.bool mb, v]) := g1'
 have g2'' : H1.get (H.next + 2) = some (.cells [.bool false, .nils]) := g2
 have l0 : za9 H1 (some 2) (.ptr H.next 0) = some (.agg [.bool ma, u]) := zc0 g0' (by simp [seg])
 have l1 : za9 H1 (some 2) (.ptr (H.next + 1) 0) = some (.agg [.bool mb, v]) := zc0 g1'' (by simp [seg])
 simp [l0, l1]
 refine (zce5 h82 e02.wf.up (hb.ext e02).up).quiet ?_
 rintro r H2 ⟨hr, e2⟩
 have e12 := e2.back e02.wf
 have hr' := hr.fl (f := H1.floor)
 generalize ({ t := H2.t, next := H2.next, floor := H1.floor } : Heap) = H2' at *
 simp
 refine (zav7 h47 h81 h79 h80 e12.wf (ha.ext (e02.trans e12)) hr' hl).mono ?_
 rintro r3 H3 ⟨hn, e3⟩
 obtain ⟨m, w, rfl, _⟩ := hn.cells
 obtain ⟨H4, s, c, hn4, e4, _⟩ := zae2 hw (o := H.next + 2) (by omega) ((e02.trans e12).trans e3) (e3.keep _ _ (e12.keep _ _ g2'')) (fun x q => by cases q) hn
 simp [s, zb5, ze1, c, ze2, seg, zg8]
 exact ⟨by rw [Int.sub_eq_add_neg]; exact hn4, e4⟩
structure NumT (FT : Nat -> Option FnD) : Prop where
 h46 : FT 46 = some (.code A46)
 h47 : FT 47 = some (.code A47)
 h49 : FT 49 = some (.code A49)
 h50 : FT 50 = some (.code A50)
 h77 : FT 77 = some (.code A77)
 h78 : FT 78 = some (.code A78)
 h79 : FT 79 = some (.code A79)
 h80 : FT 80 = some (.code A80)
 h81 : FT 81 = some (.code A81)
 h82 : FT 82 = some (.code A82)
 h83 : FT 83 = some (.code A83)
 h90 : FT 90 = some (.code A90)
 h110 : FT 110 = some (.code A110)
 h111 : FT 111 = some (.code A111)
theorem zn7 {f : Nat} {args : List AV} {K : AV -> Heap -> Prop} (hw : H.Wf) (h : Cp FT f args H.up (fun r H' => zs2 H' r z k /\ Ext H.up H')) (kk : ∀ r H', zs2 H' r z k -> Ext H H' -> K r H') :
  Cp FT f args { t := H.t, next := H.next, floor := H.next } (zat3 H.floor K) := by
 refine h.quiet ?_
 rintro r H2 ⟨hr, e2⟩
 exact kk r _ hr.fl (e2.back hw)
theorem zb62 (T : NumT FT) (h77 : FT 77 = some (.code A77)) (hw : H.Wf) {x y p q : AV} {a b c d : Int} {k : Nat} (ha : zs2 H x a k) (hb : zs2 H y b k) (hc : zs2 H p c k) (hd : zs2 H q d k) (hl : k <= 44) :
  Cp FT 77 [x, y, p, q] H (fun r H' => zs2 H' r (a * d - b * c) (2 * k + 2) /\ Ext H H') := by
 obtain ⟨ma, u, rfl, hou⟩ := ha.cells
 obtain ⟨mb, v, rfl, hov⟩ := hb.cells
 obtain ⟨mc, w, rfl, how⟩ := hc.cells
 obtain ⟨md, t, rfl, hot⟩ := hd.cells
 refine zb1 A77 h77 rfl ?_
 obtain ⟨g0, e0⟩ := za4 hw (.cells [.bool ma, u])
 obtain ⟨g1, e1⟩ := za4 e0.wf (.cells [.bool mb, v])
 obtain ⟨g2, e2⟩ := za4 e1.wf (.cells [.bool mc, w])
 obtain ⟨g3, e3⟩ := za4 e2.wf (.cells [.bool md, t])
 obtain ⟨g4, e4⟩ := za4 e3.wf (.cells [.bool false, .nils])
 simp [A77, hou, hov, how, hot]
 have e04 := ((((e0.trans e1).trans e2).trans e3)).trans e4
 have g0' := e4.keep _ _ (e3.keep _ _ (e2.keep _ _ (e1.keep _ _ g0)))
 have g1' := e4.keep _ _ (e3.keep _ _ (e2.keep _ _ g1))
 have g2' := e4.keep _ _ (e3.keep _ _ g2)
 have g3' := e4.keep _ _ g3
 generalize hH1 : ((((H.push (.cells [.bool ma, u])).push (.cells [.bool mb, v])).push (.cells [.bool mc, w])).push (.cells [.bool md, t])).push (.cells [.bool false, .nils]) = H1 at *
 have g1'' : H1.get (H.next + 1) = some (.cells [.bool mb, v]) := g1'
 have g2'' : H1.get (H.next + 2) = some (.cells [.bool mc, w]) := g2'
 have g3'' : H1.get (H.next + 3) = some (.cells [.bool md, t]) := g3'
 have g4'' : H1.get (H.next + 4) = some (.cells [.bool false, .nils]) := g4
 have ld : ∀ {H2 : Heap}, Ext H1 H2 -> za9 H2 (some 2) (.ptr H.next 0) = some (.agg [.bool ma, u]) /\ za9 H2 (some 2) (.ptr (H.next + 1) 0) = some (.agg [.bool mb, v]) /\ za9 H2 (some 2) (.ptr (H.next + 2) 0) = some (.agg [.bool mc, w]) /\ za9 H2 (some 2) (.ptr (H.next + 3) 0) = some (.agg [.bool md, t]) := fun e =>
  ⟨zc0 (e.keep _ _ g0') (by simp [seg]), zc0 (e.keep _ _ g1'') (by simp [seg]), zc0 (e.keep _ _ g2'') (by simp [seg]), zc0 (e.keep _ _ g3'') (by simp [seg])⟩
 obtain ⟨l0, l1, l2, l3⟩ := ld (Ext.refl e04.wf)
 simp [l0, l3]
 refine zn7 e04.wf (zao5 T.h111 T.h79 T.h80 e04.wf.up (ha.ext e04).up (hd.ext e04).up (by omega)) ?_
 intro r1 H2 hr1 e12
 obtain ⟨_, l1, l2, _⟩ := ld e12
 simp [l1, l2]
 refine (zao5 T.h111 T.h79 T.h80 e12.wf (hb.ext (e04.trans e12)) (hc.ext (e04.trans e12)) (by omega)).mono ?_
 rintro r2 H3 ⟨hr2, e23⟩
 simp
 refine (zbr2 T.h110 T.h82 T.h47 T.h81 T.h79 T.h80 e23.wf (hr1.ext e23) hr2 (by omega)).mono ?_
 rintro r3 H4 ⟨hn, e34⟩
 obtain ⟨m, w, rfl, _⟩ := hn.cells
 have e14 := (e12.trans e23).trans e34
 obtain ⟨H5, s, c, hn5, e5, _⟩ := zae2 hw (o := H.next + 4) (by omega) (e04.trans e14) (e14.keep _ _ g4'') (fun x q => by cases q) hn
 simp [s, zb5, ze1, c, ze2, seg, zg8]
 exact ⟨hn5.weak (by omega), e5⟩
def z01 (p : Int × Int) : Prop := (-4294967296 <= p.1 /\ p.1 <= 4294967296) /\ (-4294967296 <= p.2 /\ p.2 <= 4294967296)
instance (p : Int × Int) : Decidable (z01 p) := by unfold z01; infer_instance
theorem zbi6 (T : NumT FT) (hw : H.Wf) {p : Int × Int} : Cp FT 90 [.agg (za2 p)] H (fun r H' => r = .bool (decide (z01 p)) /\ Ext H H') := by
 refine zb1 A90 T.h90 rfl ?_
 obtain ⟨g0, e0⟩ := za4 hw (.cells (za2 p))
 have hp : H.push (.cells [.int .i64 p.1, .int .i64 p.2]) = H.push (.cells (za2 p)) := rfl
 have lx : za9 (H.push (.cells (za2 p))) none (.ptr H.next 0) = some (.int .i64 p.1) := za1 g0 rfl
 have ly : za9 (H.push (.cells (za2 p))) none (.ptr H.next 1) = some (.int .i64 p.2) := za1 g0 rfl
 by_cases c1 : -4294967296 <= p.1
 ·by_cases c2 : p.1 <= 4294967296
  ·by_cases c3 : -4294967296 <= p.2
   ·simp [A90, za2, hp, lx, ly, c1, c2, c3, z01, e0]
   ·simp [A90, za2, hp, lx, ly, c1, c2, c3, z01, e0]
  ·simp [A90, za2, hp, lx, c1, c2, z01, e0]
 ·simp [A90, za2, hp, lx, c1, z01, e0]
def zx6 (a b c : Int × Int) : Int := (a.1 * b.2 - a.2 * b.1) + (b.1 * c.2 - b.2 * c.1) + (c.1 * a.2 - c.2 * a.1)
structure Rm (p : Int × Int) : Prop where
 x0 : -9223372036854775807 <= p.1
 x1 : p.1 <= 9223372036854775807
 y0 : -9223372036854775807 <= p.2
 y1 : p.2 <= 9223372036854775807
theorem zci6 (T : NumT FT) (hw : H.Wf) {a b c : Int × Int} (ra : Rm a) (rb : Rm b) (rc : Rm c) : Cp FT 46 [.agg (za2 a), .agg (za2 b), .agg (za2 c)] H (fun r H' => zs2 H' r (zx6 a b c) 12 /\ Ext H H') := by
 refine zb1 A46 T.h46 rfl ?_
 obtain ⟨g0, e0⟩ := za4 hw (.cells (za2 a))
 obtain ⟨g1, e1⟩ := za4 e0.wf (.cells (za2 b))
 obtain ⟨g2, e2⟩ := za4 e1.wf (.cells (za2 c))
 obtain ⟨g3, e3⟩ := za4 e2.wf (.cells [.bool false, .nils])
 have e03 := ((e0.trans e1).trans e2).trans e3
 have g0' := e3.keep _ _ (e2.keep _ _ (e1.keep _ _ g0))
 have g1' := e3.keep _ _ (e2.keep _ _ g1)
 have g2' := e3.keep _ _ g2
 have hp : (((H.push (.cells [.int .i64 a.1, .int .i64 a.2])).push (.cells [.int .i64 b.1, .int .i64 b.2])).push (.cells [.int .i64 c.1, .int .i64 c.2])).push (.cells [.bool false, .nils]) = (((H.push (.cells (za2 a))).push (.cells (za2 b))).push (.cells (za2 c))).push (.cells [.bool false, .nils]) := rfl
 simp [A46, za2, hp]
 generalize hH1 : (((H.push (.cells (za2 a))).push (.cells (za2 b))).push (.cells (za2 c))).push (.cells [.bool false, .nils]) = H1 at *
 have g1'' : H1.get (H.next + 1) = some (.cells (za2 b)) := g1'
 have g2'' : H1.get (H.next + 2) = some (.cells (za2 c)) := g2'
 have g3'' : H1.get (H.next + 3) = some (.cells [.bool false, .nils]) := g3
 have ld : ∀ {H2 : Heap}, Ext H1 H2 -> za9 H2 none (.ptr H.next 0) = some (.int .i64 a.1) /\ za9 H2 none (.ptr H.next 1) = some (.int .i64 a.2) /\ za9 H2 none (.ptr (H.next + 1) 0) = some (.int .i64 b.1) /\ za9 H2 none (.ptr (H.next + 1) 1) = some (.int .i64 b.2) /\ za9 H2 none (.ptr (H.next + 2) 0) = some (.int .i64 c.1) /\ za9 H2 none (.ptr (H.next + 2) 1) = some (.int .i64 c.2) := fun e =>
  ⟨za1 (e.keep _ _ g0') rfl, za1 (e.keep _ _ g0') rfl, za1 (e.keep _ _ g1'') rfl, za1 (e.keep _ _ g1'') rfl, za1 (e.keep _ _ g2'') rfl, za1 (e.keep _ _ g2'') rfl⟩
 have x1 := Ext.refl e03.wf
 obtain ⟨l0, l1, l2, l3, l4, l5⟩ := ld x1
 simp [l0]
 refine zn7 x1.wf (zab0 T.h78 T.h50 T.h80 x1.wf.up ra.x0 ra.x1) ?_
 intro rA0 H2 hA0 y2
 have x2 := x1.trans y2
 obtain ⟨l0, l1, l2, l3, l4, l5⟩ := ld x2
 simp [l1]
 refine zn7 x2.wf (zab0 T.h78 T.h50 T.h80 x2.wf.up ra.y0 ra.y1) ?_
 intro rA1 H3 hA1 y3
 have x3 := x2.trans y3
 obtain ⟨l0, l1, l2, l3, l4, l5⟩ := ld x3
 simp [l2]
 refine zn7 x3.wf (zab0 T.h78 T.h50 T.h80 x3.wf.up rb.x0 rb.x1) ?_
 intro rA2 H4 hA2 y4
 have x4 := x3.trans y4
 obtain ⟨l0, l1, l2, l3, l4, l5⟩ := ld x4
 simp [l3]
 refine zn7 x4.wf (zab0 T.h78 T.h50 T.h80 x4.wf.up rb.y0 rb.y1) ?_
 intro rA3 H5 hA3 y5
 have x5 := x4.trans y5
 simp
 refine zn7 x5.wf (zb62 T T.h77 x5.wf.up (((hA0.ext y3).ext y4).ext y5).up ((hA1.ext y4).ext y5).up (hA2.ext y5).up (hA3).up (by omega)) ?_
 intro dA H6 hdA y6
 have x6 := x5.trans y6
 obtain ⟨mA, uA, rfl, houA⟩ := hdA.cells
 obtain ⟨H7, sA, gA, yA, nA⟩ := zd4 (z := [.bool false, .nils]) (n := 2) (x := .agg [.bool mA, uA]) (cs := [.bool mA, uA]) x6.wf rfl rfl rfl houA
 have ho7 : H1.next <= H6.next := x6.next
 have x7 := x6.trans yA
 have lA : za9 H7 (some 2) (.ptr H6.next 0) = some (.agg [.bool mA, uA]) := zc0 gA (by simp [seg])
 have hA := hdA.ext yA
 obtain ⟨l0, l1, l2, l3, l4, l5⟩ := ld x7
 simp [sA, lA, l2]
 refine zn7 x7.wf (zab0 T.h78 T.h50 T.h80 x7.wf.up rb.x0 rb.x1) ?_
 intro rB0 H8 hB0 y8
 have x8 := x7.trans y8
 obtain ⟨l0, l1, l2, l3, l4, l5⟩ := ld x8
 simp [l3]
 refine zn7 x8.wf (zab0 T.h78 T.h50 T.h80 x8.wf.up rb.y0 rb.y1) ?_
 intro rB1 H9 hB1 y9
 have x9 := x8.trans y9
 obtain ⟨l0, l1, l2, l3, l4, l5⟩ := ld x9
 simp [l4]
 refine zn7 x9.wf (zab0 T.h78 T.h50 T.h80 x9.wf.up rc.x0 rc.x1) ?_
 intro rB2 H10 hB2 y10
 have x10 := x9.trans y10
 obtain ⟨l0, l1, l2, l3, l4, l5⟩ := ld x10
 simp [l5]
 refine zn7 x10.wf (zab0 T.h78 T.h50 T.h80 x10.wf.up rc.y0 rc.y1) ?_
 intro rB3 H11 hB3 y11
 have x11 := x10.trans y11
 simp
 refine zn7 x11.wf (zb62 T T.h77 x11.wf.up (((hB0.ext y9).ext y10).ext y11).up ((hB1.ext y10).ext y11).up (hB2.ext y11).up (hB3).up (by omega)) ?_
 intro dB H12 hdB y12
 have x12 := x11.trans y12
 have yB := ((((y8).trans y9).trans y10).trans y11).trans y12
 simp
 refine (zav7 T.h47 T.h81 T.h79 T.h80 x12.wf ((hA.ext yB).weak (by omega : _ <= 10)) (hdB.weak (by omega : _ <= 10)) (by omega)).mono ?_
 rintro r7 H13 ⟨hs, y13⟩
 have x13 := x12.trans y13
 obtain ⟨mS, uS, rfl, _⟩ := hs.cells
 obtain ⟨H14, sS, cS, hS, x14, _⟩ := zae2 e03.wf ho7 x13 (y13.keep _ _ (yB.keep _ _ gA)) hA.noint hs
 have lS : za9 H14 (some 2) (.ptr H6.next 0) = some (.agg [.bool mS, uS]) := zc0 (zp2 cS) (by simp [seg])
 obtain ⟨l0, l1, l2, l3, l4, l5⟩ := ld x14
 simp [sS, lS, l4]
 refine zn7 x14.wf (zab0 T.h78 T.h50 T.h80 x14.wf.up rc.x0 rc.x1) ?_
 intro rC0 H15 hC0 y15
 have x15 := x14.trans y15
 obtain ⟨l0, l1, l2, l3, l4, l5⟩ := ld x15
 simp [l5]
 refine zn7 x15.wf (zab0 T.h78 T.h50 T.h80 x15.wf.up rc.y0 rc.y1) ?_
 intro rC1 H16 hC1 y16
 have x16 := x15.trans y16
 obtain ⟨l0, l1, l2, l3, l4, l5⟩ := ld x16
 simp [l0]
 refine zn7 x16.wf (zab0 T.h78 T.h50 T.h80 x16.wf.up ra.x0 ra.x1) ?_
 intro rC2 H17 hC2 y17
 have x17 := x16.trans y17
 obtain ⟨l0, l1, l2, l3, l4, l5⟩ := ld x17
 simp [l1]
 refine zn7 x17.wf (zab0 T.h78 T.h50 T.h80 x17.wf.up ra.y0 ra.y1) ?_
 intro rC3 H18 hC3 y18
 have x18 := x17.trans y18
 simp
 refine zn7 x18.wf (zb62 T T.h77 x18.wf.up (((hC0.ext y16).ext y17).ext y18).up ((hC1.ext y17).ext y18).up (hC2.ext y18).up (hC3).up (by omega)) ?_
 intro dC H19 hdC y19
 have x19 := x18.trans y19
 have yC := ((((y15).trans y16).trans y17).trans y18).trans y19
 simp
 refine (zav7 T.h47 T.h81 T.h79 T.h80 x19.wf ((hS.ext yC).weak (by omega : _ <= 11)) (hdC.weak (by omega : _ <= 11)) (by omega)).mono ?_
 rintro r8 H20 ⟨hn, y20⟩
 have x20 := x19.trans y20
 obtain ⟨mF, uF, rfl, _⟩ := hn.cells
 obtain ⟨H21, sF, cF, hF, x21, _⟩ := zae2 hw (o := H.next + 3) (by omega) (e03.trans x20) (x20.keep _ _ g3'') (fun x q => by cases q) hn
 simp [sF, zb5, ze1, cF, ze2, seg, zg8]
 exact ⟨hF, x21⟩
end
end Go.Proofs.Ytcepchipgjpkhaa
namespace Go.Proofs.Ytcepchipgjpkhaa
open Go Go.AI
section
variable {FT : Nat -> Option FnD} {H H' : Heap}
def orZ (a b c : Int × Int) : Int := if z01 a /\ z01 b /\ z01 c then (zx6 a b c).sign else 0
theorem zax1 {p : Int × Int} (h : z01 p) : Rm p := by
 obtain ⟨⟨a, b⟩, c, d⟩ := h
 exact ⟨by omega, by omega, by omega, by omega⟩
theorem zbq5 (T : NumT FT) (h53 : FT 53 = some (.code A53)) (hw : H.Wf) {a b c : Int × Int} : Cp FT 53 [.agg (za2 a), .agg (za2 b), .agg (za2 c)] H (fun r H' => r = .int .i64 (orZ a b c) /\ Ext H H') := by
 refine zb1 A53 h53 rfl ?_
 obtain ⟨g0, e0⟩ := za4 hw (.cells (za2 a))
 obtain ⟨g1, e1⟩ := za4 e0.wf (.cells (za2 b))
 obtain ⟨g2, e2⟩ := za4 e1.wf (.cells (za2 c))
 have e03 := (e0.trans e1).trans e2
 have g0' := e2.keep _ _ (e1.keep _ _ g0)
 have g1' := e2.keep _ _ g1
 have hp : ((H.push (.cells [.int .i64 a.1, .int .i64 a.2])).push (.cells [.int .i64 b.1, .int .i64 b.2])).push (.cells [.int .i64 c.1, .int .i64 c.2]) = ((H.push (.cells (za2 a))).push (.cells (za2 b))).push (.cells (za2 c)) := rfl
 have hpa : za2 a = [.int .i64 a.1, .int .i64 a.2] := rfl
 have hpb : za2 b = [.int .i64 b.1, .int .i64 b.2] := rfl
 have hpc : za2 c = [.int .i64 c.1, .int .i64 c.2] := rfl
 simp only [hpa, hpb, hpc]
 simp [A53, hp]
 generalize hH1 : ((H.push (.cells (za2 a))).push (.cells (za2 b))).push (.cells (za2 c)) = H1 at *
 have g1'' : H1.get (H.next + 1) = some (.cells (za2 b)) := g1'
 have g2'' : H1.get (H.next + 2) = some (.cells (za2 c)) := g2
 have ld : ∀ {H2 : Heap}, Ext H1 H2 -> za9 H2 (some 2) (.ptr H.next 0) = some (.agg (za2 a)) /\ za9 H2 (some 2) (.ptr (H.next + 1) 0) = some (.agg (za2 b)) /\ za9 H2 (some 2) (.ptr (H.next + 2) 0) = some (.agg (za2 c)) := fun e =>
  ⟨zc0 (e.keep _ _ g0') rfl, zc0 (e.keep _ _ g1'') rfl, zc0 (e.keep _ _ g2'') rfl⟩
 obtain ⟨l0, l1, l2⟩ := ld (Ext.refl e03.wf)
 simp [l0]
 refine (zbi6 T e03.wf).mono ?_
 rintro _ H2 ⟨rfl, x2⟩
 obtain ⟨l0, l1, l2⟩ := ld x2
 by_cases ca : z01 a
 ·simp [ca, l1]
  refine (zbi6 T x2.wf).mono ?_
  rintro _ H3 ⟨rfl, y3⟩
  have x3 := x2.trans y3
  obtain ⟨l0, l1, l2⟩ := ld x3
  by_cases cb : z01 b
  ·simp [cb, l2]
   refine (zbi6 T x3.wf).mono ?_
   rintro _ H4 ⟨rfl, y4⟩
   have x4 := x3.trans y4
   obtain ⟨l0, l1, l2⟩ := ld x4
   by_cases cc : z01 c
   ·simp [cc, l0, l1, l2]
    refine (zci6 T x4.wf (zax1 ca) (zax1 cb) (zax1 cc)).mono ?_
    rintro r H5 ⟨hr, y5⟩
    simp
    refine (zb22 T.h83 y5.wf hr).mono ?_
    rintro _ H6 ⟨rfl, y6⟩
    simp [orZ, ca, cb, cc]
    exact e03.trans (x4.trans (y5.trans y6))
   ·simp [cc, orZ, e03.trans x4]
  ·simp [cb, orZ, e03.trans x3]
 ·simp [ca, orZ, e03.trans x2]
def zaa9 (l : List (Int × Int)) (i k j : Nat) : Prop := ∀ a b c, l[i]? = some a -> l[k]? = some b -> l[j]? = some c -> orZ a b c = 1
def zx4 (l : List (Int × Int)) : Prop := 3 <= l.length /\ ∀ i k j, i < k -> k < j -> zaa9 l i k j
theorem zz2 {l : List (Int × Int)} {i k j : Nat} (h : l.length <= j) : zaa9 l i k j := fun a b c _ _ q => by rw [List.getElem?_eq_none h] at q; cases q
def k48a : za0 := zf3 [1, 0, 1] A48.body
def k48k : za0 := zf3 [0, 0, 1, 0, 0, 1] k48a
def k48j : za0 := zf3 [0, 0, 1, 0, 0, 1] k48k
theorem zci2 : A48.body = putAt [1, 0, 1] A48.body k48a := rfl
theorem zb74 : k48a = putAt [0, 0, 1, 0, 0, 1] k48a k48k := rfl
theorem zb73 : k48k = putAt [0, 0, 1, 0, 0, 1] k48k k48j := rfl
structure Cj1 (H H' : Heap) (v : AV) (l : List (Int × Int)) (i k : Nat) (τ : Env) (j m : Nat) : Prop where
 ex : Ext H H'
 lo : k < j
 le : j <= l.length
 hm : m = l.length - j
 ok : ∀ x, k < x -> x < j -> zaa9 l i k x
 t : Tm τ [(0, v), (3, .int .i64 i), (4, .int .i64 k), (5, .int .i64 j)]
theorem zch1 (T : NumT FT) (h53 : FT 53 = some (.code A53)) (hw : H.Wf) {v : AV} {l : List (Int × Int)} {i k : Nat} (hv : zh3 H v l) (hl : l.length <= 1000000000) (hik : i < k) (hk : k < l.length) {τ0 : Env}
  (u : Tm τ0 [(0, v), (3, .int .i64 i), (4, .int .i64 k), (5, .int .i64 ((k + 1 : Nat) : Int))]) :
  Wp FT k48j τ0 H (fun c τ H' => (c = .next /\ Ext H H' /\ (∀ j, k < j -> zaa9 l i k j) /\ Tm τ [(0, v), (3, .int .i64 i), (4, .int .i64 k)]) \/ (c = .ret /\ Ext H H' /\ ¬ zx4 l /\ Tm τ [(2, .bool false)])) := by
 simp at u
 obtain ⟨u0, u3, u4, u5⟩ := u
 simp [k48j, k48k, k48a, zf3, A48]
 refine zb7 (fun m τ H' => ∃ j, Cj1 H H' v l i k τ j m) ?_ (l.length - (k + 1)) _ _ ⟨k + 1, ⟨Ext.refl hw, by omega, by omega, rfl, fun x a b => by omega, by simp [u0, u3, u4, u5]⟩⟩
 rintro m τ H1 ⟨j, ⟨e1, lo, hj, rfl, ok, t⟩⟩
 simp at t
 obtain ⟨t0, t3, t4, t5⟩ := t
 have hv1 := hv.ext e1
 by_cases q : j < l.length
 ·have w : IntKind.i64.wrap ((j : Int) + 1) = (j : Int) + 1 := wrap64 (by omega) (by omega)
  obtain ⟨p1, a, a1, a2, a3, _⟩ := Sl.idx hv1 (k := .i64) (i := (i : Int)) (by omega) (by omega)
  obtain ⟨p2, b, b1, b2, b3, _⟩ := Sl.idx hv1 (k := .i64) (i := (k : Int)) (by omega) (by omega)
  obtain ⟨p3, c, c1, c2, c3, _⟩ := Sl.idx hv1 (k := .i64) (i := (j : Int)) (by omega) (by omega)
  rw [Int.toNat_natCast] at a1 b1 c1
  simp [q, t0, t3, t4, t5, hv1.len, a2, a3, b2, b3, c2, c3]
  refine (zbq5 T h53 e1.wf).mono ?_
  rintro _ H2 ⟨rfl, e2⟩
  by_cases z : orZ a b c = 1
  ·simp [z, t5, w]
   exact ⟨_, by omega, j + 1, ⟨e1.trans e2, by omega, by omega, rfl, fun x x1 x2 => by
    by_cases e : x = j
    ·subst e; intro a' b' c' q1 q2 q3; rw [a1] at q1; rw [b1] at q2; rw [c1] at q3; cases q1; cases q2; cases q3; exact z
    ·exact ok x x1 (by omega), by simp [t0, t3, t4]⟩⟩
  ·simp [z]
   exact ⟨e1.trans e2, fun h => z (h.2 i k j hik lo a b c a1 b1 c1)⟩
 ·have hjl : j = l.length := by omega
  simp [q, t0, t5, hv1.len]
  refine ⟨e1, fun x hx => ?_, by simp [t3, t4]⟩
  by_cases e : x < j
  ·exact ok x hx e
  ·exact zz2 (by omega)
structure Ck1 (H H' : Heap) (v : AV) (l : List (Int × Int)) (i : Nat) (τ : Env) (k m : Nat) : Prop where
 ex : Ext H H'
 lo : i < k
 le : k <= l.length
 hm : m = l.length - k
 ok : ∀ x j, i < x -> x < k -> x < j -> zaa9 l i x j
 t : Tm τ [(0, v), (3, .int .i64 i), (4, .int .i64 k)]
theorem zch0 (T : NumT FT) (h53 : FT 53 = some (.code A53)) (hw : H.Wf) {v : AV} {l : List (Int × Int)} {i : Nat} (hv : zh3 H v l) (hl : l.length <= 1000000000) (hi : i < l.length) {τ0 : Env}
  (u : Tm τ0 [(0, v), (3, .int .i64 i), (4, .int .i64 ((i + 1 : Nat) : Int))]) :
  Wp FT k48k τ0 H (fun c τ H' => (c = .next /\ Ext H H' /\ (∀ k j, i < k -> k < j -> zaa9 l i k j) /\ Tm τ [(0, v), (3, .int .i64 i)]) \/ (c = .ret /\ Ext H H' /\ ¬ zx4 l /\ Tm τ [(2, .bool false)])) := by
 simp at u
 obtain ⟨u0, u3, u4⟩ := u
 rw [zb73]
 generalize hkj : k48j = kj
 simp [k48k, k48a, zf3, putAt, A48]
 refine zb7 (fun m τ H' => ∃ k, Ck1 H H' v l i τ k m) ?_ (l.length - (i + 1)) _ _ ⟨i + 1, ⟨Ext.refl hw, by omega, by omega, rfl, fun x j a b => by omega, by simp [u0, u3, u4]⟩⟩
 rintro m τ H1 ⟨k, ⟨e1, lo, hk, rfl, ok, t⟩⟩
 simp at t
 obtain ⟨t0, t3, t4⟩ := t
 have hv1 := hv.ext e1
 by_cases q : k < l.length
 ·have w : IntKind.i64.wrap ((k : Int) + 1) = (k : Int) + 1 := wrap64 (by omega) (by omega)
  simp [q, t0, t4, hv1.len, w]
  rw [<- hkj]
  refine (zch1 T h53 e1.wf hv1 hl lo q (by simp [t0, t3, t4])).mono ?_
  rintro c τ2 H2 (⟨rfl, e2, h, t⟩ | ⟨rfl, e2, h, t⟩)
  ·simp at t
   obtain ⟨t0, t3, t4⟩ := t
   simp [t4, w]
   exact ⟨_, by omega, k + 1, ⟨e1.trans e2, by omega, by omega, rfl, fun x j x1 x2 x3 => by
    by_cases e : x = k
    ·subst e; exact h j x3
    ·exact ok x j x1 (by omega) x3, by simp [t0, t3]⟩⟩
  ·simp at t
   simp [t]
   exact ⟨e1.trans e2, h⟩
 ·simp [q, t0, t4, hv1.len]
  refine ⟨e1, fun x j x1 x2 => ?_, by simp [t3]⟩
  by_cases e : x < k
  ·exact ok x j x1 e x2
  ·exact zz2 (by omega)
structure Ci1 (H H' : Heap) (v : AV) (l : List (Int × Int)) (τ : Env) (i m : Nat) : Prop where
 ex : Ext H H'
 le : i <= l.length
 hm : m = l.length - i
 ok : ∀ x k j, x < i -> x < k -> k < j -> zaa9 l x k j
 t : Tm τ [(0, v), (3, .int .i64 i)]
open Classical in
theorem zbu0 (T : NumT FT) (h53 : FT 53 = some (.code A53)) (h48 : FT 48 = some (.code A48)) (hw : H.Wf) {v : AV} {l : List (Int × Int)} (hv : zh3 H v l) (hl : l.length <= 1000000000) :
  Cp FT 48 [v] H (fun r H' => r = .bool (decide (zx4 l)) /\ Ext H H') := by
 refine zb1 A48 h48 rfl ?_
 rw [zci2, zb74]
 generalize hkk : k48k = kk
 simp [k48a, zf3, putAt, A48]
 refine zb7 (fun m τ H' => ∃ i, Ci1 H H' v l τ i m) ?_ l.length _ _ ⟨0, ⟨Ext.refl hw, by omega, by omega, fun x k j a => by omega, by simp⟩⟩
 rintro m τ H1 ⟨i, ⟨e1, hi, rfl, ok, t⟩⟩
 simp at t
 obtain ⟨t0, t3⟩ := t
 have hv1 := hv.ext e1
 by_cases q : i < l.length
 ·have w : IntKind.i64.wrap ((i : Int) + 1) = (i : Int) + 1 := wrap64 (by omega) (by omega)
  simp [q, t0, t3, hv1.len, w]
  rw [<- hkk]
  refine (zch0 T h53 e1.wf hv1 hl q (by simp [t0, t3])).mono ?_
  rintro c τ2 H2 (⟨rfl, e2, h, t⟩ | ⟨rfl, e2, h, t⟩)
  ·simp at t
   obtain ⟨t0, t3⟩ := t
   simp [t3, w]
   exact ⟨_, by omega, i + 1, ⟨e1.trans e2, by omega, rfl, fun x k j x1 x2 x3 => by
    by_cases e : x = i
    ·subst e; exact h k j x2 x3
    ·exact ok x k j (by omega) x2 x3, by simp [t0]⟩⟩
  ·simp at t
   simp [t, h]
   exact e1.trans e2
 ·have hil : i = l.length := by omega
  have hc : zx4 l ↔ 3 <= l.length := ⟨fun h => h.1, fun h => ⟨h, fun x k j x1 x2 => by
   by_cases e : x < i
   ·exact ok x k j e x1 x2
   ·exact zz2 (by omega)⟩⟩
  by_cases z : 3 <= l.length
  ·have z' : (3 : Int) <= l.length := by omega
   simp [q, t0, t3, hv1.len, z', hc, z]
   exact e1
  ·have z' : ¬ (3 : Int) <= l.length := by omega
   simp [q, t0, t3, hv1.len, z', hc, z]
   exact e1
end
end Go.Proofs.Ytcepchipgjpkhaa
namespace Go.Proofs.Ytcepchipgjpkhaa
open Go Go.AI
section
variable {FT : Nat -> Option FnD} {H H' : Heap}
def ptQ (P : List (Int × Int)) (x : Int) : Int × Int := P.getD x.toNat (0, 0)
def inQ (P : List (Int × Int)) (f : List Int) : Prop := ∀ x, x ∈ f -> 0 <= x /\ x < P.length
def zr9 (P : List (Int × Int)) (F : List (List Int)) : Prop := ∀ f, f ∈ F -> inQ P f /\ zx4 (f.map (ptQ P))
def k38a : za0 := zf3 [1, 0, 1] A38.body
def k38i : za0 := zf3 [0, 0, 1, 0, 0, 1, 0, 1] k38a
theorem zci4 : A38.body = putAt [1, 0, 1] A38.body k38a := rfl
theorem zb75 : k38a = putAt [0, 0, 1, 0, 0, 1, 0, 1] k38a k38i := rfl
structure Cf1 (H H' : Heap) (vP vF v6 : AV) (P : List (Int × Int)) (f : List Int) (i : Nat) (τ : Env) (k m : Nat) : Prop where
 ex : Ext H H'
 mi : Mine 2 za2 H H' v6 ((f.take k).map (ptQ P))
 ok : inQ P (f.take k)
 le : k <= f.length
 hm : m = f.length - k
 t : Tm τ [(0, vP), (1, vF), (5, .int .i64 i), (6, v6), (7, .int .i64 k)]
structure CfQ (H H' : Heap) (vP vF v6 : AV) (P : List (Int × Int)) (f : List Int) (i : Nat) (τ : Env) : Prop where
 ex : Ext H H'
 mi : Mine 2 za2 H H' v6 (f.map (ptQ P))
 ok : inQ P f
 t : Tm τ [(0, vP), (1, vF), (5, .int .i64 i), (6, v6)]
theorem za21 {P : List (Int × Int)} {f : List Int} {k : Nat} {x : Int} (h : inQ P (f.take k)) (hx : f[k]? = some x) (hx2 : 0 <= x /\ x < P.length) : inQ P (f.take (k + 1)) := by
 intro y hy
 rw [List.take_add_one, hx] at hy
 rcases List.mem_append.1 hy with q | q
 ·exact h y q
 ·simp at q; subst q; exact hx2
theorem zbt9 (hw : H.Wf) {vP vF : AV} {P : List (Int × Int)} {F : List (List Int)} {f : List Int} {i : Nat} (hP : zh3 H vP P) (hF : Gd H vF F) (_hpl : P.length <= 1000000000) (_hl : F.length <= 1000000000) (hf : F[i]? = some f) (hfl : f.length <= 1000000000) {τ0 : Env}
  (u : Tm τ0 [(0, vP), (1, vF), (5, .int .i64 i), (6, .nils), (7, .int .i64 0)]) :
  Wp FT k38i τ0 H (fun c τ H' => (c = .next /\ ∃ v6, CfQ H H' vP vF v6 P f i τ) \/ (c = .ret /\ Ext H H' /\ ¬ inQ P f /\ Tm τ [(4, .bool false)])) := by
 simp at u
 obtain ⟨u0, u1, u5, u6, u7⟩ := u
 have il : i < F.length := (List.getElem?_eq_some_iff.1 hf).1
 simp [k38i, k38a, zf3, A38]
 refine zb7 (fun m τ H' => ∃ k v6, Cf1 H H' vP vF v6 P f i τ k m) ?_ f.length _ _ ⟨0, .nils, ⟨Ext.refl hw, by simpa using Mine.nil, by simp [inQ], by omega, by omega, by simp [u0, u1, u5, u6, u7]⟩⟩
 rintro m τ H1 ⟨k, v6, ⟨e1, mi, ok, hk, rfl, t⟩⟩
 simp at t
 obtain ⟨t0, t1, t5, t6, t7⟩ := t
 have hF1 := hF.ext e1
 have hP1 := hP.ext e1
 obtain ⟨p, r, f', a1, a2, a3, a4⟩ := hF1.idx (k := .i64) (i := (i : Int)) (by omega) (by omega)
 rw [Int.toNat_natCast, hf] at a1
 cases a1
 by_cases q : k < f.length
 ·have w : IntKind.i64.wrap ((k : Int) + 1) = (k : Int) + 1 := wrap64 (by omega) (by omega)
  obtain ⟨p1, x, b1, b2, b3⟩ := Ints.idx (a4.sl zc9) (k := .i64) (i := (k : Int)) (by omega) (by omega)
  rw [Int.toNat_natCast] at b1
  have hxm := List.mem_of_getElem? b1
  by_cases c1 : x < 0
  ·have hn : ¬ inQ P f := fun h => by have := (h x hxm).1; omega
   simp [q, t0, t1, t5, t7, a2, a3, a4.len, b2, b3, c1]
   exact ⟨e1, hn⟩
  by_cases c2 : (P.length : Int) <= x
  ·have hn : ¬ inQ P f := fun h => by have := (h x hxm).2; omega
   simp [q, t0, t1, t5, t7, a2, a3, a4.len, b2, b3, c1, c2, hP1.len]
   exact ⟨e1, hn⟩
  obtain ⟨p2, y, d1, d2, d3, _⟩ := Sl.idx hP1 (k := .i64) (i := x) (by omega) (by omega)
  have hy : ptQ P x = y := by unfold ptQ; rw [List.getD_eq_getElem?_getD, d1]; rfl
  obtain ⟨v', H2, g1, g2, g3, g4⟩ := mi.app1 zc6 (by omega) zad9 (bytes := 16) e1.wf e1.next y (by simp; omega)
  have g1' : zc4 2 16 (H1.push (.cells [.int .i64 y.1, .int .i64 y.2])) v6 (.slc H1.next 0 1 2 1 true) = some (v', H2) := g1
  have e2 : Ext H H2 := zp3 hw e1 g3 (fun p hp => mi.new p (by simpa using hp))
  have htk : (f.take (k + 1)).map (ptQ P) = (f.take k).map (ptQ P) ++ [y] := by rw [List.take_add_one, b1, <- hy]; simp
  have d3' : za9 H1 (some 2) p2 = some (.agg [.int .i64 y.1, .int .i64 y.2]) := d3
  simp [setSeg, q, t0, t1, t5, t6, t7, a2, a3, a4.len, b2, b3, c1, c2, hP1.len, d2, d3', g1', w]
  exact ⟨_, by omega, k + 1, v', ⟨e2, by rw [htk]; exact g2, za21 ok b1 ⟨by omega, by omega⟩, by omega, rfl, by simp [t0, t1, t5]⟩⟩
 ·have hkl : k = f.length := by omega
  subst hkl
  rw [List.take_length] at mi ok
  simp [t1, t5, t7, a2, a3, a4.len]
  exact ⟨v6, e1, mi, ok, by simp [t0, t1, t5, t6]⟩
structure Cf2 (H H' : Heap) (vP vF : AV) (P : List (Int × Int)) (F : List (List Int)) (τ : Env) (i m : Nat) : Prop where
 ex : Ext H H'
 ok : zr9 P (F.take i)
 le : i <= F.length
 hm : m = F.length - i
 t : Tm τ [(0, vP), (1, vF), (5, .int .i64 i)]
theorem zaf9 {P : List (Int × Int)} {F : List (List Int)} {i : Nat} {f : List Int} (h : zr9 P (F.take i)) (hf : F[i]? = some f) (hc : inQ P f /\ zx4 (f.map (ptQ P))) : zr9 P (F.take (i + 1)) := by
 intro g hg
 rw [List.take_add_one, hf] at hg
 rcases List.mem_append.1 hg with q | q
 ·exact h g q
 ·simp at q; subst q; exact hc
open Classical in
theorem zbu1 (T : NumT FT) (h53 : FT 53 = some (.code A53)) (h48 : FT 48 = some (.code A48)) (h38 : FT 38 = some (.code A38)) (hw : H.Wf) {vP vF : AV} {P : List (Int × Int)} {F : List (List Int)} (hP : zh3 H vP P) (hF : Gd H vF F) (hpl : P.length <= 1000000000) (hl : F.length <= 1000000000) (hr : ∀ f, f ∈ F -> f.length <= 1000000000) :
  Cp FT 38 [vP, vF] H (fun r H' => r = .bool (decide (zr9 P F)) /\ Ext H H') := by
 refine zb1 A38 h38 rfl ?_
 rw [zci4, zb75]
 generalize hki : k38i = ki
 simp [k38a, zf3, putAt, A38]
 refine zb7 (fun m τ H' => ∃ i, Cf2 H H' vP vF P F τ i m) ?_ F.length _ _ ⟨0, ⟨Ext.refl hw, by simp [zr9], by omega, by omega, by simp⟩⟩
 rintro m τ H1 ⟨i, ⟨e1, ok, hi, rfl, t⟩⟩
 simp at t
 obtain ⟨t0, t1, t5⟩ := t
 have hF1 := hF.ext e1
 have hP1 := hP.ext e1
 by_cases q : i < F.length
 ·have w : IntKind.i64.wrap ((i : Int) + 1) = (i : Int) + 1 := wrap64 (by omega) (by omega)
  have hf := List.getElem?_eq_getElem q
  have hm := List.mem_of_getElem? hf
  simp [q, t1, t5, hF1.len]
  rw [<- hki]
  refine (zbt9 e1.wf hP1 hF1 hpl hl hf (hr _ hm) (by simp [t0, t1, t5])).mono ?_
  rintro c τ2 H2 (⟨rfl, v6, ⟨e2, mi, oki, t⟩⟩ | ⟨rfl, e2, h, t⟩)
  ·simp at t
   obtain ⟨t0, t1, t5, t6⟩ := t
   simp [t6]
   refine (zbu0 T h53 h48 e2.wf (mi.ow.sl zc6) (by rw [List.length_map]; exact hr _ hm)).mono ?_
   rintro _ H3 ⟨rfl, e3⟩
   by_cases z : zx4 (F[i].map (ptQ P))
   ·simp [z, t5, w]
    exact ⟨_, by omega, i + 1, ⟨e1.trans (e2.trans e3), zaf9 ok hf ⟨oki, z⟩, by omega, rfl, by simp [t0, t1]⟩⟩
   ·have hn : ¬ zr9 P F := fun h => z (h _ hm).2
    simp [z, hn]
    exact e1.trans (e2.trans e3)
  ·simp at t
   have hn : ¬ zr9 P F := fun g => h (g _ hm).1
   simp [t, hn]
   exact e1.trans e2
 ·have hil : i = F.length := by omega
  subst hil
  rw [List.take_length] at ok
  simp [t1, t5, hF1.len, ok]
  exact e1
end
end Go.Proofs.Ytcepchipgjpkhaa
