/- The document's predicates: numbers, differences, areas. No claim by itself. -/
import Derived.Test.YtcepchipgjpkhaaDD
import Derived.Test.YtcepchipgjpkhaaEG
import Derived.Test.YtcepchipgjpkhaaEH
namespace Go.Proofs.Ytcepchipgjpkhaa
open Go Go.AI
section
variable {FT : Nat → Option FnD} {H H' : Heap} {v : AV} {z : Int} {k : Nat}
/-- A number that the document reckons with, of at most k digits. -/
structure NumZ (H : Heap) (v : AV) (z : Int) (k : Nat) : Prop where
  ex : ∃ m ds, NumR H v m ds ∧ zval m ds = z ∧ ds.length ≤ k ∧ (m = true → ds ≠ [])
theorem NumZ.ext (h : NumZ H v z k) (e : Ext H H') : NumZ H' v z k := by
  obtain ⟨m, ds, a, b, c, d⟩ := h; exact ⟨m, ds, a.ext e, b, c, d⟩
theorem NumZ.up (h : NumZ H v z k) : NumZ H.up v z k := by
  obtain ⟨m, ds, a, b, c, d⟩ := h; exact ⟨m, ds, a.up, b, c, d⟩
theorem NumZ.fl {f : Nat} (h : NumZ H v z k) : NumZ { H with floor := f } v z k := by
  obtain ⟨m, ds, a, b, c, d⟩ := h; exact ⟨m, ds, a.fl, b, c, d⟩
theorem NumZ.cells (h : NumZ H v z k) : ∃ m u, v = .agg [.bool m, u] ∧ allOne [AV.bool m, u] = true := by
  obtain ⟨m, ds, a, _⟩ := h
  obtain ⟨u, h1, h2⟩ := a.cells
  exact ⟨m, u, h1, h2⟩
theorem NumZ.weak {j : Nat} (h : NumZ H v z k) (hj : k ≤ j) : NumZ H v z j := by
  obtain ⟨m, ds, a, b, c, d⟩ := h; exact ⟨m, ds, a, b, by omega, d⟩
/-- The end of a function that gives back a number. -/
theorem seg_in {cs ys : List AV} {off n : Nat} (h : seg cs off n = some ys) {y : AV} (hy : y ∈ ys) : y ∈ cs := by
  unfold seg at h
  cases q : Nat.ble (off + n) cs.length with
  | true => rw [q] at h; cases h; exact List.mem_of_mem_drop (List.mem_of_mem_take hy)
  | false => rw [q] at h; cases h
theorem nats_fr {H1 H' : Heap} {o : Nat} {u : AV} {ds : List Nat} {xs : List AV} (h : Nats H1 u ds) {c0 : List AV} (g : H1.get o = some (.cells c0)) (hc0 : ∀ x : Int, AV.int .i64 x ∉ c0) (f : Fr [o] H1 H') (g' : H'.get o = some (.cells xs)) : Nats H' u ds := by
  rcases h with h | ⟨o', off, lo, ex, cs, rfl, hc, hx⟩
  · exact .inl h
  · by_cases e : o' = o
    · subst e
      rw [cellsAt_get g] at hc
      cases hc
      refine .inr ⟨o', off, lo, ex, xs, rfl, cellsAt_get g', fun i x hi => ?_⟩
      have := seg_in (hx i x hi) (y := .int .i64 (x : Int)) (by simp [n64c])
      exact absurd this (hc0 _)
    · exact .inr ⟨o', off, lo, ex, cs, rfl, cellsAt_get (f.keep _ _ (by simpa using e) (get_cellsAt hc)), hx⟩
theorem num_fin {H0 H1 : Heap} (hw : H0.Wf) {o : Nat} (ho : H0.next ≤ o) (e : Ext H0 H1) {b0 : Bool} {u0 : AV} (g : H1.get o = some (.cells [.bool b0, u0])) (hu0 : ∀ x : Int, u0 ≠ .int .i64 x) {m : Bool} {u : AV} (h : NumZ H1 (.agg [.bool m, u]) z k) :
    ∃ H', storeA H1 2 (.ptr o 0) (.agg [.bool m, u]) = some (undefA, H') ∧ H'.cellsAt o = some [.bool m, u] ∧ NumZ H' (.agg [.bool m, u]) z k ∧ Ext H0 H' ∧ Fr [o] H1 H' := by
  have hone : allOne [AV.bool m, u] = true := by
    obtain ⟨m', u', q1, q2⟩ := h.cells
    cases q1; exact q2
  obtain ⟨H', s, g', f⟩ := store_whole (n := 2) (x := .agg [.bool m, u]) e.wf rfl rfl (by rw [e.floor]; have := hw.1; omega) g rfl hone
  have ex : Ext H0 H' := ext_fr hw e f (fun p hp => by simp at hp; omega)
  refine ⟨H', s, cellsAt_get g', ?_, ex, f⟩
  obtain ⟨m1, ds, a, b, c, d⟩ := h
  obtain ⟨dg, nm, ln, u1, hu1, cu, nu⟩ := a
  cases hu1
  refine ⟨m, ds, ⟨dg, nm, ln, u, rfl, cu, nats_fr nu g (fun x q => by simp at q; exact hu0 x q.symm) f g'⟩, b, c, d⟩
theorem NumZ.noint {m : Bool} {u : AV} (h : NumZ H (.agg [.bool m, u]) z k) : ∀ x : Int, u ≠ .int .i64 x := fun x q => by
  obtain ⟨m', ds, a, _⟩ := h
  obtain ⟨_, _, _, u', e, _, n⟩ := a
  cases e
  subst q
  rcases n with ⟨h1, _⟩ | ⟨_, _, _, _, _, h1, _⟩ <;> cases h1
theorem small50z (h50 : FT 50 = some (.code A50)) (h80 : FT 80 = some (.code A80)) (hw : H.Wf) {n : Int} (h0 : -9223372036854775807 ≤ n) (h1 : n ≤ 9223372036854775807) :
    Cp FT 50 [.int .i64 n] H (fun r H' => NumZ H' r n 4 ∧ Ext H H') := by
  refine (small50 h50 h80 hw h0 h1).mono ?_
  rintro r H' ⟨ds, a, b, e⟩
  refine ⟨⟨_, ds, a, ?_, nm_len a.nm (by rw [b]; simp; omega), fun q => ?_⟩, e⟩
  · unfold zval; rw [b]; simp only [decide_eq_true_iff]; split <;> omega
  · intro r; subst r; simp [dval] at b; simp at q; omega
theorem times111z (h111 : FT 111 = some (.code A111)) (h79 : FT 79 = some (.code A79)) (h80 : FT 80 = some (.code A80)) (hw : H.Wf) {x y : AV} {a b : Int} {j k : Nat} (ha : NumZ H x a j) (hb : NumZ H y b k) (hl : j + k ≤ 90) :
    Cp FT 111 [x, y] H (fun r H' => NumZ H' r (a * b) (j + k + 1) ∧ Ext H H') := by
  obtain ⟨ma, da, a1, a2, a3, a4⟩ := ha
  obtain ⟨mb, db, b1, b2, b3, b4⟩ := hb
  refine (times111 h111 h79 h80 hw a1 b1 (by omega)).mono ?_
  rintro r H' ⟨ds, n, hd, hl, e⟩
  have hz : ds = [] ↔ dval ds = 0 := (dval_zero n.nm).symm
  refine ⟨⟨_, ds, n, ?_, by omega, fun q r => by subst r; simp at q⟩, e⟩
  subst a2 b2
  unfold zval
  by_cases h : ds = []
  · have h0 := hz.1 h
    rw [hd] at h0
    have h0' : (dval da : Int) * (dval db : Int) = 0 := by exact_mod_cast h0
    have hd0 : dval ds = 0 := by rw [hd]; exact h0
    simp only [h, ne_eq, not_true_eq_false, decide_false, Bool.and_false]
    rw [if_neg (by simp)]
    simp only [dval]
    cases ma <;> cases mb <;> simp [h0', Int.mul_neg, Int.neg_mul]
  · rw [hd]
    cases ma <;> cases mb <;> simp [h, Int.mul_neg, Int.neg_mul]
theorem neg82z (h82 : FT 82 = some (.code A82)) (hw : H.Wf) (h : NumZ H v z k) : Cp FT 82 [v] H (fun r H' => NumZ H' r (-z) k ∧ Ext H H') := by
  obtain ⟨m, ds, a, b, c, d⟩ := h
  refine (neg82 h82 hw a).mono ?_
  rintro r H' ⟨n, e⟩
  refine ⟨⟨_, ds, n, ?_, c, fun q r => by subst r; simp at q⟩, e⟩
  subst b
  unfold zval
  by_cases h : ds = []
  · subst h
    cases m <;> simp [dval]
  · cases m <;> simp [h]
theorem plus47z (h47 : FT 47 = some (.code A47)) (h81 : FT 81 = some (.code A81)) (h79 : FT 79 = some (.code A79)) (h80 : FT 80 = some (.code A80)) (hw : H.Wf) {x y : AV} {a b : Int} {k : Nat} (ha : NumZ H x a k) (hb : NumZ H y b k) (hl : k ≤ 90) :
    Cp FT 47 [x, y] H (fun r H' => NumZ H' r (a + b) (k + 1) ∧ Ext H H') := by
  obtain ⟨ma, da, a1, a2, a3, a4⟩ := ha
  obtain ⟨mb, db, b1, b2, b3, b4⟩ := hb
  refine (plus47 h47 h81 h79 h80 hw a1 b1 (by omega) (by omega)).mono ?_
  rintro r H' ⟨m, ds, n, hz, hm, hl, e⟩
  exact ⟨⟨m, ds, n, by rw [hz, a2, b2], by omega, hm⟩, e⟩
theorem sign83z (h83 : FT 83 = some (.code A83)) (hw : H.Wf) (h : NumZ H v z k) : Cp FT 83 [v] H (fun r H' => r = .int .i64 z.sign ∧ Ext H H') := by
  obtain ⟨m, ds, a, b, c, d⟩ := h
  refine (sign83 h83 hw a).mono ?_
  rintro r H' ⟨q, e⟩
  exact ⟨by rw [q, b], e⟩
theorem num78 (h78 : FT 78 = some (.code A78)) (h50 : FT 50 = some (.code A50)) (h80 : FT 80 = some (.code A80)) (hw : H.Wf) {n : Int} (h0 : -9223372036854775807 ≤ n) (h1 : n ≤ 9223372036854775807) :
    Cp FT 78 [.int .i64 n] H (fun r H' => NumZ H' r n 4 ∧ Ext H H') := by
  refine Cp_code A78 h78 rfl ?_
  obtain ⟨g0, e0⟩ := push_new hw (.cells [.bool false, .nils])
  simp [A78]
  refine (small50z h50 h80 e0.wf h0 h1).mono ?_
  rintro r H1 ⟨hn, e1⟩
  obtain ⟨m, u, rfl, _⟩ := hn.cells
  obtain ⟨H2, s, c, hn2, e2, _⟩ := num_fin hw (Nat.le_refl _) (e0.trans e1) (e1.keep _ _ g0) (fun x q => by cases q) hn
  simp [s, resultsA, resultA, c, partA, seg, packA]
  exact ⟨hn2, e2⟩
theorem minus110 (h110 : FT 110 = some (.code A110)) (h82 : FT 82 = some (.code A82)) (h47 : FT 47 = some (.code A47)) (h81 : FT 81 = some (.code A81)) (h79 : FT 79 = some (.code A79)) (h80 : FT 80 = some (.code A80)) (hw : H.Wf) {x y : AV} {a b : Int} {k : Nat} (ha : NumZ H x a k) (hb : NumZ H y b k) (hl : k ≤ 90) :
    Cp FT 110 [x, y] H (fun r H' => NumZ H' r (a - b) (k + 1) ∧ Ext H H') := by
  obtain ⟨ma, u, rfl, hou⟩ := ha.cells
  obtain ⟨mb, v, rfl, hov⟩ := hb.cells
  refine Cp_code A110 h110 rfl ?_
  obtain ⟨g0, e0⟩ := push_new hw (.cells [.bool ma, u])
  obtain ⟨g1, e1⟩ := push_new e0.wf (.cells [.bool mb, v])
  obtain ⟨g2, e2⟩ := push_new (e0.trans e1).wf (.cells [.bool false, .nils])
  simp [A110, hou, hov]
  have e02 := (e0.trans e1).trans e2
  have g0' := e2.keep _ _ (e1.keep _ _ g0)
  have g1' := e2.keep _ _ g1
  generalize hH1 : ((H.push (.cells [.bool ma, u])).push (.cells [.bool mb, v])).push (.cells [.bool false, .nils]) = H1 at *
  have g1'' : H1.get (H.next + 1) = some (.cells [.bool mb, v]) := g1'
  have g2'' : H1.get (H.next + 2) = some (.cells [.bool false, .nils]) := g2
  have l0 : loadA H1 (some 2) (.ptr H.next 0) = some (.agg [.bool ma, u]) := load_agg g0' (by simp [seg])
  have l1 : loadA H1 (some 2) (.ptr (H.next + 1) 0) = some (.agg [.bool mb, v]) := load_agg g1'' (by simp [seg])
  simp [l0, l1]
  refine (neg82z h82 e02.wf.up (hb.ext e02).up).quiet ?_
  rintro r H2 ⟨hr, e2⟩
  have e12 := e2.back e02.wf
  have hr' := hr.fl (f := H1.floor)
  generalize ({ t := H2.t, next := H2.next, floor := H1.floor } : Heap) = H2' at *
  simp
  refine (plus47z h47 h81 h79 h80 e12.wf (ha.ext (e02.trans e12)) hr' hl).mono ?_
  rintro r3 H3 ⟨hn, e3⟩
  obtain ⟨m, w, rfl, _⟩ := hn.cells
  obtain ⟨H4, s, c, hn4, e4, _⟩ := num_fin hw (o := H.next + 2) (by omega) ((e02.trans e12).trans e3) (e3.keep _ _ (e12.keep _ _ g2'')) (fun x q => by cases q) hn
  simp [s, resultsA, resultA, c, partA, seg, packA]
  exact ⟨by rw [Int.sub_eq_add_neg]; exact hn4, e4⟩
/-- The functions that reckon with the document's numbers, in a table. -/
structure NumT (FT : Nat → Option FnD) : Prop where
  h46 : FT 46 = some (.code A46)
  h47 : FT 47 = some (.code A47)
  h49 : FT 49 = some (.code A49)
  h50 : FT 50 = some (.code A50)
  h77 : FT 77 = some (.code A77)
  h78 : FT 78 = some (.code A78)
  h79 : FT 79 = some (.code A79)
  h80 : FT 80 = some (.code A80)
  h81 : FT 81 = some (.code A81)
  h82 : FT 82 = some (.code A82)
  h83 : FT 83 = some (.code A83)
  h90 : FT 90 = some (.code A90)
  h110 : FT 110 = some (.code A110)
  h111 : FT 111 = some (.code A111)
theorem quietZ {f : Nat} {args : List AV} {K : AV → Heap → Prop} (hw : H.Wf) (h : Cp FT f args H.up (fun r H' => NumZ H' r z k ∧ Ext H.up H')) (kk : ∀ r H', NumZ H' r z k → Ext H H' → K r H') :
    Cp FT f args { t := H.t, next := H.next, floor := H.next } (backK H.floor K) := by
  refine h.quiet ?_
  rintro r H2 ⟨hr, e2⟩
  exact kk r _ hr.fl (e2.back hw)
theorem det77 (T : NumT FT) (h77 : FT 77 = some (.code A77)) (hw : H.Wf) {x y p q : AV} {a b c d : Int} {k : Nat} (ha : NumZ H x a k) (hb : NumZ H y b k) (hc : NumZ H p c k) (hd : NumZ H q d k) (hl : k ≤ 44) :
    Cp FT 77 [x, y, p, q] H (fun r H' => NumZ H' r (a * d - b * c) (2 * k + 2) ∧ Ext H H') := by
  obtain ⟨ma, u, rfl, hou⟩ := ha.cells
  obtain ⟨mb, v, rfl, hov⟩ := hb.cells
  obtain ⟨mc, w, rfl, how⟩ := hc.cells
  obtain ⟨md, t, rfl, hot⟩ := hd.cells
  refine Cp_code A77 h77 rfl ?_
  obtain ⟨g0, e0⟩ := push_new hw (.cells [.bool ma, u])
  obtain ⟨g1, e1⟩ := push_new e0.wf (.cells [.bool mb, v])
  obtain ⟨g2, e2⟩ := push_new e1.wf (.cells [.bool mc, w])
  obtain ⟨g3, e3⟩ := push_new e2.wf (.cells [.bool md, t])
  obtain ⟨g4, e4⟩ := push_new e3.wf (.cells [.bool false, .nils])
  simp [A77, hou, hov, how, hot]
  have e04 := ((((e0.trans e1).trans e2).trans e3)).trans e4
  have g0' := e4.keep _ _ (e3.keep _ _ (e2.keep _ _ (e1.keep _ _ g0)))
  have g1' := e4.keep _ _ (e3.keep _ _ (e2.keep _ _ g1))
  have g2' := e4.keep _ _ (e3.keep _ _ g2)
  have g3' := e4.keep _ _ g3
  generalize hH1 : ((((H.push (.cells [.bool ma, u])).push (.cells [.bool mb, v])).push (.cells [.bool mc, w])).push (.cells [.bool md, t])).push (.cells [.bool false, .nils]) = H1 at *
  have g1'' : H1.get (H.next + 1) = some (.cells [.bool mb, v]) := g1'
  have g2'' : H1.get (H.next + 2) = some (.cells [.bool mc, w]) := g2'
  have g3'' : H1.get (H.next + 3) = some (.cells [.bool md, t]) := g3'
  have g4'' : H1.get (H.next + 4) = some (.cells [.bool false, .nils]) := g4
  have ld : ∀ {H2 : Heap}, Ext H1 H2 → loadA H2 (some 2) (.ptr H.next 0) = some (.agg [.bool ma, u]) ∧ loadA H2 (some 2) (.ptr (H.next + 1) 0) = some (.agg [.bool mb, v]) ∧ loadA H2 (some 2) (.ptr (H.next + 2) 0) = some (.agg [.bool mc, w]) ∧ loadA H2 (some 2) (.ptr (H.next + 3) 0) = some (.agg [.bool md, t]) := fun e =>
    ⟨load_agg (e.keep _ _ g0') (by simp [seg]), load_agg (e.keep _ _ g1'') (by simp [seg]), load_agg (e.keep _ _ g2'') (by simp [seg]), load_agg (e.keep _ _ g3'') (by simp [seg])⟩
  obtain ⟨l0, l1, l2, l3⟩ := ld (Ext.refl e04.wf)
  simp [l0, l3]
  refine quietZ e04.wf (times111z T.h111 T.h79 T.h80 e04.wf.up (ha.ext e04).up (hd.ext e04).up (by omega)) ?_
  intro r1 H2 hr1 e12
  obtain ⟨_, l1, l2, _⟩ := ld e12
  simp [l1, l2]
  refine (times111z T.h111 T.h79 T.h80 e12.wf (hb.ext (e04.trans e12)) (hc.ext (e04.trans e12)) (by omega)).mono ?_
  rintro r2 H3 ⟨hr2, e23⟩
  simp
  refine (minus110 T.h110 T.h82 T.h47 T.h81 T.h79 T.h80 e23.wf (hr1.ext e23) hr2 (by omega)).mono ?_
  rintro r3 H4 ⟨hn, e34⟩
  obtain ⟨m, w, rfl, _⟩ := hn.cells
  have e14 := (e12.trans e23).trans e34
  obtain ⟨H5, s, c, hn5, e5, _⟩ := num_fin hw (o := H.next + 4) (by omega) (e04.trans e14) (e14.keep _ _ g4'') (fun x q => by cases q) hn
  simp [s, resultsA, resultA, c, partA, seg, packA]
  exact ⟨hn5.weak (by omega), e5⟩
def fitQ (p : Int × Int) : Prop := (-4294967296 ≤ p.1 ∧ p.1 ≤ 4294967296) ∧ (-4294967296 ≤ p.2 ∧ p.2 ≤ 4294967296)
instance (p : Int × Int) : Decidable (fitQ p) := by unfold fitQ; infer_instance
theorem fits90 (T : NumT FT) (hw : H.Wf) {p : Int × Int} : Cp FT 90 [.agg (pairc p)] H (fun r H' => r = .bool (decide (fitQ p)) ∧ Ext H H') := by
  refine Cp_code A90 T.h90 rfl ?_
  obtain ⟨g0, e0⟩ := push_new hw (.cells (pairc p))
  have hp : H.push (.cells [.int .i64 p.1, .int .i64 p.2]) = H.push (.cells (pairc p)) := rfl
  have lx : loadA (H.push (.cells (pairc p))) none (.ptr H.next 0) = some (.int .i64 p.1) := load_get g0 rfl
  have ly : loadA (H.push (.cells (pairc p))) none (.ptr H.next 1) = some (.int .i64 p.2) := load_get g0 rfl
  by_cases c1 : -4294967296 ≤ p.1
  · by_cases c2 : p.1 ≤ 4294967296
    · by_cases c3 : -4294967296 ≤ p.2
      · simp [A90, pairc, hp, lx, ly, c1, c2, c3, fitQ, e0]
      · simp [A90, pairc, hp, lx, ly, c1, c2, c3, fitQ, e0]
    · simp [A90, pairc, hp, lx, c1, c2, fitQ, e0]
  · simp [A90, pairc, hp, lx, c1, fitQ, e0]
def areaZ (a b c : Int × Int) : Int := (a.1 * b.2 - a.2 * b.1) + (b.1 * c.2 - b.2 * c.1) + (c.1 * a.2 - c.2 * a.1)
/-- A place's numbers have room. -/
structure Rm (p : Int × Int) : Prop where
  x0 : -9223372036854775807 ≤ p.1
  x1 : p.1 ≤ 9223372036854775807
  y0 : -9223372036854775807 ≤ p.2
  y1 : p.2 ≤ 9223372036854775807
theorem area46 (T : NumT FT) (hw : H.Wf) {a b c : Int × Int} (ra : Rm a) (rb : Rm b) (rc : Rm c) : Cp FT 46 [.agg (pairc a), .agg (pairc b), .agg (pairc c)] H (fun r H' => NumZ H' r (areaZ a b c) 12 ∧ Ext H H') := by
  refine Cp_code A46 T.h46 rfl ?_
  obtain ⟨g0, e0⟩ := push_new hw (.cells (pairc a))
  obtain ⟨g1, e1⟩ := push_new e0.wf (.cells (pairc b))
  obtain ⟨g2, e2⟩ := push_new e1.wf (.cells (pairc c))
  obtain ⟨g3, e3⟩ := push_new e2.wf (.cells [.bool false, .nils])
  have e03 := ((e0.trans e1).trans e2).trans e3
  have g0' := e3.keep _ _ (e2.keep _ _ (e1.keep _ _ g0))
  have g1' := e3.keep _ _ (e2.keep _ _ g1)
  have g2' := e3.keep _ _ g2
  have hp : (((H.push (.cells [.int .i64 a.1, .int .i64 a.2])).push (.cells [.int .i64 b.1, .int .i64 b.2])).push (.cells [.int .i64 c.1, .int .i64 c.2])).push (.cells [.bool false, .nils]) = (((H.push (.cells (pairc a))).push (.cells (pairc b))).push (.cells (pairc c))).push (.cells [.bool false, .nils]) := rfl
  simp [A46, pairc, hp]
  generalize hH1 : (((H.push (.cells (pairc a))).push (.cells (pairc b))).push (.cells (pairc c))).push (.cells [.bool false, .nils]) = H1 at *
  have g1'' : H1.get (H.next + 1) = some (.cells (pairc b)) := g1'
  have g2'' : H1.get (H.next + 2) = some (.cells (pairc c)) := g2'
  have g3'' : H1.get (H.next + 3) = some (.cells [.bool false, .nils]) := g3
  have ld : ∀ {H2 : Heap}, Ext H1 H2 → loadA H2 none (.ptr H.next 0) = some (.int .i64 a.1) ∧ loadA H2 none (.ptr H.next 1) = some (.int .i64 a.2) ∧ loadA H2 none (.ptr (H.next + 1) 0) = some (.int .i64 b.1) ∧ loadA H2 none (.ptr (H.next + 1) 1) = some (.int .i64 b.2) ∧ loadA H2 none (.ptr (H.next + 2) 0) = some (.int .i64 c.1) ∧ loadA H2 none (.ptr (H.next + 2) 1) = some (.int .i64 c.2) := fun e =>
    ⟨load_get (e.keep _ _ g0') rfl, load_get (e.keep _ _ g0') rfl, load_get (e.keep _ _ g1'') rfl, load_get (e.keep _ _ g1'') rfl, load_get (e.keep _ _ g2'') rfl, load_get (e.keep _ _ g2'') rfl⟩
  have x1 := Ext.refl e03.wf
  obtain ⟨l0, l1, l2, l3, l4, l5⟩ := ld x1
  simp [l0]
  refine quietZ x1.wf (num78 T.h78 T.h50 T.h80 x1.wf.up ra.x0 ra.x1) ?_
  intro rA0 H2 hA0 y2
  have x2 := x1.trans y2
  obtain ⟨l0, l1, l2, l3, l4, l5⟩ := ld x2
  simp [l1]
  refine quietZ x2.wf (num78 T.h78 T.h50 T.h80 x2.wf.up ra.y0 ra.y1) ?_
  intro rA1 H3 hA1 y3
  have x3 := x2.trans y3
  obtain ⟨l0, l1, l2, l3, l4, l5⟩ := ld x3
  simp [l2]
  refine quietZ x3.wf (num78 T.h78 T.h50 T.h80 x3.wf.up rb.x0 rb.x1) ?_
  intro rA2 H4 hA2 y4
  have x4 := x3.trans y4
  obtain ⟨l0, l1, l2, l3, l4, l5⟩ := ld x4
  simp [l3]
  refine quietZ x4.wf (num78 T.h78 T.h50 T.h80 x4.wf.up rb.y0 rb.y1) ?_
  intro rA3 H5 hA3 y5
  have x5 := x4.trans y5
  simp
  refine quietZ x5.wf (det77 T T.h77 x5.wf.up (((hA0.ext y3).ext y4).ext y5).up ((hA1.ext y4).ext y5).up (hA2.ext y5).up (hA3).up (by omega)) ?_
  intro dA H6 hdA y6
  have x6 := x5.trans y6
  obtain ⟨mA, uA, rfl, houA⟩ := hdA.cells
  obtain ⟨H7, sA, gA, yA, nA⟩ := store_new (z := [.bool false, .nils]) (n := 2) (x := .agg [.bool mA, uA]) (cs := [.bool mA, uA]) x6.wf rfl rfl rfl houA
  have ho7 : H1.next ≤ H6.next := x6.next
  have x7 := x6.trans yA
  have lA : loadA H7 (some 2) (.ptr H6.next 0) = some (.agg [.bool mA, uA]) := load_agg gA (by simp [seg])
  have hA := hdA.ext yA
  obtain ⟨l0, l1, l2, l3, l4, l5⟩ := ld x7
  simp [sA, lA, l2]
  refine quietZ x7.wf (num78 T.h78 T.h50 T.h80 x7.wf.up rb.x0 rb.x1) ?_
  intro rB0 H8 hB0 y8
  have x8 := x7.trans y8
  obtain ⟨l0, l1, l2, l3, l4, l5⟩ := ld x8
  simp [l3]
  refine quietZ x8.wf (num78 T.h78 T.h50 T.h80 x8.wf.up rb.y0 rb.y1) ?_
  intro rB1 H9 hB1 y9
  have x9 := x8.trans y9
  obtain ⟨l0, l1, l2, l3, l4, l5⟩ := ld x9
  simp [l4]
  refine quietZ x9.wf (num78 T.h78 T.h50 T.h80 x9.wf.up rc.x0 rc.x1) ?_
  intro rB2 H10 hB2 y10
  have x10 := x9.trans y10
  obtain ⟨l0, l1, l2, l3, l4, l5⟩ := ld x10
  simp [l5]
  refine quietZ x10.wf (num78 T.h78 T.h50 T.h80 x10.wf.up rc.y0 rc.y1) ?_
  intro rB3 H11 hB3 y11
  have x11 := x10.trans y11
  simp
  refine quietZ x11.wf (det77 T T.h77 x11.wf.up (((hB0.ext y9).ext y10).ext y11).up ((hB1.ext y10).ext y11).up (hB2.ext y11).up (hB3).up (by omega)) ?_
  intro dB H12 hdB y12
  have x12 := x11.trans y12
  have yB := ((((y8).trans y9).trans y10).trans y11).trans y12
  simp
  refine (plus47z T.h47 T.h81 T.h79 T.h80 x12.wf ((hA.ext yB).weak (by omega : _ ≤ 10)) (hdB.weak (by omega : _ ≤ 10)) (by omega)).mono ?_
  rintro r7 H13 ⟨hs, y13⟩
  have x13 := x12.trans y13
  obtain ⟨mS, uS, rfl, _⟩ := hs.cells
  obtain ⟨H14, sS, cS, hS, x14, _⟩ := num_fin e03.wf ho7 x13 (y13.keep _ _ (yB.keep _ _ gA)) hA.noint hs
  have lS : loadA H14 (some 2) (.ptr H6.next 0) = some (.agg [.bool mS, uS]) := load_agg (get_cellsAt cS) (by simp [seg])
  obtain ⟨l0, l1, l2, l3, l4, l5⟩ := ld x14
  simp [sS, lS, l4]
  refine quietZ x14.wf (num78 T.h78 T.h50 T.h80 x14.wf.up rc.x0 rc.x1) ?_
  intro rC0 H15 hC0 y15
  have x15 := x14.trans y15
  obtain ⟨l0, l1, l2, l3, l4, l5⟩ := ld x15
  simp [l5]
  refine quietZ x15.wf (num78 T.h78 T.h50 T.h80 x15.wf.up rc.y0 rc.y1) ?_
  intro rC1 H16 hC1 y16
  have x16 := x15.trans y16
  obtain ⟨l0, l1, l2, l3, l4, l5⟩ := ld x16
  simp [l0]
  refine quietZ x16.wf (num78 T.h78 T.h50 T.h80 x16.wf.up ra.x0 ra.x1) ?_
  intro rC2 H17 hC2 y17
  have x17 := x16.trans y17
  obtain ⟨l0, l1, l2, l3, l4, l5⟩ := ld x17
  simp [l1]
  refine quietZ x17.wf (num78 T.h78 T.h50 T.h80 x17.wf.up ra.y0 ra.y1) ?_
  intro rC3 H18 hC3 y18
  have x18 := x17.trans y18
  simp
  refine quietZ x18.wf (det77 T T.h77 x18.wf.up (((hC0.ext y16).ext y17).ext y18).up ((hC1.ext y17).ext y18).up (hC2.ext y18).up (hC3).up (by omega)) ?_
  intro dC H19 hdC y19
  have x19 := x18.trans y19
  have yC := ((((y15).trans y16).trans y17).trans y18).trans y19
  simp
  refine (plus47z T.h47 T.h81 T.h79 T.h80 x19.wf ((hS.ext yC).weak (by omega : _ ≤ 11)) (hdC.weak (by omega : _ ≤ 11)) (by omega)).mono ?_
  rintro r8 H20 ⟨hn, y20⟩
  have x20 := x19.trans y20
  obtain ⟨mF, uF, rfl, _⟩ := hn.cells
  obtain ⟨H21, sF, cF, hF, x21, _⟩ := num_fin hw (o := H.next + 3) (by omega) (e03.trans x20) (x20.keep _ _ g3'') (fun x q => by cases q) hn
  simp [sF, resultsA, resultA, cF, partA, seg, packA]
  exact ⟨hF, x21⟩
end
end Go.Proofs.Ytcepchipgjpkhaa

/- The document's predicates: turns, convex figures. No claim by itself. -/
namespace Go.Proofs.Ytcepchipgjpkhaa
open Go Go.AI
section
variable {FT : Nat → Option FnD} {H H' : Heap}
/-- How three places turn; 0 if one of them is too far. -/
def orZ (a b c : Int × Int) : Int := if fitQ a ∧ fitQ b ∧ fitQ c then (areaZ a b c).sign else 0
theorem fitQ_rm {p : Int × Int} (h : fitQ p) : Rm p := by
  obtain ⟨⟨a, b⟩, c, d⟩ := h
  exact ⟨by omega, by omega, by omega, by omega⟩
theorem orient53 (T : NumT FT) (h53 : FT 53 = some (.code A53)) (hw : H.Wf) {a b c : Int × Int} : Cp FT 53 [.agg (pairc a), .agg (pairc b), .agg (pairc c)] H (fun r H' => r = .int .i64 (orZ a b c) ∧ Ext H H') := by
  refine Cp_code A53 h53 rfl ?_
  obtain ⟨g0, e0⟩ := push_new hw (.cells (pairc a))
  obtain ⟨g1, e1⟩ := push_new e0.wf (.cells (pairc b))
  obtain ⟨g2, e2⟩ := push_new e1.wf (.cells (pairc c))
  have e03 := (e0.trans e1).trans e2
  have g0' := e2.keep _ _ (e1.keep _ _ g0)
  have g1' := e2.keep _ _ g1
  have hp : ((H.push (.cells [.int .i64 a.1, .int .i64 a.2])).push (.cells [.int .i64 b.1, .int .i64 b.2])).push (.cells [.int .i64 c.1, .int .i64 c.2]) = ((H.push (.cells (pairc a))).push (.cells (pairc b))).push (.cells (pairc c)) := rfl
  have hpa : pairc a = [.int .i64 a.1, .int .i64 a.2] := rfl
  have hpb : pairc b = [.int .i64 b.1, .int .i64 b.2] := rfl
  have hpc : pairc c = [.int .i64 c.1, .int .i64 c.2] := rfl
  simp only [hpa, hpb, hpc]
  simp [A53, hp]
  generalize hH1 : ((H.push (.cells (pairc a))).push (.cells (pairc b))).push (.cells (pairc c)) = H1 at *
  have g1'' : H1.get (H.next + 1) = some (.cells (pairc b)) := g1'
  have g2'' : H1.get (H.next + 2) = some (.cells (pairc c)) := g2
  have ld : ∀ {H2 : Heap}, Ext H1 H2 → loadA H2 (some 2) (.ptr H.next 0) = some (.agg (pairc a)) ∧ loadA H2 (some 2) (.ptr (H.next + 1) 0) = some (.agg (pairc b)) ∧ loadA H2 (some 2) (.ptr (H.next + 2) 0) = some (.agg (pairc c)) := fun e =>
    ⟨load_agg (e.keep _ _ g0') rfl, load_agg (e.keep _ _ g1'') rfl, load_agg (e.keep _ _ g2'') rfl⟩
  obtain ⟨l0, l1, l2⟩ := ld (Ext.refl e03.wf)
  simp [l0]
  refine (fits90 T e03.wf).mono ?_
  rintro _ H2 ⟨rfl, x2⟩
  obtain ⟨l0, l1, l2⟩ := ld x2
  by_cases ca : fitQ a
  · simp [ca, l1]
    refine (fits90 T x2.wf).mono ?_
    rintro _ H3 ⟨rfl, y3⟩
    have x3 := x2.trans y3
    obtain ⟨l0, l1, l2⟩ := ld x3
    by_cases cb : fitQ b
    · simp [cb, l2]
      refine (fits90 T x3.wf).mono ?_
      rintro _ H4 ⟨rfl, y4⟩
      have x4 := x3.trans y4
      obtain ⟨l0, l1, l2⟩ := ld x4
      by_cases cc : fitQ c
      · simp [cc, l0, l1, l2]
        refine (area46 T x4.wf (fitQ_rm ca) (fitQ_rm cb) (fitQ_rm cc)).mono ?_
        rintro r H5 ⟨hr, y5⟩
        simp
        refine (sign83z T.h83 y5.wf hr).mono ?_
        rintro _ H6 ⟨rfl, y6⟩
        simp [orZ, ca, cb, cc]
        exact e03.trans (x4.trans (y5.trans y6))
      · simp [cc, orZ, e03.trans x4]
    · simp [cb, orZ, e03.trans x3]
  · simp [ca, orZ, e03.trans x2]
def okTri (l : List (Int × Int)) (i k j : Nat) : Prop := ∀ a b c, l[i]? = some a → l[k]? = some b → l[j]? = some c → orZ a b c = 1
/-- Does each three of them turn left? -/
def convP (l : List (Int × Int)) : Prop := 3 ≤ l.length ∧ ∀ i k j, i < k → k < j → okTri l i k j
theorem okTri_len {l : List (Int × Int)} {i k j : Nat} (h : l.length ≤ j) : okTri l i k j := fun a b c _ _ q => by rw [List.getElem?_eq_none h] at q; cases q
def k48a : ACode := subAt [1, 0, 1] A48.body
def k48k : ACode := subAt [0, 0, 1, 0, 0, 1] k48a
def k48j : ACode := subAt [0, 0, 1, 0, 0, 1] k48k
theorem body48 : A48.body = putAt [1, 0, 1] A48.body k48a := rfl
theorem body48a : k48a = putAt [0, 0, 1, 0, 0, 1] k48a k48k := rfl
theorem body48k : k48k = putAt [0, 0, 1, 0, 0, 1] k48k k48j := rfl
structure Cj1 (H H' : Heap) (v : AV) (l : List (Int × Int)) (i k : Nat) (τ : Env) (j m : Nat) : Prop where
  ex : Ext H H'
  lo : k < j
  le : j ≤ l.length
  hm : m = l.length - j
  ok : ∀ x, k < x → x < j → okTri l i k x
  t : Tm τ [(0, v), (3, .int .i64 i), (4, .int .i64 k), (5, .int .i64 j)]
theorem conv_j (T : NumT FT) (h53 : FT 53 = some (.code A53)) (hw : H.Wf) {v : AV} {l : List (Int × Int)} {i k : Nat} (hv : Pairs H v l) (hl : l.length ≤ 1000000000) (hik : i < k) (hk : k < l.length) {τ0 : Env}
    (u : Tm τ0 [(0, v), (3, .int .i64 i), (4, .int .i64 k), (5, .int .i64 ((k + 1 : Nat) : Int))]) :
    Wp FT k48j τ0 H (fun c τ H' => (c = .next ∧ Ext H H' ∧ (∀ j, k < j → okTri l i k j) ∧ Tm τ [(0, v), (3, .int .i64 i), (4, .int .i64 k)]) ∨ (c = .ret ∧ Ext H H' ∧ ¬ convP l ∧ Tm τ [(2, .bool false)])) := by
  simp at u
  obtain ⟨u0, u3, u4, u5⟩ := u
  simp [k48j, k48k, k48a, subAt, A48]
  refine Wp_loop (fun m τ H' => ∃ j, Cj1 H H' v l i k τ j m) ?_ (l.length - (k + 1)) _ _ ⟨k + 1, ⟨Ext.refl hw, by omega, by omega, rfl, fun x a b => by omega, by simp [u0, u3, u4, u5]⟩⟩
  rintro m τ H1 ⟨j, ⟨e1, lo, hj, rfl, ok, t⟩⟩
  simp at t
  obtain ⟨t0, t3, t4, t5⟩ := t
  have hv1 := hv.ext e1
  by_cases q : j < l.length
  · have w : IntKind.i64.wrap ((j : Int) + 1) = (j : Int) + 1 := wrap64 (by omega) (by omega)
    obtain ⟨p1, a, a1, a2, a3, _⟩ := Sl.idx hv1 (k := .i64) (i := (i : Int)) (by omega) (by omega)
    obtain ⟨p2, b, b1, b2, b3, _⟩ := Sl.idx hv1 (k := .i64) (i := (k : Int)) (by omega) (by omega)
    obtain ⟨p3, c, c1, c2, c3, _⟩ := Sl.idx hv1 (k := .i64) (i := (j : Int)) (by omega) (by omega)
    rw [Int.toNat_natCast] at a1 b1 c1
    simp [q, t0, t3, t4, t5, hv1.len, a2, a3, b2, b3, c2, c3]
    refine (orient53 T h53 e1.wf).mono ?_
    rintro _ H2 ⟨rfl, e2⟩
    by_cases z : orZ a b c = 1
    · simp [z, t5, w]
      exact ⟨_, by omega, j + 1, ⟨e1.trans e2, by omega, by omega, rfl, fun x x1 x2 => by
        by_cases e : x = j
        · subst e; intro a' b' c' q1 q2 q3; rw [a1] at q1; rw [b1] at q2; rw [c1] at q3; cases q1; cases q2; cases q3; exact z
        · exact ok x x1 (by omega), by simp [t0, t3, t4]⟩⟩
    · simp [z]
      exact ⟨e1.trans e2, fun h => z (h.2 i k j hik lo a b c a1 b1 c1)⟩
  · have hjl : j = l.length := by omega
    simp [q, t0, t5, hv1.len]
    refine ⟨e1, fun x hx => ?_, by simp [t3, t4]⟩
    by_cases e : x < j
    · exact ok x hx e
    · exact okTri_len (by omega)
structure Ck1 (H H' : Heap) (v : AV) (l : List (Int × Int)) (i : Nat) (τ : Env) (k m : Nat) : Prop where
  ex : Ext H H'
  lo : i < k
  le : k ≤ l.length
  hm : m = l.length - k
  ok : ∀ x j, i < x → x < k → x < j → okTri l i x j
  t : Tm τ [(0, v), (3, .int .i64 i), (4, .int .i64 k)]
theorem conv_k (T : NumT FT) (h53 : FT 53 = some (.code A53)) (hw : H.Wf) {v : AV} {l : List (Int × Int)} {i : Nat} (hv : Pairs H v l) (hl : l.length ≤ 1000000000) (hi : i < l.length) {τ0 : Env}
    (u : Tm τ0 [(0, v), (3, .int .i64 i), (4, .int .i64 ((i + 1 : Nat) : Int))]) :
    Wp FT k48k τ0 H (fun c τ H' => (c = .next ∧ Ext H H' ∧ (∀ k j, i < k → k < j → okTri l i k j) ∧ Tm τ [(0, v), (3, .int .i64 i)]) ∨ (c = .ret ∧ Ext H H' ∧ ¬ convP l ∧ Tm τ [(2, .bool false)])) := by
  simp at u
  obtain ⟨u0, u3, u4⟩ := u
  rw [body48k]
  generalize hkj : k48j = kj
  simp [k48k, k48a, subAt, putAt, A48]
  refine Wp_loop (fun m τ H' => ∃ k, Ck1 H H' v l i τ k m) ?_ (l.length - (i + 1)) _ _ ⟨i + 1, ⟨Ext.refl hw, by omega, by omega, rfl, fun x j a b => by omega, by simp [u0, u3, u4]⟩⟩
  rintro m τ H1 ⟨k, ⟨e1, lo, hk, rfl, ok, t⟩⟩
  simp at t
  obtain ⟨t0, t3, t4⟩ := t
  have hv1 := hv.ext e1
  by_cases q : k < l.length
  · have w : IntKind.i64.wrap ((k : Int) + 1) = (k : Int) + 1 := wrap64 (by omega) (by omega)
    simp [q, t0, t4, hv1.len, w]
    rw [← hkj]
    refine (conv_j T h53 e1.wf hv1 hl lo q (by simp [t0, t3, t4])).mono ?_
    rintro c τ2 H2 (⟨rfl, e2, h, t⟩ | ⟨rfl, e2, h, t⟩)
    · simp at t
      obtain ⟨t0, t3, t4⟩ := t
      simp [t4, w]
      exact ⟨_, by omega, k + 1, ⟨e1.trans e2, by omega, by omega, rfl, fun x j x1 x2 x3 => by
        by_cases e : x = k
        · subst e; exact h j x3
        · exact ok x j x1 (by omega) x3, by simp [t0, t3]⟩⟩
    · simp at t
      simp [t]
      exact ⟨e1.trans e2, h⟩
  · simp [q, t0, t4, hv1.len]
    refine ⟨e1, fun x j x1 x2 => ?_, by simp [t3]⟩
    by_cases e : x < k
    · exact ok x j x1 e x2
    · exact okTri_len (by omega)
structure Ci1 (H H' : Heap) (v : AV) (l : List (Int × Int)) (τ : Env) (i m : Nat) : Prop where
  ex : Ext H H'
  le : i ≤ l.length
  hm : m = l.length - i
  ok : ∀ x k j, x < i → x < k → k < j → okTri l x k j
  t : Tm τ [(0, v), (3, .int .i64 i)]
open Classical in
theorem convex48 (T : NumT FT) (h53 : FT 53 = some (.code A53)) (h48 : FT 48 = some (.code A48)) (hw : H.Wf) {v : AV} {l : List (Int × Int)} (hv : Pairs H v l) (hl : l.length ≤ 1000000000) :
    Cp FT 48 [v] H (fun r H' => r = .bool (decide (convP l)) ∧ Ext H H') := by
  refine Cp_code A48 h48 rfl ?_
  rw [body48, body48a]
  generalize hkk : k48k = kk
  simp [k48a, subAt, putAt, A48]
  refine Wp_loop (fun m τ H' => ∃ i, Ci1 H H' v l τ i m) ?_ l.length _ _ ⟨0, ⟨Ext.refl hw, by omega, by omega, fun x k j a => by omega, by simp⟩⟩
  rintro m τ H1 ⟨i, ⟨e1, hi, rfl, ok, t⟩⟩
  simp at t
  obtain ⟨t0, t3⟩ := t
  have hv1 := hv.ext e1
  by_cases q : i < l.length
  · have w : IntKind.i64.wrap ((i : Int) + 1) = (i : Int) + 1 := wrap64 (by omega) (by omega)
    simp [q, t0, t3, hv1.len, w]
    rw [← hkk]
    refine (conv_k T h53 e1.wf hv1 hl q (by simp [t0, t3])).mono ?_
    rintro c τ2 H2 (⟨rfl, e2, h, t⟩ | ⟨rfl, e2, h, t⟩)
    · simp at t
      obtain ⟨t0, t3⟩ := t
      simp [t3, w]
      exact ⟨_, by omega, i + 1, ⟨e1.trans e2, by omega, rfl, fun x k j x1 x2 x3 => by
        by_cases e : x = i
        · subst e; exact h k j x2 x3
        · exact ok x k j (by omega) x2 x3, by simp [t0]⟩⟩
    · simp at t
      simp [t, h]
      exact e1.trans e2
  · have hil : i = l.length := by omega
    have hc : convP l ↔ 3 ≤ l.length := ⟨fun h => h.1, fun h => ⟨h, fun x k j x1 x2 => by
      by_cases e : x < i
      · exact ok x k j e x1 x2
      · exact okTri_len (by omega)⟩⟩
    by_cases z : 3 ≤ l.length
    · have z' : (3 : Int) ≤ l.length := by omega
      simp [q, t0, t3, hv1.len, z', hc, z]
      exact e1
    · have z' : ¬ (3 : Int) ≤ l.length := by omega
      simp [q, t0, t3, hv1.len, z', hc, z]
      exact e1
end
end Go.Proofs.Ytcepchipgjpkhaa

/- Faces that are convex, as the document tells. No claim by itself. -/
namespace Go.Proofs.Ytcepchipgjpkhaa
open Go Go.AI
section
variable {FT : Nat → Option FnD} {H H' : Heap}
def ptQ (P : List (Int × Int)) (x : Int) : Int × Int := P.getD x.toNat (0, 0)
def inQ (P : List (Int × Int)) (f : List Int) : Prop := ∀ x, x ∈ f → 0 ≤ x ∧ x < P.length
/-- Is each face convex? -/
def convFs (P : List (Int × Int)) (F : List (List Int)) : Prop := ∀ f, f ∈ F → inQ P f ∧ convP (f.map (ptQ P))
def k38a : ACode := subAt [1, 0, 1] A38.body
def k38i : ACode := subAt [0, 0, 1, 0, 0, 1, 0, 1] k38a
structure Cf1 (H H' : Heap) (vP vF v6 : AV) (P : List (Int × Int)) (f : List Int) (i : Nat) (τ : Env) (k m : Nat) : Prop where
  ex : Ext H H'
  mi : Mine 2 pairc H H' v6 ((f.take k).map (ptQ P))
  ok : inQ P (f.take k)
  le : k ≤ f.length
  hm : m = f.length - k
  t : Tm τ [(0, vP), (1, vF), (5, .int .i64 i), (6, v6), (7, .int .i64 k)]
structure CfQ (H H' : Heap) (vP vF v6 : AV) (P : List (Int × Int)) (f : List Int) (i : Nat) (τ : Env) : Prop where
  ex : Ext H H'
  mi : Mine 2 pairc H H' v6 (f.map (ptQ P))
  ok : inQ P f
  t : Tm τ [(0, vP), (1, vF), (5, .int .i64 i), (6, v6)]
structure Cf2 (H H' : Heap) (vP vF : AV) (P : List (Int × Int)) (F : List (List Int)) (τ : Env) (i m : Nat) : Prop where
  ex : Ext H H'
  ok : convFs P (F.take i)
  le : i ≤ F.length
  hm : m = F.length - i
  t : Tm τ [(0, vP), (1, vF), (5, .int .i64 i)]
end
end Go.Proofs.Ytcepchipgjpkhaa
