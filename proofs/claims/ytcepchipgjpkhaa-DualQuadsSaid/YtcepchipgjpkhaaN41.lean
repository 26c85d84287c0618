/- Numbers compared; the statement DualQuads: corners. No claim by itself. -/
import Derived.Test.YtcepchipgjpkhaaN36
namespace Go.Proofs.Ytcepchipgjpkhaa
open Go Go.AI
section
variable {FT : Nat → Option FnD} {H H' : Heap}
def k12c : ACode := subAt [1, 1, 1, 1, 1, 1, 1, 1, 0] A12.body
structure Qc (H1 H' : Heap) (o3 : Nat) (v7 v11 : AV) (P : List (Int × Int)) (f : List Int) (i k : Int) (τ : Env) (j m : Nat) : Prop where
  ex : Ext H1 H'
  mi : Mine 2 pairc H1 H' v11 ((f.map (ptQ P)).take j)
  le : j ≤ 4
  hm : m = 4 - j
  t : Tm τ [(1, .int .i64 i), (2, .int .i64 k), (3, .ptr o3 0), (7, v7), (11, v11), (12, .int .i64 j)]
theorem quad_c {H1 : Heap} (hw : H1.Wf) {o3 : Nat} {vP vT vS v7 : AV} {P : List (Int × Int)} {f : List Int} {a0 i k : Int} (_lP : P.length ≤ 1000000000) (g3 : H1.get o3 = some (.cells [vP, vT, vS])) (hP : Pairs H1 vP P) (h7 : Ints H1 v7 f) (hf : f.length = 4) (h0 : f[0]? = some a0) (hin : ∀ x, x ∈ f → inN P.length x ∧ a0 ≤ x) {τ0 : Env}
    (w : Tm τ0 [(1, .int .i64 i), (2, .int .i64 k), (3, .ptr o3 0), (7, v7), (11, .nils)]) :
    Wp FT k12c τ0 H1 (fun c τ H' => c = .next ∧ Ext H1 H' ∧ ∃ v11, Mine 2 pairc H1 H' v11 (f.map (ptQ P)) ∧ Tm τ [(1, .int .i64 i), (2, .int .i64 k), (3, .ptr o3 0), (11, v11)]) := by
  simp at w
  obtain ⟨w1, w2, w3, w7, w11⟩ := w
  simp [k12c, subAt, A12]
  refine Wp_loop (fun m τ H' => ∃ j v11, Qc H1 H' o3 v7 v11 P f i k τ j m) ?_ 4 _ _ ⟨0, .nils, ⟨Ext.refl hw, by simpa using Mine.nil, by omega, rfl, by simp [w1, w2, w3, w7, w11]⟩⟩
  rintro m τ H2 ⟨j, v11, ⟨ex, mi, hj, rfl, u⟩⟩
  simp at u
  obtain ⟨t1, t2, t3, t7, t11, t12⟩ := u
  by_cases q : j < 4
  · have q' : (j : Int) < 4 := by omega
    have wj : IntKind.i64.wrap ((j : Int) + 1) = (j : Int) + 1 := wrap64 (by omega) (by omega)
    have h72 := h7.ext ex
    obtain ⟨p1, x, a1, a2, _, a4⟩ := Sl.idx h72 (k := .i64) (i := (j : Int)) (by omega) (by omega)
    obtain ⟨p2, y, b1, b2, _, b4⟩ := Sl.idx h72 (k := .i64) (i := 0) (by omega) (by omega)
    rw [Int.toNat_natCast] at a1
    rw [show (0 : Int).toNat = 0 from rfl, h0] at b1
    cases b1
    have a5 := a4 _ rfl rfl
    have b5 := b4 _ rfl rfl
    obtain ⟨⟨z1, z2⟩, z3⟩ := hin x (List.mem_of_getElem? a1)
    have f0 : loadA H2 none (.ptr o3 0) = some vP := load_get (ex.keep _ _ g3) rfl
    have hP2 := hP.ext ex
    obtain ⟨p3, pt, c1, c2, c3, _⟩ := Sl.idx hP2 (k := .i64) (i := x) z1 z2
    have hpt := ptQ_get c1
    have nz1 : ¬ x < 0 := by omega
    have nz2 : ¬ (P.length : Int) ≤ x := by omega
    have nz3 : ¬ x < a0 := by omega
    have htk : (f.map (ptQ P)).take (j + 1) = (f.map (ptQ P)).take j ++ [pt] := by rw [List.take_add_one, List.getElem?_map, a1]; simp [hpt]
    have hl4 : ((f.map (ptQ P)).take j).length ≤ 4 := by rw [List.length_take]; omega
    obtain ⟨v11', H3, d1, d2, d3, d4⟩ := mi.app1 pairc_len (by omega) pairc_one (bytes := 16) ex.wf ex.next pt (by omega)
    rw [← htk] at d2
    have d1' : appendA 2 16 (H2.push (.cells [.int .i64 pt.1, .int .i64 pt.2])) v11 (.slc H2.next 0 1 2 1 true) = some (v11', H3) := d1
    have f2 : ∀ (e : Opd → AV) (cs : List AV) (off : Nat) (x : Int × Int) (r : List (Nat × Nat × Opd)), fillV e cs off 2 (.agg (pairc x)) r = if off + 2 ≤ cs.length then fillA e (setSeg cs off [.int .i64 x.1, .int .i64 x.2]) r else none := fun e cs off x r => fillV_2 rfl rfl
    have x3 := ext_fr hw ex d3 (fun p hp => mi.new p (by simpa using hp))
    simp [q', t3, t7, t11, t12, a2, a5, b2, b5, f0, hP2.len, nz1, nz2, nz3, c2, c3, f2, setSeg, d1', wj]
    exact ⟨_, by omega, j + 1, v11', ⟨x3, d2, by omega, rfl, by simp [t1, t2, t3, t7]⟩⟩
  · have hj4 : j = 4 := by omega
    subst hj4
    rw [List.take_of_length_le (by rw [List.length_map]; omega)] at mi
    simp [t12]
    exact ⟨ex, v11, mi, t1, t2, t3, t11⟩
theorem cmp49z (N : NumT FT) (hw : H.Wf) {x y : AV} {a b : Int} {k : Nat} (ha : NumZ H x a k) (hb : NumZ H y b k) (hl : k ≤ 90) :
    Cp FT 49 [x, y] H (fun r H' => r = .int .i64 (a - b).sign ∧ Ext H H') := by
  obtain ⟨ma, da, a1, a2, a3, a4⟩ := ha
  obtain ⟨mb, db, b1, b2, b3, b4⟩ := hb
  refine (cmp49 N.h49 N.h82 N.h83 N.h47 N.h81 N.h79 N.h80 hw a1 b1 (by omega) (by omega) b4).mono ?_
  rintro r H' ⟨q, e⟩
  exact ⟨by rw [q, a2, b2], e⟩
def k12e : ACode := subAt [1, 1, 1, 1, 1, 1, 1, 1, 1] A12.body
theorem body12 : A12.body = putAt [1, 1, 1, 1, 1, 1, 1, 1] A12.body (.seq k12c k12e) := rfl
theorem conv4_fit {p q r s : Int × Int} (h : conv4 p q r s = true) : fitQ p ∧ fitQ q ∧ fitQ r ∧ fitQ s := by
  unfold conv4 at h
  simp only [Bool.and_eq_true, decide_eq_true_eq] at h
  obtain ⟨⟨⟨h1, _⟩, h3⟩, _⟩ := h
  obtain ⟨a, b, c⟩ := orZ_fit (a := p) (b := q) (c := r) (by omega)
  obtain ⟨_, _, d⟩ := orZ_fit (a := p) (b := r) (c := s) (by omega)
  exact ⟨a, b, c, d⟩
theorem quad_e (L : LawM FT) (N : NumT FT) (h48 : FT 48 = some (.code A48)) (h53 : FT 53 = some (.code A53)) {H1 : Heap} (hw : H1.Wf) {o3 : Nat} {vP vT vS v11 : AV} {P : List (Int × Int)} {T : List Tri} {i k : Nat} {t u : Tri} {p0 p1 p2 p3 : Int × Int} (g3 : H1.get o3 = some (.cells [vP, vT, vS])) (hP : Pairs H1 vP P) (hT : Tris H1 vT T) (h11 : Pairs H1 v11 [p0, p1, p2, p3]) (ht : T[i]? = some t) (hu : T[k]? = some u) (okt : TriOk P t) (oku : TriOk P u) (hc : conv4 p0 p1 p2 p3 = true) (ha : area4 p0 p1 p2 p3 = areaZ (ptQ P t.1) (ptQ P t.2.1) (ptQ P t.2.2) + areaZ (ptQ P u.1) (ptQ P u.2.1) (ptQ P u.2.2)) {τ0 : Env}
    (w : Tm τ0 [(1, .int .i64 i), (2, .int .i64 k), (3, .ptr o3 0), (11, v11)]) :
    Wp FT k12e τ0 H1 (finQ A12.results fun r _ => r = .bool true) := by
  simp at w
  obtain ⟨w1, w2, w3, w11⟩ := w
  have hil : i < T.length := (List.getElem?_eq_some_iff.1 ht).1
  have hkl : k < T.length := (List.getElem?_eq_some_iff.1 hu).1
  have ld : ∀ {H2 : Heap}, Ext H1 H2 → loadA H2 none (.ptr o3 0) = some vP ∧ loadA H2 none (.ptr o3 1) = some vT := fun e => ⟨load_get (e.keep _ _ g3) rfl, load_get (e.keep _ _ g3) rfl⟩
  obtain ⟨f0, f1⟩ := ld (Ext.refl hw)
  obtain ⟨o1, off1, t', a1, a2, a3, _⟩ := Tris.idx hT (k := .i64) (i := (i : Int)) (by omega) (by omega)
  rw [Int.toNat_natCast, ht] at a1
  cases a1
  obtain ⟨H2, st2, g13, e2, n2⟩ := store_new hw (z := [.int .i64 0, .int .i64 0, .int .i64 0]) (n := 3) (x := .agg (tric t)) (cs := tric t) rfl rfl rfl rfl
  obtain ⟨f0', f1'⟩ := ld e2
  obtain ⟨o2, off2, u', b1, b2, b3, _⟩ := Tris.idx (hT.ext e2) (k := .i64) (i := (k : Int)) (by omega) (by omega)
  rw [Int.toNat_natCast, hu] at b1
  cases b1
  obtain ⟨H3, st3, g14, e3, n3⟩ := store_new e2.wf (z := [.int .i64 0, .int .i64 0, .int .i64 0]) (n := 3) (x := .agg (tric u)) (cs := tric u) rfl rfl rfl rfl
  have x3 := e2.trans e3
  have g13' := e3.keep _ _ g13
  -- the points of a triangle
  have pt : ∀ {H4 : Heap}, Ext H1 H4 → ∀ {x : Int}, inN P.length x → ∃ p, indexAddrV 2 vP (.int .i64 x) = some p ∧ loadA H4 (some 2) p = some (.agg (pairc (ptQ P x))) := by
    intro H4 e x hx
    obtain ⟨p, y, c1, c2, c3, _⟩ := Sl.idx (hP.ext e) (k := .i64) (i := x) hx.1 hx.2
    rw [← ptQ_get c1] at c3
    exact ⟨p, c2, c3⟩
  have ldt : ∀ {H4 : Heap}, Ext H3 H4 → loadA H4 none (.ptr H1.next 0) = some (.int .i64 t.1) ∧ loadA H4 none (.ptr H1.next 1) = some (.int .i64 t.2.1) ∧ loadA H4 none (.ptr H1.next 2) = some (.int .i64 t.2.2) ∧ loadA H4 none (.ptr H2.next 0) = some (.int .i64 u.1) ∧ loadA H4 none (.ptr H2.next 1) = some (.int .i64 u.2.1) ∧ loadA H4 none (.ptr H2.next 2) = some (.int .i64 u.2.2) ∧ loadA H4 none (.ptr o3 0) = some vP :=
    fun e => ⟨load_get (e.keep _ _ g13') rfl, load_get (e.keep _ _ g13') rfl, load_get (e.keep _ _ g13') rfl, load_get (e.keep _ _ g14) rfl, load_get (e.keep _ _ g14) rfl, load_get (e.keep _ _ g14) rfl, (ld (x3.trans e)).1⟩
  obtain ⟨r1, r2, r3, r4, r5, r6, r7⟩ := ldt (Ext.refl e3.wf)
  obtain ⟨q1, c1, d1⟩ := pt x3 okt.1.1
  obtain ⟨q2, c2, d2⟩ := pt x3 okt.1.2.1
  obtain ⟨q3, c3, d3⟩ := pt x3 okt.1.2.2
  simp [-storeA_ptr, k12e, subAt, A12, w1, w2, w3, f1, a2, a3, st2, f1', b2, b3, st3, r1, r2, r3, r7, c1, c2, c3, d1, d2, d3]
  have fit : ∀ {y : Tri}, TriOk P y → Rm (ptQ P y.1) ∧ Rm (ptQ P y.2.1) ∧ Rm (ptQ P y.2.2) := fun h => ⟨fitQ_rm (h.fits (by simp [rowT])).2, fitQ_rm (h.fits (by simp [rowT])).2, fitQ_rm (h.fits (by simp [rowT])).2⟩
  obtain ⟨ft1, ft2, ft3⟩ := fit okt
  obtain ⟨fu1, fu2, fu3⟩ := fit oku
  obtain ⟨fp0, fp1, fp2, fp3⟩ := conv4_fit hc
  refine quietZ e3.wf (area46 N e3.wf.up ft1 ft2 ft3) ?_
  intro r154 H4 z4 e4
  have x4 := x3.trans e4
  obtain ⟨_, _, _, r4, r5, r6, r7⟩ := ldt e4
  obtain ⟨q1, c1, d1⟩ := pt x4 oku.1.1
  obtain ⟨q2, c2, d2⟩ := pt x4 oku.1.2.1
  obtain ⟨q3, c3, d3⟩ := pt x4 oku.1.2.2
  simp [-storeA_ptr, w3, r4, r5, r6, r7, c1, c2, c3, d1, d2, d3]
  refine quietZ e4.wf (area46 N e4.wf.up fu1 fu2 fu3) ?_
  intro r173 H5 z5 e5
  have x5 := x4.trans e5
  simp
  refine quietZ e5.wf (plus47z N.h47 N.h81 N.h79 N.h80 e5.wf.up (z4.ext e5).up z5.up (by omega)) ?_
  intro r174 H6 z6 e6
  have x6 := x5.trans e6
  obtain ⟨m6, y6, rfl, o6⟩ := z6.cells
  obtain ⟨H7, st7, g7, e7, n7⟩ := store_new e6.wf (z := [.bool false, .nils]) (n := 2) (x := .agg [.bool m6, y6]) (cs := [.bool m6, y6]) rfl rfl rfl o6
  have x7 := x6.trans e7
  have h117 := h11.ext x7
  obtain ⟨a0, b0, s0, i0, j0, k0, _⟩ := Pairs.idx h117 (k := .i64) (i := 0) (by omega) (by simp)
  obtain ⟨a1, b1, s1, i1, j1, k1, _⟩ := Pairs.idx h117 (k := .i64) (i := 1) (by omega) (by simp)
  obtain ⟨a2, b2, s2, i2, j2, k2, _⟩ := Pairs.idx h117 (k := .i64) (i := 2) (by omega) (by simp)
  obtain ⟨a3, b3, s3, i3, j3, k3, _⟩ := Pairs.idx h117 (k := .i64) (i := 3) (by omega) (by simp)
  cases (show some p0 = some s0 from i0)
  cases (show some p1 = some s1 from i1)
  cases (show some p2 = some s2 from i2)
  cases (show some p3 = some s3 from i3)
  simp [-storeA_ptr, st7, w11, j0, j1, j2, k0, k1, k2]
  refine quietZ e7.wf (area46 N e7.wf.up (fitQ_rm fp0) (fitQ_rm fp1) (fitQ_rm fp2)) ?_
  intro r184 H8 z8 e8
  have k0' := load_ext k0 e8
  have k2' := load_ext k2 e8
  have k3' := load_ext k3 e8
  simp [-storeA_ptr, w11, j0, j2, j3, k0', k2', k3']
  refine quietZ e8.wf (area46 N e8.wf.up (fitQ_rm fp0) (fitQ_rm fp2) (fitQ_rm fp3)) ?_
  intro r194 H9 z9 e9
  simp
  refine quietZ e9.wf (plus47z N.h47 N.h81 N.h79 N.h80 e9.wf.up (z8.ext e9).up z9.up (by omega)) ?_
  intro r195 HA zA eA
  obtain ⟨mA, yA, rfl, oA⟩ := zA.cells
  obtain ⟨HB, stB, gB, eB, nB⟩ := store_new eA.wf (z := [.bool false, .nils]) (n := 2) (x := .agg [.bool mA, yA]) (cs := [.bool mA, yA]) rfl rfl rfl oA
  have x7B := e8.trans (e9.trans (eA.trans eB))
  have x1B := x7.trans x7B
  simp [-storeA_ptr, stB, w11]
  refine (convex48 N h53 h48 eB.wf (h11.ext x1B) (by simp)).mono ?_
  rintro _ HC ⟨rfl, eC⟩
  have hcv : convP [p0, p1, p2, p3] := conv4_iff.1 hc
  have lB : loadA HC (some 2) (.ptr HA.next 0) = some (.agg [.bool mA, yA]) := load_ext (load_agg gB (by simp [seg])) eC
  have l7 : loadA HC (some 2) (.ptr H6.next 0) = some (.agg [.bool m6, y6]) := load_ext (load_ext (load_agg g7 (by simp [seg])) x7B) eC
  have zB := (zA.ext eB).ext eC
  have z7 := ((z6.ext e7).ext x7B).ext eC
  simp [hcv, lB, l7]
  refine (cmp49z N eC.wf zB z7 (by omega)).mono ?_
  rintro _ HD ⟨rfl, eD⟩
  have hz : (areaZ p0 p1 p2 + areaZ p0 p2 p3 - (areaZ (ptQ P t.1) (ptQ P t.2.1) (ptQ P t.2.2) + areaZ (ptQ P u.1) (ptQ P u.2.1) (ptQ P u.2.2))).sign = 0 := by
    rw [Int.sign_eq_zero_iff_zero]
    unfold area4 at ha
    omega
  have lD := load_ext lB eD
  simp [hz]
  refine quietZ eD.wf (small50z N.h50 N.h80 eD.wf.up (n := 0) (by omega) (by omega)) ?_
  intro r205 HE zE eE
  have lE := load_ext lD eE
  simp [lE]
  refine (cmp49z N eE.wf (zE.weak (by omega)) ((zB.ext eD).ext eE) (k := 13) (by omega)).mono ?_
  rintro _ HF ⟨rfl, eF⟩
  have hp := conv4_pos hc
  unfold area4 at hp
  simp [hp]
  refine (known44 L eF.wf).mono ?_
  rintro _ _ ⟨rfl, _⟩
  simp
end
end Go.Proofs.Ytcepchipgjpkhaa
