/- The statement DualFan, walked. No claim by itself. -/
import Derived.Test.YtcepchipgjpkhaaN29
namespace Go.Proofs.Ytcepchipgjpkhaa
open Go Go.AI
section
variable {H : Heap} {FT : Nat → Option FnD}
theorem mod5 (x : Int) : ∃ q : Nat, q < 5 ∧ (IntKind.u64.wrap x).tmod 5 = q := by
  have h0 : 0 ≤ IntKind.u64.wrap x := by
    unfold IntKind.wrap
    simp [IntKind.bits, IntKind.signed]
    omega
  rw [Int.tmod_eq_emod_of_nonneg h0]
  exact ⟨(IntKind.u64.wrap x % 5).toNat, by omega, by omega⟩
def fanP (w : Int) : List (Int × Int) := [(0, 0), (2 * w, 0), (w, 2 * w), (-w, 2 * w), (-2 * w, 0), (-w, -2 * w), (w, -2 * w)]
theorem fanP_eq (w : Int) : fanP w = fanB.map (scl w) := by
  unfold fanP fanB scl
  simp only [List.map_cons, List.map_nil, List.cons.injEq, Prod.mk.injEq, and_true]
  omega
def fanTo (j : Nat) : List Tri := (List.range j).map fun (i : Nat) => ((0 : Int), (i : Int) + 1, (i : Int) + 2)
def fanSo (j : Nat) : List (Int × Int) := layM [] ((List.range j).map fun (i : Nat) => ((i : Int) + 1, (i : Int) + 2))
theorem fanTo_succ (j : Nat) : fanTo (j + 1) = fanTo j ++ [((0 : Int), (j : Int) + 1, (j : Int) + 2)] := by unfold fanTo; rw [List.range_succ]; simp
theorem layM_snoc (L : List (Int × Int)) (s : Int × Int) : layM [] (L ++ [s]) = insU ltS (layM [] L) (upE s) := by
  unfold layM
  rw [List.map_append, List.map_cons, List.map_nil, layU_snoc]
theorem fanSo_succ (j : Nat) : fanSo (j + 1) = insU ltS (fanSo j) (upE ((j : Int) + 1, (j : Int) + 2)) := by unfold fanSo; rw [List.range_succ, List.map_append, List.map_cons, List.map_nil, layM_snoc]
theorem fanS_end {n : Nat} (_h : 2 ≤ n) : fanS n = insU ltS (insU ltS (fanSo (n - 2)) (upE (0, 1))) (upE (0, (n : Int) - 1)) := by
  unfold fanS fanSo
  rw [show ∀ A : List (Int × Int), A ++ [((0 : Int), (1 : Int)), (0, (n : Int) - 1)] = (A ++ [(0, 1)]) ++ [(0, (n : Int) - 1)] from fun A => by simp, layM_snoc, layM_snoc]
theorem layM_len (L : List (Int × Int)) : (layM [] L).length ≤ L.length := by
  have := layU_len (lt := ltS) (L.map upE) []
  unfold layM
  simpa using this
structure Fn1 (H Hb H' : Heap) (vP vT vS : AV) (P : List (Int × Int)) (o8 n : Nat) (τ : Env) (j m : Nat) : Prop where
  ex : Ext H H'
  nx : Hb.next ≤ H'.next
  g8 : H'.get o8 = some (.cells [vP, vT, vS])
  rP : Rw 2 pairc H' vP P
  mi : Mine 3 tric Hb H' vT (fanTo j)
  rS : Rw 2 pairc H' vS (fanSo j)
  nS : ∀ p, rowObj vS = some p → Hb.next ≤ p
  dS : ∀ p, rowObj vS = some p → rowObj vT ≠ some p
  le : j + 2 ≤ n
  hm : m = n - 2 - j
  t : Tm τ [(8, .ptr o8 0), (9, .int .i64 ((j : Int) + 1))]
structure Fn2 (H H' : Heap) (v : AV) (n : Nat) (τ : Env) (i m : Nat) : Prop where
  eq : H = H'
  le : i ≤ n - 3
  hm : m = n - 3 - i
  t : Tm τ [(10, v), (12, .int .i64 i)]
theorem fanL_get {n i : Nat} (h : i < n - 3) : (fanL n)[i]? = some ((i : Int), (i : Int) + 1) := by unfold fanL; simp [h]
theorem fanL_len (n : Nat) : (fanL n).length = n - 3 := by simp [fanL]
def k16a : ACode := subAt [1, 1, 1, 1, 1] A16.body
theorem body16 : A16.body = putAt [1, 1, 1, 1, 1] A16.body k16a := rfl
theorem fan_b (L : LawM FT) (h40 : FT 40 = some (.code A40)) (hw : H.Wf) {Hb : Heap} (exb : Ext H Hb) {o8 n : Nat} {vP : AV} {w : Int} (w0 : 0 < w) (w1 : w ≤ 1000) (n0 : 4 ≤ n) (n1 : n ≤ 7) (o80 : H.next ≤ o8) (g8 : Hb.get o8 = some (.cells [vP, .nils, .nils])) (rP : Rw 2 pairc Hb vP ((fanB.take n).map (scl w))) (nP : ∀ p, rowObj vP = some p → p ≠ o8 ∧ p < Hb.next) {τ0 : Env} (u : Tm τ0 [(8, .ptr o8 0)]) :
    Wp FT k16a τ0 Hb (finQ A16.results fun r _ => r = .bool true) := by
  simp at u
  have lP : ((fanB.take n).map (scl w)).length = n := by rw [List.length_map, List.length_take]; show min n 7 = n; omega
  have o8b : o8 < Hb.next := exb.wf.lt g8
  have hfan := fan_all w0 w1 n0 n1
  generalize hP : (fanB.take n).map (scl w) = P at *
  have f3 : ∀ (e : Opd → AV) (cs : List AV) (off : Nat) (a b c : Int) (r : List (Nat × Nat × Opd)), fillV e cs off 3 (.agg [.int .i64 a, .int .i64 b, .int .i64 c]) r = if off + 3 ≤ cs.length then fillA e (setSeg cs off [.int .i64 a, .int .i64 b, .int .i64 c]) r else none := fun e cs off a b c r => by simp [fillV]
  -- the segments laid, the object written
  have put : ∀ {H1 : Heap} {a b c x : AV} {i : Nat}, Ext H H1 → Hb.next ≤ H1.next → H1.get o8 = some (.cells [a, b, c]) → i < 3 → x.one = true → ∃ H2, storeA H1 1 (.ptr o8 i) x = some (undefA, H2) ∧ H2.get o8 = some (.cells ([a, b, c].set i x)) ∧ Fr [o8] H1 H2 ∧ Ext H H2 := by
    intro H1 a b c x i e1 _ g hi hx
    obtain ⟨H2, s1, s2, s3⟩ := store_cell (off := i) (x := x) e1.wf (by rw [e1.floor]; exact Nat.le_trans hw.1 o80) g (by simpa using hi) hx
    exact ⟨H2, s1, s2, s3, ext_fr hw e1 s3 (fun p hp => by simp at hp; omega)⟩
  simp [k16a, subAt, A16]
  refine Wp_loop (fun m τ H' => ∃ j vT vS, Fn1 H Hb H' vP vT vS P o8 n τ j m) ?_ (n - 2) _ _ ⟨0, .nils, .nils, ⟨exb, Nat.le_refl _, g8, rP, by simpa [fanTo] using Mine.nil, ⟨.inl ⟨rfl, by simp [fanSo, layM, layU]⟩, rfl⟩, fun p hp => (by cases hp), fun p hp => (by cases hp), by omega, by omega, by simp [u]⟩⟩
  rintro m τ H1 ⟨j, vT, vS, ⟨ex, nx, g8, rP, mi, rS, nS, dS, le, rfl, t⟩⟩
  simp at t
  obtain ⟨t8, t9⟩ := t
  have b0 : loadA H1 none (.ptr o8 0) = some vP := load_get g8 rfl
  have b1 : loadA H1 none (.ptr o8 1) = some vT := load_get g8 rfl
  have b2 : loadA H1 none (.ptr o8 2) = some vS := load_get g8 rfl
  have wj : IntKind.i64.wrap ((j : Int) + 1 + 1) = (j : Int) + 1 + 1 := wrap64 (by omega) (by omega)
  have lS : (fanSo j).length ≤ j := by have := layM_len ((List.range j).map fun (i : Nat) => ((i : Int) + 1, (i : Int) + 2)); simpa [fanSo] using this
  have keepP : ∀ {H2 H3 : Heap}, Rw 2 pairc H2 vP P → Fr [o8] H2 H3 → Rw 2 pairc H3 vP P := fun h k => h.fr k fun p hp => by simpa using (nP p hp).1
  by_cases q : j + 2 < n
  · have q' : (j : Int) + 1 + 1 < n := by omega
    have lT : (fanTo j).length = j := by simp [fanTo]
    obtain ⟨vT', H2, a1, a2, a3, a4⟩ := mi.app1 tric_len (by omega) tric_one (bytes := 24) ex.wf nx ((0 : Int), (j : Int) + 1, (j : Int) + 2) (by omega)
    have e12 : (j : Int) + 1 + 1 = (j : Int) + 2 := by omega
    have a1' : appendA 3 24 (H1.push (.cells [.int .i64 0, .int .i64 ((j : Int) + 1), .int .i64 ((j : Int) + 1 + 1)])) vT (.slc H1.next 0 1 3 1 true) = some (vT', H2) := by rw [e12]; exact a1
    have ex2 : Ext H H2 := ext_fr hw ex a3 (fun p hp => by have := mi.new p (by simpa using hp); have := exb.next; omega)
    have nx2 : Hb.next ≤ H2.next := Nat.le_trans nx a3.next
    have newT : ∀ p, rowObj vT = some p → p ≠ o8 := fun p hp => by have := mi.new p hp; omega
    have g82 := a3.keep _ _ (fun hm => newT o8 (by simpa using hm) rfl) g8
    have rP2 : Rw 2 pairc H2 vP P := rP.fr a3 fun p hp hm => by
      have h1 := mi.new p (by simpa using hm)
      have h2 := (nP p hp).2
      omega
    have rS2 : Rw 2 pairc H2 vS (fanSo j) := rS.fr a3 fun p hp hm => dS p hp (by simpa using hm)
    obtain ⟨H3, s1, s2, s3, ex3⟩ := put (i := 1) (x := vT') ex2 nx2 g82 (by omega) (a2.ow.rw tric_len).one.1
    have c2 : loadA H3 none (.ptr o8 2) = some vS := load_get s2 rfl
    have rS3 := rS2.fr s3 (fun p hp => by have := nS p hp; simp; omega)
    have a23 := a2.fr s3 (fun p hp => by have := a2.new p hp; simp; omega)
    simp [q', t8, t9, b0, b1, rP.len, lP, f3, setSeg, wj, a1', s1, c2]
    refine (lay40 h40 ex3.wf (s := ((j : Int) + 1, (j : Int) + 1 + 1)) rS3 (by omega)).mono ?_
    rintro vS' H4 ⟨r1, e4, r3⟩
    obtain ⟨H5, p1, p2, p3, ex5⟩ := put (i := 2) (x := vS') (ex3.trans e4) (by have := s3.next; have := e4.next; omega) (e4.keep _ _ s2) (by omega) r1.one.1
    have hsn := s3.next
    simp [t8, t9, wj, p1]
    refine ⟨n - 2 - (j + 1), by omega, j + 1, vT', vS', ⟨ex5, by have := e4.next; have := p3.next; omega, p2, keepP ((keepP rP2 s3).ext e4) p3, ?_, ?_, fun p hp => by have := r3 p hp; omega, fun p hp hT => ?_, by omega, by omega, by simp [t8]⟩⟩
    · rw [fanTo_succ]
      exact (a23.ext e4).fr p3 (fun p hp => by have := a23.new p hp; simp; omega)
    · rw [fanSo_succ]
      have e12' : ((j : Int) + 1, (j : Int) + 1 + 1) = ((j : Int) + 1, (j : Int) + 2) := by rw [e12]
      rw [e12'] at r1
      exact r1.fr p3 (fun p hp => by have := r3 p hp; simp; omega)
    · have h1 := r3 p hp
      have h2 := a23.lt s3.wf hT
      omega
  · have hj : j = n - 2 := by omega
    subst hj
    have q' : ¬ ((n - 2 : Nat) : Int) + 1 + 1 < n := by omega
    have q2 : ((n - 2 : Nat) : Int) + 1 + 1 = n := by omega
    have wn : IntKind.i64.wrap (n : Int) = n := wrap64 (by omega) (by omega)
    have wn1 : IntKind.i64.wrap ((n : Int) - 1) = (n : Int) - 1 := wrap64 (by omega) (by omega)
    simp [q2, wn, t8, t9, b0, rP.len, lP, b2]
    refine (lay40 h40 ex.wf (s := (0, 1)) rS (by omega)).mono ?_
    rintro vS' H4 ⟨r1, e4, r3⟩
    obtain ⟨H5, p1, p2, p3, ex5⟩ := put (i := 2) (x := vS') (ex.trans e4) (by have := e4.next; omega) (e4.keep _ _ g8) (by omega) r1.one.1
    have c0 : loadA H5 none (.ptr o8 0) = some vP := load_get p2 rfl
    have c2 : loadA H5 none (.ptr o8 2) = some vS' := load_get p2 rfl
    have r15 := r1.fr p3 (fun p hp => by have := r3 p hp; simp; omega)
    have rP5 := keepP (rP.ext e4) p3
    have mi5 := (mi.ext e4).fr p3 (fun p hp => by have := mi.new p hp; simp; omega)
    have lS1 : (insU ltS (fanSo (n - 2)) (upE (0, 1))).length ≤ 100 := by have := insU_len (lt := ltS) (upE (0, 1)) (fanSo (n - 2)); omega
    simp [t8, p1, c0, c2, rP5.len, lP, wn1]
    refine (lay40 h40 ex5.wf (s := (0, (n : Int) - 1)) r15 (by omega)).mono ?_
    rintro vS2 H6 ⟨r61, e6, r63⟩
    obtain ⟨H7, d1, d2, d3, ex7⟩ := put (i := 2) (x := vS2) (ex5.trans e6) (by have := e4.next; have := p3.next; have := e6.next; omega) (e6.keep _ _ p2) (by omega) r61.one.1
    have l8 : loadA H7 (some 3) (.ptr o8 0) = some (.agg [vP, vT, vS2]) := load_agg d2 rfl
    have p3n := p3.next
    have e4n := e4.next
    have e6n := e6.next
    have r7S := r61.fr d3 (fun p hp => by have := r63 p hp; simp; omega)
    have rP7 := keepP (rP5.ext e6) d3
    have mi7 := (mi5.ext e6).fr d3 (fun p hp => by have := mi5.new p hp; simp; omega)
    have hT : fanTo (n - 2) = fanT n := rfl
    rw [← fanS_end (by omega)] at r7S
    rw [hT] at mi7
    have hm : Msh H7 (.agg [vP, vT, vS2]) P (fanT n) (fanS n) := ⟨_, _, _, rfl, rP7, mi7.ow.rw tric_len, r7S⟩
    have lT : (fanT n).length = n - 2 := by simp [fanT]
    have lS2 : (fanS n).length ≤ 1000 := by
      have := layM_len (((List.range (n - 2)).map fun (i : Nat) => ((i : Int) + 1, (i : Int) + 2)) ++ [(0, 1), (0, (n : Int) - 1)])
      unfold fanS
      simp only [List.length_append, List.length_map, List.length_range, List.length_cons, List.length_nil] at this
      omega
    simp [t8, d1, l8]
    refine (pairs51 L.p ex7.wf hm (by omega) (by omega) (by omega)).mono ?_
    rintro r8 H8 ⟨⟨y8, _⟩, e8⟩
    obtain ⟨v10, rfl, hv10, _⟩ := y8 hfan.1
    rw [hfan.2] at hv10
    have b1' : loadA H8 none (.ptr o8 1) = some vT := load_get (e8.keep _ _ d2) rfl
    have lTl : lenA vT = some (.int .i64 ((n - 2 : Nat) : Int)) := by rw [← lT]; exact (mi7.ow.rw tric_len).len
    have lVl : lenA v10 = some (.int .i64 ((n - 3 : Nat) : Int)) := by rw [← fanL_len n]; exact hv10.len
    have w3 : IntKind.i64.wrap (((n - 2 : Nat) : Int) - 1) = ((n - 3 : Nat) : Int) := by rw [wrap64 (by omega) (by omega)]; omega
    simp [t8, b1', lTl, lVl, w3]
    refine Wp_loop (fun m τ H' => ∃ i, Fn2 H8 H' v10 n τ i m) ?_ (n - 3) _ _ ⟨0, ⟨rfl, by omega, by omega, by simp⟩⟩
    rintro m τ2 _ ⟨i, ⟨rfl, hi, rfl, w⟩⟩
    simp at w
    obtain ⟨w10, w12⟩ := w
    by_cases qi : i < n - 3
    · have qi' : (i : Int) < ((n - 3 : Nat) : Int) := by omega
      have wi : IntKind.i64.wrap ((i : Int) + 1) = (i : Int) + 1 := wrap64 (by omega) (by omega)
      obtain ⟨o1, off1, x, a1, a2, a3, _⟩ := Pairs.idx (hv10.sl pairc_len) (k := .i64) (i := (i : Int)) (by omega) (by rw [fanL_len]; omega)
      rw [Int.toNat_natCast, fanL_get qi] at a1
      cases a1
      have hne : binA .neq (.flat [.int, .int]) (.agg (pairc ((i : Int), (i : Int) + 1))) (.agg [.int .i64 i, .int .i64 ((i : Int) + 1)]) = some (.bool false) := by
        show (eqA (.flat [.int, .int]) (.agg (pairc ((i : Int), (i : Int) + 1))) (.agg (pairc ((i : Int), (i : Int) + 1)))).map (fun b => AV.bool !b) = _
        rw [cells_pair, decide_eq_true rfl]; rfl
      simp [qi', w10, w12, lVl, a2, a3, wi, setSeg, hne]
      exact ⟨_, by omega, i + 1, ⟨rfl, by omega, rfl, by simp [w10]⟩⟩
    · have hi2 : i = n - 3 := by omega
      subst hi2
      simp [w10, w12, lVl]
      refine (known44 L e8.wf).mono ?_
      rintro _ _ ⟨rfl, _⟩
      simp
end
end Go.Proofs.Ytcepchipgjpkhaa
