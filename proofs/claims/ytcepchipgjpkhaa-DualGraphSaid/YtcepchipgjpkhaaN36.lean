/- Many; the statement DualGraph, walked. No claim by itself. -/
import Derived.Test.YtcepchipgjpkhaaNG
import Derived.Test.YtcepchipgjpkhaaNF
import Derived.Test.YtcepchipgjpkhaaMM
namespace Go.Proofs.Ytcepchipgjpkhaa
open Go Go.AI
section
variable {FT : Nat → Option FnD} {H H' : Heap}
def manyM (P : List (Int × Int)) (T : List Tri) (S : List (Int × Int)) : Bool := decide (40 < P.length) || (decide (60 < T.length) || decide (80 < S.length))
theorem manyM_no {P : List (Int × Int)} {T : List Tri} {S : List (Int × Int)} (h : manyM P T S = false) : P.length ≤ 40 ∧ T.length ≤ 60 ∧ S.length ≤ 80 := by
  simp [manyM] at h
  omega
theorem many42 (h42 : FT 42 = some (.code A42)) (hw : H.Wf) {x : AV} {P : List (Int × Int)} {T : List Tri} {S : List (Int × Int)} (hm : Msh H x P T S) :
    Cp FT 42 [x] H (fun r H' => r = .bool (manyM P T S) ∧ Ext H H') := by
  obtain ⟨vP, vT, vS, rfl, rP, rT, rS⟩ := hm.ex
  refine Cp_code A42 h42 rfl ?_
  obtain ⟨g1, e1⟩ := push_new hw (.cells [vP, vT, vS])
  have hall : allOne [vP, vT, vS] = true := by simp [allOne, rP.one.1, rT.one.1, rS.one.1]
  generalize hH1 : H.push (.cells [vP, vT, vS]) = H1 at g1 e1
  have f0 : loadA H1 none (.ptr H.next 0) = some vP := load_get g1 rfl
  have f1 : loadA H1 none (.ptr H.next 1) = some vT := load_get g1 rfl
  have f2 : loadA H1 none (.ptr H.next 2) = some vS := load_get g1 rfl
  by_cases c1 : (40 : Int) < P.length
  · have hv : manyM P T S = true := by have : 40 < P.length := by omega
                                       simp [manyM, this]
    simp [A42, hall, hH1, f0, rP.len, c1, hv]
    exact e1
  · by_cases c2 : (60 : Int) < T.length
    · have hv : manyM P T S = true := by have : 60 < T.length := by omega
                                         simp [manyM, this]
      simp [A42, hall, hH1, f0, f1, rP.len, rT.len, c1, c2, hv]
      exact e1
    · by_cases c3 : (80 : Int) < S.length
      · have hv : manyM P T S = true := by have : 80 < S.length := by omega
                                           simp [manyM, this]
        simp [A42, hall, hH1, f0, f1, f2, rP.len, rT.len, rS.len, c1, c2, c3, hv]
        exact e1
      · have hv : manyM P T S = false := by
          have h1 : ¬ 40 < P.length := by omega
          have h2 : ¬ 60 < T.length := by omega
          have h3 : ¬ 80 < S.length := by omega
          simp only [manyM, decide_eq_false h1, decide_eq_false h2, decide_eq_false h3, Bool.or_self]
        simp [A42, hall, hH1, f0, f1, f2, rP.len, rT.len, rS.len, c1, c2, c3, hv]
        exact e1
def k13k : ACode := subAt [1, 1, 1, 1, 1, 0, 1, 0, 0, 1, 0, 0, 1, 1, 1] A13.body
theorem prs_len {P S : List (Int × Int)} {T : List Tri} (ok : MeshOk P T S) : (prsM P T S).length ≤ 3 * T.length := by
  rw [← prL_srt ok.nod, show (srtS (prL P T S T.length)).length = (prL P T S T.length).length from srtB_len _]
  exact prL_len P T S T.length
structure Gk (P : List (Int × Int)) (T : List Tri) (S : List (Int × Int)) (H1 H' : Heap) (o1 : Nat) (v3 : AV) (i : Nat) (τ : Env) (k m : Nat) : Prop where
  ex : Ext H1 H'
  lo : i + 1 ≤ k
  le : k ≤ T.length
  hm : m = T.length - k
  t : Tm τ [(1, .ptr o1 0), (3, v3), (5, .int .i64 (rankS (prsM P T S) ((i : Int), (k : Int)) : Nat)), (6, .int .i64 i), (8, .int .i64 k)]
theorem gr_k (L : LawM FT) {H1 : Heap} (hw : H1.Wf) {o1 i : Nat} {vP vT vS v3 : AV} {P : List (Int × Int)} {T : List Tri} {S : List (Int × Int)} (ok : MeshOk P T S) (hm : Msh H1 (.agg [vP, vT, vS]) P T S) (rT : Tris H1 vT T) (g1 : H1.get o1 = some (.cells [vP, vT, vS])) (r3 : Pairs H1 v3 (prsM P T S)) (lP : P.length ≤ 40) (lT : T.length ≤ 60) (lS : S.length ≤ 80) (hi : i < T.length) {τ0 : Env}
    (w : Tm τ0 [(1, .ptr o1 0), (3, v3), (5, .int .i64 (rankS (prsM P T S) ((i : Int), (i : Int) + 1) : Nat)), (6, .int .i64 i), (8, .int .i64 ((i : Int) + 1))]) :
    Wp FT k13k τ0 H1 (fun c τ H' => c = .next ∧ Ext H1 H' ∧ Tm τ [(1, .ptr o1 0), (3, v3), (5, .int .i64 (rankS (prsM P T S) ((i : Int) + 1, (i : Int) + 2) : Nat)), (6, .int .i64 i)]) := by
  simp at w
  obtain ⟨w1, w3, w5, w6, w8⟩ := w
  simp [k13k, subAt, A13]
  refine Wp_loop (fun m τ H' => ∃ k, Gk P T S H1 H' o1 v3 i τ k m) ?_ (T.length - (i + 1)) _ _ ⟨i + 1, ⟨Ext.refl hw, by omega, by omega, by omega, by simp [w1, w3, w5, w6, w8]⟩⟩
  rintro m τ H2 ⟨k, ⟨ex, lo, le, rfl, u⟩⟩
  simp at u
  obtain ⟨t1, t3, t5, t6, t8⟩ := u
  have l1 : loadA H2 (some 3) (.ptr o1 0) = some (.agg [vP, vT, vS]) := load_agg (ex.keep _ _ g1) rfl
  have f1 : loadA H2 none (.ptr o1 1) = some vT := load_get (ex.keep _ _ g1) rfl
  have hlen := prs_len ok
  by_cases q : k < T.length
  · have wk : IntKind.i64.wrap ((k : Int) + 1) = (k : Int) + 1 := wrap64 (by omega) (by omega)
    simp [q, t1, t6, t8, f1, rT.len, l1]
    refine (quad45 L.p ex.wf (i := i) (k := k) (hm.ext ex) (by omega) (by omega) (by omega)).mono ?_
    rintro _ H3 ⟨⟨v9, rfl, _, _⟩, e3⟩
    rw [quad_in ok (by omega) q]
    have hst := rank_step (P := P) (S := S) (T := T) (i := i) (k := k)
    have hget := rank_get (s := ((i : Int), (k : Int))) (prsM_rise P T S)
    have hle : rankS (prsM P T S) ((i : Int), (k : Int)) ≤ (prsM P T S).length := List.countP_le_length
    generalize hr : rankS (prsM P T S) ((i : Int), (k : Int)) = r at *
    have x3 := ex.trans e3
    have r33 := r3.ext x3
    have f2 : ∀ (e : Opd → AV) (cs : List AV) (off : Nat) (a b : Int) (r : List (Nat × Nat × Opd)), fillV e cs off 2 (.agg [.int .i64 a, .int .i64 b]) r = if off + 2 ≤ cs.length then fillA e (setSeg cs off [.int .i64 a, .int .i64 b]) r else none := fun e cs off a b r => fillV_2 rfl rfl
    by_cases hin : ((i : Int), (k : Int)) ∈ prsM P T S
    · have hg := hget.2 hin
      have hrl : r < (prsM P T S).length := (List.getElem?_eq_some_iff.1 hg).1
      obtain ⟨o, off, x, b1, b2, b3, _⟩ := Pairs.idx r33 (k := .i64) (i := (r : Int)) (by omega) (by omega)
      rw [Int.toNat_natCast, hg] at b1
      cases b1
      rw [if_pos hin] at hst
      have wr : IntKind.i64.wrap ((r : Int) + 1) = (r : Int) + 1 := wrap64 (by omega) (by omega)
      have he : binA .eql (.flat [.int, .int]) (.agg (pairc ((i : Int), (k : Int)))) (.agg [.int .i64 i, .int .i64 k]) = some (.bool true) := (eqlPair ((i : Int), (k : Int)) ((i : Int), (k : Int))).trans (by rw [decide_eq_true rfl])
      simp [hin, t3, t5, t6, t8, r33.len, hrl, b2, b3, setSeg, he, wr, wk]
      exact ⟨_, by omega, k + 1, ⟨x3, by omega, by omega, rfl, by simp [t1, t3, t6, hst]⟩⟩
    · rw [if_neg hin] at hst
      by_cases hrl : r < (prsM P T S).length
      · obtain ⟨o, off, x, b1, b2, b3, _⟩ := Pairs.idx r33 (k := .i64) (i := (r : Int)) (by omega) (by omega)
        rw [Int.toNat_natCast] at b1
        have hx : x ≠ ((i : Int), (k : Int)) := fun h => hin (hget.1 (h ▸ b1))
        have he : binA .eql (.flat [.int, .int]) (.agg (pairc x)) (.agg [.int .i64 i, .int .i64 k]) = some (.bool false) := (eqlPair x ((i : Int), (k : Int))).trans (by rw [decide_eq_false hx])
        simp [hin, t3, t5, t6, t8, r33.len, hrl, b2, b3, setSeg, he, wk]
        exact ⟨_, by omega, k + 1, ⟨x3, by omega, by omega, rfl, by simp [t1, t3, t5, t6, hst]⟩⟩
      · simp [hin, t3, t5, t8, r33.len, hrl, wk]
        exact ⟨_, by omega, k + 1, ⟨x3, by omega, by omega, rfl, by simp [t1, t3, t5, t6, hst]⟩⟩
  · simp [q, t1, t8, f1, rT.len]
    refine ⟨ex, t3, ?_, t6⟩
    rw [t5, rank_row (k := k) (by omega)]
theorem body13 : A13.body = putAt [1, 1, 1, 1, 1, 0, 1, 0, 0, 1, 0, 0, 1, 1, 1] A13.body k13k := rfl
structure Gi (P : List (Int × Int)) (T : List Tri) (S : List (Int × Int)) (H1 H' : Heap) (o1 : Nat) (v3 : AV) (τ : Env) (i m : Nat) : Prop where
  ex : Ext H1 H'
  le : i ≤ T.length
  hm : m = T.length - i
  t : Tm τ [(1, .ptr o1 0), (3, v3), (5, .int .i64 (rankS (prsM P T S) ((i : Int), (i : Int) + 1) : Nat)), (6, .int .i64 i)]
theorem graph13 (L : LawM FT) (R : RefT FT) (h42 : FT 42 = some (.code A42)) (h13 : FT 13 = some (.code A13)) (hw : H.Wf) {x : AV} {P : List (Int × Int)} {T : List Tri} {S : List (Int × Int)} (hm : Msh H x P T S) :
    Cp FT 13 [x] H (fun r _ => r = .bool true) := by
  obtain ⟨vP, vT, vS, rfl, rP, rT, rS⟩ := hm.ex
  refine Cp_code A13 h13 rfl ?_
  rw [body13]
  have hkk := @gr_k FT L
  generalize k13k = kk at hkk ⊢
  obtain ⟨g1, e1⟩ := push_new hw (.cells [vP, vT, vS])
  have hall : allOne [vP, vT, vS] = true := by simp [allOne, rP.one.1, rT.one.1, rS.one.1]
  generalize hH1 : H.push (.cells [vP, vT, vS]) = H1 at g1 e1
  have l1 : loadA H1 (some 3) (.ptr H.next 0) = some (.agg [vP, vT, vS]) := load_agg g1 rfl
  have ld : ∀ {H2 : Heap}, Ext H1 H2 → loadA H2 (some 3) (.ptr H.next 0) = some (.agg [vP, vT, vS]) ∧ loadA H2 none (.ptr H.next 1) = some vT := fun e => ⟨load_ext l1 e, load_get (e.keep _ _ g1) rfl⟩
  simp [A13, putAt, hall, hH1, l1]
  refine (many42 h42 e1.wf (hm.ext e1)).mono ?_
  rintro _ H2 ⟨rfl, e2⟩
  obtain ⟨l2, _⟩ := ld e2
  cases hmy : manyM P T S with
  | true =>
    simp
    refine (known44 L e2.wf).mono ?_
    rintro _ _ ⟨rfl, _⟩
    simp
  | false =>
    obtain ⟨lP, lT, lS⟩ := manyM_no hmy
    have e12 := e1.trans e2
    simp [l2]
    refine (check43 R e2.wf (hm.ext e12) (by omega) (by omega) (by omega)).mono ?_
    rintro _ H3 ⟨rfl, e3⟩
    have x3 := e2.trans e3
    obtain ⟨l3, _⟩ := ld x3
    by_cases ok : MeshOk P T S
    · rw [chkM_ok ok]
      simp [l3]
      refine (pairs51 L.p x3.wf (hm.ext (e1.trans x3)) (by omega) (by omega) (by omega)).mono ?_
      rintro _ H4 ⟨⟨hy, _⟩, e4⟩
      obtain ⟨v3, rfl, r3, _⟩ := hy ok
      have x4 := x3.trans e4
      simp
      refine Wp_loop (fun m τ H' => ∃ i, Gi P T S H4 H' H.next v3 τ i m) ?_ T.length _ _ ⟨0, ⟨Ext.refl e4.wf, by omega, by omega, by simp [rank_start]⟩⟩
      rintro m τ H5 ⟨i, ⟨ex, hi, rfl, u⟩⟩
      simp at u
      obtain ⟨t1, t3, t5, t6⟩ := u
      have x5 := x4.trans ex
      obtain ⟨l5, f5⟩ := ld x5
      by_cases q : i < T.length
      · have wi : IntKind.i64.wrap ((i : Int) + 1) = (i : Int) + 1 := wrap64 (by omega) (by omega)
        simp [q, t1, t6, f5, rT.len, l5]
        refine (beside52 L.p L.h52 L.h62 ex.wf (i := i) (hm.ext (e1.trans x5)) (by omega) (by omega) (by omega)).mono ?_
        rintro v7 H6 ⟨⟨hb, _⟩, e6⟩
        have r7 := hb ok
        have hlen : (srtI (besL P T S i)).length ≤ 3 := by rw [show (srtI (besL P T S i)).length = (besL P T S i).length from srtB_len _]; exact bes_le ok (List.getElem?_eq_getElem q)
        have hl3 : ¬ (3 : Int) < (srtI (besL P T S i)).length := by omega
        have x6 := x5.trans e6
        simp [r7.len, hl3, t6, wi]
        refine (hkk x6.wf ok (hm.ext (e1.trans x6)) (((rT.sl tric_len).ext e1).ext x6) (x6.keep _ _ g1) ((r3.sl pairc_len).ext (ex.trans e6)) lP lT lS q (by simp [t1, t3, t5, t6])).mono ?_
        rintro _ τ2 H7 ⟨rfl, e7, w⟩
        simp at w
        simp [w, wi]
        exact ⟨_, by omega, i + 1, ⟨ex.trans (e6.trans e7), by omega, rfl, by simp [w, Int.add_assoc]⟩⟩
      · have hiT : i = T.length := by omega
        subst hiT
        rw [rank_end] at t5
        simp [t1, t3, t5, t6, f5, rT.len, ((r3.sl pairc_len).ext ex).len]
        refine (known44 L ex.wf).mono ?_
        rintro _ _ ⟨rfl, _⟩
        simp
    · rw [chkM_no ok]
      simp
      refine (known44 L x3.wf).mono ?_
      rintro _ _ ⟨rfl, _⟩
      simp
end
end Go.Proofs.Ytcepchipgjpkhaa
