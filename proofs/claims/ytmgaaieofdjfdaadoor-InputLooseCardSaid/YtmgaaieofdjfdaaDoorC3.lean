/- The document's asking whether an input may be; its copy. No claim by itself. -/
import Derived.Test.YtmgaaieofdjfdaaDoorC2
namespace Go.Proofs.YtmgaaieofdjfdaaDoor
open Go Go.AI
theorem okPl_no {x : Int × Int} (h : x.1 > 1048576 ∨ x.1 < -1048576 ∨ x.2 > 1048576 ∨ x.2 < -1048576) : okPl x = false := by
  cases hq : okPl x with
  | false => rfl
  | true => simp [okPl, inR] at hq; omega
theorem okPl_yes {x : Int × Int} (h1 : ¬ x.1 > 1048576) (h2 : ¬ x.1 < -1048576) (h3 : ¬ x.2 > 1048576) (h4 : ¬ x.2 < -1048576) : okPl x = true := by
  simp [okPl, inR]; omega
theorem okSg_no {n : Int} {x : Int × Int} (h : x.1 < 0 ∨ n ≤ x.1 ∨ x.2 < 0 ∨ n ≤ x.2) : okSg n x = false := by
  cases hq : okSg n x with
  | false => rfl
  | true => simp [okSg, inR] at hq; omega
theorem okSg_yes {n : Int} {x : Int × Int} (h1 : ¬ x.1 < 0) (h2 : ¬ n ≤ x.1) (h3 : ¬ x.2 < 0) (h4 : ¬ n ≤ x.2) : okSg n x = true := by
  simp [okSg, inR]; omega
section
variable {FT : Nat → Option FnD} {H : Heap}
theorem check16 (h16 : FT 16 = some (.code A16)) (hw : H.Wf) {a b c : AV} {P L I : List (Int × Int)} (h : Pol H a b c P L I) :
    Cp FT 16 [.agg [a, b, c]] H (fun r H' => r = .int .i64 (chkI P L I) ∧ Ext H H') := by
  refine Cp_code A16 h16 rfl ?_
  have h1 := h.one
  have e0 : Ext H (H.push (.cells [a, b, c])) := Ext.push hw _
  have g0 : (H.push (.cells [a, b, c])).get H.next = some (.cells [a, b, c]) := get_pushN.trans (if_pos rfl)
  have w1 : loadA (H.push (.cells [a, b, c])) none (.ptr H.next 0) = some a := load_get g0 rfl
  have w2 : loadA (H.push (.cells [a, b, c])) none (.ptr H.next 1) = some b := load_get g0 rfl
  have w3 : loadA (H.push (.cells [a, b, c])) none (.ptr H.next 2) = some c := load_get g0 rfl
  by_cases c1 : 200 < P.length
  · have c1' : (200 : Int) < P.length := by omega
    have n1 : ¬ P.length ≤ 200 := by omega
    have hv : chkI P L I = 2 := by simp [chkI, validP, n1]
    simp [A16, h1, w1, h.p.len, c1', hv]
    exact e0
  have c1' : ¬ (200 : Int) < P.length := by omega
  by_cases c2 : 400 < L.length
  · have c2' : (400 : Int) < L.length := by omega
    have n1 : ¬ L.length ≤ 400 := by omega
    have hv : chkI P L I = 2 := by simp [chkI, validP, n1]
    simp [A16, h1, w1, w2, h.p.len, h.l.len, c1', c2', hv]
    exact e0
  have c2' : ¬ (400 : Int) < L.length := by omega
  by_cases c3 : 400 < I.length
  · have c3' : (400 : Int) < I.length := by omega
    have n1 : ¬ I.length ≤ 400 := by omega
    have hv : chkI P L I = 2 := by simp [chkI, validP, n1]
    simp [A16, h1, w1, w2, w3, h.p.len, h.l.len, h.i.len, c1', c2', c3', hv]
    exact e0
  have c3' : ¬ (400 : Int) < I.length := by omega
  simp [A16, h1, w1, w2, w3, h.p.len, h.l.len, h.i.len, c1', c2', c3']
  refine Wp_loop (fun m τ H' => Ext (H.push (.cells [a, b, c])) H' ∧ ∃ i : Nat, i ≤ P.length ∧ m = P.length - i ∧ Env.at τ 1 = .ptr H.next 0 ∧ Env.at τ 3 = .int .i64 P.length ∧ Env.at τ 4 = .int .i64 i ∧ allTo okPl P i = true) ?_ P.length _ _ ⟨Ext.refl e0.wf, 0, by omega, by simp, by simp, by simp, by simp, allTo_zero⟩
  rintro m τ H2 ⟨ex, i, hi, rfl, t1, t3, t4, hall⟩
  have la : loadA H2 none (.ptr H.next 0) = some a := load_get (ex.keep _ _ g0) rfl
  simp only [Wp_seq, Wp_region]
  by_cases hc : i < P.length
  · obtain ⟨o, off, x, hx, hp, hld, l1, l2⟩ := Pairs.idx (h.p.ext (e0.trans ex)) (k := .i64) (i := i) (by omega) (by omega)
    rw [Int.toNat_natCast] at hx
    have w : IntKind.i64.wrap ((i : Int) + 1) = ((i + 1 : Nat) : Int) := wrap64 (by omega) (by omega)
    have hno : okPl x = false → chkI P L I = 2 := fun q => by simp [chkI, validP, all_no hx q]
    by_cases r1 : 1048576 < x.1
    · simp [hc, t1, t3, t4, la, hp, l1, r1, hno (okPl_no (.inl r1))]; exact e0.trans ex
    by_cases r2 : x.1 < -1048576
    · simp [hc, t1, t3, t4, la, hp, l1, r1, r2, hno (okPl_no (.inr (.inl r2)))]; exact e0.trans ex
    by_cases r3 : 1048576 < x.2
    · simp [hc, t1, t3, t4, la, hp, l1, l2, r1, r2, r3, hno (okPl_no (.inr (.inr (.inl r3))))]; exact e0.trans ex
    by_cases r4 : x.2 < -1048576
    · simp [hc, t1, t3, t4, la, hp, l1, l2, r1, r2, r3, r4, hno (okPl_no (.inr (.inr (.inr r4))))]; exact e0.trans ex
    simp [hc, t1, t3, t4, la, hp, l1, l2, r1, r2, r3, r4, w]
    exact ⟨_, by omega, ex, i + 1, by omega, rfl, by simp, allTo_succ hx (okPl_yes r1 r2 r3 r4) hall⟩
  · have hPall := allTo_all (by omega) hall
    have hc' : ¬ ((i : Int) < P.length) := by omega
    simp [hc', t1, t3, t4]
    refine Wp_loop (fun m τ H' => Ext (H.push (.cells [a, b, c])) H' ∧ ∃ j : Nat, j ≤ L.length + I.length ∧ m = L.length + I.length - j ∧ Env.at τ 1 = .ptr H.next 0 ∧ Env.at τ 3 = .int .i64 P.length ∧ Env.at τ 5 = .int .i64 j ∧ allTo (okSg P.length) (L ++ I) j = true) ?_ (L.length + I.length) _ _ ⟨ex, 0, by omega, by simp, by simp [t1], by simp [t3], by simp, allTo_zero⟩
    rintro m τ H2 ⟨ex, j, hj, rfl, t1, t3, t5, hall⟩
    have lb : loadA H2 none (.ptr H.next 1) = some b := load_get (ex.keep _ _ g0) rfl
    have lc : loadA H2 none (.ptr H.next 2) = some c := load_get (ex.keep _ _ g0) rfl
    have wl : IntKind.i64.wrap ((L.length : Int) + (I.length : Int)) = (L.length : Int) + I.length := wrap64 (by omega) (by omega)
    have w : IntKind.i64.wrap ((j : Int) + 1) = ((j + 1 : Nat) : Int) := wrap64 (by omega) (by omega)
    simp only [Wp_seq, Wp_region]
    by_cases hcj : j < L.length + I.length
    · have hcj' : (j : Int) < (L.length : Int) + I.length := by omega
      obtain ⟨H3, st, g3, e3, n3⟩ := store_new ex.wf (z := [.int .i64 0, .int .i64 0]) (n := 2) (x := .agg [.int .i64 0, .int .i64 0]) rfl rfl rfl rfl
      have ex3 := ex.trans e3
      have lb3 : loadA H3 none (.ptr H.next 1) = some b := load_get (ex3.keep _ _ g0) rfl
      have lc3 : loadA H3 none (.ptr H.next 2) = some c := load_get (ex3.keep _ _ g0) rfl
      have fin : ∀ x : Int × Int, (L ++ I)[j]? = some x → storeA H3 2 (.ptr H2.next 0) (.agg (pairc x)) = some (undefA, H3.set H2.next (.cells (pairc x))) ∧ loadA (H3.set H2.next (.cells (pairc x))) none (.ptr H2.next 0) = some (.int .i64 x.1) ∧ loadA (H3.set H2.next (.cells (pairc x))) none (.ptr H2.next 1) = some (.int .i64 x.2) ∧ Ext (H.push (.cells [a, b, c])) (H3.set H2.next (.cells (pairc x))) ∧ (okSg P.length x = false → chkI P L I = 2) := by
        intro x hx
        have hfl : H3.floor ≤ H2.next := by rw [e3.floor]; exact ex.wf.1
        have gs : (H3.set H2.next (.cells (pairc x))).get H2.next = some (.cells (pairc x)) := get_setH.trans (if_pos rfl)
        refine ⟨store_all rfl rfl hfl g3 rfl rfl, load_get gs rfl, load_get gs rfl, ex3.setNew e0.wf ex.next (by omega), fun q => ?_⟩
        have : (L ++ I).all (okSg P.length) = false := all_no hx q
        rw [List.all_append] at this
        exact if_neg fun q2 => by
          simp only [validP, Bool.and_eq_true] at q2
          rw [q2.1.2, q2.2] at this; cases this
      by_cases hjl : j < L.length
      · have hjl' : (j : Int) < L.length := by omega
        obtain ⟨o, off, x, hx, hp, hld, _, _⟩ := Pairs.idx (h.l.ext (e0.trans ex3)) (k := .i64) (i := j) (by omega) (by omega)
        rw [Int.toNat_natCast] at hx
        obtain ⟨st2, l1, l2, ex4, hno⟩ := fin x (by rw [List.getElem?_append_left (by omega)]; exact hx)
        generalize H3.set H2.next (.cells (pairc x)) = H4 at st2 l1 l2 ex4
        by_cases r1 : x.1 < 0
        · simp [t1, t3, t5, lb, lc, h.l.len, h.i.len, wl, hcj', st, lb3, hjl', hp, hld, st2, l1, r1, hno (okSg_no (.inl r1))]; exact e0.trans ex4
        by_cases r2 : (P.length : Int) ≤ x.1
        · simp [t1, t3, t5, lb, lc, h.l.len, h.i.len, wl, hcj', st, lb3, hjl', hp, hld, st2, l1, r1, r2, hno (okSg_no (.inr (.inl r2)))]; exact e0.trans ex4
        by_cases r3 : x.2 < 0
        · simp [t1, t3, t5, lb, lc, h.l.len, h.i.len, wl, hcj', st, lb3, hjl', hp, hld, st2, l1, l2, r1, r2, r3, hno (okSg_no (.inr (.inr (.inl r3))))]; exact e0.trans ex4
        by_cases r4 : (P.length : Int) ≤ x.2
        · simp [t1, t3, t5, lb, lc, h.l.len, h.i.len, wl, hcj', st, lb3, hjl', hp, hld, st2, l1, l2, r1, r2, r3, r4, hno (okSg_no (.inr (.inr (.inr r4))))]; exact e0.trans ex4
        simp [t1, t3, t5, lb, lc, h.l.len, h.i.len, wl, hcj', st, lb3, hjl', hp, hld, st2, l1, l2, r1, r2, r3, r4, w]
        exact ⟨_, by omega, ex4, j + 1, by omega, rfl, by simp, allTo_succ (by rw [List.getElem?_append_left (by omega)]; exact hx) (okSg_yes r1 r2 r3 r4) hall⟩
      · have hjl' : ¬ (j : Int) < L.length := by omega
        have ws : IntKind.i64.wrap ((j : Int) - (L.length : Int)) = ((j - L.length : Nat) : Int) := by rw [wrap64 (by omega) (by omega)]; omega
        obtain ⟨o, off, x, hx, hp, hld, _, _⟩ := Pairs.idx (h.i.ext (e0.trans ex3)) (k := .i64) (i := ((j - L.length : Nat) : Int)) (by omega) (by omega)
        rw [Int.toNat_natCast] at hx
        have hx' : (L ++ I)[j]? = some x := by rw [List.getElem?_append_right (by omega)]; exact hx
        obtain ⟨st2, l1, l2, ex4, hno⟩ := fin x hx'
        generalize H3.set H2.next (.cells (pairc x)) = H4 at st2 l1 l2 ex4
        by_cases r1 : x.1 < 0
        · simp [t1, t3, t5, lb, lc, h.l.len, h.i.len, wl, ws, hcj', st, lb3, lc3, hjl', hp, hld, st2, l1, r1, hno (okSg_no (.inl r1))]; exact e0.trans ex4
        by_cases r2 : (P.length : Int) ≤ x.1
        · simp [t1, t3, t5, lb, lc, h.l.len, h.i.len, wl, ws, hcj', st, lb3, lc3, hjl', hp, hld, st2, l1, r1, r2, hno (okSg_no (.inr (.inl r2)))]; exact e0.trans ex4
        by_cases r3 : x.2 < 0
        · simp [t1, t3, t5, lb, lc, h.l.len, h.i.len, wl, ws, hcj', st, lb3, lc3, hjl', hp, hld, st2, l1, l2, r1, r2, r3, hno (okSg_no (.inr (.inr (.inl r3))))]; exact e0.trans ex4
        by_cases r4 : (P.length : Int) ≤ x.2
        · simp [t1, t3, t5, lb, lc, h.l.len, h.i.len, wl, ws, hcj', st, lb3, lc3, hjl', hp, hld, st2, l1, l2, r1, r2, r3, r4, hno (okSg_no (.inr (.inr (.inr r4))))]; exact e0.trans ex4
        simp [t1, t3, t5, lb, lc, h.l.len, h.i.len, wl, ws, hcj', st, lb3, lc3, hjl', hp, hld, st2, l1, l2, r1, r2, r3, r4, w]
        exact ⟨_, by omega, ex4, j + 1, by omega, rfl, by simp, allTo_succ hx' (okSg_yes r1 r2 r3 r4) hall⟩
    · have hcj' : ¬ (j : Int) < (L.length : Int) + I.length := by omega
      have hLI := allTo_all (by rw [List.length_append]; omega) hall
      rw [List.all_append, Bool.and_eq_true] at hLI
      have hv : chkI P L I = 0 := by
        have n1 : P.length ≤ 200 := by omega
        have n2 : L.length ≤ 400 := by omega
        have n3 : I.length ≤ 400 := by omega
        simp only [chkI, validP, hPall, hLI.1, hLI.2, n1, n2, n3, decide_true, Bool.and_self, if_true]
      simp [t1, t5, lb, lc, h.l.len, h.i.len, wl, hcj', hv]
      exact e0.trans ex
end
end Go.Proofs.YtmgaaieofdjfdaaDoor
