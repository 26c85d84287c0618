/- May an input be? Both askings. No claim by itself. -/
import Derived.Test.YtmgaaieofdjfdaaDoorTab
import Derived.Test.YtmgaaieofdjfdaaDoorE30
namespace Go.Proofs.YtmgaaieofdjfdaaDoor
open Go Go.AI
def inR (lo hi x : Int) : Bool := decide (lo ≤ x) && decide (x ≤ hi)
def okPl (q : Int × Int) : Bool := inR (-1048576) 1048576 q.1 && inR (-1048576) 1048576 q.2
def okSg (n : Int) (q : Int × Int) : Bool := inR 0 (n - 1) q.1 && inR 0 (n - 1) q.2
def validP (P L I : List (Int × Int)) : Bool :=
  decide (P.length ≤ 200) && decide (L.length ≤ 400) && decide (I.length ≤ 400) && P.all okPl && L.all (okSg P.length) && I.all (okSg P.length)
def chkI (P L I : List (Int × Int)) : Int := if validP P L I = true then 0 else 2
section
variable {FT : Nat → Option FnD} {H : Heap}
theorem in23 (h23 : FT 23 = some (.code A23)) {n lo hi : Int} : Cp FT 23 [.int .i64 n, .int .i64 lo, .int .i64 hi] H (fun r H' => r = .bool (inR lo hi n) ∧ H' = H) := by
  refine Cp_code A23 h23 rfl ?_
  by_cases c1 : lo ≤ n <;> by_cases c2 : n ≤ hi <;> simp [A23, c1, c2, inR]
def allTo (f : Int × Int → Bool) (l : List (Int × Int)) (i : Nat) : Bool := (l.take i).all f
theorem allTo_zero {f : Int × Int → Bool} {l : List (Int × Int)} : allTo f l 0 = true := by simp [allTo]
theorem allTo_succ {f : Int × Int → Bool} {l : List (Int × Int)} {i : Nat} {x : Int × Int} (h : l[i]? = some x) (hx : f x = true) (ha : allTo f l i = true) : allTo f l (i + 1) = true := by
  unfold allTo at *; rw [List.take_add_one, h]; simp [hx, List.all_append, ha]
theorem allTo_all {f : Int × Int → Bool} {l : List (Int × Int)} {i : Nat} (hi : l.length ≤ i) (ha : allTo f l i = true) : l.all f = true := by
  unfold allTo at ha; rwa [List.take_of_length_le hi] at ha
def allS (n : Int) (l : List (Int × Int)) : Bool := l.all (okSg n)
theorem all_no {f : Int × Int → Bool} {l : List (Int × Int)} {i : Nat} {x : Int × Int} (h : l[i]? = some x) (hx : f x = false) : l.all f = false := by
  rw [List.all_eq_false]; exact ⟨x, List.mem_of_getElem? h, by simp [hx]⟩
/-- An input in memory. -/
structure Pol (H : Heap) (a b c : AV) (P L I : List (Int × Int)) : Prop where
  p : Pairs H a P
  l : Pairs H b L
  i : Pairs H c I
theorem Pol.ext {a b c : AV} {P L I : List (Int × Int)} {H' : Heap} (h : Pol H a b c P L I) (e : Ext H H') : Pol H' a b c P L I := ⟨h.p.ext e, h.l.ext e, h.i.ext e⟩
theorem Pol.one {a b c : AV} {P L I : List (Int × Int)} (h : Pol H a b c P L I) : allOne [a, b, c] = true := by
  rw [allOne_of h.p.one.1, allOne_of h.l.one.1, allOne_of h.i.one.1]; rfl
theorem check13 (h13 : FT 13 = some (.code A13)) (h23 : FT 23 = some (.code A23)) (hw : H.Wf) {a b c : AV} {P L I : List (Int × Int)} (h : Pol H a b c P L I) :
    Cp FT 13 [.agg [a, b, c]] H (fun r H' => r = .int .i64 (chkI P L I) ∧ Ext H H') := by
  refine Cp_code A13 h13 rfl ?_
  have h1 := h.one
  have e0 : Ext H (H.push (.cells [a, b, c])) := Ext.push hw _
  have g0 : (H.push (.cells [a, b, c])).get H.next = some (.cells [a, b, c]) := get_pushN.trans (if_pos rfl)
  have w1 : loadA (H.push (.cells [a, b, c])) none (.ptr H.next 0) = some a := load_get g0 rfl
  have w2 : loadA (H.push (.cells [a, b, c])) none (.ptr H.next 1) = some b := load_get g0 rfl
  have w3 : loadA (H.push (.cells [a, b, c])) none (.ptr H.next 2) = some c := load_get g0 rfl
  by_cases c1 : 200 < P.length
  · have c1' : (200 : Int) < P.length := by omega
    have n1 : ¬ P.length ≤ 200 := by omega
    have hv : chkI P L I = 2 := by simp [chkI, validP, n1]
    simp [A13, h1, w1, h.p.len, c1', hv]
    exact e0
  have c1' : ¬ (200 : Int) < P.length := by omega
  by_cases c2 : 400 < L.length
  · have c2' : (400 : Int) < L.length := by omega
    have n1 : ¬ L.length ≤ 400 := by omega
    have hv : chkI P L I = 2 := by simp [chkI, validP, n1]
    simp [A13, h1, w1, w2, h.p.len, h.l.len, c1', c2', hv]
    exact e0
  have c2' : ¬ (400 : Int) < L.length := by omega
  by_cases c3 : 400 < I.length
  · have c3' : (400 : Int) < I.length := by omega
    have n1 : ¬ I.length ≤ 400 := by omega
    have hv : chkI P L I = 2 := by simp [chkI, validP, n1]
    simp [A13, h1, w1, w2, w3, h.p.len, h.l.len, h.i.len, c1', c2', c3', hv]
    exact e0
  have c3' : ¬ (400 : Int) < I.length := by omega
  simp [A13, h1, w1, w2, w3, h.p.len, h.l.len, h.i.len, c1', c2', c3']
  refine Wp_loop (fun m τ H' => Ext (H.push (.cells [a, b, c])) H' ∧ ∃ i : Nat, i ≤ P.length ∧ m = P.length - i ∧ Env.at τ 1 = .ptr H.next 0 ∧ Env.at τ 26 = a ∧ Env.at τ 27 = .int .i64 P.length ∧ Env.at τ 28 = .int .i64 i ∧ allTo okPl P i = true) ?_ P.length _ _ ⟨Ext.refl e0.wf, 0, by omega, by simp, by simp, by simp, by simp, by simp, allTo_zero⟩
  rintro m τ H2 ⟨ex, i, hi, rfl, t1, t26, t27, t28, hall⟩
  simp only [Wp_seq, Wp_region]
  by_cases hc : i < P.length
  · obtain ⟨o, off, x, hx, hp, hld, _, _⟩ := Pairs.idx (h.p.ext (e0.trans ex)) (k := .i64) (i := i) (by omega) (by omega)
    rw [Int.toNat_natCast] at hx
    obtain ⟨H3, st, g3, e3, n3⟩ := store_new ex.wf (z := [.int .i64 0, .int .i64 0]) (n := 2) (x := .agg (pairc x)) rfl rfl rfl rfl
    have l1 : loadA H3 none (.ptr H2.next 0) = some (.int .i64 x.1) := load_get g3 rfl
    have l2 : loadA H3 none (.ptr H2.next 1) = some (.int .i64 x.2) := load_get g3 rfl
    have w : IntKind.i64.wrap ((i : Int) + 1) = ((i + 1 : Nat) : Int) := wrap64 (by omega) (by omega)
    cases r1 : inR (-1048576) 1048576 x.1 with
    | false =>
      have hv : chkI P L I = 2 := by simp [chkI, validP, all_no hx (show okPl x = false by simp [okPl, r1])]
      simp [hc, t1, t26, t27, t28, hp, hld, st, l1]
      refine (in23 h23).mono ?_
      rintro r H4 ⟨rfl, rfl⟩
      simp [r1, hv]
      exact (e0.trans ex).trans e3
    | true =>
      cases r2 : inR (-1048576) 1048576 x.2 with
      | false =>
        have hv : chkI P L I = 2 := by simp [chkI, validP, all_no hx (show okPl x = false by simp [okPl, r2])]
        simp [hc, t1, t26, t27, t28, hp, hld, st, l1]
        refine (in23 h23).mono ?_
        rintro r H4 ⟨rfl, rfl⟩
        simp [r1, l2]
        refine (in23 h23).mono ?_
        rintro r H4 ⟨rfl, rfl⟩
        simp [r2, hv]
        exact (e0.trans ex).trans e3
      | true =>
        simp [hc, t1, t26, t27, t28, hp, hld, st, l1]
        refine (in23 h23).mono ?_
        rintro r H4 ⟨rfl, rfl⟩
        simp [r1, l2]
        refine (in23 h23).mono ?_
        rintro r H4 ⟨rfl, rfl⟩
        simp [r2, t1, t26, t27, t28, w]
        exact ⟨_, by omega, ex.trans e3, i + 1, by omega, rfl, by simp, allTo_succ hx (by simp [okPl, r1, r2]) hall⟩
  · have hPall := allTo_all (by omega) hall
    have hc' : ¬ ((i : Int) < P.length) := by omega
    have w2' : loadA H2 none (.ptr H.next 1) = some b := load_get (ex.keep _ _ g0) rfl
    have w3' : loadA H2 none (.ptr H.next 2) = some c := load_get (ex.keep _ _ g0) rfl
    simp [hc', t1, t26, t27, t28, w2', w3', fillV_val h.l.one.1 h.l.one.2, fillV_val h.i.one.1 h.i.one.2]
    refine Wp_loop (fun m τ H' => Ext (H.push (.cells [a, b, c])) H' ∧ ∃ j : Nat, j ≤ 2 ∧ m = 2 - j ∧ Env.at τ 1 = .ptr H.next 0 ∧ Env.at τ 47 = .agg [b, c] ∧ Env.at τ 48 = .int .i64 j ∧ (1 ≤ j → allS P.length L = true) ∧ (2 ≤ j → allS P.length I = true)) ?_ 2 _ _ ⟨ex, 0, by omega, by simp, by simp [t1], by simp, by simp, by omega, by omega⟩
    rintro m τ H2 ⟨ex, j, hj, rfl, t1, t47, t48, q1, q2⟩
    simp only [Wp_seq, Wp_region]
    by_cases hcj : j < 2
    · obtain ⟨s, S, hs, hS, hidx, hS4, hno, hyes⟩ : ∃ (s : AV) (S : List (Int × Int)), [b, c][j]? = some s ∧ Pairs H s S ∧ partA [b, c] j none = some s ∧ S.length ≤ 400 ∧ (S.all (okSg P.length) = false → chkI P L I = 2) ∧
          (S.all (okSg P.length) = true → (1 ≤ j + 1 → allS P.length L = true) ∧ (2 ≤ j + 1 → allS P.length I = true)) := by
        rcases (by omega : j = 0 ∨ j = 1) with rfl | rfl
        · exact ⟨b, L, rfl, h.l, rfl, by omega, fun q => by simp [chkI, validP, q], fun q => ⟨fun _ => q, fun q' => by omega⟩⟩
        · exact ⟨c, I, rfl, h.i, rfl, by omega, fun q => by simp [chkI, validP, q], fun q => ⟨fun _ => q1 (by omega), fun _ => q⟩⟩
      have hcj' : (j : Int) < 2 := by omega
      have wj : IntKind.i64.wrap ((j : Int) + 1) = ((j + 1 : Nat) : Int) := wrap64 (by omega) (by omega)
      simp [hcj', t47, t48, hidx, hS.len]
      refine Wp_loop (fun m τ H' => Ext (H.push (.cells [a, b, c])) H' ∧ ∃ i : Nat, i ≤ S.length ∧ m = S.length - i ∧ Env.at τ 1 = .ptr H.next 0 ∧ Env.at τ 47 = .agg [b, c] ∧ Env.at τ 48 = .int .i64 j ∧ Env.at τ 51 = s ∧ Env.at τ 52 = .int .i64 S.length ∧ Env.at τ 53 = .int .i64 i ∧ allTo (okSg P.length) S i = true) ?_ S.length _ _ ⟨ex, 0, by omega, by simp, by simp [t1], by simp [t47], by simp [t48], by simp, by simp, by simp, allTo_zero⟩
      rintro m τ H2 ⟨ex, i, hi, rfl, t1, t47, t48, t51, t52, t53, hall⟩
      simp only [Wp_seq, Wp_region]
      by_cases hc : i < S.length
      · obtain ⟨o, off, x, hx, hp, hld, _, _⟩ := Pairs.idx (hS.ext (e0.trans ex)) (k := .i64) (i := i) (by omega) (by omega)
        rw [Int.toNat_natCast] at hx
        obtain ⟨H3, st, g3, e3, n3⟩ := store_new ex.wf (z := [.int .i64 0, .int .i64 0]) (n := 2) (x := .agg (pairc x)) rfl rfl rfl rfl
        have l1 : loadA H3 none (.ptr H2.next 0) = some (.int .i64 x.1) := load_get g3 rfl
        have l2 : loadA H3 none (.ptr H2.next 1) = some (.int .i64 x.2) := load_get g3 rfl
        have la : loadA H3 none (.ptr H.next 0) = some a := load_get ((ex.trans e3).keep _ _ g0) rfl
        have w : IntKind.i64.wrap ((i : Int) + 1) = ((i + 1 : Nat) : Int) := wrap64 (by omega) (by omega)
        have wn : IntKind.i64.wrap ((P.length : Int) - 1) = (P.length : Int) - 1 := wrap64 (by omega) (by omega)
        cases r1 : inR 0 ((P.length : Int) - 1) x.1 with
        | false =>
          have hv := hno (all_no hx (show okSg P.length x = false by simp [okSg, r1]))
          simp [hc, t1, t51, t52, t53, hp, hld, st, l1, la, h.p.len, wn]
          refine (in23 h23).mono ?_
          rintro r H4 ⟨rfl, rfl⟩
          simp [r1, hv]
          exact (e0.trans ex).trans e3
        | true =>
          cases r2 : inR 0 ((P.length : Int) - 1) x.2 with
          | false =>
            have hv := hno (all_no hx (show okSg P.length x = false by simp [okSg, r1, r2]))
            simp [hc, t1, t51, t52, t53, hp, hld, st, l1, la, h.p.len, wn]
            refine (in23 h23).mono ?_
            rintro r H4 ⟨rfl, rfl⟩
            simp [r1, l2, t1, la, h.p.len, wn]
            refine (in23 h23).mono ?_
            rintro r H4 ⟨rfl, rfl⟩
            simp [r2, hv]
            exact (e0.trans ex).trans e3
          | true =>
            simp [hc, t1, t51, t52, t53, hp, hld, st, l1, la, h.p.len, wn]
            refine (in23 h23).mono ?_
            rintro r H4 ⟨rfl, rfl⟩
            simp [r1, l2, t1, la, h.p.len, wn]
            refine (in23 h23).mono ?_
            rintro r H4 ⟨rfl, rfl⟩
            simp [r2, t1, t47, t48, t51, t52, t53, w]
            exact ⟨_, by omega, ex.trans e3, i + 1, by omega, rfl, by simp, allTo_succ hx (by simp [okSg, r1, r2]) hall⟩
      · have hSall := hyes (allTo_all (by omega) hall)
        have hc' : ¬ ((i : Int) < S.length) := by omega
        simp [hc', t1, t47, t48, t51, t52, t53, wj]
        exact ⟨_, by omega, ex, j + 1, by omega, rfl, by simp, hSall.1, hSall.2⟩
    · have hj2 : j = 2 := by omega
      subst hj2
      have hv : chkI P L I = 0 := by
        have n1 : P.length ≤ 200 := by omega
        have n2 : L.length ≤ 400 := by omega
        have n3 : I.length ≤ 400 := by omega
        simp only [chkI, validP, hPall, show L.all (okSg P.length) = true from q1 (by omega), show I.all (okSg P.length) = true from q2 (by omega), n1, n2, n3, decide_true, Bool.and_self, if_true]
      simp [t47, t48, hv]
      exact e0.trans ex
end
end Go.Proofs.YtmgaaieofdjfdaaDoor
