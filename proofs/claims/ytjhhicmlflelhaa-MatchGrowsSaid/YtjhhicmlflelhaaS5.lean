/- Is it a matching: both askings. No claim by itself. -/
import Derived.Test.YtjhhicmlflelhaaS4
namespace Go.Proofs.Ytjhhicmlflelhaa
open Go Go.AI
def okAt (n : Int) (l : List (Int × Int)) (mate : List Int) (i : Nat) : Bool :=
  match mate[i]? with
  | some k => (k == -1) || (!decide (k < 0) && !decide (n ≤ k) && (mate.getD k.toNat 0 == (i : Int)) && hasT (hasE i k) l)
  | none => false
def allTo (n : Int) (l : List (Int × Int)) (mate : List Int) (i : Nat) : Bool := (List.range i).all (okAt n l mate)
def isM (n : Int) (l : List (Int × Int)) (mate : List Int) : Bool := rightM n l && ((mate.length : Int) == n) && allTo n l mate mate.length
theorem allTo_succ {n : Int} {l : List (Int × Int)} {mate : List Int} {i : Nat} : allTo n l mate (i + 1) = (allTo n l mate i && okAt n l mate i) := by
  unfold allTo; rw [List.range_succ]; simp
theorem allTo_zero {n : Int} {l : List (Int × Int)} {mate : List Int} : allTo n l mate 0 = true := rfl
theorem isM_no {n : Int} {l : List (Int × Int)} {mate : List Int} {i : Nat} (hi : i < mate.length) (h : okAt n l mate i = false) : isM n l mate = false := by
  have : allTo n l mate mate.length = false := by
    unfold allTo; rw [List.all_eq_false]; exact ⟨i, List.mem_range.2 hi, by simp [h]⟩
  unfold isM; rw [this]; simp
theorem hasT_or {l : List (Int × Int)} {a b : Int} : hasT (hasE a b) l = (hasT (fun x => decide ((a, b) = x)) l || hasT (fun x => decide ((b, a) = x)) l) := by
  unfold hasT
  induction l with
  | nil => rfl
  | cons x l ih =>
    simp only [List.any_cons, ih]
    obtain ⟨c, d⟩ := x
    have e1 : decide ((a, b) = (c, d)) = ((c == a) && (d == b)) := by
      rw [Bool.eq_iff_iff]; simp [Prod.mk.injEq]; constructor <;> rintro ⟨rfl, rfl⟩ <;> simp
    have e2 : decide ((b, a) = (c, d)) = ((c == b) && (d == a)) := by
      rw [Bool.eq_iff_iff]; simp [Prod.mk.injEq]; constructor <;> rintro ⟨rfl, rfl⟩ <;> simp
    rw [e1, e2]
    simp only [hasE]
    cases (c == a && d == b) <;> cases (c == b && d == a) <;> simp
theorem is12 {FT : Nat → Option FnD} (h12 : FT 12 = some (.code A12)) (h11 : FT 11 = some (.code A11)) (h26 : FT 26 = some (.code A26)) {n : Int} {v u : AV} {l : List (Int × Int)} {mate : List Int} {H : Heap} (h : Pairs H v l) (hu : Ints H u mate)
    (hl : l.length ≤ 9223372036854775806) (hm : mate.length ≤ 9223372036854775806) :
    Cp FT 12 [.int .i64 n, v, u] H (fun r H' => r = .bool (isM n l mate) ∧ H' = H) := by
  refine Cp_code A12 h12 rfl ?_
  simp [A12]
  refine (right11 h11 h hl).mono ?_
  rintro r H' ⟨rfl, rfl⟩
  cases hr : rightM n l with
  | false => simp [isM, hr]
  | true =>
    cases hn : ((mate.length : Int) == n) with
    | false =>
      have : ((mate.length : Int) != n) = true := by simp [bne, hn]
      simp [hu.len, this, isM, hr, hn]
    | true =>
      have hne : ((mate.length : Int) != n) = false := by simp [bne, hn]
      have hn' : (mate.length : Int) = n := by simpa using hn
      simp [hu.len, hne]
      refine Wp_loop (fun m τ H1 => H1 = H' ∧ ∃ i : Nat, i ≤ mate.length ∧ m = mate.length - i ∧ Env.at τ 0 = .int .i64 n ∧ Env.at τ 1 = v ∧ Env.at τ 2 = u ∧ Env.at τ 7 = .int .i64 i ∧ allTo n l mate i = true) ?_ mate.length _ _ ⟨rfl, 0, by simp, by simp, by simp, by simp, by simp, by simp, allTo_zero⟩
      rintro m τ H1 ⟨rfl, i, hi, rfl, t0, t1, t2, t7, hall⟩
      simp only [Wp_seq, Wp_region]
      by_cases hc : i < mate.length
      · have hc' : (i : Int) < n := by omega
        obtain ⟨p, k, hx, hp, hld⟩ := Ints.idx hu (k := .i64) (i := i) (by omega) (by omega)
        have hx' : mate[i]? = some k := hx
        have w : IntKind.i64.wrap ((i : Int) + 1) = ((i + 1 : Nat) : Int) := wrap64 (by omega) (by omega)
        have fin : okAt n l mate i = true → ∃ m', m' < mate.length - i ∧ ∃ j : Nat, j ≤ mate.length ∧ m' = mate.length - j ∧ IntKind.i64.wrap ((i : Int) + 1) = (j : Int) ∧ allTo n l mate j = true :=
          fun q => ⟨_, by omega, i + 1, by omega, rfl, w, by rw [allTo_succ, hall, q]; rfl⟩
        cases c1 : (k != -1) with
        | false =>
          have ck : k = -1 := by simpa [bne] using c1
          subst ck
          simp [hc', t0, t1, t2, t7, hp, hld]
          exact fin (by simp [okAt, hx'])
        | true =>
          have c1' : (k == -1) = false := by simpa [bne] using c1
          by_cases c2 : k < 0
          · simp [hc', t0, t1, t2, t7, hp, hld, c1, c2]
            exact isM_no hc (by simp only [okAt, hx', c1', c2]; simp)
          by_cases c3 : n ≤ k
          · simp [hc', t0, t1, t2, t7, hp, hld, c1, c2, c3]
            exact isM_no hc (by simp only [okAt, hx', c1', c2, c3]; simp)
          obtain ⟨p2, k2, hx2, hp2, hld2⟩ := Ints.idx hu (k := .i64) (i := k) (by omega) (by omega)
          have hg : mate.getD k.toNat 0 = k2 := by simp [List.getD, hx2]
          cases c4 : (k2 != (i : Int)) with
          | true =>
            have c4' : (k2 == (i : Int)) = false := by simpa [bne] using c4
            simp [hc', t0, t1, t2, t7, hp, hld, c1, c2, c3, hp2, hld2, c4]
            exact isM_no hc (by simp only [okAt, hx', c1', c2, c3, hg, c4']; simp)
          | false =>
            have c4' : (k2 == (i : Int)) = true := by simpa [bne] using c4
            simp [hc', t0, t1, t2, t7, hp, hld, c1, c2, c3, hp2, hld2, c4]
            refine (joined26 h26 h hl).mono ?_
            rintro r H2 ⟨rfl, rfl⟩
            cases hj : hasT (hasE (i : Int) k) l with
            | false =>
              simp
              exact isM_no hc (by simp only [okAt, hx', c1', c2, c3, hg, c4', hj]; simp)
            | true =>
              simp [t0, t1, t2, t7]
              exact fin (by simp only [okAt, hx', c1', c2, c3, hg, c4', hj]; simp)
      · have hc' : ¬ (i : Int) < n := by omega
        have : i = mate.length := by omega
        subst this
        simp [hc', t0, t1, t2, t7, isM, hr, hall, hn']
end Go.Proofs.Ytjhhicmlflelhaa
