/- Are two inputs the same? The document's asking whether an input may be. No claim by itself. -/
import Derived.Test.YtmgaaieofdjfdaaDoorC1
namespace Go.Proofs.YtmgaaieofdjfdaaDoor
open Go Go.AI
section
variable {FT : Nat → Option FnD} {H : Heap}
theorem same_of {f : Nat} (h27 : FT f = some (.code A27)) {v u : AV} {xs ys : List (Int × Int)} (hx : Pairs H v xs) (hy : Pairs H u ys) (hl : xs.length ≤ 9223372036854775806) :
    Cp FT f [v, u] H (fun r H' => r = .bool (decide (xs = ys)) ∧ H' = H) := by
  refine Cp_code A27 h27 rfl ?_
  by_cases hlen : xs.length = ys.length
  · have e1 : ((xs.length : Int) != (ys.length : Int)) = false := by rw [hlen]; simp
    simp [A27, hx.len, hy.len, e1]
    refine Wp_loop (fun f τ H' => H' = H ∧ ∃ i : Nat, i ≤ xs.length ∧ f = xs.length - i ∧ xs.take i = ys.take i ∧ Env.at τ 0 = v ∧ Env.at τ 1 = u ∧ Env.at τ 5 = .int .i64 (i : Int)) ?_ xs.length _ _ ⟨rfl, 0, by omega, rfl, rfl, by simp, by simp, by simp⟩
    rintro f τ _ ⟨rfl, i, hi, rfl, ht, t0, t1, t5⟩
    simp only [Wp_seq, Wp_region]
    by_cases hc : i < xs.length
    · have w : IntKind.i64.wrap ((i : Int) + 1) = ((i + 1 : Nat) : Int) := wrap64 (by omega) (by omega)
      obtain ⟨o, off, x, hgx, hp, hld, _, _⟩ := Pairs.idx hx (k := .i64) (i := i) (by omega) (by omega)
      obtain ⟨o', off', y, hgy, hp', hld', _, _⟩ := Pairs.idx hy (k := .i64) (i := i) (by omega) (by omega)
      rw [Int.toNat_natCast] at hgx hgy
      obtain ⟨x1, x2⟩ := x
      obtain ⟨y1, y2⟩ := y
      simp only [pairc] at hld hld'
      by_cases hxy : x1 = y1 ∧ x2 = y2
      · obtain ⟨rfl, rfl⟩ := hxy
        simp [t0, t1, t5, hx.len, hc, hp, hld, hp', hld', w]
        exact ⟨_, by omega, i + 1, by omega, rfl, by rw [List.take_add_one, List.take_add_one, ht, hgx, hgy], by simp⟩
      · have hne : (x1 == y1 && x2 == y2) = false := by
          cases hq : (x1 == y1 && x2 == y2) with
          | false => rfl
          | true => simp at hq; exact absurd hq hxy
        simp [t0, t1, t5, hx.len, hc, hp, hld, hp', hld', hne]
        intro e; rw [e, hgy] at hgx; cases hgx; exact hxy ⟨rfl, rfl⟩
    · have : i = xs.length := by omega
      subst this
      simp [t0, t5, hx.len]
      rw [List.take_length] at ht
      rw [ht, hlen, List.take_length]
  · have e1 : ((xs.length : Int) != (ys.length : Int)) = true := by rw [bne_iff_ne]; omega
    simp [A27, hx.len, hy.len, e1]
    intro e; rw [e] at hlen; exact hlen rfl
theorem a28 : A28 = A27 := rfl
def samePol (P L I P' L' I' : List (Int × Int)) : Bool := decide (P = P') && decide (L = L') && decide (I = I')
theorem same17 (h17 : FT 17 = some (.code A17)) (h27 : FT 27 = some (.code A27)) (h28 : FT 28 = some (.code A28)) (hw : H.Wf) {a b c a' b' c' : AV} {P L I P' L' I' : List (Int × Int)} (h : Pol H a b c P L I) (h' : Pol H a' b' c' P' L' I')
    (hP : P.length ≤ 9223372036854775806) (hL : L.length ≤ 9223372036854775806) (hI : I.length ≤ 9223372036854775806) :
    Cp FT 17 [.agg [a, b, c], .agg [a', b', c']] H (fun r H' => r = .bool (samePol P L I P' L' I') ∧ Ext H H') := by
  refine Cp_code A17 h17 rfl ?_
  have e1 := Ext.push hw (.cells [a, b, c])
  have e2 := Ext.push e1.wf (.cells [a', b', c'])
  have g0 : ((H.push (.cells [a, b, c])).push (.cells [a', b', c'])).get H.next = some (.cells [a, b, c]) := e2.keep _ _ (get_pushN.trans (if_pos rfl))
  have g1 : ((H.push (.cells [a, b, c])).push (.cells [a', b', c'])).get (H.next + 1) = some (.cells [a', b', c']) := get_pushN.trans (if_pos rfl)
  have ex := e1.trans e2
  have k := h.ext ex
  have k' := h'.ext ex
  simp [A17, h.one, h'.one]
  generalize (H.push (.cells [a, b, c])).push (.cells [a', b', c']) = H1 at g0 g1 ex k k'
  have l0 : loadA H1 none (.ptr H.next 0) = some a := load_get g0 rfl
  have l1 : loadA H1 none (.ptr H.next 1) = some b := load_get g0 rfl
  have l2 : loadA H1 none (.ptr H.next 2) = some c := load_get g0 rfl
  have m0 : loadA H1 none (.ptr (H.next + 1) 0) = some a' := load_get g1 rfl
  have m1 : loadA H1 none (.ptr (H.next + 1) 1) = some b' := load_get g1 rfl
  have m2 : loadA H1 none (.ptr (H.next + 1) 2) = some c' := load_get g1 rfl
  simp [l0, m0]
  refine (same_of h27 k.p k'.p hP).mono ?_
  rintro r H4 ⟨rfl, rfl⟩
  by_cases cP : P = P'
  · simp [cP, l1, m1]
    refine (same_of (f := 28) (by rw [h28, a28]) k.l k'.l hL).mono ?_
    rintro r H4 ⟨rfl, rfl⟩
    by_cases cL : L = L'
    · simp [cL, l2, m2]
      refine (same_of (f := 28) (by rw [h28, a28]) k.i k'.i hI).mono ?_
      rintro r H4 ⟨rfl, rfl⟩
      simp [samePol]
      exact ex
    · simp [samePol, cL]
      exact ex
  · simp [samePol, cP]
    exact ex
theorem long10 (h10 : FT 10 = some (.code A10)) (hw : H.Wf) {a b c : AV} {P L I : List (Int × Int)} (h : Pol H a b c P L I) :
    Cp FT 10 [.agg [a, b, c]] H (fun r H' => r = .bool (decide (300 < P.length) || decide (500 < L.length) || decide (500 < I.length)) ∧ Ext H H') := by
  refine Cp_code A10 h10 rfl ?_
  have e0 := Ext.push hw (.cells [a, b, c])
  have g0 : (H.push (.cells [a, b, c])).get H.next = some (.cells [a, b, c]) := get_pushN.trans (if_pos rfl)
  have w1 : loadA (H.push (.cells [a, b, c])) none (.ptr H.next 0) = some a := load_get g0 rfl
  have w2 : loadA (H.push (.cells [a, b, c])) none (.ptr H.next 1) = some b := load_get g0 rfl
  have w3 : loadA (H.push (.cells [a, b, c])) none (.ptr H.next 2) = some c := load_get g0 rfl
  have k1 : ((300 : Int) < P.length) = (300 < P.length) := by rw [eq_iff_iff]; omega
  have k2 : ((500 : Int) < L.length) = (500 < L.length) := by rw [eq_iff_iff]; omega
  have k3 : ((500 : Int) < I.length) = (500 < I.length) := by rw [eq_iff_iff]; omega
  by_cases c1 : 300 < P.length
  · simp [A10, h.one, w1, h.p.len, k1, c1]; exact e0
  by_cases c2 : 500 < L.length
  · simp [A10, h.one, w1, w2, h.p.len, h.l.len, k1, k2, c1, c2]; exact e0
  by_cases c3 : 500 < I.length <;> simp [A10, h.one, w1, w2, w3, h.p.len, h.l.len, h.i.len, k1, k2, k3, c1, c2, c3] <;> exact e0
end
end Go.Proofs.YtmgaaieofdjfdaaDoor
