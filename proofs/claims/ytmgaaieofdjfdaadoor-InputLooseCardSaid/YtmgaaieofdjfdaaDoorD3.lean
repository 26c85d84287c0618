/- An input's text, as the document writes it. No claim by itself. -/
import Derived.Test.YtmgaaieofdjfdaaDoorD2
import Derived.Test.YtmgaaieofdjfdaaDoorC3
import Derived.Test.YtmgaaieofdjfdaaDoorC5
namespace Go.Proofs.YtmgaaieofdjfdaaDoor
open Go Go.AI
theorem two_line (q : Int × Int) : twoS q.1 q.2 = lineQ q := by
  simp [twoS, lineQ, lineS, joinS, joinP, wordsOf]
theorem hdr_eq (P L I : List (Int × Int)) : [112, 111, 108, 121, 32] ++ itoaN P.length ++ [32] ++ twoS L.length I.length = hdr P L I := by
  simp [twoS, hdr, lineS, joinS, joinP, wordsOf]
section
variable {FT : Nat → Option FnD} {H : Heap}
def rest15a : ACode := tailN 5 A15.body
def rest15b : ACode := tailN 6 A15.body
def rest15c : ACode := tailN 7 A15.body
theorem body15 : A15.body = headsN 5 A15.body rest15a := rfl
theorem rest15a_eq : rest15a = headsN 1 rest15a rest15b := rfl
theorem rest15b_eq : rest15b = headsN 1 rest15b rest15c := rfl
structure Inv15 (H H0 : Heap) (x : Nat) (T : List Nat) (l : List (Int × Int)) (k : Nat) (τ : Env) (H' : Heap) : Prop where
  ex : Ext H0 H'
  ri : ∃ i : Nat, i ≤ l.length ∧ k = l.length - i ∧ Env.at τ 1 = .ptr H.next 0 ∧ Env.at τ 5 = .str (T ++ linesTo l i) ∧ Env.at τ x = .int .i64 i
theorem print15 (h15 : FT 15 = some (.code A15)) (h16 : FT 16 = some (.code A16)) (h26 : FT 26 = some (.code A26)) (h21 : FT 21 = some (.code A21)) (h22 : FT 22 = some (.code A22)) (h38 : FT 38 = some (.code A38)) (h37 : FT 37 = some (.code A37))
    (hw : H.Wf) {a b c : AV} {P L I : List (Int × Int)} (h : Pol H a b c P L I) :
    Cp FT 15 [.agg [a, b, c]] H (fun r H' => r = .tup [.str (prtI P L I), .int .i64 (chkI P L I)] ∧ Ext H H') := by
  refine Cp_code A15 h15 rfl ?_
  rw [body15]
  have hA : A15.results = [.tmp 2, .tmp 3] := rfl
  rw [hA]
  have h1 := h.one
  have hmax : IntKind.max .i64 = 9223372036854775807 := rfl
  obtain ⟨g0, e0⟩ := push_new hw (.cells [a, b, c])
  have ld0 : loadA (H.push (.cells [a, b, c])) (some 3) (.ptr H.next 0) = some (.agg [a, b, c]) := load_agg g0 (by simp [seg])
  simp [A15, headsN, h1, ld0]
  refine (check16 h16 e0.wf (h.ext e0)).mono ?_
  rintro _ H1 ⟨rfl, e1⟩
  by_cases hv : validP P L I = true
  · have hc0 : chkI P L I = 0 := by simp [chkI, hv]
    have hp0 : prtI P L I = textI P L I := by simp [prtI, hv]
    rw [hc0, hp0]
    have hvv := hv
    simp only [validP, Bool.and_eq_true, decide_eq_true_eq] at hvv
    obtain ⟨⟨⟨⟨⟨n1, n2⟩, n3⟩, vP⟩, vL⟩, vI⟩ := hvv
    have aP := all64_pl vP
    have aL := all64_sg (n := P.length) (by omega) vL
    have aI := all64_sg (n := P.length) (by omega) vI
    have sm : ∀ {l : List (Int × Int)}, (∀ q, q ∈ l → -2000000 ≤ q.1 ∧ q.1 ≤ 2000000 ∧ -2000000 ≤ q.2 ∧ q.2 ≤ 2000000) → ∀ {H1 : Heap}, H1.Wf → ∀ q, q ∈ l → Cp FT 26 [.int .i64 q.1, .int .i64 q.2] H1 (fun r H' => r = .str (lineQ q) ∧ Ext H1 H') := by
      intro l hl H1 hw1 q hq
      have := hl q hq
      rw [← two_line]
      exact two26 h26 h21 h22 h38 h37 hw1 (by omega) (by omega)
    have bP : ∀ q, q ∈ P → -2000000 ≤ q.1 ∧ q.1 ≤ 2000000 ∧ -2000000 ≤ q.2 ∧ q.2 ≤ 2000000 := fun q hq => by
      have := List.all_eq_true.1 vP q hq; simp [okPl, inR] at this; omega
    have bS : ∀ {l : List (Int × Int)}, l.all (okSg P.length) = true → ∀ q, q ∈ l → -2000000 ≤ q.1 ∧ q.1 ≤ 2000000 ∧ -2000000 ≤ q.2 ∧ q.2 ≤ 2000000 := fun vl q hq => by
      have := List.all_eq_true.1 vl q hq; simp [okSg, inR] at this; omega
    have e01 := e0.trans e1
    have ld : ∀ {H' : Heap}, Ext H1 H' → loadA H' none (.ptr H.next 0) = some a ∧ loadA H' none (.ptr H.next 1) = some b ∧ loadA H' none (.ptr H.next 2) = some c := fun k =>
      have g := k.keep _ _ (e1.keep _ _ g0)
      ⟨load_get g rfl, load_get g rfl, load_get g rfl⟩
    obtain ⟨w0, w1, w2⟩ := ld (Ext.refl e1.wf)
    have hlen := hdr_len P L I
    have hPl := lines_len P
    have hLl := lines_len L
    have hIl := lines_len I
    simp [w0, h.p.len]
    refine smallTextQ (n := (P.length : Int)) h21 h22 h38 h37 e1.wf (by omega) (by omega) ?_
    intro r1 H2 hw2 c2
    simp
    refine c2.quiet ?_
    rintro _ H3 ⟨rfl, e3⟩
    generalize ({ t := H3.t, next := H3.next, floor := H2.floor } : Heap) = H3 at *
    obtain ⟨w0, w1, w2⟩ := ld e3
    have li := itoaN_len P.length
    generalize hsP : itoaN (P.length : Int) = sP at *
    have b1 : ¬ (9223372036854775807 : Int) < ((5 + sP.length : Nat) : Int) := by omega
    have b2 : ¬ (9223372036854775807 : Int) < ((sP.length + 1 + 1 + 1 + 1 + 1 + 1 : Nat) : Int) := by omega
    have b2' : ¬ (9223372036854775807 : Int) < ((5 + sP.length + 1 : Nat) : Int) := by omega
    simp [-Int.natCast_add, w1, w2, h.l.len, h.i.len, hmax, b1, b2]
    refine (two26 h26 h21 h22 h38 h37 e3.wf (a := (L.length : Int)) (b := (I.length : Int)) (by omega) (by omega)).mono ?_
    rintro _ H4 ⟨rfl, e4⟩
    have hh := hdr_eq P L I
    rw [hsP] at hh
    generalize twoS (L.length : Int) (I.length : Int) = sLI at *
    have hhl := congrArg List.length hh
    simp at hhl
    have hh2 : 112 :: 111 :: 108 :: 121 :: 32 :: (sP ++ 32 :: sLI) = hdr P L I := by rw [← hh]; simp
    simp [-Int.natCast_add, hmax]
    rw [if_neg (by omega)]
    simp [hh2]
    have e14 := e3.trans e4
    refine Wp_loop (Inv15 H H1 6 (hdr P L I) P) ?_ P.length _ _ ⟨e14, 0, by omega, rfl, by simp, by simp [linesTo], by simp⟩
    rintro k τ H5 ⟨ex, i, hi, rfl, t1, t5, t6⟩
    obtain ⟨w0, w1, w2⟩ := ld ex
    have hlt := linesTo_len P i
    simp only [Wp_seq, Wp_region]
    by_cases hc : i < P.length
    · obtain ⟨o, off, x, hx, hp, _, l1, l2⟩ := Pairs.idx (h.p.ext (e01.trans ex)) (k := .i64) (i := i) (by omega) (by omega)
      rw [Int.toNat_natCast] at hx
      have w : IntKind.i64.wrap ((i : Int) + 1) = ((i + 1 : Nat) : Int) := wrap64 (by omega) (by omega)
      have hxl := lineQ_len x
      simp [hc, t1, t5, t6, w0, h.p.len, hp, l1, l2]
      refine (sm bP ex.wf x (List.mem_of_getElem? hx)).mono ?_
      rintro _ H6 ⟨rfl, e6⟩
      simp [hmax]
      rw [if_neg (by omega)]
      simp [w, t6]
      exact ⟨_, by omega, ex.trans e6, i + 1, by omega, rfl, by simp [t1], by simp [linesTo_succ hx], by simp⟩
    have hin : i = P.length := by omega
    subst hin
    rw [linesTo_all] at t5
    simp [t1, t6, w0, h.p.len]
    generalize hT : hdr P L I ++ P.flatMap lineQ = T at *
    have hTl := congrArg List.length hT
    simp only [List.length_append] at hTl
    rw [rest15a_eq]
    simp [rest15a, tailN, headsN, A15]
    refine Wp_loop (Inv15 H H1 7 T L) ?_ L.length _ _ ⟨ex, 0, by omega, rfl, by simp [t1], by simp [linesTo, t5], by simp⟩
    rintro k τ H5 ⟨ex, i, hi, rfl, t1, t5, t7⟩
    obtain ⟨w0, w1, w2⟩ := ld ex
    have hlt := linesTo_len L i
    simp only [Wp_seq, Wp_region]
    by_cases hc : i < L.length
    · obtain ⟨o, off, x, hx, hp, _, l1, l2⟩ := Pairs.idx (h.l.ext (e01.trans ex)) (k := .i64) (i := i) (by omega) (by omega)
      rw [Int.toNat_natCast] at hx
      have w : IntKind.i64.wrap ((i : Int) + 1) = ((i + 1 : Nat) : Int) := wrap64 (by omega) (by omega)
      have hxl := lineQ_len x
      simp [hc, t1, t5, t7, w1, h.l.len, hp, l1, l2]
      refine (sm (bS vL) ex.wf x (List.mem_of_getElem? hx)).mono ?_
      rintro _ H6 ⟨rfl, e6⟩
      simp [hmax]
      rw [if_neg (by omega)]
      simp [w, t7]
      exact ⟨_, by omega, ex.trans e6, i + 1, by omega, rfl, by simp [t1], by simp [linesTo_succ hx], by simp⟩
    have hin : i = L.length := by omega
    subst hin
    rw [linesTo_all] at t5
    simp [t1, t7, w1, h.l.len]
    generalize hT2 : T ++ L.flatMap lineQ = T2 at *
    have hTl2 := congrArg List.length hT2
    simp only [List.length_append] at hTl2
    rw [rest15b_eq]
    simp [rest15b, tailN, headsN, A15]
    refine Wp_loop (Inv15 H H1 8 T2 I) ?_ I.length _ _ ⟨ex, 0, by omega, rfl, by simp [t1], by simp [linesTo, t5], by simp⟩
    rintro k τ H5 ⟨ex, i, hi, rfl, t1, t5, t8⟩
    obtain ⟨w0, w1, w2⟩ := ld ex
    have hlt := linesTo_len I i
    simp only [Wp_seq, Wp_region]
    by_cases hc : i < I.length
    · obtain ⟨o, off, x, hx, hp, _, l1, l2⟩ := Pairs.idx (h.i.ext (e01.trans ex)) (k := .i64) (i := i) (by omega) (by omega)
      rw [Int.toNat_natCast] at hx
      have w : IntKind.i64.wrap ((i : Int) + 1) = ((i + 1 : Nat) : Int) := wrap64 (by omega) (by omega)
      have hxl := lineQ_len x
      simp [hc, t1, t5, t8, w2, h.i.len, hp, l1, l2]
      refine (sm (bS vI) ex.wf x (List.mem_of_getElem? hx)).mono ?_
      rintro _ H6 ⟨rfl, e6⟩
      simp [hmax]
      rw [if_neg (by omega)]
      simp [w, t8]
      exact ⟨_, by omega, ex.trans e6, i + 1, by omega, rfl, by simp [t1], by simp [linesTo_succ hx], by simp⟩
    have hin : i = I.length := by omega
    subst hin
    rw [linesTo_all] at t5
    have ht : T2 ++ I.flatMap lineQ = textI P L I := by rw [← hT2, ← hT]; rfl
    rw [ht] at t5
    simp [rest15c, tailN, A15, t1, t5, t8, w2, h.i.len]
    exact e01.trans ex
  · have hc2 : chkI P L I = 2 := by simp [chkI, hv]
    have hp2 : prtI P L I = [] := by simp [prtI, hv]
    simp [hc2, hp2]
    exact e0.trans e1
end
end Go.Proofs.YtmgaaieofdjfdaaDoor
