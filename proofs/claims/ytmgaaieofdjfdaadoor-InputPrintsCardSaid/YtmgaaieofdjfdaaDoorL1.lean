/- The law InputPrints, over the interpreter. No claim by itself. -/
import Derived.Test.YtmgaaieofdjfdaaDoorX2
import Derived.Test.YtmgaaieofdjfdaaDoorD3
namespace Go.Proofs.YtmgaaieofdjfdaaDoor
open Go Go.AI
def longB (P L I : List (Int × Int)) : Bool := decide (300 < P.length) || decide (500 < L.length) || decide (500 < I.length)
theorem samePol_self (P L I : List (Int × Int)) : samePol P L I P L I = true := by simp [samePol]
theorem prints3 {H : Heap} (hw : H.Wf) {a b c : AV} {P L I : List (Int × Int)} (h : PolA H a b c P L I) : Cp FK 3 [.agg [a, b, c]] H (fun r _ => r = .bool true) := by
  refine Cp_code A3 rfl rfl ?_
  obtain ⟨g0, e0⟩ := push_new hw (.cells [a, b, c])
  have ld : ∀ {H' : Heap}, ExtC (H.push (.cells [a, b, c])) H' → loadA H' (some 3) (.ptr H.next 0) = some (.agg [a, b, c]) := fun k => load_agg (k.keep _ _ g0) (by simp [seg])
  have l0 := ld (ExtC.refl e0.wf)
  simp [A3, h.pol.one, l0]
  refine (long10 (FT := FK) rfl e0.wf (h.pol.ext e0)).mono ?_
  rintro _ H1 ⟨rfl, e1⟩
  by_cases hl : (decide (300 < P.length) || decide (500 < L.length) || decide (500 < I.length)) = true
  · simp [hl]
    apply hk11
    simp
  · have hl' : (decide (300 < P.length) || decide (500 < L.length) || decide (500 < I.length)) = false := by simpa using hl
    simp only [Bool.or_eq_false_iff, decide_eq_false_iff_not] at hl'
    have l1 := ld e1.c
    have e01 := e0.trans e1
    simp [hl'.1.1, hl'.1.2, hl'.2, l1]
    refine (copy12 (FT := FK) rfl e1.wf (P := P) (L := L) (I := I) ⟨h.pol.ext e01, Sw.ext' h.sp e01, Sw.ext' h.sl e01, Sw.ext' h.si e01⟩ (by omega) (by omega) (by omega)).mono ?_
    rintro _ H2 ⟨a', b', c', rfl, ma, mb, mc, e2⟩
    have pol' : Pol H2 a' b' c' P L I := ⟨ma.sl pairc_len, mb.sl pairc_len, mc.sl pairc_len⟩
    obtain ⟨H3, s3, g3, e3, n3⟩ := store_new e2.wf (z := [.nils, .nils, .nils]) (n := 3) (x := .agg [a', b', c']) (cs := [a', b', c']) rfl rfl rfl pol'.one
    have ld3 : ∀ {H' : Heap}, ExtC H3 H' → loadA H' (some 3) (.ptr H2.next 0) = some (.agg [a', b', c']) := fun k => load_agg (k.keep _ _ g3) (by simp [seg])
    have e13 := (e1.trans e2).trans e3
    simp [s3, ld3 (ExtC.refl e3.wf)]
    refine (check13 (FT := FK) rfl rfl e3.wf (pol'.ext e3)).mono ?_
    rintro _ H4 ⟨rfl, e4⟩
    simp [ld3 e4.c]
    refine (print14 (FT := FK) rfl rfl rfl rfl rfl rfl rfl rfl e4.wf (pol'.ext (e3.trans e4))).mono ?_
    rintro _ H5 ⟨rfl, e5⟩
    have c35 : ExtC H3 H5 := e4.c.trans e5
    have cA : ExtC (H.push (.cells [a, b, c])) H5 := e13.c.trans c35
    have p5 : Pol H5 a b c P L I := (h.pol.ext e0).extC cA
    have p5' : Pol H5 a' b' c' P L I := (pol'.ext e3).extC c35
    simp [ld cA]
    refine (print15 (FT := FK) rfl rfl rfl rfl rfl rfl rfl e5.wf p5).mono ?_
    rintro _ H6 ⟨rfl, e6⟩
    have cA6 := cA.trans e6.c
    simp [ld cA6]
    refine (check16 (FT := FK) rfl e6.wf (p5.ext e6)).mono ?_
    rintro _ H7 ⟨rfl, e7⟩
    have cA7 := cA6.trans e7.c
    simp [ld cA7, ld3 ((c35.trans e6.c).trans e7.c)]
    refine (same17 (FT := FK) rfl rfl rfl e7.wf (p5'.ext (e6.trans e7)) (p5.ext (e6.trans e7)) (by omega) (by omega) (by omega)).mono ?_
    rintro _ H8 ⟨rfl, e8⟩
    simp [samePol_self]
    apply hk11
    simp
end Go.Proofs.YtmgaaieofdjfdaaDoor
