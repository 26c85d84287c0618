/- The law InputParses, over the interpreter. No claim by itself. -/
import Derived.Test.YtmgaaieofdjfdaaDoorX2
import Derived.Test.YtmgaaieofdjfdaaDoorD3
import Derived.Test.YtmgaaieofdjfdaaDoorE35
namespace Go.Proofs.YtmgaaieofdjfdaaDoor
open Go Go.AI
theorem parI_len (s : List Nat) : (parI s).1.1.length ≤ 9223372036854775806 ∧ (parI s).1.2.1.length ≤ 9223372036854775806 ∧ (parI s).1.2.2.length ≤ 9223372036854775806 := by
  have hlen : ∀ (en : Nat) (lo hi : Int) (n : Nat) (r : St), (rdP en lo hi n r).1.length ≤ n := by
    intro en lo hi n
    induction n with
    | zero => intro r; simp [rdP]
    | succ n ih =>
      intro r
      unfold rdP
      split
      · simp only [List.length_cons]; have := ih (rd2 en lo hi r).2; omega
      · simp
  unfold parI
  split
  · simp
  · split
    · unfold body3
      have q1 := rdN_range (en := s.length) (lo := 0) (hi := 200) (by omega) (by omega) (.ok (wordsN s).tail)
      simp only
      generalize rdN s.length 0 200 (.ok (wordsN s).tail) = a at *
      have q2 := rdN_range (en := s.length) (lo := 0) (hi := 400) (by omega) (by omega) a.2
      generalize rdN s.length 0 400 a.2 = b at *
      have q3 := rdN_range (en := s.length) (lo := 0) (hi := 400) (by omega) (by omega) b.2
      generalize rdN s.length 0 400 b.2 = c at *
      have k1 := hlen s.length (-1048576) 1048576 a.1.toNat c.2
      generalize rdP s.length (-1048576) 1048576 a.1.toNat c.2 = p at *
      have k2 := hlen s.length 0 (a.1 - 1) b.1.toNat p.2
      generalize rdP s.length 0 (a.1 - 1) b.1.toNat p.2 = l at *
      have k3 := hlen s.length 0 (a.1 - 1) c.1.toNat l.2
      generalize rdP s.length 0 (a.1 - 1) c.1.toNat l.2 = i at *
      unfold fin3
      split
      · simp
      · simp only; omega
      · simp
    · simp
structure Inv4 (Hs : Heap) (tv : AV) (n o3 o6 o : Nat) (k : Nat) (τ : Env) (H' : Heap) : Prop where
  fr : Fr [o] Hs H'
  ri : ∃ (i : Nat) (cs : List AV), i ≤ n ∧ k = n - i ∧ H'.get o = some (.cells cs) ∧ cs.length = n * 2 ∧ Env.at τ 0 = tv ∧ Env.at τ 3 = .ptr o3 0 ∧ Env.at τ 6 = .ptr o6 0 ∧ Env.at τ 9 = .int .i64 i
theorem flat_pairs_len (xs : List (Int × Int)) : (xs.flatMap pairc).length = xs.length * 2 := flat_len pairc_len xs
def r4a : ACode := subAt [1,1,1,1,1,1] A4.body
theorem body4 : A4.body = putAt [1,1,1,1,1,1] A4.body r4a := rfl
theorem r4a_ok {H : Heap} (hw : H.Wf) {tv a' b' c' : AV} {o6 : Nat} {s : List Nat} (hs : bytesA H tv = some s) (g6 : H.get o6 = some (.cells [a', b', c'])) (hp : Pol H a' b' c' (parI s).1.1 (parI s).1.2.1 (parI s).1.2.2) {τ : Env} (t0 : Env.at τ 0 = tv) (t6 : Env.at τ 6 = .ptr o6 0) :
    Wp FK r4a τ H (finQ [.tmp 2] fun r _ => r = .bool true) := by
  have hl := parI_len s
  simp [r4a, subAt, A4, t0]
  refine (parse18 (FT := FK) rfl rfl rfl rfl rfl rfl rfl rfl hw hs).mono ?_
  rintro _ H1 ⟨a, b, c, rfl, ma, mb, mc, _, e1⟩
  have pol : Pol H1 a b c (parI s).1.1 (parI s).1.2.1 (parI s).1.2.2 := ⟨ma.sl pairc_len, mb.sl pairc_len, mc.sl pairc_len⟩
  obtain ⟨H2, s2, g2, e2, n2⟩ := store_new e1.wf (z := [.nils, .nils, .nils]) (n := 3) (x := .agg [a, b, c]) (cs := [a, b, c]) rfl rfl rfl pol.one
  have l10 : loadA H2 (some 3) (.ptr H1.next 0) = some (.agg [a, b, c]) := load_agg g2 (by simp [seg])
  have l6 : loadA H2 (some 3) (.ptr o6 0) = some (.agg [a', b', c']) := load_agg (e2.keep _ _ (e1.keep _ _ g6)) (by simp [seg])
  simp [partA, s2, l10, t6, l6]
  refine (same17 (FT := FK) rfl rfl rfl e2.wf (pol.ext e2) (hp.ext (e1.trans e2)) hl.1 hl.2.1 hl.2.2).mono ?_
  rintro _ H3 ⟨rfl, e3⟩
  have : samePol (parI s).1.1 (parI s).1.2.1 (parI s).1.2.2 (parI s).1.1 (parI s).1.2.1 (parI s).1.2.2 = true := by simp [samePol]
  simp [this]
  apply hk11
  simp
theorem parses4 {H : Heap} (hw : H.Wf) {tv : AV} {s : List Nat} (hs : bytesA H tv = some s) (hcap : capOk tv = true) : Cp FK 4 [tv] H (fun r _ => r = .bool true) := by
  refine Cp_code A4 rfl rfl ?_
  rw [body4]
  have hA : A4.results = [.tmp 2] := rfl
  rw [hA]
  have hlen := bytesA_len hs
  have hl := parI_len s
  by_cases hlong : 9000 < s.length
  · have hlong' : (9000 : Int) < s.length := by omega
    simp [A4, putAt, hlen, hlong']
    apply hk11
    simp
  · have hlong' : ¬ (9000 : Int) < s.length := by omega
    simp [A4, putAt, hlen, hlong']
    refine (parse18 (FT := FK) rfl rfl rfl rfl rfl rfl rfl rfl hw hs).mono ?_
    rintro _ H1 ⟨a, b, c, rfl, ma, mb, mc, hd, e1⟩
    have pol : Pol H1 a b c (parI s).1.1 (parI s).1.2.1 (parI s).1.2.2 := ⟨ma.sl pairc_len, mb.sl pairc_len, mc.sl pairc_len⟩
    obtain ⟨H2, s2, g2, e2, n2⟩ := store_new e1.wf (z := [.nils, .nils, .nils]) (n := 3) (x := .agg [a, b, c]) (cs := [a, b, c]) rfl rfl rfl pol.one
    simp [partA, s2]
    refine (parse19 (FT := FK) rfl rfl rfl rfl rfl rfl rfl rfl rfl rfl rfl rfl rfl e2.wf (bytesA_ext (e1.trans e2) hs) hcap).mono ?_
    rintro _ H3 ⟨a', b', c', rfl, ma', mb', mc', e3⟩
    have pol' : Pol H3 a' b' c' (parI s).1.1 (parI s).1.2.1 (parI s).1.2.2 := ⟨ma'.sl pairc_len, mb'.sl pairc_len, mc'.sl pairc_len⟩
    obtain ⟨H4, s4, g4, e4, n4⟩ := store_new e3.wf (z := [.nils, .nils, .nils]) (n := 3) (x := .agg [a', b', c']) (cs := [a', b', c']) rfl rfl rfl pol'.one
    have g24 := (e3.trans e4).keep _ _ g2
    have l3 : loadA H4 (some 3) (.ptr H1.next 0) = some (.agg [a, b, c]) := load_agg g24 (by simp [seg])
    have l6 : loadA H4 (some 3) (.ptr H3.next 0) = some (.agg [a', b', c']) := load_agg g4 (by simp [seg])
    have e14 := (e2.trans e3).trans e4
    have hsame : samePol (parI s).1.1 (parI s).1.2.1 (parI s).1.2.2 (parI s).1.1 (parI s).1.2.1 (parI s).1.2.2 = true := by simp [samePol]
    simp [partA, s4, l3, l6]
    refine (same17 (FT := FK) rfl rfl rfl e4.wf (pol.ext e14) (pol'.ext e4) hl.1 hl.2.1 hl.2.2).mono ?_
    rintro _ H5 ⟨rfl, e5⟩
    simp [hsame]
    have e15 := e14.trans e5
    have ma5 := ma.ext e15
    have hs5 : bytesA H5 tv = some s := bytesA_ext (e1.trans e15) hs
    have pol5' : Pol H5 a' b' c' (parI s).1.1 (parI s).1.2.1 (parI s).1.2.2 := pol'.ext (e4.trans e5)
    have g65 := e5.keep _ _ g4
    have g35 := e5.keep _ _ g24
    have l30 : loadA H5 none (.ptr H1.next 0) = some a := load_get g35 rfl
    rcases ma5.ow with ⟨rfl, hnil⟩ | ⟨o, ha, hne, go, hfo⟩
    · -- no places
      refine Wp_unroll ?_
      simp [l30]
      exact r4a_ok e5.wf hs5 g65 pol5' (by simp) (by simp)
    · subst ha
      have hoH : H.next ≤ o := ma.new o rfl
      have ho1 : o < H1.next := ma.lt e1.wf rfl
      have k2 : ∀ {w : AV} {xs : List (Int × Int)}, Mine 2 pairc H2 H3 w xs → ∀ p, rowObj w = some p → p ∉ [o] := fun mw p q => by have := mw.new p q; simp; omega
      refine Wp_loop (Inv4 H5 tv (parI s).1.1.length H1.next H3.next o) ?_ (parI s).1.1.length _ _ ⟨Fr.refl e5.wf, 0, _, by omega, rfl, go, by rw [flat_pairs_len], by simp, by simp, by simp, by simp⟩
      rintro k τ H6 ⟨fr, i, cs, hi, rfl, g, hcl, t0, t3, t6, t9⟩
      have g36 := fr.keep _ _ (by simp; omega) g35
      have l36 : loadA H6 none (.ptr H1.next 0) = some (.slc o 0 (parI s).1.1.length 2 (parI s).1.1.length false) := load_get g36 rfl
      have n5 := e15.next
      simp only [Wp_seq, Wp_region]
      by_cases hc : i < (parI s).1.1.length
      · have ix : (0 : Int) ≤ (i : Int) ∧ (i : Int) < (((parI s).1.1.length : Nat) : Int) := by omega
        have w : IntKind.i64.wrap ((i : Int) + 1) = ((i + 1 : Nat) : Int) := wrap64 (by omega) (by omega)
        obtain ⟨H7, s7, g7, f7⟩ := store_cell (x := .int .i64 7) fr.wf (by rw [fr.floor, (e1.trans e15).floor]; have := hw.1; omega) g (off := i * 2) (by omega) rfl
        simp [t3, t9, l36, ix.2, hc, s7, w]
        exact ⟨_, by omega, fr.trans e5.wf f7 (by simp), i + 1, _, by omega, rfl, g7, by simp [hcl], by simp [t0], by simp [t3], by simp [t6], by simp⟩
      · simp [t3, t9, l36, hc]
        refine r4a_ok fr.wf (bytesA_fr fr hs5 (fun p q => by have := bytesA_row hw hs q; simp; omega)) (fr.keep _ _ (by simp; have := e2.next; have := e3.next; omega) g65) ⟨pol5'.p.fr fr (k2 ma'), pol5'.l.fr fr (k2 mb'), pol5'.i.fr fr (k2 mc')⟩ (by simp [t0]) (by simp [t6])
end Go.Proofs.YtmgaaieofdjfdaaDoor
