/- The law InputApart, over the interpreter. No claim by itself. -/
import Derived.Test.YtmgaaieofdjfdaaDoorX2
import Derived.Test.YtmgaaieofdjfdaaDoorP3
namespace Go.Proofs.YtmgaaieofdjfdaaDoor
open Go Go.AI
theorem text_prefix {P L I P' L' I' : List (Int × Int)} (hv : validP P L I = true) (hv' : validP P' L' I' = true) {r : List Nat} (h : textI P' L' I' = textI P L I ++ r) : P = P' ∧ L = L' ∧ I = I' := by
  obtain ⟨h3, hb⟩ := numsI_small hv
  have e1 := par_text hv'
  have hl' := text_len hv'
  have hw : wordsN (textI P' L' I') = toksAt 0 (wordsI P L I) ++ scanW idN r (0 + (rend (wordsI P L I)).length) .out := by
    rw [h, ← rend_words]; exact scan_rend _ _ _ (words_ok hv)
  have htx := toksAt_txt 0 (wordsI P L I)
  rw [words_txt] at htx
  cases hq : toksAt 0 (wordsI P L I) with
  | nil => rw [hq] at htx; simp at htx
  | cons t ts =>
    rw [hq] at htx hw
    simp only [List.map_cons, List.cons.injEq] at htx
    have hl : ts.length = (numsI P L I).length := by have := congrArg List.length htx.2; simpa using this
    generalize scanW idN r (0 + (rend (wordsI P L I)).length) .out = R at hw
    have := par_all (s := textI P' L' I') (by omega) (numsI_lim hv) (numsI_all P L I) h3 hb (t := t) (ts := ts ++ R) hw htx.1 (by rw [List.map_append, List.take_append_of_le_length (by simp; omega), htx.2, List.take_of_length_le (by simp)])
    rw [e1, ← hl, List.drop_left] at this
    cases R with
    | nil => simp [finN, numsI_split] at this; exact ⟨this.1.symm, this.2.1.symm, this.2.2.symm⟩
    | cons u R => simp [finN] at this
theorem begins_same {P L I P' L' I' : List (Int × Int)} (hv : validP P L I = true) (hv' : validP P' L' I' = true) :
    (decide ((textI P L I).length ≤ (textI P' L' I').length) && ((textI P' L' I').take (min (textI P L I).length (textI P' L' I').length) == textI P L I)) = samePol P L I P' L' I' := by
  cases h : (decide ((textI P L I).length ≤ (textI P' L' I').length) && ((textI P' L' I').take (min (textI P L I).length (textI P' L' I').length) == textI P L I)) with
  | true =>
    simp only [Bool.and_eq_true, decide_eq_true_eq, beq_iff_eq] at h
    rw [Nat.min_eq_left h.1] at h
    obtain ⟨rfl, rfl, rfl⟩ := text_prefix hv hv' (r := (textI P' L' I').drop (textI P L I).length) (by
      have := List.take_append_drop (textI P L I).length (textI P' L' I')
      rw [h.2] at this; exact this.symm)
    simp [samePol]
  | false =>
    cases hs : samePol P L I P' L' I' with
    | false => rfl
    | true =>
      simp [samePol] at hs
      obtain ⟨⟨rfl, rfl⟩, rfl⟩ := hs
      simp at h
theorem slSA_take {s : List Nat} {n : Nat} (h : n ≤ s.length) : slSA (.str s) none (some (.int .i64 (n : Int))) = some (.str (s.take n)) := by
  have hb : (0 : Int) ≤ (n : Int) ∧ (n : Int) ≤ ((s.length : Nat) : Int) := by omega
  simp only [slSA, boundsA, boundA, if_pos hb, Option.map_some, Int.toNat_natCast, List.drop_zero, Nat.sub_zero]
def r9a : ACode := subAt [1,1,1,1,1,1] A9.body
theorem body9 : A9.body = putAt [1,1,1,1,1,1] A9.body r9a := rfl
theorem apart9 {H : Heap} (hw : H.Wf) {a b c : AV} {P L I : List (Int × Int)} (h : PolA H a b c P L I) {a' b' c' : AV} {P' L' I' : List (Int × Int)} (h' : PolA H a' b' c' P' L' I') : Cp FK 9 [.agg [a, b, c], .agg [a', b', c']] H (fun r _ => r = .bool true) := by
  refine Cp_code A9 rfl rfl ?_
  rw [body9]
  have hA : A9.results = [.tmp 4] := rfl
  rw [hA]
  obtain ⟨g0, e0⟩ := push_new hw (.cells [a, b, c])
  obtain ⟨g1, e1⟩ := push_new e0.wf (.cells [a', b', c'])
  have e01 := e0.trans e1
  have g0' := e1.keep _ _ g0
  have q := h.pol.ext e01
  have q' := h'.pol.ext e01
  simp [A9, putAt, h.pol.one, h'.pol.one]
  generalize hH1 : (H.push (.cells [a, b, c])).push (.cells [a', b', c']) = H1 at *
  have g1 : H1.get (H.next + 1) = some (.cells [a', b', c']) := g1
  have ld : ∀ {H' : Heap}, ExtC H1 H' → loadA H' (some 3) (.ptr H.next 0) = some (.agg [a, b, c]) ∧ loadA H' (some 3) (.ptr (H.next + 1) 0) = some (.agg [a', b', c']) := fun k => ⟨load_agg (k.keep _ _ g0') (by simp [seg]), load_agg (k.keep _ _ g1) (by simp [seg])⟩
  have l0 := ld (ExtC.refl e1.wf)
  simp [l0.1]
  refine (long10 (FT := FK) rfl e1.wf q).mono ?_
  rintro _ H2 ⟨rfl, e2⟩
  have l2 := ld e2.c
  by_cases hl : (decide (300 < P.length) || decide (500 < L.length) || decide (500 < I.length)) = true
  · simp [hl]
    apply hk11
    simp
  have hl0 : (decide (300 < P.length) || decide (500 < L.length) || decide (500 < I.length)) = false := by simpa using hl
  rw [hl0]
  simp [l2.2]
  refine (long10 (FT := FK) rfl e2.wf (q'.ext e2)).mono ?_
  rintro _ H3 ⟨rfl, e3⟩
  have e23 := e2.trans e3
  have l3 := ld e23.c
  by_cases hl' : (decide (300 < P'.length) || decide (500 < L'.length) || decide (500 < I'.length)) = true
  · rw [hl']
    simp
    apply hk11
    simp
  have hl0' : (decide (300 < P'.length) || decide (500 < L'.length) || decide (500 < I'.length)) = false := by simpa using hl'
  rw [hl0']
  simp [l3.1]
  refine (print14 (FT := FK) rfl rfl rfl rfl rfl rfl rfl rfl e3.wf (q.ext e23)).mono ?_
  rintro _ H4 ⟨rfl, e4⟩
  have c4 := e23.c.trans e4
  have l4 := ld c4
  simp [l4.2]
  refine (print14 (FT := FK) rfl rfl rfl rfl rfl rfl rfl rfl e4.wf (q'.extC c4)).mono ?_
  rintro _ H5 ⟨rfl, e5⟩
  have c5 := c4.trans e5
  have l5 := ld c5
  have hlo := hl0
  have hlo' := hl0'
  simp only [Bool.or_eq_false_iff, decide_eq_false_iff_not] at hlo hlo'
  by_cases hv : validP P L I = true
  · by_cases hv' : validP P' L' I' = true
    · have k1 : chkI P L I = 0 := by simp [chkI, hv]
      have k2 : chkI P' L' I' = 0 := by simp [chkI, hv']
      have p1 : prtI P L I = textI P L I := by simp [prtI, hv]
      have p2 : prtI P' L' I' = textI P' L' I' := by simp [prtI, hv']
      rw [k1, k2, p1, p2]
      have hb := begins_same hv hv'
      have ht1 := text_len hv
      have ht2 := text_len hv'
      generalize textI P L I = s at *
      generalize textI P' L' I' = t at *
      have fin : ∀ (bg : Bool), bg = samePol P L I P' L' I' → ∀ {τ : Env}, Env.at τ 2 = .ptr H.next 0 → Env.at τ 3 = .ptr (H.next + 1) 0 → Env.at τ 9 = .bool bg →
          Wp FK r9a τ H5 (finQ [.tmp 4] fun r _ => r = .bool true) := by
        intro bg hbg τ u2 u3 u9
        simp [r9a, subAt, A9, u2, u3, u9, l5.1, l5.2]
        refine (same17 (FT := FK) rfl rfl rfl e5.wf (q.extC c5) (q'.extC c5) (by omega) (by omega) (by omega)).mono ?_
        rintro _ H6 ⟨rfl, e6⟩
        simp [hbg]
        apply hk11
        simp
      by_cases hle : s.length ≤ t.length
      · have hle' : (s.length : Int) ≤ (t.length : Int) := by omega
        have hnl : ¬ t.length < s.length := by omega
        rw [Nat.min_eq_left hle] at hb
        simp [hle', maxA, hnl, slSA_take hle]
        exact fin (t.take s.length == s) (by rw [← hb, decide_eq_true hle, Bool.true_and]) (by simp) (by simp) (by simp)
      · have hle' : ¬ (s.length : Int) ≤ (t.length : Int) := by omega
        simp [hle']
        exact fin false (by rw [← hb, decide_eq_false hle, Bool.false_and]) (by simp) (by simp) (by simp)
    · have k1 : chkI P L I = 0 := by simp [chkI, hv]
      have k2 : chkI P' L' I' = 2 := by simp [chkI, hv']
      have p2 : prtI P' L' I' = [] := by simp [prtI, hv']
      rw [k1, k2, p2]
      by_cases hs : prtI P L I = []
      · simp [hs]
        apply hk11
        simp
      · have hs' : (prtI P L I == []) = false := by simpa using hs
        simp [hs']
        apply hk11
        simp
  · have k1 : chkI P L I = 2 := by simp [chkI, hv]
    have p1 : prtI P L I = [] := by simp [prtI, hv]
    rw [k1, p1]
    simp
    apply hk11
    simp
end Go.Proofs.YtmgaaieofdjfdaaDoor
