/- A text cut, or with a word of it changed. Plain. No claim by itself. -/
import Derived.Test.YtmgaaieofdjfdaaDoorP3
namespace Go.Proofs.YtmgaaieofdjfdaaDoor
open Go Go.AI
section
variable {P L I : List (Int × Int)}
theorem wordsI_len : (wordsI P L I).length = (numsI P L I).length + 1 := by
  have := congrArg List.length (words_txt P L I); simpa using this
theorem wordsI_get {k : Nat} {q : Wd} (h : (wordsI P L I)[k]? = some q) : q.1 = (polyS :: (numsI P L I).map itoaN)[k]?.getD [] := by
  have := congrArg (fun l => l[k]?) (words_txt P L I)
  simp only [List.getElem?_map, h, Option.map_some] at this
  rw [← this]; rfl
theorem rend_split {k : Nat} {q : Wd} (h : (wordsI P L I)[k]? = some q) : textI P L I = rend ((wordsI P L I).take k) ++ (q.1 ++ (q.2 ++ rend ((wordsI P L I).drop (k + 1)))) := by
  rw [← rend_words]
  conv => lhs; rw [← List.take_append_drop k (wordsI P L I), rend_app, drop_get h]
  simp [rend]
theorem take_ok (hv : validP P L I = true) (k : Nat) : ∀ q, q ∈ (wordsI P L I).take k → wordOk q.1 ∧ sepOk q.2 := fun q hq => words_ok hv q (List.mem_of_mem_take hq)
theorem take_txt (k : Nat) : ((wordsI P L I).take (k + 1)).map (·.1) = polyS :: ((numsI P L I).take k).map itoaN := by
  rw [List.map_take, words_txt, List.take_succ_cons, List.map_take]
theorem cut_take (hv : validP P L I = true) {k : Nat} (hk : k < (wordsI P L I).length) : parI (rend ((wordsI P L I).take k)) = (([], [], []), ((rend ((wordsI P L I).take k)).length : Int), 11) := by
  obtain ⟨h3, hb⟩ := numsI_small hv
  have hlen := wordsI_len (P := P) (L := L) (I := I)
  have hle : (rend ((wordsI P L I).take k)).length ≤ 1048576 := by
    have h1 := text_len hv
    rw [← rend_words] at h1
    have h2 := rend_app ((wordsI P L I).take k) ((wordsI P L I).drop k)
    rw [List.take_append_drop] at h2
    rw [h2] at h1; simp at h1; omega
  have hw := words_rend (take_ok hv k)
  cases k with
  | zero => rfl
  | succ k =>
    have ht := toksAt_txt 0 ((wordsI P L I).take (k + 1))
    rw [take_txt] at ht
    cases hq : toksAt 0 ((wordsI P L I).take (k + 1)) with
    | nil => rw [hq] at ht; simp at ht
    | cons t ts =>
      rw [hq] at ht hw
      simp only [List.map_cons, List.cons.injEq] at ht
      exact par_cut hle (numsI_lim hv) (numsI_all P L I) h3 hb hw ht.1 (by omega) ht.2
theorem cut_more (hv : validP P L I = true) {w : List Nat} (hw : wordOk w) (hwl : w.length ≤ 100) : parI (textI P L I ++ ([32] ++ w)) = (([], [], []), ((textI P L I).length : Int) + 1, 11) := by
  obtain ⟨h3, hb⟩ := numsI_small hv
  have hl := text_len hv
  have hca : ∀ (a : Tok) (x y : List Tok), a :: x ++ y = a :: (x ++ y) := fun _ _ _ => rfl
  have hs : wordsN (textI P L I ++ ([32] ++ w)) = toksAt 0 (wordsI P L I) ++ [((textI P L I).length + 1, w)] := by
    have := scan_rend (wordsI P L I) ([32] ++ w) 0 (words_ok hv)
    rw [rend_words] at this
    show scanW idN _ 0 .out = _
    rw [this]
    congr 1
    have h1 : scanW idN ([32] ++ w) (0 + (textI P L I).length) .out = scanW idN w (0 + (textI P L I).length + 1) .out := rfl
    have h2 := scan_start' hw [] (0 + (textI P L I).length + 1)
    rw [List.append_nil] at h2
    rw [h1, h2]
    simp [scanW]
  have ht := toksAt_txt 0 (wordsI P L I)
  rw [words_txt] at ht
  cases hq : toksAt 0 (wordsI P L I) with
  | nil => rw [hq] at ht; simp at ht
  | cons t ts =>
    rw [hq] at ht hs
    rw [hca] at hs
    simp only [List.map_cons, List.cons.injEq] at ht
    have hlt : ts.length = (numsI P L I).length := by have := congrArg List.length ht.2; simpa using this
    have := par_all (s := textI P L I ++ ([32] ++ w)) (by simp; omega) (numsI_lim hv) (numsI_all P L I) h3 hb hs ht.1 (by rw [List.map_append, List.take_append_of_le_length (by simp; omega), ht.2, List.take_of_length_le (by simp)])
    rw [this, ← hlt, List.drop_left]
    simp [finN]
/-- A word changed for one that may not stand there. -/
theorem cut_swap (hv : validP P L I = true) {k : Nat} {q : Wd} (h : (wordsI P L I)[k + 1]? = some q) {w : List Nat} (hw : wordOk w) (hwl : w.length ≤ 100) {e : Int} (he : e ≠ 0) (hn : (numR w (limI k ((numsI P L I).take k)).1 (limI k ((numsI P L I).take k)).2).2 = e) :
    parI (rend ((wordsI P L I).take (k + 1)) ++ (w ++ (q.2 ++ rend ((wordsI P L I).drop (k + 1 + 1))))) = (([], [], []), ((rend ((wordsI P L I).take (k + 1))).length : Int), e) := by
  obtain ⟨h3, hb⟩ := numsI_small hv
  have hlen := wordsI_len (P := P) (L := L) (I := I)
  have hkl : k + 1 < (wordsI P L I).length := (List.getElem?_eq_some_iff.1 h).1
  have hl := text_len hv
  rw [rend_split h] at hl
  simp only [List.length_append] at hl
  have hr : rend ((wordsI P L I).take (k + 1)) ++ (w ++ (q.2 ++ rend ((wordsI P L I).drop (k + 1 + 1)))) = rend ((wordsI P L I).take (k + 1) ++ ((w, q.2) :: (wordsI P L I).drop (k + 1 + 1))) := by
    rw [rend_app]; simp [rend]
  have hok : ∀ p, p ∈ (wordsI P L I).take (k + 1) ++ ((w, q.2) :: (wordsI P L I).drop (k + 1 + 1)) → wordOk p.1 ∧ sepOk p.2 := by
    intro p hp
    rcases List.mem_append.1 hp with r | r
    · exact take_ok hv _ p r
    · rcases List.mem_cons.1 r with r | r
      · subst r; exact ⟨hw, (words_ok hv q (List.mem_of_getElem? h)).2⟩
      · exact words_ok hv p (List.mem_of_mem_drop r)
  have hwd := words_rend hok
  rw [toksAt_app] at hwd
  have ht := toksAt_txt 0 ((wordsI P L I).take (k + 1))
  rw [take_txt] at ht
  have htl := toksAt_len 0 ((wordsI P L I).take (k + 1))
  have htl2 : ((wordsI P L I).take (k + 1)).length = k + 1 := by simp; omega
  cases hq : toksAt 0 ((wordsI P L I).take (k + 1)) with
  | nil => rw [hq] at ht; simp at ht
  | cons t ts =>
    rw [hq] at ht hwd htl
    simp only [List.map_cons, List.cons.injEq] at ht
    simp only [toksAt, List.cons_append] at hwd
    simp only [List.length_cons] at htl
    have htsl : ts.length = k := by omega
    generalize toksAt _ ((wordsI P L I).drop (k + 1 + 1)) = R at hwd
    have := par_bad (s := rend ((wordsI P L I).take (k + 1) ++ ((w, q.2) :: (wordsI P L I).drop (k + 1 + 1)))) (by rw [← hr]; simp only [List.length_append]; omega) (numsI_lim hv) (numsI_all P L I) h3 hb hwd ht.1 (k := k) (by omega)
      (by rw [List.map_append, List.take_append_of_le_length (by simp; omega), ht.2, List.take_of_length_le (by simp; omega)]) (u := (0 + (rend ((wordsI P L I).take (k + 1))).length, w))
      (by rw [List.getElem?_append_right (by omega), htsl]; simp) he hn
    rw [hr, this]
    simp
theorem cut_first (hv : validP P L I = true) {q : Wd} (h : (wordsI P L I)[0]? = some q) {w : List Nat} (hw : wordOk w) (hwl : w.length ≤ 100) (hp : w ≠ polyS) : parI (w ++ (q.2 ++ rend ((wordsI P L I).drop 1))) = (([], [], []), 0, 11) := by
  have hl := text_len hv
  rw [rend_split h] at hl
  simp only [List.length_append, Nat.zero_add] at hl
  have hr : w ++ (q.2 ++ rend ((wordsI P L I).drop 1)) = rend ((w, q.2) :: (wordsI P L I).drop 1) := by simp [rend]
  have hwd : wordsN (rend ((w, q.2) :: (wordsI P L I).drop 1)) = toksAt 0 ((w, q.2) :: (wordsI P L I).drop 1) := words_rend (by
    intro p hp
    rcases List.mem_cons.1 hp with r | r
    · subst r; exact ⟨hw, (words_ok hv q (List.mem_of_getElem? h)).2⟩
    · exact words_ok hv p (List.mem_of_mem_drop r))
  simp only [toksAt] at hwd
  rw [hr]
  unfold parI
  rw [if_neg (by rw [← hr]; simp only [List.length_append]; omega), hwd, if_neg (show ¬ (((0, w) :: toksAt _ _ : List Tok).head?.getD _).2 = polyS from hp)]
  rfl
end
end Go.Proofs.YtmgaaieofdjfdaaDoor
