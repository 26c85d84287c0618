/- What is printed is read again; what is read may be. Plain. No claim by itself. -/
import Derived.Test.YtmgaaieofdjfdaaDoorP2
import Derived.Test.YtmgaaieofdjfdaaDoorD3
namespace Go.Proofs.YtmgaaieofdjfdaaDoor
open Go Go.AI
theorem par_flat {s : List Nat} (hs : s.length ≤ 1048576) {t : Tok} {ts : List Tok} (hw : wordsN s = t :: ts) (hp : t.2 = polyS) : parI s = flatF s.length 3000 0 3 [] ts := by
  unfold parI
  rw [if_neg (by omega), hw, if_pos (show ((t :: ts).head?.getD (s.length, [])).2 = polyS from hp)]
  exact body3_flat _ _
theorem par_run {s : List Nat} (hs : s.length ≤ 1048576) {V : List Int} (hV : inLim V) (hall : allN V = V.length) (h3 : 3 ≤ V.length) (hbig : V.length ≤ 2403) {t : Tok} {ts : List Tok} (hw : wordsN s = t :: ts) (hp : t.2 = polyS) {k : Nat} (hk : k ≤ V.length)
    (ht : (ts.map (·.2)).take k = (V.take k).map itoaN) : parI s = flatF s.length (3000 - k) k (if k < 3 then 3 else V.length) (V.take k) (ts.drop k) := by
  rw [par_flat hs hw hp, flat_run hV hall h3 hbig k hk ht]
/-- All words are read. -/
theorem par_all {s : List Nat} (hs : s.length ≤ 1048576) {V : List Int} (hV : inLim V) (hall : allN V = V.length) (h3 : 3 ≤ V.length) (hbig : V.length ≤ 2403) {t : Tok} {ts : List Tok} (hw : wordsN s = t :: ts) (hp : t.2 = polyS)
    (ht : (ts.map (·.2)).take V.length = V.map itoaN) : parI s = finN V (ts.drop V.length) := by
  rw [par_run hs hV hall h3 hbig hw hp (Nat.le_refl _) (by rw [List.take_length]; exact ht), if_neg (by omega), List.take_length, show 3000 - V.length = (2999 - V.length) + 1 from by omega, flatF, if_neg (by omega)]
/-- A word is missing. -/
theorem par_cut {s : List Nat} (hs : s.length ≤ 1048576) {V : List Int} (hV : inLim V) (hall : allN V = V.length) (h3 : 3 ≤ V.length) (hbig : V.length ≤ 2403) {t : Tok} {ts : List Tok} (hw : wordsN s = t :: ts) (hp : t.2 = polyS) {k : Nat} (hk : k < V.length)
    (ht : ts.map (·.2) = (V.take k).map itoaN) : parI s = (([], [], []), (s.length : Int), 11) := by
  have hl : ts.length = k := by have := congrArg List.length ht; simp at this; omega
  rw [par_run hs hV hall h3 hbig hw hp (Nat.le_of_lt hk) (by rw [ht, List.take_of_length_le (by simp; omega)]), List.drop_eq_nil_of_le (by omega), show 3000 - k = (2999 - k) + 1 from by omega, flatF, if_pos (by split <;> omega)]
  rfl
/-- A word is wrong. -/
theorem par_bad {s : List Nat} (hs : s.length ≤ 1048576) {V : List Int} (hV : inLim V) (hall : allN V = V.length) (h3 : 3 ≤ V.length) (hbig : V.length ≤ 2403) {t : Tok} {ts : List Tok} (hw : wordsN s = t :: ts) (hp : t.2 = polyS) {k : Nat} (hk : k < V.length)
    (ht : (ts.map (·.2)).take k = (V.take k).map itoaN) {u : Tok} (hu : ts[k]? = some u) {e : Int} (he : e ≠ 0) (hn : (numR u.2 (limI k (V.take k)).1 (limI k (V.take k)).2).2 = e) : parI s = (([], [], []), (u.1 : Int), e) := by
  rw [par_run hs hV hall h3 hbig hw hp (Nat.le_of_lt hk) ht, drop_get hu, show 3000 - k = (2999 - k) + 1 from by omega, flat_step _ _ _ _ _ _ _ (by split <;> omega), hn, if_neg he]
theorem scan_pos {α : Type} {val : α → Nat} : ∀ (l : List α) (p : Nat) (st : SS α), (match st with | .word f _ => f ≤ p | _ => True) → ∀ t, t ∈ scanW val l p st → t.1 ≤ p + l.length
  | [], p, .out, _, t, ht => by simp [scanW] at ht
  | [], p, .com, _, t, ht => by simp [scanW] at ht
  | [], p, .word f acc, h, t, ht => by simp only [scanW, List.mem_singleton] at ht; subst ht; exact h
  | c :: r, p, .out, _, t, ht => by
    simp only [scanW] at ht
    simp only [List.length_cons]
    cases h1 : isBl (val c) with
    | true => rw [h1] at ht; have := scan_pos r (p + 1) .out trivial t ht; omega
    | false =>
      rw [h1] at ht; simp only [cond_false] at ht
      cases h2 : Nat.beq (val c) 35 with
      | true => rw [h2] at ht; have := scan_pos r (p + 1) .com trivial t ht; omega
      | false => rw [h2] at ht; have := scan_pos r (p + 1) (.word p [c]) (Nat.le_succ p) t ht; omega
  | c :: r, p, .com, _, t, ht => by
    simp only [scanW] at ht
    simp only [List.length_cons]
    cases h2 : Nat.beq (val c) 10 with
    | true => rw [h2] at ht; have := scan_pos r (p + 1) .out trivial t ht; omega
    | false => rw [h2] at ht; have := scan_pos r (p + 1) .com trivial t ht; omega
  | c :: r, p, .word f acc, h, t, ht => by
    simp only [scanW] at ht
    simp only [List.length_cons]
    have h : f ≤ p := h
    cases h1 : isBl (val c) with
    | true =>
      rw [h1] at ht; simp only [cond_true] at ht
      rcases List.mem_cons.1 ht with q | q
      · subst q; simp only; omega
      · have := scan_pos r (p + 1) .out trivial t q; omega
    | false => rw [h1] at ht; have := scan_pos r (p + 1) (.word f (c :: acc)) (show f ≤ p + 1 by omega) t ht; omega
/-- What comes of reading: an input that may be, or a place and what is wrong. -/
def ResOk (en : Nat) (r : Pl3 × Int × Int) : Prop := (∃ V, inLim V ∧ allN V = V.length ∧ 3 ≤ V.length ∧ r = (splitN V, 0, 0)) ∨ ∃ x e, r = (([], [], []), x, e) ∧ e ≠ 0 ∧ 0 ≤ x ∧ x ≤ en
theorem flat_res {en : Nat} : ∀ (m i all : Nat) (n : List Int) (ts : List Tok), inLim n → n.length = i → i ≤ all → all ≤ 2403 → (i < 3 → all = 3) → (3 ≤ i → all = allN n) → m + i = 3000 → (∀ t, t ∈ ts → t.1 ≤ en) → ResOk en (flatF en m i all n ts)
  | 0, i, all, n, ts, _, _, h, h', _, _, hm, _ => by omega
  | m + 1, i, all, n, ts, hn, hl, hia, hall, h3, hN, hm, hts => by
    have fin : ∀ ts : List Tok, (∀ t, t ∈ ts → t.1 ≤ en) → i = all → ResOk en (finN n ts) := by
      intro ts hts hie
      cases ts with
      | nil =>
        have h3i : 3 ≤ i := by
          refine Classical.byContradiction fun q => ?_
          have := h3 (by omega); omega
        exact .inl ⟨n, hn, by rw [← hN h3i, hl, hie], by omega, rfl⟩
      | cons t ts => exact .inr ⟨t.1, 11, rfl, by omega, by omega, by have := hts t (by simp); omega⟩
    by_cases hi : i < all
    · cases ts with
      | nil =>
        rw [flatF, if_pos hi]
        exact .inr ⟨en, 11, rfl, by omega, by omega, by omega⟩
      | cons t ts =>
        rw [flat_step _ _ _ _ _ _ _ hi]
        by_cases h0 : (numR t.2 (limI i n).1 (limI i n).2).2 = 0
        · rw [if_pos h0]
          have hx : (limI i n).1 ≤ (numR t.2 (limI i n).1 (limI i n).2).1 ∧ (numR t.2 (limI i n).1 (limI i n).2).1 ≤ (limI i n).2 := by
            unfold numR at h0 ⊢
            split at h0
            · simp at h0
            · split at h0
              · rename_i h1 h2; rw [if_neg h1, if_pos h2]; exact h2
              · simp at h0
          generalize (numR t.2 (limI i n).1 (limI i n).2).1 = x at *
          have hn' : inLim (n ++ [x]) := by
            intro j y hj
            by_cases hjl : j < n.length
            · rw [List.getElem?_append_left hjl] at hj
              rw [List.take_append_of_le_length (by omega)]
              exact hn j y hj
            · have hje : j = n.length := by
                have := (List.getElem?_eq_some_iff.1 hj).1; simp at this; omega
              subst hje
              simp at hj; subst hj
              rw [List.take_left, hl]; exact hx
          have hts' : ∀ u, u ∈ ts → u.1 ≤ en := fun u hu => hts u (by simp [hu])
          by_cases h2 : i = 2
          · rw [if_pos h2]
            have hsm : ∀ j y, j < 3 → (n ++ [x])[j]? = some y → y ≤ 400 := fun j y hj hy => by
              have := hn' j y hy
              match j, hj with
              | 0, _ => simp [limI] at this; omega
              | 1, _ => simp [limI] at this; omega
              | 2, _ => simp [limI] at this; omega
            have hno : ∀ j, j < 3 → nOf (n ++ [x]) j ≤ 400 := fun j hj => by
              unfold nOf
              cases hq : (n ++ [x])[j]? with
              | none => simp
              | some y => have := hsm j y hj hq; simp; omega
            have k0 := hno 0 (by omega); have k1 := hno 1 (by omega); have k2 := hno 2 (by omega)
            exact flat_res m (i + 1) _ _ ts hn' (by simp [hl]) (by unfold allN; omega) (by unfold allN; omega) (fun q => by omega) (fun _ => rfl) (by omega) hts'
          · rw [if_neg h2]
            refine flat_res m (i + 1) _ _ ts hn' (by simp [hl]) (by omega) hall (fun q => h3 (by omega)) (fun q => ?_) (by omega) hts'
            rw [hN (by omega)]
            unfold allN nOf
            rw [List.getElem?_append_left (by omega), List.getElem?_append_left (by omega), List.getElem?_append_left (by omega)]
        · rw [if_neg h0]
          exact .inr ⟨t.1, _, rfl, h0, by omega, by have := hts t (by simp); omega⟩
    · rw [flatF, if_neg hi]
      exact fin ts hts (by omega)
theorem inLim_nil : inLim [] := fun i x h => by simp at h
theorem par_res (s : List Nat) : ResOk s.length (parI s) := by
  unfold parI
  split
  · exact .inr ⟨0, 3, rfl, by omega, by omega, by omega⟩
  · have hpos : ∀ t, t ∈ wordsN s → t.1 ≤ s.length := fun t ht => by have := scan_pos s 0 .out trivial t ht; omega
    split
    · rw [body3_flat]
      exact flat_res 3000 0 3 [] _ inLim_nil rfl (by omega) (by omega) (by omega) (by omega) (by omega) (fun t ht => hpos t (List.mem_of_mem_tail ht))
    · refine .inr ⟨_, 11, rfl, by omega, by omega, ?_⟩
      cases h : wordsN s with
      | nil => simp
      | cons t ts => have := hpos t (by rw [h]; simp); simp; omega
theorem pairUp_mem : ∀ (l : List Int) (k : Nat) (q : Int × Int), (pairUp l)[k]? = some q → l[2 * k]? = some q.1 ∧ l[2 * k + 1]? = some q.2
  | [], k, q, h => by simp [pairUp] at h
  | [a], k, q, h => by simp [pairUp] at h
  | a :: b :: r, 0, q, h => by simp [pairUp] at h; subst h; simp
  | a :: b :: r, k + 1, q, h => by
    simp only [pairUp, List.getElem?_cons_succ] at h
    obtain ⟨h1, h2⟩ := pairUp_mem r k q h
    rw [show 2 * (k + 1) = 2 * k + 1 + 1 from by omega]
    exact ⟨by simpa using h1, by simpa using h2⟩
theorem split_valid {V : List Int} (hV : inLim V) (hall : allN V = V.length) : validP (splitN V).1 (splitN V).2.1 (splitN V).2.2 = true := by
  have h3 : 3 ≤ V.length := by rw [← hall]; unfold allN; omega
  have get : ∀ j, j < 3 → ∃ N : Nat, V[j]? = some (N : Int) ∧ nOf V j = N ∧ (N ≤ if j = 0 then 200 else 400) := by
    intro j hj
    obtain ⟨x, hx⟩ : ∃ x, V[j]? = some x := ⟨_, List.getElem?_eq_getElem (by omega)⟩
    have := hV j x hx
    have h0 : 0 ≤ x ∧ x ≤ (if j = 0 then 200 else 400 : Nat) := by
      match j, hj with
      | 0, _ => simpa [limI] using this
      | 1, _ => simpa [limI] using this
      | 2, _ => simpa [limI] using this
    obtain ⟨N, rfl⟩ := Int.eq_ofNat_of_zero_le h0.1
    exact ⟨N, hx, by simp [nOf, hx], by omega⟩
  obtain ⟨N, v0, o0, b0⟩ := get 0 (by omega)
  obtain ⟨M, v1, o1, b1⟩ := get 1 (by omega)
  obtain ⟨K, v2, o2, b2⟩ := get 2 (by omega)
  simp at b0 b1 b2
  have hlen : V.length = 3 + 2 * (N + M + K) := by rw [← hall, allN, o0, o1, o2]
  have hpl : (pairUp (V.drop 3)).length = N + M + K := by rw [pairUp_len]; simp; omega
  have elem : ∀ k q, (pairUp (V.drop 3))[k]? = some q → ((limI (3 + 2 * k) V).1 ≤ q.1 ∧ q.1 ≤ (limI (3 + 2 * k) V).2) ∧ ((limI (3 + 2 * k + 1) V).1 ≤ q.2 ∧ q.2 ≤ (limI (3 + 2 * k + 1) V).2) := by
    intro k q hq
    obtain ⟨h1, h2⟩ := pairUp_mem _ k q hq
    rw [List.getElem?_drop] at h1 h2
    have k1 := hV _ _ h1
    have k2 := hV _ _ h2
    rw [limI_take (by omega)] at k1 k2
    exact ⟨k1, k2⟩
  have sp : splitN V = ((pairUp (V.drop 3)).take N, ((pairUp (V.drop 3)).drop N).take M, (pairUp (V.drop 3)).drop (N + M)) := by unfold splitN; rw [o0, o1]
  rw [sp]
  generalize pairUp (V.drop 3) = q at *
  have lP : (q.take N).length = N := by simp; omega
  have lL : ((q.drop N).take M).length = M := by simp; omega
  have lI : (q.drop (N + M)).length = K := by simp; omega
  simp only [validP, lP, lL, lI, Bool.and_eq_true, decide_eq_true_eq, List.all_eq_true]
  have lim2 : ∀ j, N ≤ j → limI (3 + 2 * j) V = (0, (N : Int) - 1) ∧ limI (3 + 2 * j + 1) V = (0, (N : Int) - 1) := by
    intro j hj
    unfold limI
    rw [if_neg (by omega), if_neg (by omega), v0, if_neg (by simp; omega), if_neg (by omega), if_neg (by omega), if_neg (by simp; omega)]
    exact ⟨rfl, rfl⟩
  refine ⟨⟨⟨⟨⟨b0, b1⟩, b2⟩, fun x hx => ?_⟩, fun x hx => ?_⟩, fun x hx => ?_⟩
  · obtain ⟨k, hk⟩ := List.getElem?_of_mem hx
    rw [List.getElem?_take] at hk
    split at hk
    · rename_i hkN
      have := elem k x hk
      have e1 : limI (3 + 2 * k) V = (-1048576, 1048576) := by unfold limI; rw [if_neg (by omega), if_neg (by omega), v0, if_pos (by simp; omega)]
      have e2 : limI (3 + 2 * k + 1) V = (-1048576, 1048576) := by unfold limI; rw [if_neg (by omega), if_neg (by omega), v0, if_pos (by simp; omega)]
      rw [e1, e2] at this
      simp [okPl, inR]; omega
    · cases hk
  · obtain ⟨k, hk⟩ := List.getElem?_of_mem hx
    rw [List.getElem?_take] at hk
    split at hk
    · rw [List.getElem?_drop] at hk
      have := elem _ x hk
      obtain ⟨e1, e2⟩ := lim2 (N + k) (by omega)
      rw [e1, e2] at this
      simp [okSg, inR]; omega
    · cases hk
  · obtain ⟨k, hk⟩ := List.getElem?_of_mem hx
    rw [List.getElem?_drop] at hk
    have := elem _ x hk
    obtain ⟨e1, e2⟩ := lim2 (N + M + k) (by omega)
    rw [e1, e2] at this
    simp [okSg, inR]; omega
/-- The words of an input's text, each with what stands behind it. -/
def lineW (q : Int × Int) : List Wd := [(itoaN q.1, [32]), (itoaN q.2, [10])]
def wordsI (P L I : List (Int × Int)) : List Wd := [(polyS, [32]), (itoaN P.length, [32]), (itoaN L.length, [32]), (itoaN I.length, [10])] ++ (P.flatMap lineW ++ (L.flatMap lineW ++ I.flatMap lineW))
theorem rend_lines (l : List (Int × Int)) : rend (l.flatMap lineW) = l.flatMap lineQ := by
  induction l with
  | nil => rfl
  | cons q l ih => rw [List.flatMap_cons, rend_app, ih, List.flatMap_cons, ← two_line]; simp [rend, lineW, twoS]
theorem rend_words (P L I : List (Int × Int)) : rend (wordsI P L I) = textI P L I := by
  unfold wordsI textI
  rw [rend_app, rend_app, rend_app, rend_lines, rend_lines, rend_lines, ← hdr_eq]
  simp [rend, polyS, twoS]
theorem words_txt (P L I : List (Int × Int)) : (wordsI P L I).map (·.1) = polyS :: (numsI P L I).map itoaN := by
  have h : ∀ l : List (Int × Int), (l.flatMap lineW).map (·.1) = (flatV l).map itoaN := by
    intro l
    induction l with
    | nil => rfl
    | cons q l ih => simp only [List.flatMap_cons, flatV, List.map_append] at ih ⊢; rw [ih]; rfl
  simp only [wordsI, numsI, List.map_append, h]
  simp
theorem poly_ok : wordOk polyS := ⟨by simp [polyS], by intro c hc; simp [polyS] at hc; rcases hc with rfl | rfl | rfl | rfl <;> rfl, by simp [polyS]⟩
theorem words_ok {P L I : List (Int × Int)} (hv : validP P L I = true) : ∀ q, q ∈ wordsI P L I → wordOk q.1 ∧ sepOk q.2 := by
  have hl := numsI_lim hv
  have hV : ∀ x, x ∈ numsI P L I → wordOk (itoaN x) := fun x hx => by
    obtain ⟨i, hi⟩ := List.getElem?_of_mem hx
    exact (itoa_facts (inLim_small hl hi)).1
  intro q hq
  have h1 : q.1 ∈ (wordsI P L I).map (·.1) := List.mem_map.2 ⟨q, hq, rfl⟩
  rw [words_txt] at h1
  refine ⟨?_, ?_⟩
  · rcases List.mem_cons.1 h1 with r | r
    · rw [r]; exact poly_ok
    · obtain ⟨x, hx, hxe⟩ := List.mem_map.1 r
      rw [← hxe]; exact hV x hx
  · have hs : ∀ l : List (Int × Int), q ∈ l.flatMap lineW → sepOk q.2 := fun l h => by
      obtain ⟨p, _, h2⟩ := List.mem_flatMap.1 h
      simp [lineW] at h2
      rcases h2 with rfl | rfl
      · exact sep_sp
      · exact sep_nl
    unfold wordsI at hq
    rcases List.mem_append.1 hq with r | r
    · simp at r
      rcases r with rfl | rfl | rfl | rfl
      · exact sep_sp
      · exact sep_sp
      · exact sep_sp
      · exact sep_nl
    · rcases List.mem_append.1 r with r | r
      · exact hs _ r
      · rcases List.mem_append.1 r with r | r <;> exact hs _ r
theorem text_len {P L I : List (Int × Int)} (hv : validP P L I = true) : (textI P L I).length ≤ 100000 := by
  have h0 := hdr_len P L I
  have h1 := lines_len P
  have h2 := lines_len L
  have h3 := lines_len I
  simp only [validP, Bool.and_eq_true, decide_eq_true_eq] at hv
  simp only [textI, List.length_append]
  omega
theorem numsI_small {P L I : List (Int × Int)} (hv : validP P L I = true) : 3 ≤ (numsI P L I).length ∧ (numsI P L I).length ≤ 2403 := by
  simp only [validP, Bool.and_eq_true, decide_eq_true_eq] at hv
  rw [numsI_len]; omega
/-- Any text of these words, as they come, is read as the input. -/
theorem par_words {P L I : List (Int × Int)} (hv : validP P L I = true) {s : List Nat} (hs : s.length ≤ 1048576) (hw : (wordsN s).map (·.2) = polyS :: (numsI P L I).map itoaN) : parI s = ((P, L, I), 0, 0) := by
  obtain ⟨h3, hb⟩ := numsI_small hv
  cases hq : wordsN s with
  | nil => rw [hq] at hw; simp at hw
  | cons t ts =>
    rw [hq] at hw
    simp only [List.map_cons, List.cons.injEq] at hw
    have hl : ts.length = (numsI P L I).length := by have := congrArg List.length hw.2; simpa using this
    rw [par_all hs (numsI_lim hv) (numsI_all P L I) h3 hb hq hw.1 (by rw [hw.2, List.take_of_length_le (by simp)]), List.drop_eq_nil_of_le (by omega)]
    simp [finN, numsI_split]
theorem words_text {P L I : List (Int × Int)} (hv : validP P L I = true) : wordsN (textI P L I) = toksAt 0 (wordsI P L I) := by
  rw [← rend_words]; exact words_rend (words_ok hv)
theorem par_text {P L I : List (Int × Int)} (hv : validP P L I = true) : parI (textI P L I) = ((P, L, I), 0, 0) :=
  par_words hv (by have := text_len hv; omega) (by rw [words_text hv, toksAt_txt, words_txt])
/-! ### A text cut, or with a word of it changed -/
section
variable {P L I : List (Int × Int)}
theorem wordsI_len : (wordsI P L I).length = (numsI P L I).length + 1 := by
  have := congrArg List.length (words_txt P L I); simpa using this
theorem wordsI_get {k : Nat} {q : Wd} (h : (wordsI P L I)[k]? = some q) : q.1 = (polyS :: (numsI P L I).map itoaN)[k]?.getD [] := by
  have := congrArg (fun l => l[k]?) (words_txt P L I)
  simp only [List.getElem?_map, h, Option.map_some] at this
  rw [← this]; rfl
theorem rend_split {k : Nat} {q : Wd} (h : (wordsI P L I)[k]? = some q) : textI P L I = rend ((wordsI P L I).take k) ++ (q.1 ++ (q.2 ++ rend ((wordsI P L I).drop (k + 1)))) := by
  rw [← rend_words]
  conv => lhs; rw [← List.take_append_drop k (wordsI P L I), rend_app, drop_get h]
  simp [rend]
theorem take_ok (hv : validP P L I = true) (k : Nat) : ∀ q, q ∈ (wordsI P L I).take k → wordOk q.1 ∧ sepOk q.2 := fun q hq => words_ok hv q (List.mem_of_mem_take hq)
theorem take_txt (k : Nat) : ((wordsI P L I).take (k + 1)).map (·.1) = polyS :: ((numsI P L I).take k).map itoaN := by
  rw [List.map_take, words_txt, List.take_succ_cons, List.map_take]
theorem cut_take (hv : validP P L I = true) {k : Nat} (hk : k < (wordsI P L I).length) : parI (rend ((wordsI P L I).take k)) = (([], [], []), ((rend ((wordsI P L I).take k)).length : Int), 11) := by
  obtain ⟨h3, hb⟩ := numsI_small hv
  have hlen := wordsI_len (P := P) (L := L) (I := I)
  have hle : (rend ((wordsI P L I).take k)).length ≤ 1048576 := by
    have h1 := text_len hv
    rw [← rend_words] at h1
    have h2 := rend_app ((wordsI P L I).take k) ((wordsI P L I).drop k)
    rw [List.take_append_drop] at h2
    rw [h2] at h1; simp at h1; omega
  have hw := words_rend (take_ok hv k)
  cases k with
  | zero => rfl
  | succ k =>
    have ht := toksAt_txt 0 ((wordsI P L I).take (k + 1))
    rw [take_txt] at ht
    cases hq : toksAt 0 ((wordsI P L I).take (k + 1)) with
    | nil => rw [hq] at ht; simp at ht
    | cons t ts =>
      rw [hq] at ht hw
      simp only [List.map_cons, List.cons.injEq] at ht
      exact par_cut hle (numsI_lim hv) (numsI_all P L I) h3 hb hw ht.1 (by omega) ht.2
theorem cut_more (hv : validP P L I = true) {w : List Nat} (hw : wordOk w) (hwl : w.length ≤ 100) : parI (textI P L I ++ ([32] ++ w)) = (([], [], []), ((textI P L I).length : Int) + 1, 11) := by
  obtain ⟨h3, hb⟩ := numsI_small hv
  have hl := text_len hv
  have hca : ∀ (a : Tok) (x y : List Tok), a :: x ++ y = a :: (x ++ y) := fun _ _ _ => rfl
  have hs : wordsN (textI P L I ++ ([32] ++ w)) = toksAt 0 (wordsI P L I) ++ [((textI P L I).length + 1, w)] := by
    have := scan_rend (wordsI P L I) ([32] ++ w) 0 (words_ok hv)
    rw [rend_words] at this
    show scanW idN _ 0 .out = _
    rw [this]
    congr 1
    have h1 : scanW idN ([32] ++ w) (0 + (textI P L I).length) .out = scanW idN w (0 + (textI P L I).length + 1) .out := rfl
    have h2 := scan_start' hw [] (0 + (textI P L I).length + 1)
    rw [List.append_nil] at h2
    rw [h1, h2]
    simp [scanW]
  have ht := toksAt_txt 0 (wordsI P L I)
  rw [words_txt] at ht
  cases hq : toksAt 0 (wordsI P L I) with
  | nil => rw [hq] at ht; simp at ht
  | cons t ts =>
    rw [hq] at ht hs
    rw [hca] at hs
    simp only [List.map_cons, List.cons.injEq] at ht
    have hlt : ts.length = (numsI P L I).length := by have := congrArg List.length ht.2; simpa using this
    have := par_all (s := textI P L I ++ ([32] ++ w)) (by simp; omega) (numsI_lim hv) (numsI_all P L I) h3 hb hs ht.1 (by rw [List.map_append, List.take_append_of_le_length (by simp; omega), ht.2, List.take_of_length_le (by simp)])
    rw [this, ← hlt, List.drop_left]
    simp [finN]
/-- A word changed for one that may not stand there. -/
theorem cut_swap (hv : validP P L I = true) {k : Nat} {q : Wd} (h : (wordsI P L I)[k + 1]? = some q) {w : List Nat} (hw : wordOk w) (hwl : w.length ≤ 100) {e : Int} (he : e ≠ 0) (hn : (numR w (limI k ((numsI P L I).take k)).1 (limI k ((numsI P L I).take k)).2).2 = e) :
    parI (rend ((wordsI P L I).take (k + 1)) ++ (w ++ (q.2 ++ rend ((wordsI P L I).drop (k + 1 + 1))))) = (([], [], []), ((rend ((wordsI P L I).take (k + 1))).length : Int), e) := by
  obtain ⟨h3, hb⟩ := numsI_small hv
  have hlen := wordsI_len (P := P) (L := L) (I := I)
  have hkl : k + 1 < (wordsI P L I).length := (List.getElem?_eq_some_iff.1 h).1
  have hl := text_len hv
  rw [rend_split h] at hl
  simp only [List.length_append] at hl
  have hr : rend ((wordsI P L I).take (k + 1)) ++ (w ++ (q.2 ++ rend ((wordsI P L I).drop (k + 1 + 1)))) = rend ((wordsI P L I).take (k + 1) ++ ((w, q.2) :: (wordsI P L I).drop (k + 1 + 1))) := by
    rw [rend_app]; simp [rend]
  have hok : ∀ p, p ∈ (wordsI P L I).take (k + 1) ++ ((w, q.2) :: (wordsI P L I).drop (k + 1 + 1)) → wordOk p.1 ∧ sepOk p.2 := by
    intro p hp
    rcases List.mem_append.1 hp with r | r
    · exact take_ok hv _ p r
    · rcases List.mem_cons.1 r with r | r
      · subst r; exact ⟨hw, (words_ok hv q (List.mem_of_getElem? h)).2⟩
      · exact words_ok hv p (List.mem_of_mem_drop r)
  have hwd := words_rend hok
  rw [toksAt_app] at hwd
  have ht := toksAt_txt 0 ((wordsI P L I).take (k + 1))
  rw [take_txt] at ht
  have htl := toksAt_len 0 ((wordsI P L I).take (k + 1))
  have htl2 : ((wordsI P L I).take (k + 1)).length = k + 1 := by simp; omega
  cases hq : toksAt 0 ((wordsI P L I).take (k + 1)) with
  | nil => rw [hq] at ht; simp at ht
  | cons t ts =>
    rw [hq] at ht hwd htl
    simp only [List.map_cons, List.cons.injEq] at ht
    simp only [toksAt, List.cons_append] at hwd
    simp only [List.length_cons] at htl
    have htsl : ts.length = k := by omega
    generalize toksAt _ ((wordsI P L I).drop (k + 1 + 1)) = R at hwd
    have := par_bad (s := rend ((wordsI P L I).take (k + 1) ++ ((w, q.2) :: (wordsI P L I).drop (k + 1 + 1)))) (by rw [← hr]; simp only [List.length_append]; omega) (numsI_lim hv) (numsI_all P L I) h3 hb hwd ht.1 (k := k) (by omega)
      (by rw [List.map_append, List.take_append_of_le_length (by simp; omega), ht.2, List.take_of_length_le (by simp; omega)]) (u := (0 + (rend ((wordsI P L I).take (k + 1))).length, w))
      (by rw [List.getElem?_append_right (by omega), htsl]; simp) he hn
    rw [hr, this]
    simp
theorem cut_first (hv : validP P L I = true) {q : Wd} (h : (wordsI P L I)[0]? = some q) {w : List Nat} (hw : wordOk w) (hwl : w.length ≤ 100) (hp : w ≠ polyS) : parI (w ++ (q.2 ++ rend ((wordsI P L I).drop 1))) = (([], [], []), 0, 11) := by
  have hl := text_len hv
  rw [rend_split h] at hl
  simp only [List.length_append, Nat.zero_add] at hl
  have hr : w ++ (q.2 ++ rend ((wordsI P L I).drop 1)) = rend ((w, q.2) :: (wordsI P L I).drop 1) := by simp [rend]
  have hwd : wordsN (rend ((w, q.2) :: (wordsI P L I).drop 1)) = toksAt 0 ((w, q.2) :: (wordsI P L I).drop 1) := words_rend (by
    intro p hp
    rcases List.mem_cons.1 hp with r | r
    · subst r; exact ⟨hw, (words_ok hv q (List.mem_of_getElem? h)).2⟩
    · exact words_ok hv p (List.mem_of_mem_drop r))
  simp only [toksAt] at hwd
  rw [hr]
  unfold parI
  rw [if_neg (by rw [← hr]; simp only [List.length_append]; omega), hwd, if_neg (show ¬ (((0, w) :: toksAt _ _ : List Tok).head?.getD _).2 = polyS from hp)]
  rfl
end
end Go.Proofs.YtmgaaieofdjfdaaDoor
