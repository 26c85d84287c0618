/- The law ObjectCut, over the interpreter. No claim by itself. -/
import Derived.Test.YtacfhbhfgbjleaaDoorL8
import Derived.Test.YtacfhbhfgbjleaaDoorEE
namespace Go.Proofs.YtacfhbhfgbjleaaDoor
open Go Go.AI
theorem slSA_take {s : List Nat} {n : Nat} (h : n ≤ s.length) : slSA (.str s) none (some (.int .i64 (n : Int))) = some (.str (s.take n)) := by
  have hb : (0 : Int) ≤ (n : Int) ∧ (n : Int) ≤ ((s.length : Nat) : Int) := by omega
  simp only [slSA, boundsA, boundA, if_pos hb, Option.map_some, Int.toNat_natCast, List.drop_zero, Nat.sub_zero]
theorem slSA_drop {s : List Nat} {n : Nat} (h : n ≤ s.length) : slSA (.str s) (some (.int .i64 (n : Int))) none = some (.str (s.drop n)) := by
  have hb : (0 : Int) ≤ (n : Int) ∧ (n : Int) ≤ ((s.length : Nat) : Int) := by omega
  simp only [slSA, boundsA, boundA, if_pos hb, Option.map_some, Int.toNat_natCast, ← List.length_drop, List.take_length]
theorem wrapU_eq {n : Int} (h0 : 0 ≤ n) (h1 : n ≤ 18446744073709551615) : IntKind.wrap .u64 n = n := by
  have : IntKind.wrap .u64 n = n % 18446744073709551616 := rfl
  rw [this]; omega
theorem wrapU_range (n : Int) : 0 ≤ IntKind.wrap .u64 n ∧ IntKind.wrap .u64 n ≤ 18446744073709551615 := by
  have : IntKind.wrap .u64 n = n % 18446744073709551616 := rfl
  rw [this]; omega
theorem remU (x : Int) {n : Nat} (h : 0 < n) (h2 : n ≤ 1000000) : ∃ k : Nat, k < n ∧ IntKind.wrap .u64 (n : Int) = n ∧ (IntKind.wrap .u64 x).tmod n = (k : Int) := by
  obtain ⟨a, b⟩ := wrapU_range x
  obtain ⟨m, hm⟩ := Int.eq_ofNat_of_zero_le a
  refine ⟨m % n, Nat.mod_lt _ h, wrapU_eq (by omega) (by omega), ?_⟩
  rw [hm]
  rfl
def badsW : List (List Nat) := [[120], [49, 46, 53], [45, 45, 49], [48, 49], [118, 118], [45, 48]]
theorem bads_ok : ∀ w, w ∈ badsW → wordOk w ∧ BadW w ∧ w.length ≤ 100 ∧ ∀ b, b ∈ w → b < 256 := by
  intro w hw
  simp only [badsW, List.mem_cons, List.not_mem_nil, or_false] at hw
  rcases hw with rfl | rfl | rfl | rfl | rfl | rfl <;> (refine ⟨⟨by simp, by decide, by simp⟩, ⟨by decide, by decide, by decide, by decide⟩, by decide, by decide⟩)
theorem rend_at {l : List Wd} {k : Nat} {q : Wd} (h : l[k]? = some q) : rend l = rend (l.take k) ++ (q.1 ++ (q.2 ++ rend (l.drop (k + 1)))) := by
  have h1 : l = l.take k ++ q :: l.drop (k + 1) := by rw [← drop_get h, List.take_append_drop]
  conv => lhs; rw [h1]
  rw [rend_app]
  simp [rend]
/-- A mesh's text, at a word of it. -/
structure Cut6 (s bad u d : List Nat) (p q : Nat) : Prop where
  sl : s.length ≤ 200000
  bl : bad.length ≤ 100
  tk : slSA (.str s) none (some (.int .i64 (p : Int))) = some (.str u)
  dr : slSA (.str s) (some (.int .i64 (q : Int))) none = some (.str d)
  ul : u.length ≤ 200000
  dl : d.length ≤ 200000
  u8 : ∀ b, b ∈ u → b < 256
  b8 : ∀ b, b ∈ bad → b < 256
  d8 : ∀ b, b ∈ d → b < 256
  c3 : parO (u ++ bad ++ d) = (nilO, (p : Int), 11)
  qe : q ≤ s.length
theorem cut_all {P : List (Int × Int)} {W : Int} {F : List (List Int)} (hv : ValidO P W F) (hl : (textO P W F).length ≤ 200000) {bad : List Nat} (hb : bad ∈ badsW) {k : Nat} {t : Tok} (ht : (wordsN (textO P W F))[k]? = some t) :
    Cut6 (textO P W F) bad ((textO P W F).take t.1) ((textO P W F).drop (t.1 + t.2.length)) t.1 (t.1 + t.2.length) ∧ (InW (txtO P W F) k → parO ((textO P W F).take t.1) = (nilO, (t.1 : Int), 11)) := by
  obtain ⟨w1, w2, w3, w4⟩ := bads_ok bad hb
  have h8 := textO_lt P W F
  rw [words_text hv] at ht
  have hk : k < (wordsO P W F).length := by
    have := (List.getElem?_eq_some_iff.1 ht).1; rwa [toksAt_len] at this
  obtain ⟨q, hq⟩ : ∃ q, (wordsO P W F)[k]? = some q := ⟨_, List.getElem?_eq_getElem hk⟩
  have ht' := toksAt_get 0 (wordsO P W F) k q hq
  rw [ht] at ht'
  cases ht'
  have hs := rend_at hq
  have hok := wordsO_ok hv
  have hqo := hok q (List.mem_of_getElem? hq)
  have hxt := wordsO_txt P W F
  have hkT : k < (txtO P W F).length := by rw [← hxt]; simpa using hk
  simp only [Nat.zero_add]
  -- one word is another one
  have c3 : parO (rend ((wordsO P W F).take k) ++ bad ++ (q.2 ++ rend ((wordsO P W F).drop (k + 1)))) = (nilO, ((rend ((wordsO P W F).take k)).length : Int), 11) := by
    have e : rend ((wordsO P W F).take k ++ (bad, q.2) :: (wordsO P W F).drop (k + 1)) = rend ((wordsO P W F).take k) ++ bad ++ (q.2 ++ rend ((wordsO P W F).drop (k + 1))) := by
      rw [rend_app]; simp [rend]
    have hok' : ∀ x, x ∈ (wordsO P W F).take k ++ (bad, q.2) :: (wordsO P W F).drop (k + 1) → wordOk x.1 ∧ sepOk x.2 := by
      intro x hx
      rcases List.mem_append.1 hx with r | r
      · exact hok x (List.mem_of_mem_take r)
      · rcases List.mem_cons.1 r with r | r
        · rw [r]; exact ⟨w1, hqo.2⟩
        · exact hok x (List.mem_of_mem_drop r)
    have hw := words_rend hok'
    rw [e] at hw
    have hlen : (rend ((wordsO P W F).take k) ++ bad ++ (q.2 ++ rend ((wordsO P W F).drop (k + 1)))).length ≤ 300000 := by
      have h1 := congrArg List.length hs
      have h2 : (textO P W F).length = (rend (wordsO P W F)).length := rfl
      simp only [List.length_append] at h1 ⊢; omega
    have hlk : ((wordsO P W F).take k).length = k := by rw [List.length_take]; omega
    have hget : ((wordsO P W F).take k ++ (bad, q.2) :: (wordsO P W F).drop (k + 1))[k]? = some (bad, q.2) := by
      rw [List.getElem?_append_right (by omega), hlk, Nat.sub_self]; rfl
    have htk := toksAt_get 0 _ k _ hget
    have hpos : List.take k ((wordsO P W F).take k ++ (bad, q.2) :: (wordsO P W F).drop (k + 1)) = (wordsO P W F).take k := by
      rw [List.take_append_of_le_length (by omega), List.take_of_length_le (by omega)]
    rw [hpos, Nat.zero_add] at htk
    unfold parO
    rw [if_neg (by omega), hw]
    generalize hen : (rend ((wordsO P W F).take k) ++ bad ++ (q.2 ++ rend ((wordsO P W F).drop (k + 1)))).length = en
    have hwa : wordAt en ((toksAt 0 ((wordsO P W F).take k ++ (bad, q.2) :: (wordsO P W F).drop (k + 1))).drop k) = ((rend ((wordsO P W F).take k)).length, bad) := by
      rw [at_drop, htk]; rfl
    have := readO_bad (en := en) hv (ts := toksAt 0 ((wordsO P W F).take k ++ (bad, q.2) :: (wordsO P W F).drop (k + 1))) (k := k) (by
      rw [toksAt_txt, ← hxt, ← List.map_take, hpos, List.map_take]) hkT (by rw [hwa]; exact w2) (.inl (by rw [toksAt_len]; simp; omega)) (Nat.le_refl _)
    rw [hwa] at this
    exact this
  have c1 : InW (txtO P W F) k → parO (rend ((wordsO P W F).take k)) = (nilO, ((rend ((wordsO P W F).take k)).length : Int), 11) := by
    intro hin
    have hw := words_rend (l := (wordsO P W F).take k) (fun x hx => hok x (List.mem_of_mem_take hx))
    have hlen : (rend ((wordsO P W F).take k)).length ≤ 200000 := by
      have h1 := congrArg List.length hs
      have h2 : (textO P W F).length = (rend (wordsO P W F)).length := rfl
      simp only [List.length_append] at h1; omega
    unfold parO
    rw [if_neg (by omega), hw]
    have hdn : (toksAt 0 ((wordsO P W F).take k)).drop k = [] := List.drop_of_length_le (by rw [toksAt_len, List.length_take]; omega)
    have hwa : wordAt (rend ((wordsO P W F).take k)).length ((toksAt 0 ((wordsO P W F).take k)).drop k) = ((rend ((wordsO P W F).take k)).length, []) := by rw [hdn]; rfl
    have := readO_bad (en := (rend ((wordsO P W F).take k)).length) hv (ts := toksAt 0 ((wordsO P W F).take k)) (k := k) (by
      rw [toksAt_txt, ← hxt, ← List.map_take, List.take_take, Nat.min_self, List.map_take]) hkT (by rw [hwa]; exact BadW.nil) (.inr hin) (Nat.le_refl _)
    rw [hwa] at this
    exact this
  generalize hA : rend ((wordsO P W F).take k) = A at *
  generalize hB : q.2 ++ rend ((wordsO P W F).drop (k + 1)) = B at *
  have hs' : textO P W F = A ++ (q.1 ++ B) := hs
  generalize textO P W F = s at *
  subst hs'
  have e1 : (A ++ (q.1 ++ B)).take A.length = A := by simp
  have e2 : (A ++ (q.1 ++ B)).drop (A.length + q.1.length) = B := by
    rw [← List.append_assoc, ← List.length_append, List.drop_left]
  have hl' := hl
  simp only [List.length_append] at hl'
  refine ⟨⟨hl, w3, slSA_take (by simp), slSA_drop (by simp), by rw [e1]; omega, by rw [e2]; omega, fun b hb => h8 b (List.mem_of_mem_take hb), w4, fun b hb => h8 b (List.mem_of_mem_drop hb), by rw [e1, e2]; exact c3, by simp⟩, by rw [e1]; exact c1⟩
def r6d : ACode := subAt [1,1,1,1,1,1,1,1,1,1,1,1,1,1,1] A6.body
def r6c : ACode := subAt [1,1,1,1,1,1,1,1,1,1,1,1,1,1] A6.body
def r6b : ACode := subAt [1,1,1,1,1,1,1,1,1,1,1,1,1] A6.body
def r6a : ACode := subAt [1,1,1,1,1,1,1,1,1,1] A6.body
theorem body6 : A6.body = putAt [1,1,1,1,1,1,1,1,1,1] A6.body r6a := rfl
theorem body6a : r6a = putAt [1,1,1] r6a r6b := rfl
theorem body6b : r6b = putAt [1] r6b r6c := rfl
theorem body6c : r6c = putAt [1] r6c r6d := rfl
theorem r6c_ok {H : Heap} (hw : H.Wf) {T : List Tok} {v : AV} (su : Sl 2 tokA H v T) {s u : List Nat} {k p i : Nat} (hk : k < T.length) (hT : T.length ≤ 100000) (hi : i ≤ k)
    (tk : slSA (.str s) none (some (.int .i64 (p : Int))) = some (.str u)) (u8 : ∀ b, b ∈ u → b < 256) (c1 : InW (T.map (·.2)) k → parO u = (nilO, (p : Int), 11))
    (hrow : i = 0 ∨ ∃ x, T[i]? = some x ∧ (x.2 = vS ∨ x.2 = fS)) (hno : ∀ m x, i < m → m ≤ k → T[m]? = some x → x.2 ≠ vS ∧ x.2 ≠ fS)
    {τ : Env} (t7 : Env.at τ 7 = .str s) (t9 : Env.at τ 9 = v) (t11 : Env.at τ 11 = .int .i64 k) (t12 : Env.at τ 12 = .int .i64 p) (t18 : Env.at τ 18 = .int .i64 i) :
    Wp FK r6c τ H (finQ [.tmp 6] fun r _ => r = .bool true) := by
  by_cases c : i = k
  · subst c
    simp [r6c, subAt, A6, t18, t11]
    apply hk10
    simp
  obtain ⟨x, hx⟩ : ∃ x, T[i]? = some x := ⟨_, List.getElem?_eq_getElem (by omega)⟩
  obtain ⟨po, pf, hix, _, hl2⟩ := tok_at su hx
  have c' : ¬ (i : Int) = (k : Int) := by omega
  have w1 : IntKind.i64.wrap ((k : Int) - (i : Int)) = (k : Int) - i := wrap64 (by omega) (by omega)
  have w4 : IntKind.i64.wrap 4 = 4 := wrap64 (by omega) (by omega)
  by_cases c4 : (k : Int) - i = 4 ∧ x.2 = [102]
  · obtain ⟨d1, d2⟩ := c4
    simp [r6c, subAt, A6, t18, t11, t9, c', w4, d1, hix, hl2, d2, -indexAddrV_slc]
    apply hk10
    simp
  have hin : InW (T.map (·.2)) k := by
    have g : ∀ m w, (T.map (·.2))[m]? = some w → ∃ y : Tok, T[m]? = some y ∧ y.2 = w := fun m w h => by
      rw [List.getElem?_map] at h
      cases hq : T[m]? with
      | none => rw [hq] at h; cases h
      | some y => rw [hq] at h; exact ⟨y, hq, by simpa using h⟩
    refine ⟨fun h => ?_, fun h => ?_, fun h => ?_⟩
    · obtain ⟨y, h1, h2⟩ := g _ _ h
      exact (hno k y (by omega) (by omega) h1).1 h2
    · obtain ⟨y, h1, h2⟩ := g _ _ h
      exact (hno k y (by omega) (by omega) h1).2 h2
    · obtain ⟨h1, h2, h3⟩ := h
      obtain ⟨y, h4, h5⟩ := g _ _ h2
      by_cases q : i < k - 4
      · exact (hno (k - 4) y q (by omega) h4).2 h5
      · by_cases q2 : i = k - 4
        · subst q2
          rw [hx] at h4
          cases h4
          exact c4 ⟨by omega, h5⟩
        · rcases hrow with r | ⟨z, r1, r2⟩
          · omega
          · have h6 := h3 i (by omega) (by omega)
            rw [List.getElem?_map, r1] at h6
            rcases r2 with r | r <;> rw [← r] at h6 <;> simp at h6
  have cc := c1 hin
  obtain ⟨hb, _⟩ := bytes_of_str (H := H) u8
  have ep := Ext.push hw (.cells (u.map byteA))
  have fin : ∀ {σ : Env}, Env.at σ 7 = .str s → Env.at σ 12 = .int .i64 p → Wp FK r6d σ H (finQ [.tmp 6] fun r _ => r = .bool true) := by
    intro σ t7 t12
    simp [r6d, subAt, A6, t7, t12, tk]
    refine (read15 j15 ep.wf hb).mono ?_
    rintro _ H1 ⟨⟨vP, vF, P, W, F, a, e, hp, rfl, mo, mi⟩, e1⟩
    rw [cc] at hp
    simp only [Prod.mk.injEq] at hp
    obtain ⟨_, rfl, rfl⟩ := hp
    obtain ⟨H2, st2, g2, e2, n2, ld2⟩ := mesh_var e1.wf (W := W) mo.mo
    simp [st2, t12]
    apply hk10
    simp
  rw [body6c]
  generalize hrd : r6d = rd at *
  by_cases d1 : (k : Int) - i = 4
  · have d2 : ¬ x.2 = [102] := fun q => c4 ⟨d1, q⟩
    simp [r6c, subAt, A6, putAt, t18, t11, t9, c', w4, d1, hix, hl2, d2, -indexAddrV_slc]
    refine fin ?_ ?_ <;> simp [t7, t12]
  · simp [r6c, subAt, A6, putAt, t18, t11, c', w1, d1]
    refine fin ?_ ?_ <;> simp [t7, t12]
structure Inv6 (H : Heap) (T : List Tok) (v : AV) (s : List Nat) (k p m : Nat) (τ : Env) (H' : Heap) : Prop where
  hh : H' = H
  le : m ≤ k
  no : ∀ (j : Nat) (x : Tok), m < j → j ≤ k → T[j]? = some x → x.2 ≠ vS ∧ x.2 ≠ fS
  t7 : Env.at τ 7 = .str s
  t9 : Env.at τ 9 = v
  t11 : Env.at τ 11 = .int .i64 k
  t12 : Env.at τ 12 = .int .i64 p
  t18 : Env.at τ 18 = .int .i64 m
theorem r6b_ok {H : Heap} (hw : H.Wf) {T : List Tok} {v : AV} (su : Sl 2 tokA H v T) {s u : List Nat} {k p : Nat} (hk : k < T.length) (hT : T.length ≤ 100000)
    (tk : slSA (.str s) none (some (.int .i64 (p : Int))) = some (.str u)) (u8 : ∀ b, b ∈ u → b < 256) (c1 : InW (T.map (·.2)) k → parO u = (nilO, (p : Int), 11))
    {τ : Env} (t7 : Env.at τ 7 = .str s) (t9 : Env.at τ 9 = v) (t11 : Env.at τ 11 = .int .i64 k) (t12 : Env.at τ 12 = .int .i64 p) (t18 : Env.at τ 18 = .int .i64 k) :
    Wp FK r6b τ H (finQ [.tmp 6] fun r _ => r = .bool true) := by
  have fin : ∀ {i : Nat} {σ : Env}, Inv6 H T v s k p i σ H → (i = 0 ∨ ∃ x, T[i]? = some x ∧ (x.2 = vS ∨ x.2 = fS)) → Wp FK r6c σ H (finQ [.tmp 6] fun r _ => r = .bool true) :=
    fun h hr => r6c_ok hw su hk hT h.le tk u8 c1 hr h.no h.t7 h.t9 h.t11 h.t12 h.t18
  rw [body6b]
  generalize hrc : r6c = rc at *
  simp [r6b, subAt, A6, putAt]
  refine Wp_loop (fun m τ H' => Inv6 H T v s k p m τ H') ?_ k _ _ ⟨rfl, by omega, fun j x a b => by omega, t7, t9, t11, t12, t18⟩
  rintro i σ _ ⟨rfl, le, no, t7, t9, t11, t12, t18⟩
  simp only [Wp_seq, Wp_region]
  by_cases c : i = 0
  · subst c
    simp [t18]
    refine fin ⟨rfl, le, no, ?_, ?_, ?_, ?_, ?_⟩ (.inl rfl) <;> simp [t7, t9, t11, t12, t18]
  have c' : 0 < i := by omega
  obtain ⟨x, hx⟩ : ∃ x, T[i]? = some x := ⟨_, List.getElem?_eq_getElem (by omega)⟩
  obtain ⟨po, pf, hix, _, hl2⟩ := tok_at su hx
  by_cases d1 : x.2 = [118]
  · simp [t18, t9, c', hix, hl2, d1, -indexAddrV_slc]
    refine fin ⟨rfl, le, no, ?_, ?_, ?_, ?_, ?_⟩ (.inr ⟨x, hx, .inl d1⟩) <;> simp [t7, t9, t11, t12, t18]
  by_cases d2 : x.2 = [102]
  · simp [t18, t9, c', hix, hl2, d2, -indexAddrV_slc]
    refine fin ⟨rfl, le, no, ?_, ?_, ?_, ?_, ?_⟩ (.inr ⟨x, hx, .inr d2⟩) <;> simp [t7, t9, t11, t12, t18]
  have w : IntKind.i64.wrap ((i : Int) - 1) = ((i - 1 : Nat) : Int) := by rw [wrap64 (by omega) (by omega)]; omega
  simp [t18, t9, c', hix, hl2, d1, d2, w, -indexAddrV_slc]
  refine ⟨i - 1, by omega, rfl, by omega, fun j y a b e => ?_, by simp [t7], by simp [t9], by simp [t11], by simp [t12], by simp⟩
  by_cases q : j = i
  · subst q
    rw [hx] at e
    cases e
    exact ⟨d1, d2⟩
  · exact no j y (by omega) b e
theorem r6a_ok {H : Heap} (hw : H.Wf) {T : List Tok} {v : AV} (su : Sl 2 tokA H v T) {s bad u d : List Nat} {k p q : Nat} (hk : k < T.length) (hT : T.length ≤ 100000) (h : Cut6 s bad u d p q) (c1 : InW (T.map (·.2)) k → parO u = (nilO, (p : Int), 11))
    {τ : Env} (t7 : Env.at τ 7 = .str s) (t9 : Env.at τ 9 = v) (t11 : Env.at τ 11 = .int .i64 k) (t12 : Env.at τ 12 = .int .i64 p) (t13 : Env.at τ 13 = .int .i64 q) (t14 : Env.at τ 14 = .str bad) :
    Wp FK r6a τ H (finQ [.tmp 6] fun r _ => r = .bool true) := by
  have fin : ∀ {H' : Heap} {σ : Env}, Ext H H' → Env.at σ 7 = .str s → Env.at σ 9 = v → Env.at σ 11 = .int .i64 k → Env.at σ 12 = .int .i64 p → Env.at σ 18 = .int .i64 k → Wp FK r6b σ H' (finQ [.tmp 6] fun r _ => r = .bool true) :=
    fun e => r6b_ok e.wf (su.ext e) hk hT h.tk h.u8 c1
  rw [body6a]
  generalize hrb : r6b = rb at *
  obtain ⟨sl, bl, tk, dr, ul, dl, u8, b8, d8, c3, qe⟩ := h
  simp [r6a, subAt, A6, putAt, t7, t12, t14, tk, -List.append_assoc]
  rw [if_neg (by omega)]
  have k9 := bytes_lt_app (bytes_lt_app u8 b8) d8
  have hal : (u ++ bad).length ≤ 210000 := by simp; omega
  simp [t7, t13, dr, -List.append_assoc]
  rw [if_neg (by omega)]
  generalize u ++ bad ++ d = S3 at *
  obtain ⟨hb3, _⟩ := bytes_of_str (H := H) k9
  have ep3 := Ext.push hw (.cells (S3.map byteA))
  simp
  refine (Cp.quiet (H := H.push (.cells (S3.map byteA))) (read15 j15 ep3.wf.up hb3) ?_)
  rintro _ H5 ⟨⟨vP, vF, P, W, F, a, e, hp, rfl, mo, mi⟩, e5⟩
  have e5' := e5.back ep3.wf
  rw [c3] at hp
  simp only [Prod.mk.injEq] at hp
  obtain ⟨_, rfl, rfl⟩ := hp
  have hone := mo.mo.one W
  generalize ({ H5 with floor := (H.push (.cells (S3.map byteA))).floor } : Heap) = H6 at *
  obtain ⟨H7, s7, g7, e7, n7⟩ := store_new e5'.wf (z := [.nils, .int .i64 0, .nils]) (n := 3) (x := .agg [vP, .int .i64 W, vF]) (cs := [vP, .int .i64 W, vF]) rfl rfl rfl hone
  simp [s7, t12, t11]
  refine fin ((ep3.trans e5').trans e7) ?_ ?_ ?_ ?_ ?_ <;> simp [t7, t9, t11, t12]
theorem cut6 {H : Heap} (hw : H.Wf) {vP vF : AV} {P : List (Int × Int)} {W : Int} {F : List (List Int)} (h : ObA H vP vF P F) {x y : Int} (_hx : -9223372036854775808 ≤ x ∧ x ≤ 9223372036854775807) (hy : 0 ≤ y ∧ y ≤ 255) : Cp FK 6 [.agg [vP, .int .i64 W, vF], .int .i64 x, .int .u8 y] H (fun r _ => r = .bool true) := by
  refine Cp_code A6 rfl rfl ?_
  rw [body6]
  have hA : A6.results = [.tmp 6] := rfl
  rw [hA]
  obtain ⟨g0, e0⟩ := push_new hw (.cells [vP, .int .i64 W, vF])
  have ld : ∀ {H' : Heap}, ExtC (H.push (.cells [vP, .int .i64 W, vF])) H' → loadA H' (some 3) (.ptr H.next 0) = some (.agg [vP, .int .i64 W, vF]) := fun k => load_agg (k.keep _ _ g0) (by simp [seg])
  have l0 := ld (ExtC.refl e0.wf)
  have fin : ∀ {H : Heap} (_ : H.Wf) {T : List Tok} {v : AV} (_ : Sl 2 tokA H v T) {s bad u d : List Nat} {k p q : Nat} (_ : k < T.length) (_ : T.length ≤ 100000) (_ : Cut6 s bad u d p q) (_ : InW (T.map (·.2)) k → parO u = (nilO, (p : Int), 11))
    {τ : Env} (_ : Env.at τ 7 = .str s) (_ : Env.at τ 9 = v) (_ : Env.at τ 11 = .int .i64 k) (_ : Env.at τ 12 = .int .i64 p) (_ : Env.at τ 13 = .int .i64 q) (_ : Env.at τ 14 = .str bad),
    Wp FK r6a τ H (finQ [.tmp 6] fun r _ => r = .bool true) := r6a_ok
  generalize hra : r6a = ra at *
  simp [A6, putAt, h.mo.one W, l0]
  refine (many9 (FT := FK) rfl e0.wf (h.mo.ext e0)).mono ?_
  rintro _ H1 ⟨⟨b, rfl, hb⟩, e1⟩
  cases b with
  | true =>
    simp
    apply hk10
    simp
  | false =>
    have hs' := hb rfl
    have hz := hs'.sz
    have hp1 := hs'.p
    have hf1 := hs'.f
    have m1 := h.mo.ext (e0.trans e1)
    simp [ld e1.c]
    refine (write11 j11 e1.wf (W := W) m1 hz).mono ?_
    rintro _ H2 ⟨rfl, c2⟩
    by_cases hv : ValidO P W F
    · rw [wrT_ok hv, chkO_ok hv]
      obtain ⟨hb2, hcap2⟩ := bytes_of_str (H := H2) (textO_lt P W F)
      have ep := Ext.push c2.wf (.cells ((textO P W F).map byteA))
      have htl := textO_len hv
      simp
      refine (all18 (FT := FK) rfl ep.wf hb2 hcap2).mono ?_
      rintro _ H3 ⟨u, rfl, su, e3⟩
      rw [if_neg (by omega)] at su ⊢
      have hlu := su.len
      have htx := txtO_len P W F
      have hwl : (wordsN (textO P W F)).length = (txtO P W F).length := by rw [words_text hv, toksAt_len, ← wordsO_txt]; simp
      have hwt : (wordsN (textO P W F)).map (·.2) = txtO P W F := by rw [words_text hv, toksAt_txt, wordsO_txt]
      have hpp := List.length_pos_iff.2 hv.pne
      have hlw : 1 ≤ (wordsN (textO P W F)).length := by omega
      have hlw2 : (wordsN (textO P W F)).length ≤ 10000 := by
        have h5 := placeT_flen W P
        have h6 : ∀ F : List (List Int), (∀ f, f ∈ F → f.length ≤ 4) → (F.flatMap faceT).length ≤ 5 * F.length := by
          intro F
          induction F with
          | nil => simp
          | cons f F ih =>
            intro h3
            have := ih fun g hg => h3 g (by simp [hg])
            have h4 := h3 f (by simp)
            have : (faceT f).length = f.length + 1 := by simp [faceT]
            simp only [List.flatMap_cons, List.length_append, List.length_cons]; omega
        have h7 := h6 F hv.f4
        rw [hwl]; unfold txtO; rw [List.length_append]; omega
      have hne : wordsN (textO P W F) ≠ [] := fun r => by rw [r] at hlw; simp at hlw
      have hn0 : ¬ (wordsN (textO P W F)).length = 0 := by omega
      obtain ⟨k, hk, wk1, wk2⟩ := remU x (n := (wordsN (textO P W F)).length) (by omega) (by omega)
      have wk3 : IntKind.i64.wrap (k : Int) = k := wrap64 (by omega) (by omega)
      obtain ⟨t, ht⟩ : ∃ t, (wordsN (textO P W F))[k]? = some t := ⟨_, List.getElem?_eq_getElem hk⟩
      obtain ⟨po, pf, hix, hl1, hl2⟩ := tok_at su ht
      obtain ⟨m, hm, hm6⟩ : ∃ m : Nat, y.tmod 6 = m ∧ m < 6 := by
        obtain ⟨n, hn⟩ := Int.eq_ofNat_of_zero_le hy.1
        subst hn
        exact ⟨n % 6, rfl, Nat.mod_lt _ (by omega)⟩
      have wm : IntKind.i64.wrap (m : Int) = m := wrap64 (by omega) (by omega)
      have ep4 := push_new e3.wf (.cells (badsW.flatMap strc))
      have sb := sl_lit (Sl.ofCells (enc := strc) strc_len ep4.1) 6 true
      obtain ⟨pb, bad, hbad, hbx, hbl⟩ := Strs.idx sb (k := .i64) (i := (m : Int)) (by omega) (by show (m : Int) < 6; omega)
      have hbm : bad ∈ badsW := List.mem_of_getElem? hbad
      obtain ⟨cut, hin⟩ := cut_all hv (by omega) hbm ht
      rw [← hwt] at hin
      have hqe := cut.qe
      have hwe : IntKind.i64.wrap ((t.1 : Int) + (t.2.length : Int)) = ((t.1 + t.2.length : Nat) : Int) := by rw [wrap64 (by omega) (by omega)]; omega
      simp only [badsW, List.flatMap_cons, List.flatMap_nil, strc, List.cons_append, List.nil_append] at hbx hbl
      simp [hlu, hn0, wk1, wk2, wk3, hix, hl1, hl2, hwe, hm, setSeg, -Int.natCast_add, -indexAddrV_slc]
      have hbx' : indexAddrV 1 (.slc H3.next 0 6 1 6 true) (.int .i64 (m : Int)) = some pb := hbx
      simp [wm, hbx', hbl, -Int.natCast_add, -indexAddrV_slc]
      refine fin ep4.2.wf (su.ext ep4.2) hk (by omega) cut hin ?_ ?_ ?_ ?_ ?_ ?_ <;> simp [-Int.natCast_add]
    · rw [wrT_no hv, chkO_no hv]
      simp
      apply hk10
      simp
end Go.Proofs.YtacfhbhfgbjleaaDoor
