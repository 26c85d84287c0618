/- A mesh's rows, as the document reads them. No claim by itself. -/
import Derived.Test.YtacfhbhfgbjleaaDoorD4
import Derived.Test.YtacfhbhfgbjleaaDoorD8
import Derived.Test.YtacfhbhfgbjleaaDoorFB
import Derived.Test.YtacfhbhfgbjleaaDoorGA
namespace Go.Proofs.YtacfhbhfgbjleaaDoor
open Go Go.AI
theorem rdC_no {en : Nat} {c : Wc} {cs : List Wc} {ts : List Tok} (h : (c (wordAt en ts).2).2 ≠ 0) : rdC en (c :: cs) ts = .error ((wordAt en ts).1, (c (wordAt en ts).2).2) := by
  unfold rdC; rw [if_neg h]
theorem rdC_ye {en : Nat} {c : Wc} {cs : List Wc} {ts : List Tok} {e : Nat × Int} (h : (c (wordAt en ts).2).2 = 0) (k : rdC en cs ts.tail = .error e) : rdC en (c :: cs) ts = .error e := by
  conv => lhs; unfold rdC
  rw [if_pos h, k]
theorem rdC_yo {en : Nat} {c : Wc} {cs : List Wc} {ts : List Tok} {xs : List Int} {r : List Tok} (h : (c (wordAt en ts).2).2 = 0) (k : rdC en cs ts.tail = .ok (xs, r)) : rdC en (c :: cs) ts = .ok ((c (wordAt en ts).2).1 :: xs, r) := by
  conv => lhs; unfold rdC
  rw [if_pos h, k]
/-- The first word that is wrong. -/
theorem rdC_at (en : Nat) : ∀ (cs : List Wc) (ts : List Tok) (k : Nat) (c : Wc), (∀ (i : Nat) (d : Wc), i < k → cs[i]? = some d → (d (wordAt en (ts.drop i)).2).2 = 0) → cs[k]? = some c → (c (wordAt en (ts.drop k)).2).2 ≠ 0 →
    rdC en cs ts = .error ((wordAt en (ts.drop k)).1, (c (wordAt en (ts.drop k)).2).2)
  | [], ts, k, c, _, h, _ => by simp at h
  | d :: cs, ts, 0, c, _, h, hn => by simp at h; subst h; exact rdC_no hn
  | d :: cs, ts, k + 1, c, ha, h, hn => by
    have e : ts.tail.drop k = ts.drop (k + 1) := List.drop_tail
    have ih := rdC_at en cs ts.tail k c (fun i x hi hx => by
      rw [List.drop_tail]; exact ha (i + 1) x (by omega) (by simpa using hx)) (by simpa using h) (by rw [e]; exact hn)
    rw [e] at ih
    exact rdC_ye (ha 0 d (by omega) rfl) ih
theorem rdC_all (en : Nat) : ∀ (cs : List Wc) (ts : List Tok), (∀ (i : Nat) (d : Wc), cs[i]? = some d → (d (wordAt en (ts.drop i)).2).2 = 0) → ∃ xs, rdC en cs ts = .ok (xs, ts.drop cs.length)
  | [], ts, _ => ⟨[], rfl⟩
  | c :: cs, ts, h => by
    obtain ⟨xs, q⟩ := rdC_all en cs ts.tail (fun i d hd => by rw [List.drop_tail]; exact h (i + 1) d (by simpa using hd))
    rw [List.drop_tail] at q
    exact ⟨_, rdC_yo (h 0 c rfl) q⟩
theorem numR_most {s : List Nat} {lo hi : Int} (hlo : -1099511627776 ≤ lo) (hhi : hi ≤ 1099511627776) :
    numR s lo hi = if (numT s 9223372036854775807).2 ≠ 0 then (0, (numT s 9223372036854775807).2) else if (numT s 9223372036854775807).1 < lo ∨ hi < (numT s 9223372036854775807).1 then (0, 10) else (numT s 9223372036854775807).1 |> fun n => (n, 0) := by
  unfold numR numT
  cases hw : wfN s with
  | false => simp
  | true =>
    simp only [Bool.true_eq_false, if_false]
    have hq := digV_sval s
    by_cases h1 : (9223372036854775807 : Int) < 0 ∨ (9223372036854775807 : Int) < (digV (digsOf s) : Int)
    · rw [if_pos h1]
      have : ¬ (lo ≤ sval s ∧ sval s ≤ hi) := by
        rcases h1 with h1 | h1 <;> rcases hq with q | q <;> omega
      rw [if_neg this]; simp
    · rw [if_neg h1]
      by_cases h2 : lo ≤ sval s ∧ sval s ≤ hi
      · rw [if_pos h2, if_neg (by simp), if_neg (by simp only; omega)]
      · rw [if_neg h2, if_neg (by simp), if_pos (by simp only; omega)]
section
variable {FT : Nat → Option FnD} {H : Heap}
abbrev H62 (FT : Nat → Option FnD) : Prop := FT 62 = some (.code A62) ∧ FT 67 = some (.code A67) ∧ FT 39 = some (.code A39) ∧ FT 69 = some (.code A69) ∧ FT 76 = some (.code A76) ∧ FT 77 = some (.code A77) ∧ FT 68 = some (.code A68) ∧ FT 75 = some (.code A75) ∧ FT 74 = some (.code A74) ∧ FT 52 = some (.code A52)
theorem number48 (h48 : FT 48 = some (.code A48)) (hh : H62 FT) (hw : H.Wf) {s : List Nat} (hs : ∀ b, b ∈ s → b < 256) (hsl : s.length ≤ 1099511627776) {lo hi : Int} (hlo : -1099511627776 ≤ lo) (hhi : hi ≤ 1099511627776) :
    Cp FT 48 [.str s, .int .i64 lo, .int .i64 hi] H (fun r H' => r = .tup [.int .i64 (numR s lo hi).1, .int .i64 (numR s lo hi).2] ∧ Ext H H') := by
  obtain ⟨h62, h67, h39, h69, h76, h77, h68, h75, h74, h52⟩ := hh
  refine Cp_code A48 h48 rfl ?_
  simp [A48]
  refine (number62 h62 h67 h39 h69 h76 h77 h68 h75 h74 h52 hw hs hsl (most := 9223372036854775807) (by omega) (by omega)).mono ?_
  rintro _ H1 ⟨rfl, e1⟩
  have hn := numR_most (s := s) hlo hhi
  rw [hn]
  generalize numT s 9223372036854775807 = q
  obtain ⟨qv, qe⟩ := q
  simp only
  by_cases c0 : qe = 0
  · subst c0
    by_cases c1 : qv < lo
    · simp [c1]; exact e1
    · by_cases c2 : hi < qv
      · simp [c1, c2]; exact e1
      · simp [c1, c2]; exact e1
  · have c0' : (qe != 0) = true := by simpa using c0
    simp [c0, c0']; exact e1
theorem wordAt_drop (en : Nat) (ts : List Tok) (i : Nat) : wordAt en (ts.drop i) = ts[i]?.getD (en, []) := by
  unfold wordAt; rw [List.head?_drop]
theorem word49 (h49 : FT 49 = some (.code A49)) (hw : H.Wf) {v : AV} {ts : List Tok} (h : Toks H v ts) {i en : Nat} :
    Cp FT 49 [v, .int .i64 i, .int .i64 en] H (fun r H' => r = .agg (tokA (wordAt en (ts.drop i))) ∧ Ext H H') := by
  refine Cp_code A49 h49 rfl ?_
  rw [wordAt_drop]
  have e0 := Ext.push hw (.cells [.int .i64 0, .str []])
  by_cases c : i < ts.length
  · obtain ⟨p, t, a1, a2, a3, _⟩ := Sl.idx (h.ext e0) (k := .i64) (i := (i : Int)) (by omega) (by omega)
    rw [Int.toNat_natCast] at a1
    obtain ⟨H2, st, g2, e2, n2⟩ := store_new hw (z := [.int .i64 0, .str []]) (n := 2) (x := .agg (tokA t)) (cs := tokA t) rfl rfl rfl rfl
    have g2' : H2.cellsAt H.next = some [.int .i64 (t.1 : Int), .str t.2] := cellsAt_get g2
    have ht : ts[i]?.getD (en, []) = t := by rw [a1]; rfl
    rw [ht]
    simp [A49, c, h.len, a2, a3, st, resultsA, resultA, g2', partA, seg, packA]
    exact ⟨rfl, e2⟩
  · obtain ⟨H2, st, g2, e2, n2⟩ := store_new hw (z := [.int .i64 0, .str []]) (n := 2) (x := .agg [.int .i64 en, .str []]) (cs := [.int .i64 en, .str []]) rfl rfl rfl rfl
    have g2' := cellsAt_get g2
    have hnone : ts[i]? = none := List.getElem?_eq_none (by omega)
    simp [A49, c, h.len, st, resultsA, resultA, g2', partA, seg, packA]
    exact ⟨rfl, e2⟩
/-- A place's row read. -/
structure P32 (en : Nat) (P : List (Int × Int)) (W : Int) (r : List Tok) (x : AV) : Prop where
  ex : ∃ (p : Int × Int) (w a e : Int), x = .tup [.agg (pairc p), .int .i64 w, .int .i64 a, .int .i64 e] ∧
    ((e = 0 ∧ ∃ xs, rdC en [coordW, coordW, zeroW, denW P W] r = .ok (xs, r.drop 4) ∧ p = (xs[0]?.getD 0, xs[1]?.getD 0) ∧ w = xs[3]?.getD 0 ∧ 1 ≤ w) ∨ (e ≠ 0 ∧ ∃ q : Nat × Int, rdC en [coordW, coordW, zeroW, denW P W] r = .error q ∧ a = q.1 ∧ e = q.2))
abbrev H32 (FT : Nat → Option FnD) : Prop := FT 48 = some (.code A48) ∧ FT 49 = some (.code A49) ∧ H62 FT
theorem place32 (h32 : FT 32 = some (.code A32)) (hh : H32 FT) (hw : H.Wf) {v : AV} {ts : List Tok} (h : Toks H v ts) (hb : Byt ts) (hl : ts.length ≤ 1000000000) {i en : Nat} (hi : i < ts.length) {P : List (Int × Int)} {W : Int} (hW : P = [] ∧ W = 0 ∨ P ≠ [] ∧ 1 ≤ W) :
    Cp FT 32 [v, .int .i64 i, .int .i64 en, .int .i64 W] H (fun r H' => P32 en P W (ts.drop (i + 1)) r ∧ Ext H H') := by
  obtain ⟨h48, h49, h62⟩ := hh
  refine Cp_code A32 h32 rfl ?_
  have e0 := Ext.push hw (.cells [.int .i64 0, .int .i64 0])
  have g0 : (H.push (.cells [.int .i64 0, .int .i64 0])).get H.next = some (.cells [.int .i64 0, .int .i64 0]) := get_pushN.trans (if_pos rfl)
  have w1 : IntKind.i64.wrap ((i : Int) + 1) = ((i + 1 : Nat) : Int) := wrap64 (by omega) (by omega)
  have w2 : IntKind.i64.wrap ((i : Int) + 2) = ((i + 2 : Nat) : Int) := wrap64 (by omega) (by omega)
  have w3 : IntKind.i64.wrap ((i : Int) + 3) = ((i + 3 : Nat) : Int) := wrap64 (by omega) (by omega)
  have w4 : IntKind.i64.wrap ((i : Int) + 4) = ((i + 4 : Nat) : Int) := wrap64 (by omega) (by omega)
  have d1 : (ts.drop (i + 1)).drop 1 = ts.drop (i + 2) := by rw [List.drop_drop]
  have d2 : (ts.drop (i + 1)).drop 2 = ts.drop (i + 3) := by rw [List.drop_drop]
  have d3 : (ts.drop (i + 1)).drop 3 = ts.drop (i + 4) := by rw [List.drop_drop]
  -- the answer's object written
  have put : ∀ {H' : Heap} (a b : Int), Ext H H' → H'.get H.next = some (.cells [.int .i64 0, .int .i64 0]) → ∃ H2, storeA H' 2 (.ptr H.next 0) (.agg [.int .i64 a, .int .i64 b]) = some (undefA, H2) ∧ H2.get H.next = some (.cells [.int .i64 a, .int .i64 b]) ∧ Ext H H2 := by
    intro H' a b ex g
    obtain ⟨H2, q1, q2, q3⟩ := store_whole (n := 2) (x := .agg [.int .i64 a, .int .i64 b]) (xs := [.int .i64 a, .int .i64 b]) ex.wf rfl rfl (by rw [ex.floor]; exact hw.1) g rfl rfl
    exact ⟨H2, q1, q2, ⟨q3.floor.trans ex.floor, Nat.le_trans ex.next q3.next, fun o x e => q3.keep o x (by simp; have := hw.lt e; omega) (ex.keep _ _ e), q3.wf⟩⟩
  generalize hP0 : H.push (.cells [.int .i64 0, .int .i64 0]) = H0 at *
  -- what is wrong at a word
  have wrongAt : ∀ (k : Nat) (c : Wc), (∀ (j : Nat) (d : Wc), j < k → [coordW, coordW, zeroW, denW P W][j]? = some d → (d (wordAt en ((ts.drop (i + 1)).drop j)).2).2 = 0) → [coordW, coordW, zeroW, denW P W][k]? = some c → ∀ q, (c (wordAt en ((ts.drop (i + 1)).drop k)).2).2 = q → q ≠ 0 → ∀ x y z,
      P32 en P W (ts.drop (i + 1)) (.tup [.agg (pairc (x, y)), .int .i64 z, .int .i64 ((wordAt en ((ts.drop (i + 1)).drop k)).1 : Int), .int .i64 q]) := by
    intro k c h1 h2 q h3 h4 x y z
    subst h3
    exact ⟨(x, y), z, _, _, rfl, .inr ⟨h4, _, rdC_at en _ _ k c h1 h2 h4, rfl, rfl⟩⟩
  have bh := fun k : Nat => (hb.drop k).head (en := en)
  simp only [← wordAt_head] at bh
  simp [-Int.natCast_add, A32, hP0, w1]
  refine (word49 h49 e0.wf (h.ext e0) (i := i + 1) (en := en)).mono ?_
  rintro _ H1 ⟨rfl, e1⟩
  have x1 := e0.trans e1
  generalize hT1 : wordAt en (ts.drop (i + 1)) = t1 at *
  have hb1 := bh (i + 1)
  rw [hT1] at hb1
  simp [-Int.natCast_add, tokA, partA]
  refine (number48 h48 h62 x1.wf hb1.1 hb1.2 (lo := -4294967296) (hi := 4294967296) (by omega) (by omega)).mono ?_
  rintro _ H2 ⟨rfl, e2⟩
  have x2 := x1.trans e2
  have c1eq : coordW t1.2 = numR t1.2 (-4294967296) 4294967296 := rfl
  by_cases c1 : (numR t1.2 (-4294967296) 4294967296).2 = 0
  rotate_left
  · have c1' : ((numR t1.2 (-4294967296) 4294967296).2 != 0) = true := by simpa using c1
    simp [-Int.natCast_add, c1', w1]
    refine (word49 h49 x2.wf (h.ext x2) (i := i + 1) (en := en)).mono ?_
    rintro _ H3 ⟨rfl, e3⟩
    obtain ⟨H4, st, g4, e4⟩ := put 0 0 (x2.trans e3) (e3.keep _ _ (e2.keep _ _ (e1.keep _ _ g0)))
    have g4' := cellsAt_get g4
    have hwr := wrongAt 0 coordW (fun j d hj => absurd hj (by omega)) rfl _ (by rw [List.drop_zero, hT1, c1eq]) c1 0 0 0
    rw [List.drop_zero, hT1] at hwr
    rw [hT1]
    simp [tokA, partA, st, resultsA, resultA, g4', seg, packA]
    exact ⟨hwr, e4⟩
  have o1 : (coordW (wordAt en (ts.drop (i + 1))).2).2 = 0 := by rw [hT1, c1eq]; exact c1
  simp [-Int.natCast_add, c1, w2]
  refine (word49 h49 x2.wf (h.ext x2) (i := i + 2) (en := en)).mono ?_
  rintro _ H3 ⟨rfl, e3⟩
  have x3 := x2.trans e3
  generalize hT2 : wordAt en (ts.drop (i + 2)) = t2 at *
  have hb2 := bh (i + 2)
  rw [hT2] at hb2
  simp [-Int.natCast_add, tokA, partA]
  refine (number48 h48 h62 x3.wf hb2.1 hb2.2 (lo := -4294967296) (hi := 4294967296) (by omega) (by omega)).mono ?_
  rintro _ H4 ⟨rfl, e4⟩
  have x4 := x3.trans e4
  have gk4 := e4.keep _ _ (e3.keep _ _ (e2.keep _ _ (e1.keep _ _ g0)))
  by_cases c2 : (numR t2.2 (-4294967296) 4294967296).2 = 0
  rotate_left
  · have c2' : ((numR t2.2 (-4294967296) 4294967296).2 != 0) = true := by simpa using c2
    simp [-Int.natCast_add, c2', w2]
    refine (word49 h49 x4.wf (h.ext x4) (i := i + 2) (en := en)).mono ?_
    rintro _ H5 ⟨rfl, e5⟩
    obtain ⟨H6, st, g6, e6⟩ := put 0 0 (x4.trans e5) (e5.keep _ _ gk4)
    have g6' := cellsAt_get g6
    have hwr := wrongAt 1 coordW (fun j d hj hd => by
      match j, hj with
      | 0, _ => simp at hd; subst hd; rw [List.drop_zero]; exact o1) rfl _ (by rw [d1, hT2]; rfl) c2 0 0 0
    rw [d1, hT2] at hwr
    rw [hT2]
    simp [tokA, partA, st, resultsA, resultA, g6', seg, packA]
    exact ⟨hwr, e6⟩
  have o2 : (coordW (wordAt en ((ts.drop (i + 1)).drop 1)).2).2 = 0 := by rw [d1, hT2]; exact c2
  simp [-Int.natCast_add, c2, w3]
  refine (word49 h49 x4.wf (h.ext x4) (i := i + 3) (en := en)).mono ?_
  rintro _ H5 ⟨rfl, e5⟩
  have x5 := x4.trans e5
  generalize hT3 : wordAt en (ts.drop (i + 3)) = t3 at *
  by_cases c3 : t3.2 = [48]
  rotate_left
  · have c3' : (t3.2 == [48]) = false := by simpa using c3
    simp [-Int.natCast_add, tokA, partA, c3', w3]
    refine (word49 h49 x5.wf (h.ext x5) (i := i + 3) (en := en)).mono ?_
    rintro _ H6 ⟨rfl, e6⟩
    obtain ⟨H7, st, g7, e7⟩ := put 0 0 (x5.trans e6) (e6.keep _ _ (e5.keep _ _ gk4))
    have g7' := cellsAt_get g7
    have hz : (zeroW t3.2).2 = 11 := by unfold zeroW; rw [if_neg c3]
    have hwr := wrongAt 2 zeroW (fun j d hj hd => by
      match j, hj with
      | 0, _ => simp at hd; subst hd; rw [List.drop_zero]; exact o1
      | 1, _ => simp at hd; subst hd; exact o2) rfl 11 (by rw [d2, hT3]; exact hz) (by decide) 0 0 0
    rw [d2, hT3] at hwr
    rw [hT3]
    simp [tokA, partA, st, resultsA, resultA, g7', seg, packA]
    exact ⟨hwr, e7⟩
  have o3 : (zeroW (wordAt en ((ts.drop (i + 1)).drop 2)).2).2 = 0 := by rw [d2, hT3]; unfold zeroW; rw [if_pos c3]
  have c3' : (t3.2 == [48]) = true := by simpa using c3
  simp [-Int.natCast_add, tokA, partA, c3', w4]
  refine (word49 h49 x5.wf (h.ext x5) (i := i + 4) (en := en)).mono ?_
  rintro _ H6 ⟨rfl, e6⟩
  have x6 := x5.trans e6
  generalize hT4 : wordAt en (ts.drop (i + 4)) = t4 at *
  have hb4 := bh (i + 4)
  rw [hT4] at hb4
  simp [-Int.natCast_add, tokA, partA]
  refine (number48 h48 h62 x6.wf hb4.1 hb4.2 (lo := 1) (hi := 1048576) (by omega) (by omega)).mono ?_
  rintro _ H7 ⟨rfl, e7⟩
  have x7 := x6.trans e7
  have gk7 := e7.keep _ _ (e6.keep _ _ (e5.keep _ _ gk4))
  have hden : denW P W t4.2 = if (numR t4.2 1 1048576).2 = 0 ∧ P ≠ [] ∧ (numR t4.2 1 1048576).1 ≠ W then (0, 11) else numR t4.2 1 1048576 := rfl
  have bef : ∀ (j : Nat) (d : Wc), j < 3 → [coordW, coordW, zeroW, denW P W][j]? = some d → (d (wordAt en ((ts.drop (i + 1)).drop j)).2).2 = 0 := fun j d hj hd => by
    match j, hj with
    | 0, _ => simp at hd; subst hd; rw [List.drop_zero]; exact o1
    | 1, _ => simp at hd; subst hd; exact o2
    | 2, _ => simp at hd; subst hd; exact o3
  -- the end
  have last : ∀ (H8 : Heap), Ext H H8 → H8.get H.next = some (.cells [.int .i64 0, .int .i64 0]) → ∀ (w e : Int), (denW P W t4.2).2 = e → (e = 0 → denW P W t4.2 = (w, 0) ∧ 1 ≤ w) →
      P32 en P W (ts.drop (i + 1)) (.tup [.agg [.int .i64 (numR t1.2 (-4294967296) 4294967296).1, .int .i64 (numR t2.2 (-4294967296) 4294967296).1], .int .i64 w, .int .i64 (t4.1 : Int), .int .i64 e]) := by
    intro H8 _ _ w e he hw'
    by_cases hz : e = 0
    · obtain ⟨hd, hw1⟩ := hw' hz
      obtain ⟨xs, hxs⟩ := rdC_all en [coordW, coordW, zeroW, denW P W] (ts.drop (i + 1)) (fun j d hd' => by
        by_cases hj : j < 3
        · exact bef j d hj hd'
        · have : j = 3 := by have := (List.getElem?_eq_some_iff.1 hd').1; simp at this; omega
          subst this
          simp at hd'; subst hd'
          rw [d3, hT4, he]; exact hz)
      obtain ⟨_, hg⟩ := rdC_get en _ _ _ _ hxs
      obtain ⟨_, g0⟩ := hg 0 coordW rfl
      obtain ⟨_, g1⟩ := hg 1 coordW rfl
      obtain ⟨_, g3⟩ := hg 3 (denW P W) rfl
      rw [List.drop_zero, hT1] at g0
      rw [d1, hT2] at g1
      rw [d3, hT4, hd] at g3
      exact ⟨((numR t1.2 (-4294967296) 4294967296).1, (numR t2.2 (-4294967296) 4294967296).1), w, _, e, rfl, .inl ⟨hz, xs, hxs, by rw [g0, g1]; rfl, by rw [g3]; rfl, hw1⟩⟩
    · have hwr := wrongAt 3 (denW P W) bef rfl e (by rw [d3, hT4]; exact he) hz (numR t1.2 (-4294967296) 4294967296).1 (numR t2.2 (-4294967296) 4294967296).1 w
      rw [d3, hT4] at hwr
      exact hwr
  have hpos : (numR t4.2 1 1048576).2 = 0 → 1 ≤ (numR t4.2 1 1048576).1 := fun h0 => by
    unfold numR at h0 ⊢
    split at h0
    · simp at h0
    · rename_i q1
      split at h0
      · rename_i q2; rw [if_neg q1, if_pos q2]; exact q2.1
      · simp at h0
  generalize hN : numR t4.2 1 1048576 = n4 at *
  obtain ⟨nv, ne⟩ := n4
  simp only at hden hpos
  rcases Classical.em (ne = 0) with z | z
  · subst z
    rcases Classical.em (P ≠ [] ∧ nv ≠ W) with z2 | z2
    · have hW1 : 0 < W := by
        rcases hW with q | q
        · exact absurd q.1 z2.1
        · omega
      rw [if_pos ⟨rfl, z2⟩] at hden
      have hla := last H7 x7 gk7 nv 11 (by rw [hden]) (fun q => by cases q)
      have hnw : (nv != W) = true := by simpa using z2.2
      simp [-Int.natCast_add, hW1, hnw, w4]
      refine (word49 h49 x7.wf (h.ext x7) (i := i + 4) (en := en)).mono ?_
      rintro _ H8 ⟨rfl, e8⟩
      obtain ⟨H9, st, g9, e9⟩ := put (numR t1.2 (-4294967296) 4294967296).1 (numR t2.2 (-4294967296) 4294967296).1 (x7.trans e8) (e8.keep _ _ gk7)
      have g9' := cellsAt_get g9
      rw [hT4]
      simp [tokA, partA, st, resultsA, resultA, g9', seg, packA]
      exact ⟨hla, e9⟩
    · rw [if_neg (fun q => z2 q.2)] at hden
      have hla := last H7 x7 gk7 nv 0 (by rw [hden]) (fun _ => ⟨hden, hpos rfl⟩)
      rcases Classical.em (P = []) with z3 | z3
      · have hW0 : ¬ 0 < W := by
          rcases hW with q | q
          · omega
          · exact absurd z3 q.1
        simp [-Int.natCast_add, hW0, w4]
        refine (word49 h49 x7.wf (h.ext x7) (i := i + 4) (en := en)).mono ?_
        rintro _ H8 ⟨rfl, e8⟩
        obtain ⟨H9, st, g9, e9⟩ := put (numR t1.2 (-4294967296) 4294967296).1 (numR t2.2 (-4294967296) 4294967296).1 (x7.trans e8) (e8.keep _ _ gk7)
        have g9' := cellsAt_get g9
        rw [hT4]
        simp [tokA, partA, st, resultsA, resultA, g9', seg, packA]
        exact ⟨hla, e9⟩
      · have hnw : nv = W := Classical.byContradiction fun q => z2 ⟨z3, q⟩
        have hW1 : 0 < W := by
          rcases hW with q | q
          · exact absurd q.1 z3
          · omega
        have hnw' : (nv != W) = false := by simpa using hnw
        simp [-Int.natCast_add, hW1, hnw', w4]
        refine (word49 h49 x7.wf (h.ext x7) (i := i + 4) (en := en)).mono ?_
        rintro _ H8 ⟨rfl, e8⟩
        obtain ⟨H9, st, g9, e9⟩ := put (numR t1.2 (-4294967296) 4294967296).1 (numR t2.2 (-4294967296) 4294967296).1 (x7.trans e8) (e8.keep _ _ gk7)
        have g9' := cellsAt_get g9
        rw [hT4]
        simp [tokA, partA, st, resultsA, resultA, g9', seg, packA]
        exact ⟨hla, e9⟩
  · rw [if_neg (fun q => z q.1)] at hden
    have hla := last H7 x7 gk7 nv ne (by rw [hden]) (fun q => absurd q z)
    have z' : (ne == 0) = false := by simpa using z
    simp [-Int.natCast_add, z', w4]
    refine (word49 h49 x7.wf (h.ext x7) (i := i + 4) (en := en)).mono ?_
    rintro _ H8 ⟨rfl, e8⟩
    obtain ⟨H9, st, g9, e9⟩ := put (numR t1.2 (-4294967296) 4294967296).1 (numR t2.2 (-4294967296) 4294967296).1 (x7.trans e8) (e8.keep _ _ gk7)
    have g9' := cellsAt_get g9
    rw [hT4]
    simp [tokA, partA, st, resultsA, resultA, g9', seg, packA]
    exact ⟨hla, e9⟩
end
end Go.Proofs.YtacfhbhfgbjleaaDoor

/- A face's row, as the document reads it. No claim by itself. -/
namespace Go.Proofs.YtacfhbhfgbjleaaDoor
open Go Go.AI
section
variable {FT : Nat → Option FnD} {H : Heap}
def fvX (en n : Nat) (r : List Tok) (j : Nat) : List Int := (List.range j).map fun q => (idxW n (wordAt en (r.drop q)).2).1 - 1
theorem fvX_succ (en n : Nat) (r : List Tok) (j : Nat) : fvX en n r (j + 1) = fvX en n r j ++ [(idxW n (wordAt en (r.drop j)).2).1 - 1] := by
  unfold fvX; rw [List.range_succ]; simp
theorem idx3 {n q : Nat} {d : Wc} (h : [idxW n, idxW n, idxW n][q]? = some d) : d = idxW n ∧ q < 3 := by
  have hq : q < 3 := by have := (List.getElem?_eq_some_iff.1 h).1; simpa using this
  match q, hq with
  | 0, _ => simp at h; exact ⟨h.symm, by omega⟩
  | 1, _ => simp at h; exact ⟨h.symm, by omega⟩
  | 2, _ => simp at h; exact ⟨h.symm, by omega⟩
/-- Three numbers of a face read. -/
theorem three_ok {en n : Nat} {r : List Tok} (h : ∀ q, q < 3 → (idxW n (wordAt en (r.drop q)).2).2 = 0) : ∃ xs, rdC en [idxW n, idxW n, idxW n] r = .ok (xs, r.drop 3) ∧ dec1 xs = fvX en n r 3 := by
  obtain ⟨xs, hx⟩ := rdC_all en [idxW n, idxW n, idxW n] r (fun q d hd => by obtain ⟨rfl, hq⟩ := idx3 hd; exact h q hq)
  have hl := (rdC_len en _ _ _ _ hx).2
  obtain ⟨x0, x1, x2, rfl⟩ := int_three hl
  obtain ⟨_, hg⟩ := rdC_get en _ _ _ _ hx
  obtain ⟨_, a⟩ := hg 0 (idxW n) rfl
  obtain ⟨_, b⟩ := hg 1 (idxW n) rfl
  obtain ⟨_, c⟩ := hg 2 (idxW n) rfl
  have a : x0 = _ := Option.some.inj a
  have b : x1 = _ := Option.some.inj b
  have c : x2 = _ := Option.some.inj c
  refine ⟨_, hx, ?_⟩
  rw [a, b, c]; rfl
structure OkF (en n : Nat) (r : List Tok) (f : List Int) : Prop where
  ex : ∃ xs, rdC en [idxW n, idxW n, idxW n] r = .ok (xs, r.drop 3) ∧ ((idxW n (wordAt en (r.drop 3)).2).2 = 11 ∧ f = dec1 xs ∧ f.length = 3 ∨ (idxW n (wordAt en (r.drop 3)).2).2 = 0 ∧ f = dec1 xs ++ [(idxW n (wordAt en (r.drop 3)).2).1 - 1] ∧ f.length = 4)
structure NoF (en n : Nat) (r : List Tok) (a e : Int) : Prop where
  ex : (∃ q : Nat × Int, rdC en [idxW n, idxW n, idxW n] r = .error q ∧ a = q.1 ∧ e = q.2) ∨ ∃ xs, rdC en [idxW n, idxW n, idxW n] r = .ok (xs, r.drop 3) ∧ (idxW n (wordAt en (r.drop 3)).2).2 ≠ 11 ∧ (idxW n (wordAt en (r.drop 3)).2).2 ≠ 0 ∧ a = (wordAt en (r.drop 3)).1 ∧ e = (idxW n (wordAt en (r.drop 3)).2).2
structure F33 (H H' : Heap) (en n : Nat) (r : List Tok) (x : AV) : Prop where
  ex : ∃ (vf : AV) (a e : Int), x = .tup [vf, .int .i64 a, .int .i64 e] ∧ ((e = 0 ∧ ∃ f, Mine 1 i64c H H' vf f ∧ OkF en n r f) ∨ (e ≠ 0 ∧ NoF en n r a e))
structure FaI (H H' : Heap) (v : AV) (i en n : Nat) (r : List Tok) (vf : AV) (τ : Env) (j m : Nat) : Prop where
  bd : Bd 1 i64c H H' vf (fvX en n r j)
  le : j ≤ 4
  hm : m = 4 - j
  ok : ∀ q, q < j → (idxW n (wordAt en (r.drop q)).2).2 = 0
  t0 : Env.at τ 0 = v
  t1 : Env.at τ 1 = .int .i64 i
  t2 : Env.at τ 2 = .int .i64 en
  t3 : Env.at τ 3 = .int .i64 n
  t11 : Env.at τ 11 = vf
  t12 : Env.at τ 12 = .int .i64 (j + 1 : Nat)
theorem idx_val {n : Nat} {w : List Nat} (h : (idxW n w).2 = 0) : 1 ≤ (idxW n w).1 ∧ (idxW n w).1 ≤ n := by
  unfold idxW numR at h ⊢
  split at h
  · simp at h
  · rename_i q1
    split at h
    · rename_i q2; rw [if_neg q1, if_pos q2]; exact q2
    · simp at h
theorem Bx.mine {α : Type} {e : Nat} {enc : α → List AV} {H0 H : Heap} {v : AV} {xs : List α} (h : Bx none e enc H0 H v xs) : Mine e enc H0 H v xs :=
  ⟨h.ow, fun p hp => by
    rcases (h.fresh p hp).1 with q | q
    · cases q
    · exact q⟩
theorem face33 (h33 : FT 33 = some (.code A33)) (hh : H32 FT) (hw : H.Wf) {v : AV} {ts : List Tok} (h : Toks H v ts) (hb : Byt ts) (hl : ts.length ≤ 1000000000) {i en n : Nat} (hi : i < ts.length) (hn : n ≤ 1000000000) :
    Cp FT 33 [v, .int .i64 i, .int .i64 en, .int .i64 n] H (fun x H' => F33 H H' en n (ts.drop (i + 1)) x ∧ Ext H H') := by
  obtain ⟨h48, h49, h62⟩ := hh
  refine Cp_code A33 h33 rfl ?_
  simp [A33]
  refine Wp_loop (fun m τ H' => ∃ j vf, FaI H H' v i en n (ts.drop (i + 1)) vf τ j m) ?_ 4 _ _ ⟨0, .nils, ⟨by simpa [fvX] using Bd.init hw, by omega, by omega, fun q hq => absurd hq (by omega), by simp, by simp, by simp, by simp, by simp, by simp⟩⟩
  rintro m τ H1 ⟨j, vf, ⟨bd, hj, rfl, ok, t0, t1, t2, t3, t11, t12⟩⟩
  simp only [Wp_seq, Wp_region]
  have ex := bd.ext hw
  have hdr : (ts.drop (i + 1)).drop j = ts.drop (i + (j + 1)) := by rw [List.drop_drop]; congr 1; omega
  generalize hr : ts.drop (i + 1) = r at *
  have done : ∀ (H2 : Heap) (f : List Int), Bd 1 i64c H H2 vf f → OkF en n r f → F33 H H2 en n r (.tup [vf, .int .i64 0, .int .i64 0]) := fun H2 f b2 ok2 => ⟨vf, 0, 0, rfl, .inl ⟨rfl, f, Bx.mine b2, ok2⟩⟩
  by_cases c : j < 4
  · have c' : ((j + 1 : Nat) : Int) ≤ 4 := by omega
    have w0 : IntKind.i64.wrap ((i : Int) + ((j + 1 : Nat) : Int)) = ((i + (j + 1) : Nat) : Int) := by rw [wrap64 (by omega) (by omega)]; omega
    simp [-Int.natCast_add, t0, t1, t2, t12, c', w0]
    refine (word49 h49 ex.wf (h.ext ex) (i := i + (j + 1)) (en := en)).mono ?_
    rintro _ H2 ⟨rfl, e2⟩
    rw [← hdr]
    have hbj : (∀ b, b ∈ (wordAt en (r.drop j)).2 → b < 256) ∧ (wordAt en (r.drop j)).2.length ≤ 1099511627776 := by
      rw [hdr]; exact (hb.drop (i + (j + 1))).head (en := en)
    have hat : ∀ q : Int, (idxW n (wordAt en (r.drop j)).2).2 = q → q ≠ 0 → (j = 3 → q ≠ 11) → NoF en n r ((wordAt en (r.drop j)).1 : Int) q := by
      intro q hq h0 h11
      by_cases hj3 : j = 3
      · subst hj3
        obtain ⟨xs, hx, _⟩ := three_ok ok
        exact ⟨.inr ⟨xs, hx, by rw [hq]; exact h11 rfl, by rw [hq]; exact h0, rfl, hq.symm⟩⟩
      · have hc : [idxW n, idxW n, idxW n][j]? = some (idxW n) := by
          match j, (show j < 3 by omega) with
          | 0, _ => rfl
          | 1, _ => rfl
          | 2, _ => rfl
        exact ⟨.inl ⟨_, rdC_at en _ r j (idxW n) (fun q d hq' hd => by obtain ⟨rfl, _⟩ := idx3 hd; exact ok q hq') hc (by rw [hq]; exact h0), rfl, hq.symm⟩⟩
    have hval := idx_val (n := n) (w := (wordAt en (r.drop j)).2)
    have hsu := fvX_succ en n r j
    have hidx : numR (wordAt en (r.drop j)).2 1 (n : Int) = idxW n (wordAt en (r.drop j)).2 := rfl
    have h3 : j = 3 → (idxW n (wordAt en (r.drop j)).2).2 = 11 → OkF en n r (fvX en n r j) := by
      intro h3 h11
      subst h3
      obtain ⟨xs, hx, hd⟩ := three_ok ok
      exact ⟨xs, hx, .inl ⟨h11, hd.symm, by simp [fvX]⟩⟩
    generalize hT : wordAt en (r.drop j) = t at *
    obtain ⟨H3, st, g3, e3, n3⟩ := store_new e2.wf (z := [.int .i64 0, .str []]) (n := 2) (x := .agg (tokA t)) (cs := tokA t) rfl rfl rfl rfl
    have lt1 : loadA H3 none (.ptr H2.next 1) = some (.str t.2) := load_get g3 rfl
    have x3 := (ex.trans e2).trans e3
    simp [-Int.natCast_add, st, lt1, t3]
    refine (number48 h48 h62 x3.wf hbj.1 hbj.2 (lo := 1) (hi := (n : Int)) (by omega) (by omega)).mono ?_
    rintro _ H4 ⟨rfl, e4⟩
    have e14 := (e2.trans e3).trans e4
    have bd4 := bd.after e14
    have l0 : loadA H4 none (.ptr H2.next 0) = some (.int .i64 (t.1 : Int)) := load_get (e4.keep _ _ g3) rfl
    rw [hidx]
    generalize hq : idxW n t.2 = q at *
    obtain ⟨qv, qe⟩ := q
    simp only at hat hval h3 hsu
    by_cases c0 : qe = 0
    · subst c0
      obtain ⟨v1, v2⟩ := hval rfl
      have w1 : IntKind.i64.wrap (qv - 1) = qv - 1 := wrap64 (by omega) (by omega)
      have w2 : IntKind.i64.wrap (((j + 1 : Nat) : Int) + 1) = ((j + 1 + 1 : Nat) : Int) := by rw [wrap64 (by omega) (by omega)]; omega
      obtain ⟨v', H5, k1, bd5, _⟩ := bd4.app1 (bytes := 8) i64c_len (by omega) i64c_one (qv - 1) (by simp [fvX]; omega)
      have k1' : appendA 1 8 (H4.push (.cells [.int .i64 (qv - 1)])) vf (.slc H4.next 0 1 1 1 true) = some (v', H5) := k1
      rw [← hsu] at bd5
      have hok : ∀ q, q < j + 1 → (idxW n (wordAt en (r.drop q)).2).2 = 0 := fun q hq' => by
        by_cases e : q = j
        · rw [e, hT, hq]
        · exact ok q (by omega)
      by_cases cj : j = 3
      · have cj' : (((j + 1 : Nat) : Int) == 4) = true := by subst cj; rfl
        simp [-Int.natCast_add, t11, t12, cj', w1, k1', w2]
        exact ⟨_, by omega, j + 1, v', ⟨bd5, by omega, rfl, hok, by simp [t0], by simp [t1], by simp [t2], by simp [t3], by simp, by simp⟩⟩
      · have cj' : (((j + 1 : Nat) : Int) == 4) = false := by rw [beq_eq_false_iff_ne]; omega
        simp [-Int.natCast_add, t11, t12, cj', w1, k1', w2]
        exact ⟨_, by omega, j + 1, v', ⟨bd5, by omega, rfl, hok, by simp [t0], by simp [t1], by simp [t2], by simp [t3], by simp, by simp⟩⟩
    · have c0' : (qe != 0) = true := by simpa using c0
      by_cases cj : j = 3
      · subst cj
        by_cases c11 : qe = 11
        · subst c11
          simp [-Int.natCast_add, t11, t12]
          exact ⟨done H4 _ bd4 (h3 rfl rfl), ex.trans e14⟩
        · have c11' : (qe == 11) = false := by simpa using c11
          simp [-Int.natCast_add, t11, t12, c11', c0', l0]
          exact ⟨⟨.nils, _, qe, rfl, .inr ⟨c0, hat qe rfl c0 (fun _ => c11)⟩⟩, ex.trans e14⟩
      · have cj' : (((j + 1 : Nat) : Int) == 4) = false := by rw [beq_eq_false_iff_ne]; omega
        simp [-Int.natCast_add, t11, t12, cj', c0', l0]
        exact ⟨⟨.nils, _, qe, rfl, .inr ⟨c0, hat qe rfl c0 (fun k => absurd k cj)⟩⟩, ex.trans e14⟩
  · have hj4 : j = 4 := by omega
    subst hj4
    obtain ⟨xs, hx, hd⟩ := three_ok (fun q hq => ok q (by omega))
    have hok : OkF en n r (fvX en n r 4) := ⟨xs, hx, .inr ⟨ok 3 (by omega), by rw [fvX_succ, hd], by simp [fvX]⟩⟩
    simp [t11, t12]
    exact ⟨done H1 _ bd hok, ex⟩
end
end Go.Proofs.YtacfhbhfgbjleaaDoor

/- A mesh's reading, as the document does it: the whole. No claim by itself. -/
namespace Go.Proofs.YtacfhbhfgbjleaaDoor
open Go Go.AI
theorem toks_idx {H : Heap} {v : AV} {W : List Tok} (h : Toks H v W) {i : Nat} (hi : i < W.length) : ∃ o off t, W[i]? = some t ∧ indexAddrV 2 v (.int .i64 (i : Int)) = some (.ptr o off) ∧ loadA H (some 2) (.ptr o off) = some (.agg (tokA t)) ∧ loadA H none (.ptr o off) = some (.int .i64 (t.1 : Int)) ∧ loadA H none (.ptr o (off + 1)) = some (.str t.2) := by
  rcases h with ⟨rfl, rfl⟩ | ⟨o, off, lo, ex, cs, rfl, hc, hx⟩
  · simp at hi
  · have hg : W[i]? = some W[i] := List.getElem?_eq_getElem hi
    have hs := hx _ _ hg
    have ix : (0 : Int) ≤ (i : Int) ∧ (i : Int) < ((W.length : Nat) : Int) ∧ 2 = 2 := by omega
    refine ⟨o, off + i * 2, _, hg, by simp [ix.2.1], by simp [loadA_ptr, hc, partA, hs], ?_, ?_⟩
    · rw [loadA_ptr, hc]
      have := seg_get hs (i := 0) (by omega)
      simpa [partA, tokA] using this
    · rw [loadA_ptr, hc]
      have := seg_get hs (i := 1) (by omega)
      simpa [partA, tokA] using this
section
variable {FT : Nat → Option FnD} {H H0 : Heap}
structure RfI (H H0 H' : Heap) (om : Nat) (v bv : AV) (ts : List Tok) (en : Nat) (R : Ob × Int × Int) (i : Nat) (P : List (Int × Int)) (W : Int) (F : List (List Int)) (τ : Env) (m : Nat) : Prop where
  mb : ∃ vP vF, MB H0 H' H.next om vP vF P W F
  fr2 : Fr [om] H0 H'
  le : i ≤ ts.length + 5
  hm : m = ts.length + 5 - i
  pn : P.length ≤ i
  fn : F.length ≤ i
  f4 : ∀ f, f ∈ F → f.length ≤ 4
  wz : P = [] ∧ W = 0 ∨ P ≠ [] ∧ 1 ≤ W
  ok : R = readO en (ts.drop i).length P W F (ts.drop i)
  t0 : Env.at τ 0 = bv
  t2 : Env.at τ 2 = .ptr H.next 0
  t5 : Env.at τ 5 = v
  t7 : Env.at τ 7 = .ptr om 0
  t8 : Env.at τ 8 = .int .i64 i
structure Qrx (H H' : Heap) (R : Ob × Int × Int) (τ : Env) : Prop where
  ex : ∃ a e : Int, R = (nilO, a, e) ∧ H'.get H.next = some (.cells [.nils, .int .i64 0, .nils]) ∧ Ext H H' ∧ Env.at τ 2 = .ptr H.next 0 ∧ Env.at τ 3 = .int .i64 a ∧ Env.at τ 4 = .int .i64 e
structure Qrn (H H0 H' : Heap) (om : Nat) (v bv : AV) (ts : List Tok) (en : Nat) (R : Ob × Int × Int) (τ : Env) : Prop where
  ex : ∃ i P W F m, RfI H H0 H' om v bv ts en R i P W F τ m ∧ ts.length ≤ i
def r16l : ACode := subAt [1,1,1,1,1,0] A16.body
def r16e : ACode := subAt [1,1,1,1,1,1] A16.body
theorem body16 : A16.body = putAt [1,1,1,1,1,0] (putAt [1,1,1,1,1,1] A16.body r16e) r16l := rfl
theorem Fr.two {om : Nat} {vl : List Nat} {a b c : Heap} (hw : a.Wf) (h : Fr [om] a b) (k : Fr (om :: vl) b c) (hv : ∀ p, p ∈ vl → a.next ≤ p) : Fr [om] a c := h.trans hw k (fun p hp => by
  rcases List.mem_cons.1 hp with q | q
  · exact .inl (by simp [q])
  · exact .inr (hv p q))
/-- The answer's object written. -/
theorem put3 (hw : H.Wf) {H' : Heap} (vP vF : AV) (W : Int) (hp : vP.one = true) (hf : vF.one = true) (ex : Ext H H') (g : H'.get H.next = some (.cells [.nils, .int .i64 0, .nils])) : ∃ H2, storeA H' 3 (.ptr H.next 0) (.agg [vP, .int .i64 W, vF]) = some (undefA, H2) ∧ H2.get H.next = some (.cells [vP, .int .i64 W, vF]) ∧ Ext H H2 ∧ Fr [H.next] H' H2 := by
  obtain ⟨H2, a, b, c⟩ := store_whole (n := 3) (x := .agg [vP, .int .i64 W, vF]) (xs := [vP, .int .i64 W, vF]) ex.wf rfl rfl (by rw [ex.floor]; exact hw.1) g rfl (by rw [allOne_of hp, allOne_int, allOne_of hf]; rfl)
  exact ⟨H2, a, b, ⟨c.floor.trans ex.floor, Nat.le_trans ex.next c.next, fun o x e => c.keep o x (by simp; have := hw.lt e; omega) (ex.keep _ _ e), c.wf⟩, c⟩
theorem read16l (h32 : FT 32 = some (.code A32)) (h33 : FT 33 = some (.code A33)) (hh : H32 FT) (hw : H.Wf) {om : Nat} {v bv : AV} {ts : List Tok} {en : Nat} {R : Ob × Int × Int} (ex0 : Ext H H0) (_hn0 : H.next < H0.next) (hom : H.next ≠ om) (hom2 : H.next ≤ om) (g0 : H0.get H.next = some (.cells [.nils, .int .i64 0, .nils])) (hlb : lenA bv = some (.int .i64 en)) (_hen : en ≤ 1048576) (hv : Toks H0 v ts) (hvn : ∀ p, rowObj v = some p → p ≠ om) (hb : Byt ts) (hl : ts.length ≤ 2000000) {τ0 : Env} {H1 : Heap} {m0 : Nat}
    (h0 : RfI H H0 H1 om v bv ts en R 0 [] 0 [] τ0 m0) :
    Wp FT r16l τ0 H1 (fun s τ H' => (s = .next ∧ Qrn H H0 H' om v bv ts en R τ) ∨ (s = .ret ∧ Qrx H H' R τ)) := by
  simp [r16l, subAt, A16]
  refine Wp_loop (fun m τ H' => ∃ i P W F, RfI H H0 H' om v bv ts en R i P W F τ m) ?_ m0 _ _ ⟨0, [], 0, [], h0⟩
  rintro m τ H1 ⟨i, P, W, F, hI⟩
  have hI0 := hI
  obtain ⟨⟨vP, vF, mb⟩, fr2, hi, rfl, pn, fn, f4, wz, ok, t0, t2, t5, t7, t8⟩ := hI
  simp only [Wp_seq, Wp_region]
  have hv1 : Toks H1 v ts := hv.fr fr2 (fun p hp => by simp; exact hvn p hp)
  have exH1 : Ext H H1 := ⟨fr2.floor.trans ex0.floor, Nat.le_trans ex0.next fr2.next, fun p x e => fr2.keep p x (by simp; have := hw.lt e; omega) (ex0.keep _ _ e), fr2.wf⟩
  have gr1 := fr2.keep _ _ (by simpa using hom) g0
  have keepR : ∀ {H2 : Heap}, Ext H1 H2 → H2.get H.next = some (.cells [.nils, .int .i64 0, .nils]) := fun e => e.keep _ _ gr1
  by_cases c : i < ts.length
  · obtain ⟨po, pf, t, ht, a2, _, a4, a3⟩ := toks_idx hv1 c
    have hdrop : ts.drop i = t :: ts.drop (i + 1) := drop_get ht
    have lF : loadA H1 none (.ptr om 2) = some vF := load_get mb.g rfl
    have lW : loadA H1 none (.ptr om 1) = some (.int .i64 W) := load_get mb.g rfl
    have lP : loadA H1 none (.ptr om 0) = some vP := load_get mb.g rfl
    have hlF := mb.mo.f.len
    have hlP := mb.mo.p.len
    have hR : R = readO en ((ts.drop (i + 1)).length + 1) P W F (t :: ts.drop (i + 1)) := by rw [ok, hdrop]; rfl
    have fuel : ∀ (P' : List (Int × Int)) (W' : Int) (F' : List (List Int)) (r' : List Tok), r'.length ≤ (ts.drop (i + 1)).length → readO en (ts.drop (i + 1)).length P' W' F' r' = readO en r'.length P' W' F' r' := fun P' W' F' r' h => readO_fuel en _ _ _ _ _ _ h (Nat.le_refl _)
    have hdd : ∀ k, (ts.drop (i + 1)).drop k = ts.drop (i + (k + 1)) := fun k => by rw [List.drop_drop]; congr 1; omega
    generalize hr : ts.drop (i + 1) = r at *
    by_cases c1 : t.2 = vS ∧ F = []
    · obtain ⟨cv, cF⟩ := c1
      subst cF
      have hlF0 : lenA vF = some (.int .i64 0) := by simpa using hlF
      have a3' : loadA H1 none (.ptr po (pf + 1)) = some (.str [118]) := by rw [a3, cv]; rfl
      simp [c, t0, t5, t7, t8, hv1.len, a2, a3', lF, hlF0, lW, hlb]
      have wz' := wz
      refine (place32 h32 hh exH1.wf hv1 hb (by omega) c wz').mono ?_
      rintro _ H2 ⟨⟨p, w, a, e, rfl, hc⟩, e2⟩
      rw [hr] at hc
      obtain ⟨H3, st3, g3, e3, n3⟩ := store_new e2.wf (z := [.int .i64 0, .int .i64 0]) (n := 2) (x := .agg (pairc p)) (cs := pairc p) rfl rfl rfl rfl
      have e13 := e2.trans e3
      have mb3 := mb.ext e13
      rcases hc with ⟨rfl, xs, q1, q2, q3, q4⟩ | ⟨he, q, q1, q2, q3⟩
      · have lP3 : loadA H3 none (.ptr om 0) = some vP := load_get mb3.g rfl
        have lp : loadA H3 (some 2) (.ptr H2.next 0) = some (.agg [.int .i64 p.1, .int .i64 p.2]) := load_agg g3 (by simp [seg, pairc])
        obtain ⟨v', H4, H5, H6, k1, k2, k3, mb6, fr6⟩ := mb3.addP p w (by omega)
        have k1' : appendA 2 16 (H3.push (.cells [.int .i64 p.1, .int .i64 p.2])) vP (.slc H3.next 0 1 2 1 true) = some (v', H4) := k1
        have w5 : IntKind.i64.wrap ((i : Int) + 5) = ((i + 5 : Nat) : Int) := wrap64 (by omega) (by omega)
        have fr3 : Fr [om] H0 H3 := fr2.thenE ex0.wf e13
        have fr06 : Fr [om] H0 H6 := Fr.two ex0.wf fr3 fr6 (fun z hz => by
          cases hq : rowObj vP with
          | none => rw [hq] at hz; simp at hz
          | some z' => rw [hq] at hz; simp at hz; subst hz; exact mb.mp.new z hq)
        have hd5 : ts.drop (i + 5) = r.drop 4 := (hdd 4).symm
        simp [-Int.natCast_add, st3, lP3, lp, k1', k2, k3, t7, t8, w5]
        refine ⟨_, by omega, i + 5, P ++ [p], w, [], ⟨⟨v', vF, mb6⟩, fr06, by omega, rfl, by simp; omega, by simp, by simp, .inr ⟨by simp, q4⟩, ?_, by simp [t0], by simp [t2], by simp [t5], by simp [t7], by simp⟩⟩
        rw [hR, hd5]
        conv => lhs; unfold readO
        rw [if_pos ⟨cv, rfl⟩, q1]
        simp only
        rw [fuel _ _ _ _ (by simp), q2, q3]
      · have he' : (e != 0) = true := by simpa using he
        obtain ⟨H4, st4, g4, e4, _⟩ := put3 hw .nils .nils 0 rfl rfl (exH1.trans e13) (keepR e13)
        simp [-Int.natCast_add, st3, he', t2, st4]
        refine ⟨⟨a, e, ?_, g4, e4, by simp [t2], by simp, by simp⟩⟩
        rw [hR]
        conv => lhs; unfold readO
        rw [if_pos ⟨cv, rfl⟩, q1, q2, q3]
    · have hv' : ∀ (K : Prop), (t.2 = [118] → F ≠ [] → K) → (t.2 ≠ [118] → K) → K := fun K k1 k2 => by
        by_cases q : t.2 = [118]
        · exact k1 q (fun r => c1 ⟨q, r⟩)
        · exact k2 q
      by_cases c2 : t.2 = fS
      · have a3' : loadA H1 none (.ptr po (pf + 1)) = some (.str [102]) := by rw [a3, c2]; rfl
        simp [c, t0, t5, t7, t8, hv1.len, a2, a3', lP, hlP, hlb]
        refine (face33 h33 hh exH1.wf hv1 hb (by omega) c (en := en) (n := P.length) (by omega)).mono ?_
        rintro _ H2 ⟨⟨vf, a, e, rfl, hc⟩, e2⟩
        rw [hr] at hc
        have mb2 := mb.ext e2
        rcases hc with ⟨rfl, f, hm, ⟨xs, q1, q2⟩⟩ | ⟨he, hno⟩
        · have lF2 : loadA H2 none (.ptr om 2) = some vF := load_get mb2.g rfl
          have hrw := hm.ow.rw i64c_len
          have h1 := hrw.one
          obtain ⟨rs, ra, _, _⟩ := mb.ex
          obtain ⟨v', H4, H5, k1, k2, mb5, fr5⟩ := mb2.addF hrw (fun z hz => by
            have z1 := hm.new z hz
            have := mb.fr.next
            exact ⟨by omega, fun q => by have := mb.mp.lt mb.wf q; omega, fun q => by have := ra.lt mb.wf q; omega⟩) (by omega)
          have hf : ∀ (e : Opd → AV) (r : List (Nat × Nat × Opd)), fillV e [.nils] 0 1 vf r = fillA e [vf] r := fun e r => by
            simp [fillV, h1.2, allOne_of h1.1]
          have fr05 : Fr [om] H0 H5 := Fr.two ex0.wf (fr2.thenE ex0.wf e2) fr5 (fun z hz => by
            cases hq : rowObj vF with
            | none => rw [hq] at hz; simp at hz
            | some z' => rw [hq] at hz; simp at hz; subst hz; exact ra.new z hq)
          have hfl : f.length = 3 ∨ f.length = 4 := by rcases q2 with q | q <;> simp [q.2.2]
          have w1 : IntKind.i64.wrap ((i : Int) + 1) = ((i + 1 : Nat) : Int) := wrap64 (by omega) (by omega)
          have w2 : IntKind.i64.wrap (((i + 1 : Nat) : Int) + (f.length : Int)) = ((i + 1 + f.length : Nat) : Int) := by rw [wrap64 (by omega) (by omega)]; omega
          simp [-Int.natCast_add, lF2, hf, k1, k2, t7, t8, hrw.len, w1, w2]
          refine ⟨_, by omega, i + 1 + f.length, P, W, F ++ [f], ⟨⟨vP, v', mb5⟩, fr05, by omega, rfl, by omega, by simp; omega, ?_, wz, ?_, by simp [t0], by simp [t2], by simp [t5], by simp [t7], by simp⟩⟩
          · intro g hg
            rcases List.mem_append.1 hg with q | q
            · exact f4 g q
            · simp at q; subst q; omega
          · rw [hR]
            conv => lhs; unfold readO
            rw [if_neg c1, if_pos c2, q1]
            simp only
            rcases q2 with ⟨z1, z2, z3⟩ | ⟨z1, z2, z3⟩
            · have hd : ts.drop (i + 1 + f.length) = r.drop 3 := by rw [z3, hdd 3]
              rw [if_pos z1, fuel _ _ _ _ (by simp), hd, z2]
            · have hd : ts.drop (i + 1 + f.length) = r.drop 4 := by rw [z3, hdd 4]
              have h34 : (r.drop 3).tail = r.drop 4 := by simp
              rw [if_neg (by rw [z1]; decide), if_pos z1, h34, fuel _ _ _ _ (by simp), hd, z2]
        · have he' : (e != 0) = true := by simpa using he
          obtain ⟨H4, st4, g4, e4, _⟩ := put3 hw .nils .nils 0 rfl rfl (exH1.trans e2) (keepR e2)
          simp [-Int.natCast_add, he', t2, st4]
          refine ⟨⟨a, e, ?_, g4, e4, by simp [t2], by simp, by simp⟩⟩
          rw [hR]
          conv => lhs; unfold readO
          rw [if_neg c1, if_pos c2]
          rcases hno.ex with ⟨q, z1, z2, z3⟩ | ⟨xs, z1, z2, z3, z4, z5⟩
          · rw [z1, z2, z3]
          · rw [z1]
            simp only
            rw [if_neg z2, if_neg z3, z4, z5]
      · have cf : (t.2 == [102]) = false := by simpa [fS] using c2
        obtain ⟨H4, st4, g4, e4, fr4⟩ := put3 hw .nils .nils 0 rfl rfl exH1 gr1
        have hRe : R = (nilO, (t.1 : Int), 11) := by
          rw [hR]
          conv => lhs; unfold readO
          rw [if_neg c1, if_neg c2]
        have hpo : ¬ po = H.next := by
          intro q
          subst q
          rw [loadA_ptr, cellsAt_get gr1] at a3
          have a3 : ([.nils, .int .i64 0, .nils] : List AV)[pf + 1]? = some (.str t.2) := a3
          match pf, a3 with
          | 0, a3 => simp at a3
          | 1, a3 => simp at a3
          | n + 2, a3 => simp at a3
        refine hv' _ (fun q hF => ?_) (fun q => ?_)
        · have a3' : loadA H1 none (.ptr po (pf + 1)) = some (.str [118]) := by rw [a3, q]
          have hFl : ¬ F.length = 0 := fun k => hF (List.length_eq_zero_iff.1 k)
          simp [c, t2, t5, t7, t8, hv1.len, a2, a3', a4, lF, hlF, hFl, hpo, st4]
          exact ⟨⟨t.1, 11, hRe, g4, e4, by simp [t2], by simp, by simp⟩⟩
        · have cv : (t.2 == [118]) = false := by simpa using q
          simp [c, t2, t5, t8, hv1.len, a2, a3, a4, cv, cf, hpo, st4]
          exact ⟨⟨t.1, 11, hRe, g4, e4, by simp [t2], by simp, by simp⟩⟩
  · have hil : ts.length ≤ i := by omega
    have c' : ¬ ((i : Int) < ts.length) := by omega
    simp [t5, t8, hv1.len, c']
    exact ⟨i, P, W, F, _, ⟨hI0.mb, fr2, hi, rfl, pn, fn, f4, wz, ok, by simp [t0], by simp [t2], by simp [t5], by simp [t7], by simp [t8]⟩, hil⟩
structure ReD (H H' : Heap) (s : List Nat) (r : AV) : Prop where
  ex : ∃ vP vF P W F, ∃ (a e : Int), parO s = ((P, W, F), a, e) ∧ r = .tup [.agg [vP, .int .i64 W, vF], .int .i64 a, .int .i64 e] ∧ MoN H H' vP vF P F
abbrev H16 (FT : Nat → Option FnD) : Prop := FT 16 = some (.code A16) ∧ FT 18 = some (.code A18) ∧ FT 32 = some (.code A32) ∧ FT 33 = some (.code A33) ∧ H32 FT ∧ H14 FT
theorem read16 (hh : H16 FT) (hw : H.Wf) {bv : AV} {s : List Nat} (hs : bytesA H bv = some s) (hcap : capOk bv = true) :
    Cp FT 16 [bv] H (fun r H' => ReD H H' s r ∧ Ext H H') := by
  obtain ⟨h16, h18, h32, h33, h32', h14⟩ := hh
  refine Cp_code A16 h16 rfl ?_
  have hA : A16.results = [.cell 2 (some 3), .tmp 3, .tmp 4] := rfl
  rw [hA, body16]
  generalize hrl : r16l = rl
  generalize hre : r16e = re
  obtain ⟨g1, e1⟩ := push_new hw (.cells [.nils, .int .i64 0, .nils])
  have hlen := bytesA_len hs
  have hnxH : (H.push (.cells [.nils, .int .i64 0, .nils])).next = H.next + 1 := rfl
  generalize hH1 : H.push (.cells [.nils, .int .i64 0, .nils]) = H1 at *
  simp [A16, putAt, hH1]
  refine (all18 h18 e1.wf (bytesA_ext e1 hs) hcap).mono ?_
  rintro _ H2 ⟨u, rfl, htok, e2⟩
  have x2 := e1.trans e2
  by_cases hlong : 1048576 < s.length
  · have hx : parO s = (nilO, 0, 3) := by unfold parO; rw [if_pos hlong]
    obtain ⟨H3, st, g3, e3, _⟩ := put3 hw .nils .nils 0 rfl rfl x2 (e2.keep _ _ g1)
    have g3' := cellsAt_get g3
    simp [hlong, st, resultsA, resultA, g3', partA, seg, packA]
    exact ⟨⟨.nils, .nils, [], 0, [], 0, 3, hx, rfl, MoN.nil _ _⟩, e3⟩
  · rw [if_neg hlong] at htok
    have hle : s.length ≤ 1048576 := by omega
    have hbyt := byt_words (bytesA_lt hs) hle
    have hwl := words_len s
    have hx : parO s = readO s.length (wordsN s).length [] 0 [] (wordsN s) := by unfold parO; rw [if_neg hlong]
    generalize hWS : wordsN s = ws at *
    obtain ⟨H3, st3, g3, e3, n3⟩ := store_new x2.wf (z := [.nils, .int .i64 0, .nils]) (n := 3) (x := .agg [.nils, .int .i64 0, .nils]) (cs := [.nils, .int .i64 0, .nils]) rfl rfl rfl rfl
    have x3 := x2.trans e3
    have hn2 := e2.next
    have g13 := e3.keep _ _ (e2.keep _ _ g1)
    have mb3 : MB H3 H3 H.next H2.next .nils .nils [] 0 [] := ⟨Fr.refl e3.wf, e3.wf, by rw [x3.floor]; have := hw.1; omega, by omega, by omega, by omega, g3, Mine.nil, fun p q => (by cases q), [], Mine.nil, rfl, fun i r f h => (by simp at h)⟩
    simp [hlong, st3]
    rw [← hrl]
    refine (read16l (H0 := H3) h32 h33 h32' hw (R := parO s) (en := s.length) x3 (by omega) (om := H2.next) (by omega) (by omega) g13 hlen hle (htok.ext e3) (fun p q => by have := htok.rowLt x2.wf q; omega) hbyt (by omega) (m0 := ws.length + 5) ⟨⟨.nils, .nils, mb3⟩, Fr.refl e3.wf, by omega, by omega, by simp, by simp, by simp, .inl ⟨rfl, rfl⟩, by simpa using hx, by simp, by simp, by simp, by simp, by simp⟩).mono ?_
    rintro sg τ H5 (⟨rfl, i, P, W, F, m, hI, hil⟩ | ⟨rfl, a, e, hR, gR, exR, t2, t3, t4⟩)
    · obtain ⟨⟨vP, vF, mb⟩, fr2, hi, rfl, pn, fn, f4, wz, ok, t0, t2, t5, t7, t8⟩ := hI
      have hdn : ws.drop i = [] := List.drop_of_length_le hil
      rw [hdn] at ok
      have hfin : readO s.length ([] : List Tok).length P W F [] = finO P W F := rfl
      rw [hfin] at ok
      have exH5 : Ext H H5 := ⟨fr2.floor.trans x3.floor, Nat.le_trans x3.next fr2.next, fun p x e => fr2.keep p x (by simp; have := hw.lt e; omega) (x3.keep _ _ e), fr2.wf⟩
      have g15 := fr2.keep _ _ (by simp; omega) g13
      have lm : loadA H5 (some 3) (.ptr H2.next 0) = some (.agg [vP, .int .i64 W, vF]) := load_agg mb.g (by simp [seg])
      have hzf := flat4 f4
      have hz : Sz P F := ⟨by omega, by omega, fun f hf => by have := f4 f hf; omega, by omega⟩
      simp
      rw [← hre]
      simp [r16e, subAt, A16, t7, lm]
      refine (check14 h14 mb.wf (W := W) mb.mo hz).mono ?_
      rintro _ H6 ⟨rfl, e6⟩
      have g16 := e6.keep _ _ g15
      by_cases hv : ValidO P W F
      · have mb6 := mb.ext e6
        have lm6 := load_ext lm e6
        obtain ⟨H7, st7, g7, e7, fr7⟩ := put3 hw vP vF W mb.mo.p.one.1 mb.mo.f.one.1 (exH5.trans e6) g16
        have g7' := cellsAt_get g7
        simp [chkO_ok hv, t2, t7, lm6, st7, resultsA, resultA, g7', partA, seg, packA]
        exact ⟨⟨vP, vF, P, W, F, 0, 0, by rw [ok, finO_ok hv], rfl, (mb6.mon.fr fr7 (fun p hp => by simp at hp; omega)).weak (by omega)⟩, e7⟩
      · obtain ⟨H7, st7, g7, e7, _⟩ := put3 hw .nils .nils 0 rfl rfl (exH5.trans e6) g16
        have g7' := cellsAt_get g7
        have hf2 : finO P W F = (nilO, 0, 2) := by unfold finO; rw [if_neg hv]
        simp [chkO_no hv, t2, st7, resultsA, resultA, g7', partA, seg, packA]
        exact ⟨⟨.nils, .nils, [], 0, [], 0, 2, by rw [ok, hf2]; rfl, rfl, MoN.nil _ _⟩, e7⟩
    · have gR' := cellsAt_get gR
      simp [t2, t3, t4, resultsA, resultA, gR', partA, seg, packA]
      exact ⟨⟨.nils, .nils, [], 0, [], a, e, by rw [hR]; rfl, rfl, MoN.nil _ _⟩, exR⟩
end
end Go.Proofs.YtacfhbhfgbjleaaDoor
