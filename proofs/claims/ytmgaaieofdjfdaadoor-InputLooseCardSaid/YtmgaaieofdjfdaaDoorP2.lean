/- Texts, words and numbers: plain. No claim by itself. -/
import Derived.Test.YtmgaaieofdjfdaaDoorD9
import Derived.Test.YtmgaaieofdjfdaaDoorC5
namespace Go.Proofs.YtmgaaieofdjfdaaDoor
open Go Go.AI
/-! ### Words, each with what stands behind it -/
abbrev Wd := List Nat × List Nat
def rend (l : List Wd) : List Nat := l.flatMap fun p => p.1 ++ p.2
def wordOk (w : List Nat) : Prop := w ≠ [] ∧ (∀ c, c ∈ w → isBl c = false) ∧ w.head? ≠ some 35
/-- What stands behind a word begins with a blank, and holds no word. -/
def sepOk (g : List Nat) : Prop := (∃ c r, g = c :: r ∧ isBl c = true) ∧ ∀ (r : List Nat) (p : Nat), scanW idN (g ++ r) p .out = scanW idN r (p + g.length) .out
def toksAt : Nat → List Wd → List Tok
  | _, [] => []
  | p, (w, g) :: l => (p, w) :: toksAt (p + w.length + g.length) l
theorem scan_in : ∀ (w r : List Nat) (p f : Nat) (acc : List Nat), (∀ c, c ∈ w → isBl c = false) → scanW idN (w ++ r) p (.word f acc) = scanW idN r (p + w.length) (.word f (w.reverse ++ acc))
  | [], r, p, f, acc, _ => by simp
  | c :: w, r, p, f, acc, h => by
    have hc := h c (by simp)
    simp only [List.cons_append, scanW, idN, hc, cond_false]
    rw [scan_in w r (p + 1) f (c :: acc) (fun d hd => h d (by simp [hd]))]
    simp only [List.length_cons, List.reverse_cons, List.append_assoc, List.singleton_append]
    congr 1; omega
theorem scan_start' {w : List Nat} (h : wordOk w) (r : List Nat) (p : Nat) : scanW idN (w ++ r) p .out = scanW idN r (p + w.length) (.word p w.reverse) := by
  obtain ⟨h0, h1, h2⟩ := h
  cases w with
  | nil => exact absurd rfl h0
  | cons c w =>
    have hc := h1 c (by simp)
    have h35 : c ≠ 35 := fun q => h2 (by simp [q])
    simp only [List.cons_append, scanW, idN, hc, cond_false, Tr.nbeq, h35, decide_false]
    rw [scan_in w r (p + 1) p [c] (fun d hd => h1 d (by simp [hd]))]
    simp only [List.length_cons, List.reverse_cons]
    congr 1; omega
theorem scan_close {g : List Nat} (h : sepOk g) (r : List Nat) (p f : Nat) (acc : List Nat) : scanW idN (g ++ r) p (.word f acc) = (f, acc.reverse) :: scanW idN r (p + g.length) .out := by
  rw [← h.2 r p]
  obtain ⟨⟨c, g', rfl, hc⟩, _⟩ := h
  simp only [List.cons_append, scanW, idN, hc, cond_true]
theorem scan_rend : ∀ (l : List Wd) (r : List Nat) (p : Nat), (∀ q, q ∈ l → wordOk q.1 ∧ sepOk q.2) → scanW idN (rend l ++ r) p .out = toksAt p l ++ scanW idN r (p + (rend l).length) .out
  | [], r, p, _ => by simp [rend, toksAt]
  | (w, g) :: l, r, p, h => by
    obtain ⟨hw, hg⟩ := h (w, g) (by simp)
    have ih := scan_rend l r (p + w.length + g.length) (fun q hq => h q (by simp [hq]))
    have e : rend ((w, g) :: l) ++ r = w ++ (g ++ (rend l ++ r)) := by simp [rend]
    rw [e, scan_start' hw, scan_close hg, ih]
    have hl : p + (rend ((w, g) :: l)).length = p + w.length + g.length + (rend l).length := by simp [rend]; omega
    rw [hl]
    simp [toksAt]
theorem words_rend {l : List Wd} (h : ∀ q, q ∈ l → wordOk q.1 ∧ sepOk q.2) : wordsN (rend l) = toksAt 0 l := by
  have := scan_rend l [] 0 h
  simp only [List.append_nil, scanW] at this
  exact this
theorem toksAt_txt : ∀ (p : Nat) (l : List Wd), (toksAt p l).map (·.2) = l.map (·.1)
  | _, [] => rfl
  | p, (w, g) :: l => by simp [toksAt, toksAt_txt _ l]
theorem toksAt_len (p : Nat) (l : List Wd) : (toksAt p l).length = l.length := by
  have := congrArg List.length (toksAt_txt p l); simpa using this
theorem toksAt_get : ∀ (p : Nat) (l : List Wd) (k : Nat) (q : Wd), l[k]? = some q → (toksAt p l)[k]? = some (p + (rend (l.take k)).length, q.1)
  | _, [], k, q, h => by simp at h
  | p, (w, g) :: l, 0, q, h => by simp at h; subst h; simp [toksAt, rend]
  | p, (w, g) :: l, k + 1, q, h => by
    simp only [toksAt, List.getElem?_cons_succ]
    rw [toksAt_get _ l k q (by simpa using h)]
    simp only [Option.some.injEq, Prod.mk.injEq, and_true, rend, List.take_succ_cons, List.flatMap_cons, List.length_append]
    omega
theorem toksAt_app : ∀ (p : Nat) (a b : List Wd), toksAt p (a ++ b) = toksAt p a ++ toksAt (p + (rend a).length) b
  | p, [], b => by simp [toksAt, rend]
  | p, (w, g) :: a, b => by
    simp only [List.cons_append, toksAt, toksAt_app _ a b]
    have : p + (rend ((w, g) :: a)).length = p + w.length + g.length + (rend a).length := by simp [rend]; omega
    rw [this]
theorem rend_app (a b : List Wd) : rend (a ++ b) = rend a ++ rend b := by simp [rend]
theorem sep_sp : sepOk [32] := ⟨⟨32, [], rfl, rfl⟩, fun _r _p => rfl⟩
theorem sep_nl : sepOk [10] := ⟨⟨10, [], rfl, rfl⟩, fun _r _p => rfl⟩
/-! ### Decimal words -/
theorem decP_dg : ∀ (f u : Nat), (decP f u).all isDg = true
  | 0, _ => rfl
  | f + 1, u => by
    unfold decP; split
    · rfl
    · rw [List.all_append, decP_dg f (u / 10)]
      simp [isDg]; omega
theorem decP_val : ∀ (f u : Nat), u < 10 ^ f → digV (decP f u) = u
  | 0, u, h => by simp at h; subst h; rfl
  | f + 1, u, h => by
    unfold decP; split
    · rename_i q; subst q; rfl
    · rw [digV_snoc, decP_val f (u / 10) (by rw [Nat.pow_succ] at h; omega)]; omega
theorem decP_head : ∀ (f u : Nat), 0 < u → u < 10 ^ f → ∃ c r, decP f u = c :: r ∧ 48 < c ∧ c ≤ 57
  | 0, u, h, k => by simp at k; omega
  | f + 1, u, h, k => by
    unfold decP; rw [if_neg (by omega)]
    by_cases h10 : u < 10
    · have : u / 10 = 0 := by omega
      rw [this, decP_zero]
      exact ⟨48 + u % 10, [], rfl, by omega, by omega⟩
    · obtain ⟨c, r, e, h1, h2⟩ := decP_head f (u / 10) (by omega) (by rw [Nat.pow_succ] at k; omega)
      exact ⟨c, r ++ [48 + u % 10], by rw [e]; rfl, h1, h2⟩
theorem itoa_nat (k : Nat) (hk : k < 10 ^ 25) : itoaN (k : Int) = if k = 0 then [48] else decP 25 k := by
  show decF 25 k [] = _
  by_cases h : k = 0
  · subst h; rfl
  · rw [if_neg h, decF_P 25 k [] (by omega) hk, List.append_nil]
theorem itoa_neg (k : Nat) (hk : k + 1 < 10 ^ 25) : itoaN (Int.negSucc k) = 45 :: decP 25 (k + 1) := by
  show 45 :: decF 25 (k + 1) [] = _
  rw [decF_P 25 (k + 1) [] (by omega) hk, List.append_nil]
theorem dg_notBl {c : Nat} (h : isDg c = true) : isBl c = false := by
  simp [isDg] at h
  simp [isBl]; omega
theorem itoa_facts {n : Int} (hn : n.natAbs < 10 ^ 24) : wordOk (itoaN n) ∧ wfN (itoaN n) = true ∧ sval (itoaN n) = n := by
  have h25 : (10 : Nat) ^ 25 = 10 ^ 24 * 10 := by rw [← Nat.pow_succ]
  cases n with
  | ofNat k =>
    simp only [Int.ofNat_eq_natCast, Int.natAbs_natCast] at hn ⊢
    rw [itoa_nat k (by omega)]
    by_cases h : k = 0
    · subst h
      refine ⟨⟨by simp, ?_, by simp⟩, by rfl, by rfl⟩
      intro c hc; simp at hc; subst hc; rfl
    · rw [if_neg h]
      obtain ⟨c, r, e, h1, h2⟩ := decP_head 25 k (by omega) (by omega)
      have hall := decP_dg 25 k
      have hval := decP_val 25 k (by omega)
      rw [e] at hall hval ⊢
      have hd : digsOf (c :: r) = c :: r := by unfold digsOf; rw [if_neg (by simp; omega)]
      refine ⟨⟨by simp, fun d hd => dg_notBl (List.all_eq_true.1 hall d hd), by simp; omega⟩, ?_, ?_⟩
      · unfold wfN; rw [hd, hall]; simp; omega
      · unfold sval; rw [if_neg (by simp; omega), hval]
  | negSucc k =>
    simp only [Int.natAbs_negSucc] at hn
    rw [itoa_neg k (by omega)]
    obtain ⟨c, r, e, h1, h2⟩ := decP_head 25 (k + 1) (by omega) (by omega)
    have hall := decP_dg 25 (k + 1)
    have hval := decP_val 25 (k + 1) (by omega)
    have hd : digsOf (45 :: decP 25 (k + 1)) = decP 25 (k + 1) := by unfold digsOf; rfl
    refine ⟨⟨by simp, ?_, by simp⟩, ?_, ?_⟩
    · intro d hd
      rcases List.mem_cons.1 hd with q | q
      · subst q; rfl
      · exact dg_notBl (List.all_eq_true.1 hall d q)
    · unfold wfN; rw [hd, hall, e]; simp; omega
    · unfold sval; rw [if_pos (show (45 :: decP 25 (k + 1)).head? = some 45 from rfl)]; simp only [List.tail_cons, hval]; omega
theorem numR_itoa {n lo hi : Int} (hn : n.natAbs < 10 ^ 24) : numR (itoaN n) lo hi = if lo ≤ n ∧ n ≤ hi then (n, 0) else (0, 10) := by
  obtain ⟨_, h2, h3⟩ := itoa_facts hn
  unfold numR; rw [h2, h3]; simp
/-! ### Reading what was printed -/
/-- The numbers of an input. -/
def flatV (l : List (Int × Int)) : List Int := l.flatMap fun q => [q.1, q.2]
def numsI (P L I : List (Int × Int)) : List Int := [(P.length : Int), L.length, I.length] ++ (flatV P ++ (flatV L ++ flatV I))
theorem flatV_len (l : List (Int × Int)) : (flatV l).length = 2 * l.length := by
  induction l with
  | nil => rfl
  | cons q l ih => simp only [flatV, List.flatMap_cons, List.length_append, List.length_cons, List.length_nil] at ih ⊢; omega
theorem pairUp_flat : ∀ (l : List (Int × Int)), pairUp (flatV l) = l
  | [] => rfl
  | q :: l => by
    have ih := pairUp_flat l
    simp only [flatV, List.flatMap_cons, List.cons_append, List.nil_append, pairUp] at ih ⊢
    rw [ih]
theorem numsI_len (P L I : List (Int × Int)) : (numsI P L I).length = 3 + 2 * (P.length + L.length + I.length) := by
  simp only [numsI, List.length_append, flatV_len, List.length_cons, List.length_nil]; omega
theorem numsI_all (P L I : List (Int × Int)) : allN (numsI P L I) = (numsI P L I).length := by
  rw [numsI_len]; simp [allN, nOf, numsI]
theorem numsI_split (P L I : List (Int × Int)) : splitN (numsI P L I) = (P, L, I) := by
  have hd : (numsI P L I).drop 3 = flatV P ++ (flatV L ++ flatV I) := by simp [numsI]
  have e : pairUp (flatV P ++ (flatV L ++ flatV I)) = P ++ (L ++ I) := by
    rw [pairUp_app _ _ (by rw [flatV_len]; omega), pairUp_app _ _ (by rw [flatV_len]; omega), pairUp_flat, pairUp_flat, pairUp_flat]
  have n0 : nOf (numsI P L I) 0 = P.length := by simp [nOf, numsI]
  have n1 : nOf (numsI P L I) 1 = L.length := by simp [nOf, numsI]
  unfold splitN
  rw [hd, e, n0, n1, ← List.drop_drop, List.take_left, List.drop_left, List.take_left, List.drop_left]
/-- Each number lies within its limits. -/
def inLim (V : List Int) : Prop := ∀ i x, V[i]? = some x → (limI i (V.take i)).1 ≤ x ∧ x ≤ (limI i (V.take i)).2
theorem limI_take {V : List Int} {i : Nat} (h : 1 ≤ i) : limI i (V.take i) = limI i V := by
  have e : (V.take i)[0]? = V[0]? := by rw [List.getElem?_take, if_pos (by omega)]
  unfold limI
  rw [e]
theorem flatV_mem {l : List (Int × Int)} {x : Int} (h : x ∈ flatV l) : ∃ q, q ∈ l ∧ (x = q.1 ∨ x = q.2) := by
  obtain ⟨q, hq, hx⟩ := List.mem_flatMap.1 h
  exact ⟨q, hq, by simpa using hx⟩
theorem numsI_lim {P L I : List (Int × Int)} (hv : validP P L I = true) : inLim (numsI P L I) := by
  simp only [validP, Bool.and_eq_true, decide_eq_true_eq] at hv
  obtain ⟨⟨⟨⟨⟨n1, n2⟩, n3⟩, vP⟩, vL⟩, vI⟩ := hv
  intro i x hx
  have h0 : (numsI P L I)[0]? = some (P.length : Int) := by simp [numsI]
  match i, hx with
  | 0, hx => simp [numsI] at hx; subst hx; simp [limI]; omega
  | 1, hx => simp [numsI] at hx; subst hx; simp [limI]; omega
  | 2, hx => simp [numsI] at hx; subst hx; simp [limI]; omega
  | j + 3, hx =>
    rw [limI_take (by omega)]
    unfold limI
    rw [if_neg (by omega), if_neg (by omega), h0]
    simp only [Option.getD_some]
    have hx' : (flatV P ++ (flatV L ++ flatV I))[j]? = some x := by
      have : (numsI P L I)[j + 3]? = (flatV P ++ (flatV L ++ flatV I))[j]? := by simp [numsI]
      rw [← this]; exact hx
    by_cases hj : j < 2 * P.length
    · rw [if_pos (by omega)]
      rw [List.getElem?_append_left (by rw [flatV_len]; omega)] at hx'
      obtain ⟨q, hq, hqx⟩ := flatV_mem (List.mem_of_getElem? hx')
      have := List.all_eq_true.1 vP q hq
      simp [okPl, inR] at this
      simp only
      rcases hqx with r | r <;> omega
    · rw [if_neg (by omega)]
      rw [List.getElem?_append_right (by rw [flatV_len]; omega)] at hx'
      have hm := List.mem_of_getElem? hx'
      have sg : ∀ {l : List (Int × Int)}, l.all (okSg P.length) = true → x ∈ flatV l → 0 ≤ x ∧ x ≤ (P.length : Int) - 1 := fun vl h => by
        obtain ⟨q, hq, hqx⟩ := flatV_mem h
        have := List.all_eq_true.1 vl q hq
        simp [okSg, inR] at this
        rcases hqx with r | r <;> omega
      rcases List.mem_append.1 hm with r | r
      · exact sg vL r
      · exact sg vI r
theorem inLim_small {V : List Int} (h : inLim V) {i : Nat} {x : Int} (hx : V[i]? = some x) : x.natAbs < 10 ^ 24 := by
  have h10 : (10 : Nat) ^ 24 = 1000000000000000000000000 := by decide
  have k := h i x hx
  have h0 : ∀ y, V[0]? = some y → 0 ≤ y ∧ y ≤ 200 := fun y hy => by
    have := h 0 y hy; simpa [limI] using this
  match i, hx, k with
  | 0, hx, k => have := h0 x hx; omega
  | j + 1, hx, k =>
    rw [limI_take (by omega)] at k
    have hl : j + 1 < V.length := (List.getElem?_eq_some_iff.1 hx).1
    obtain ⟨y, hy⟩ : ∃ y, V[0]? = some y := ⟨_, List.getElem?_eq_getElem (by omega)⟩
    have := h0 y hy
    unfold limI at k
    rw [hy] at k
    simp only [Option.getD_some] at k
    split at k
    · omega
    · split at k
      · simp at k; omega
      · split at k <;> simp at k <;> omega
theorem flat_run {en : Nat} {V : List Int} (hV : inLim V) (hall : allN V = V.length) (h3 : 3 ≤ V.length) (hbig : V.length ≤ 2403) {ts : List Tok} : ∀ k, k ≤ V.length → (ts.map (·.2)).take k = (V.take k).map itoaN →
    flatF en 3000 0 3 [] ts = flatF en (3000 - k) k (if k < 3 then 3 else V.length) (V.take k) (ts.drop k)
  | 0, _, _ => by simp
  | k + 1, hk, ht => by
    have hvk : V[k]? = some V[k] := List.getElem?_eq_getElem (by omega)
    generalize V[k] = x at hvk
    have htl : (ts.map (·.2)).take k = (V.take k).map itoaN := by
      have := congrArg (List.take k) ht
      rw [List.take_take, Nat.min_eq_left (Nat.le_succ k)] at this
      rw [this, ← List.map_take, List.take_take, Nat.min_eq_left (Nat.le_succ k)]
    have htk : (ts.map (·.2))[k]? = some (itoaN x) := by
      have := congrArg (fun l => l[k]?) ht
      simp only [List.getElem?_take, if_pos (Nat.lt_succ_self k), List.getElem?_map, hvk, Option.map_some] at this
      simpa using this
    obtain ⟨t, htt, ht2⟩ : ∃ t, ts[k]? = some t ∧ t.2 = itoaN x := by
      rw [List.getElem?_map] at htk
      cases hq : ts[k]? with
      | none => rw [hq] at htk; cases htk
      | some t => rw [hq] at htk; simp at htk; exact ⟨t, rfl, htk⟩
    rw [flat_run hV hall h3 hbig k (by omega) htl, drop_get htt, show 3000 - k = (3000 - (k + 1)) + 1 from by omega]
    have hlim := hV k x hvk
    rw [flat_step _ _ _ _ _ _ _ (by split <;> omega), ht2, numR_itoa (inLim_small hV hvk), if_pos hlim]
    simp only [if_true]
    have htake : V.take k ++ [x] = V.take (k + 1) := by rw [List.take_add_one, hvk]; rfl
    rw [htake]
    congr 1
    by_cases h2 : k = 2
    · subst h2
      rw [if_pos rfl, if_neg (by omega)]
      rw [← hall]
      unfold allN nOf
      rw [List.getElem?_take, List.getElem?_take, List.getElem?_take]
      simp
    · rw [if_neg h2]
      by_cases h : k < 3
      · rw [if_pos h, if_pos (by omega)]
      · rw [if_neg h, if_neg (by omega)]
end Go.Proofs.YtmgaaieofdjfdaaDoor
