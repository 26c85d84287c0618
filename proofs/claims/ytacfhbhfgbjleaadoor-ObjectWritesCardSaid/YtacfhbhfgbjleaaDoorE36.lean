/- Texts, words and numbers: plain. No claim by itself. -/
import Derived.Test.YtacfhbhfgbjleaaDoorE34
namespace Go.AI
abbrev Tok := Nat × List Nat
abbrev Toks := Sl 2 tokA
/-! ### Words, each with what stands behind it -/
abbrev Wd := List Nat × List Nat
def rend (l : List Wd) : List Nat := l.flatMap fun p => p.1 ++ p.2
def wordOk (w : List Nat) : Prop := w ≠ [] ∧ (∀ c, c ∈ w → isBl c = false) ∧ w.head? ≠ some 35
/-- What stands behind a word begins with a blank, and holds no word. -/
def sepOk (g : List Nat) : Prop := (∃ c r, g = c :: r ∧ isBl c = true) ∧ ∀ (r : List Nat) (p : Nat), scanW idN (g ++ r) p .out = scanW idN r (p + g.length) .out
def toksAt : Nat → List Wd → List Tok
  | _, [] => []
  | p, (w, g) :: l => (p, w) :: toksAt (p + w.length + g.length) l
theorem scan_inw : ∀ (w r : List Nat) (p f : Nat) (acc : List Nat), (∀ c, c ∈ w → isBl c = false) → scanW idN (w ++ r) p (.word f acc) = scanW idN r (p + w.length) (.word f (w.reverse ++ acc))
  | [], r, p, f, acc, _ => by simp
  | c :: w, r, p, f, acc, h => by
    have hc := h c (by simp)
    simp only [List.cons_append, scanW, idN, hc, cond_false]
    rw [scan_inw w r (p + 1) f (c :: acc) (fun d hd => h d (by simp [hd]))]
    simp only [List.length_cons, List.reverse_cons, List.append_assoc, List.singleton_append]
    congr 1; omega
theorem scan_start' {w : List Nat} (h : wordOk w) (r : List Nat) (p : Nat) : scanW idN (w ++ r) p .out = scanW idN r (p + w.length) (.word p w.reverse) := by
  obtain ⟨h0, h1, h2⟩ := h
  cases w with
  | nil => exact absurd rfl h0
  | cons c w =>
    have hc := h1 c (by simp)
    have h35 : c ≠ 35 := fun q => h2 (by simp [q])
    simp only [List.cons_append, scanW, idN, hc, cond_false, Tr.nbeq, h35, decide_false]
    rw [scan_inw w r (p + 1) p [c] (fun d hd => h1 d (by simp [hd]))]
    simp only [List.length_cons, List.reverse_cons]
    congr 1; omega
theorem scan_close {g : List Nat} (h : sepOk g) (r : List Nat) (p f : Nat) (acc : List Nat) : scanW idN (g ++ r) p (.word f acc) = (f, acc.reverse) :: scanW idN r (p + g.length) .out := by
  rw [← h.2 r p]
  obtain ⟨⟨c, g', rfl, hc⟩, _⟩ := h
  simp only [List.cons_append, scanW, idN, hc, cond_true]
theorem scan_rend : ∀ (l : List Wd) (r : List Nat) (p : Nat), (∀ q, q ∈ l → wordOk q.1 ∧ sepOk q.2) → scanW idN (rend l ++ r) p .out = toksAt p l ++ scanW idN r (p + (rend l).length) .out
  | [], r, p, _ => by simp [rend, toksAt]
  | (w, g) :: l, r, p, h => by
    obtain ⟨hw, hg⟩ := h (w, g) (by simp)
    have ih := scan_rend l r (p + w.length + g.length) (fun q hq => h q (by simp [hq]))
    have e : rend ((w, g) :: l) ++ r = w ++ (g ++ (rend l ++ r)) := by simp [rend]
    rw [e, scan_start' hw, scan_close hg, ih]
    have hl : p + (rend ((w, g) :: l)).length = p + w.length + g.length + (rend l).length := by simp [rend]; omega
    rw [hl]
    simp [toksAt]
theorem words_rend {l : List Wd} (h : ∀ q, q ∈ l → wordOk q.1 ∧ sepOk q.2) : wordsN (rend l) = toksAt 0 l := by
  have := scan_rend l [] 0 h
  simp only [List.append_nil, scanW] at this
  exact this
theorem toksAt_txt : ∀ (p : Nat) (l : List Wd), (toksAt p l).map (·.2) = l.map (·.1)
  | _, [] => rfl
  | p, (w, g) :: l => by simp [toksAt, toksAt_txt _ l]
theorem toksAt_len (p : Nat) (l : List Wd) : (toksAt p l).length = l.length := by
  have := congrArg List.length (toksAt_txt p l); simpa using this
theorem toksAt_get : ∀ (p : Nat) (l : List Wd) (k : Nat) (q : Wd), l[k]? = some q → (toksAt p l)[k]? = some (p + (rend (l.take k)).length, q.1)
  | _, [], k, q, h => by simp at h
  | p, (w, g) :: l, 0, q, h => by simp at h; subst h; simp [toksAt, rend]
  | p, (w, g) :: l, k + 1, q, h => by
    simp only [toksAt, List.getElem?_cons_succ]
    rw [toksAt_get _ l k q (by simpa using h)]
    simp only [Option.some.injEq, Prod.mk.injEq, and_true, rend, List.take_succ_cons, List.flatMap_cons, List.length_append]
    omega
theorem toksAt_app : ∀ (p : Nat) (a b : List Wd), toksAt p (a ++ b) = toksAt p a ++ toksAt (p + (rend a).length) b
  | p, [], b => by simp [toksAt, rend]
  | p, (w, g) :: a, b => by
    simp only [List.cons_append, toksAt, toksAt_app _ a b]
    have : p + (rend ((w, g) :: a)).length = p + w.length + g.length + (rend a).length := by simp [rend]; omega
    rw [this]
theorem rend_app (a b : List Wd) : rend (a ++ b) = rend a ++ rend b := by simp [rend]
theorem sep_sp : sepOk [32] := ⟨⟨32, [], rfl, rfl⟩, fun _r _p => rfl⟩
theorem sep_nl : sepOk [10] := ⟨⟨10, [], rfl, rfl⟩, fun _r _p => rfl⟩
/-! ### Decimal words -/
theorem decP_zero (f : Nat) : decP f 0 = [] := by cases f <;> simp [decP]
theorem decP_dg : ∀ (f u : Nat), (decP f u).all isDg = true
  | 0, _ => rfl
  | f + 1, u => by
    unfold decP; split
    · rfl
    · rw [List.all_append, decP_dg f (u / 10)]
      simp [isDg]; omega
theorem decP_val : ∀ (f u : Nat), u < 10 ^ f → digV (decP f u) = u
  | 0, u, h => by simp at h; subst h; rfl
  | f + 1, u, h => by
    unfold decP; split
    · rename_i q; subst q; rfl
    · rw [digV_snoc, decP_val f (u / 10) (by rw [Nat.pow_succ] at h; omega)]; omega
theorem decP_head : ∀ (f u : Nat), 0 < u → u < 10 ^ f → ∃ c r, decP f u = c :: r ∧ 48 < c ∧ c ≤ 57
  | 0, u, h, k => by simp at k; omega
  | f + 1, u, h, k => by
    unfold decP; rw [if_neg (by omega)]
    by_cases h10 : u < 10
    · have : u / 10 = 0 := by omega
      rw [this, decP_zero]
      exact ⟨48 + u % 10, [], rfl, by omega, by omega⟩
    · obtain ⟨c, r, e, h1, h2⟩ := decP_head f (u / 10) (by omega) (by rw [Nat.pow_succ] at k; omega)
      exact ⟨c, r ++ [48 + u % 10], by rw [e]; rfl, h1, h2⟩
theorem itoa_nat (k : Nat) (hk : k < 10 ^ 25) : itoaN (k : Int) = if k = 0 then [48] else decP 25 k := by
  show decF 25 k [] = _
  by_cases h : k = 0
  · subst h; rfl
  · rw [if_neg h, decF_P 25 k [] (by omega) hk, List.append_nil]
theorem itoa_neg (k : Nat) (hk : k + 1 < 10 ^ 25) : itoaN (Int.negSucc k) = 45 :: decP 25 (k + 1) := by
  show 45 :: decF 25 (k + 1) [] = _
  rw [decF_P 25 (k + 1) [] (by omega) hk, List.append_nil]
theorem dg_notBl {c : Nat} (h : isDg c = true) : isBl c = false := by
  simp [isDg] at h
  simp [isBl]; omega
theorem itoa_facts {n : Int} (hn : n.natAbs < 10 ^ 24) : wordOk (itoaN n) ∧ wfN (itoaN n) = true ∧ sval (itoaN n) = n := by
  have h25 : (10 : Nat) ^ 25 = 10 ^ 24 * 10 := by rw [← Nat.pow_succ]
  cases n with
  | ofNat k =>
    simp only [Int.ofNat_eq_natCast, Int.natAbs_natCast] at hn ⊢
    rw [itoa_nat k (by omega)]
    by_cases h : k = 0
    · subst h
      refine ⟨⟨by simp, ?_, by simp⟩, by rfl, by rfl⟩
      intro c hc; simp at hc; subst hc; rfl
    · rw [if_neg h]
      obtain ⟨c, r, e, h1, h2⟩ := decP_head 25 k (by omega) (by omega)
      have hall := decP_dg 25 k
      have hval := decP_val 25 k (by omega)
      rw [e] at hall hval ⊢
      have hd : digsOf (c :: r) = c :: r := by unfold digsOf; rw [if_neg (by simp; omega)]
      refine ⟨⟨by simp, fun d hd => dg_notBl (List.all_eq_true.1 hall d hd), by simp; omega⟩, ?_, ?_⟩
      · unfold wfN; rw [hd, hall]; simp; omega
      · unfold sval; rw [if_neg (by simp; omega), hval]
  | negSucc k =>
    simp only [Int.natAbs_negSucc] at hn
    rw [itoa_neg k (by omega)]
    obtain ⟨c, r, e, h1, h2⟩ := decP_head 25 (k + 1) (by omega) (by omega)
    have hall := decP_dg 25 (k + 1)
    have hval := decP_val 25 (k + 1) (by omega)
    have hd : digsOf (45 :: decP 25 (k + 1)) = decP 25 (k + 1) := by unfold digsOf; rfl
    refine ⟨⟨by simp, ?_, by simp⟩, ?_, ?_⟩
    · intro d hd
      rcases List.mem_cons.1 hd with q | q
      · subst q; rfl
      · exact dg_notBl (List.all_eq_true.1 hall d q)
    · unfold wfN; rw [hd, hall, e]; simp; omega
    · unfold sval; rw [if_pos (show (45 :: decP 25 (k + 1)).head? = some 45 from rfl)]; simp only [List.tail_cons, hval]; omega
theorem numR_itoa {n lo hi : Int} (hn : n.natAbs < 10 ^ 24) : numR (itoaN n) lo hi = if lo ≤ n ∧ n ≤ hi then (n, 0) else (0, 10) := by
  obtain ⟨_, h2, h3⟩ := itoa_facts hn
  unfold numR; rw [h2, h3]; simp
/-! ### A word that is a number is the number's own text -/
theorem snoc_of {l : List Nat} (h : l ≠ []) : ∃ r d, l = r ++ [d] := ⟨l.dropLast, l.getLast h, (List.dropLast_concat_getLast h).symm⟩
theorem digV_ge : ∀ (n : Nat) (l : List Nat), l.length = n + 1 → (∀ d, d ∈ l → isDg d = true) → l.head? ≠ some 48 → 10 ^ n ≤ digV l
  | 0, l, hl, hd, hh => by
    match l, hl with
    | [d], _ =>
      have := hd d (by simp)
      simp [isDg] at this
      simp at hh
      simp [digV]; omega
  | n + 1, l, hl, hd, hh => by
    obtain ⟨r, d, rfl⟩ := snoc_of (l := l) (by intro q; subst q; simp at hl)
    have hr : r.length = n + 1 := by simpa using hl
    have ih := digV_ge n r hr (fun x hx => hd x (by simp [hx])) (by
      intro q; apply hh
      cases r with
      | nil => simp at hr
      | cons a r => simpa using q)
    rw [digV_snoc, Nat.pow_succ]; omega
theorem decP_of : ∀ (f : Nat) (l : List Nat), l.length ≤ f → (∀ d, d ∈ l → isDg d = true) → l.head? ≠ some 48 → decP f (digV l) = l
  | 0, l, hl, _, _ => by
    have : l = [] := List.length_eq_zero_iff.1 (by omega)
    subst this; rfl
  | f + 1, l, hl, hd, hh => by
    by_cases h : l = []
    · subst h; exact decP_zero _
    obtain ⟨r, d, rfl⟩ := snoc_of h
    have hrl : r.length + 1 = (r ++ [d]).length := by simp
    have hge := digV_ge r.length (r ++ [d]) hrl.symm hd hh
    have hp : 0 < 10 ^ r.length := Nat.pos_of_ne_zero (by simp)
    have hdd := hd d (by simp)
    simp [isDg] at hdd
    rw [digV_snoc] at hge ⊢
    have ih := decP_of f r (by omega) (fun x hx => hd x (by simp [hx])) (by
      intro q; apply hh
      cases r with
      | nil => simp at q
      | cons a r => simpa using q)
    unfold decP
    rw [if_neg (by omega), show (10 * digV r + (d - 48)) / 10 = digV r from by omega, show 48 + (10 * digV r + (d - 48)) % 10 = d from by omega, ih]
theorem word_itoa {w : List Nat} (h : wfN w = true) (hb : (sval w).natAbs < 10 ^ 24) : w = itoaN (sval w) := by
  have h25 : (10 : Nat) ^ 25 = 10 ^ 24 * 10 := by rw [← Nat.pow_succ]
  by_cases h0 : w = [48]
  · subst h0; rfl
  have hwf := h
  unfold wfN at h
  simp only [Bool.and_eq_true, Bool.not_eq_true', decide_eq_false h0, Bool.not_false, Bool.and_true] at h
  obtain ⟨⟨a, b⟩, c⟩ := h
  have hne : digsOf w ≠ [] := fun q => by rw [q] at a; simp at a
  have hh : (digsOf w).head? ≠ some 48 := by simpa using c
  have hd := List.all_eq_true.1 b
  obtain ⟨n, hn⟩ : ∃ n, (digsOf w).length = n + 1 := ⟨(digsOf w).length - 1, by have := List.length_pos_iff.2 hne; omega⟩
  have hge := digV_ge n (digsOf w) hn hd hh
  have hab : digV (digsOf w) < 10 ^ 24 := by
    unfold sval at hb; unfold digsOf
    split at hb <;> rename_i q
    · rw [if_pos q]; omega
    · rw [if_neg q]; omega
  have hn24 : n < 24 := (Nat.pow_lt_pow_iff_right (by omega)).1 (Nat.lt_of_le_of_lt hge hab)
  have hof := decP_of 25 (digsOf w) (by omega) hd hh
  have hpos : 0 < digV (digsOf w) := Nat.lt_of_lt_of_le (Nat.pos_of_ne_zero (by simp)) hge
  unfold sval
  by_cases q : w.head? = some 45
  · have e : digsOf w = w.tail := by unfold digsOf; rw [if_pos q]
    rw [e] at hof hpos hab
    rw [if_pos q]
    obtain ⟨k, hk⟩ : ∃ k, digV w.tail = k + 1 := ⟨digV w.tail - 1, by omega⟩
    have e2 : (-((k + 1 : Nat) : Int)) = Int.negSucc k := rfl
    rw [hk] at hof hab
    rw [hk, e2, itoa_neg k (by omega), hof]
    cases w with
    | nil => simp at q
    | cons a w => simp at q; subst q; rfl
  · have e : digsOf w = w := by unfold digsOf; rw [if_neg q]
    rw [e] at hof hpos hab
    rw [if_neg q, itoa_nat _ (by omega), if_neg (by omega), hof]
/-- A word that is read as a number in a range is that number's text. -/
theorem numR_word {w : List Nat} {lo hi n : Int} (h : numR w lo hi = (n, 0)) (hlo : -(10 : Int) ^ 20 ≤ lo) (hhi : hi ≤ (10 : Int) ^ 20) : w = itoaN n ∧ lo ≤ n ∧ n ≤ hi := by
  unfold numR at h
  split at h
  · cases h
  · rename_i hw
    split at h
    · rename_i hr
      cases h
      have e : (10 : Int) ^ 20 = 100000000000000000000 := by decide
      have e2 : (10 : Nat) ^ 24 = 1000000000000000000000000 := by decide
      exact ⟨word_itoa (by simpa using hw) (by omega), hr⟩
    · cases h
end Go.AI
