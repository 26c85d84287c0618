/- Texts, words and numbers: plain. No claim by itself. -/
import Derived.Test.YtacfhbhfgbjleaaDoorED
namespace Go.AI
abbrev Tok := Nat × List Nat
abbrev Toks := Sl 2 tokA
/-! ### Words, each with what stands behind it -/
abbrev Wd := List Nat × List Nat
def rend (l : List Wd) : List Nat := l.flatMap fun p => p.1 ++ p.2
def wordOk (w : List Nat) : Prop := w ≠ [] ∧ (∀ c, c ∈ w → isBl c = false) ∧ w.head? ≠ some 35
/-- What stands behind a word begins with a blank, and holds no word. -/
def sepOk (g : List Nat) : Prop := (∃ c r, g = c :: r ∧ isBl c = true) ∧ ∀ (r : List Nat) (p : Nat), scanW idN (g ++ r) p .out = scanW idN r (p + g.length) .out
def toksAt : Nat → List Wd → List Tok
  | _, [] => []
  | p, (w, g) :: l => (p, w) :: toksAt (p + w.length + g.length) l
theorem scan_inw : ∀ (w r : List Nat) (p f : Nat) (acc : List Nat), (∀ c, c ∈ w → isBl c = false) → scanW idN (w ++ r) p (.word f acc) = scanW idN r (p + w.length) (.word f (w.reverse ++ acc))
  | [], r, p, f, acc, _ => by simp
  | c :: w, r, p, f, acc, h => by
    have hc := h c (by simp)
    simp only [List.cons_append, scanW, idN, hc, cond_false]
    rw [scan_inw w r (p + 1) f (c :: acc) (fun d hd => h d (by simp [hd]))]
    simp only [List.length_cons, List.reverse_cons, List.append_assoc, List.singleton_append]
    congr 1; omega
theorem scan_start' {w : List Nat} (h : wordOk w) (r : List Nat) (p : Nat) : scanW idN (w ++ r) p .out = scanW idN r (p + w.length) (.word p w.reverse) := by
  obtain ⟨h0, h1, h2⟩ := h
  cases w with
  | nil => exact absurd rfl h0
  | cons c w =>
    have hc := h1 c (by simp)
    have h35 : c ≠ 35 := fun q => h2 (by simp [q])
    simp only [List.cons_append, scanW, idN, hc, cond_false, Tr.nbeq, h35, decide_false]
    rw [scan_inw w r (p + 1) p [c] (fun d hd => h1 d (by simp [hd]))]
    simp only [List.length_cons, List.reverse_cons]
    congr 1; omega
theorem scan_close {g : List Nat} (h : sepOk g) (r : List Nat) (p f : Nat) (acc : List Nat) : scanW idN (g ++ r) p (.word f acc) = (f, acc.reverse) :: scanW idN r (p + g.length) .out := by
  rw [← h.2 r p]
  obtain ⟨⟨c, g', rfl, hc⟩, _⟩ := h
  simp only [List.cons_append, scanW, idN, hc, cond_true]
theorem scan_rend : ∀ (l : List Wd) (r : List Nat) (p : Nat), (∀ q, q ∈ l → wordOk q.1 ∧ sepOk q.2) → scanW idN (rend l ++ r) p .out = toksAt p l ++ scanW idN r (p + (rend l).length) .out
  | [], r, p, _ => by simp [rend, toksAt]
  | (w, g) :: l, r, p, h => by
    obtain ⟨hw, hg⟩ := h (w, g) (by simp)
    have ih := scan_rend l r (p + w.length + g.length) (fun q hq => h q (by simp [hq]))
    have e : rend ((w, g) :: l) ++ r = w ++ (g ++ (rend l ++ r)) := by simp [rend]
    rw [e, scan_start' hw, scan_close hg, ih]
    have hl : p + (rend ((w, g) :: l)).length = p + w.length + g.length + (rend l).length := by simp [rend]; omega
    rw [hl]
    simp [toksAt]
theorem words_rend {l : List Wd} (h : ∀ q, q ∈ l → wordOk q.1 ∧ sepOk q.2) : wordsN (rend l) = toksAt 0 l := by
  have := scan_rend l [] 0 h
  simp only [List.append_nil, scanW] at this
  exact this
theorem toksAt_txt : ∀ (p : Nat) (l : List Wd), (toksAt p l).map (·.2) = l.map (·.1)
  | _, [] => rfl
  | p, (w, g) :: l => by simp [toksAt, toksAt_txt _ l]
theorem toksAt_len (p : Nat) (l : List Wd) : (toksAt p l).length = l.length := by
  have := congrArg List.length (toksAt_txt p l); simpa using this
theorem rend_app (a b : List Wd) : rend (a ++ b) = rend a ++ rend b := by simp [rend]
theorem sep_sp : sepOk [32] := ⟨⟨32, [], rfl, rfl⟩, fun _r _p => rfl⟩
theorem sep_nl : sepOk [10] := ⟨⟨10, [], rfl, rfl⟩, fun _r _p => rfl⟩
/-! ### Decimal words -/
theorem decP_zero (f : Nat) : decP f 0 = [] := by cases f <;> simp [decP]
theorem decP_dg : ∀ (f u : Nat), (decP f u).all isDg = true
  | 0, _ => rfl
  | f + 1, u => by
    unfold decP; split
    · rfl
    · rw [List.all_append, decP_dg f (u / 10)]
      simp [isDg]; omega
theorem decP_val : ∀ (f u : Nat), u < 10 ^ f → digV (decP f u) = u
  | 0, u, h => by simp at h; subst h; rfl
  | f + 1, u, h => by
    unfold decP; split
    · rename_i q; subst q; rfl
    · rw [digV_snoc, decP_val f (u / 10) (by rw [Nat.pow_succ] at h; omega)]; omega
theorem decP_head : ∀ (f u : Nat), 0 < u → u < 10 ^ f → ∃ c r, decP f u = c :: r ∧ 48 < c ∧ c ≤ 57
  | 0, u, h, k => by simp at k; omega
  | f + 1, u, h, k => by
    unfold decP; rw [if_neg (by omega)]
    by_cases h10 : u < 10
    · have : u / 10 = 0 := by omega
      rw [this, decP_zero]
      exact ⟨48 + u % 10, [], rfl, by omega, by omega⟩
    · obtain ⟨c, r, e, h1, h2⟩ := decP_head f (u / 10) (by omega) (by rw [Nat.pow_succ] at k; omega)
      exact ⟨c, r ++ [48 + u % 10], by rw [e]; rfl, h1, h2⟩
theorem itoa_nat (k : Nat) (hk : k < 10 ^ 25) : itoaN (k : Int) = if k = 0 then [48] else decP 25 k := by
  show decF 25 k [] = _
  by_cases h : k = 0
  · subst h; rfl
  · rw [if_neg h, decF_P 25 k [] (by omega) hk, List.append_nil]
theorem itoa_neg (k : Nat) (hk : k + 1 < 10 ^ 25) : itoaN (Int.negSucc k) = 45 :: decP 25 (k + 1) := by
  show 45 :: decF 25 (k + 1) [] = _
  rw [decF_P 25 (k + 1) [] (by omega) hk, List.append_nil]
theorem dg_notBl {c : Nat} (h : isDg c = true) : isBl c = false := by
  simp [isDg] at h
  simp [isBl]; omega
theorem itoa_facts {n : Int} (hn : n.natAbs < 10 ^ 24) : wordOk (itoaN n) ∧ wfN (itoaN n) = true ∧ sval (itoaN n) = n := by
  have h25 : (10 : Nat) ^ 25 = 10 ^ 24 * 10 := by rw [← Nat.pow_succ]
  cases n with
  | ofNat k =>
    simp only [Int.ofNat_eq_natCast, Int.natAbs_natCast] at hn ⊢
    rw [itoa_nat k (by omega)]
    by_cases h : k = 0
    · subst h
      refine ⟨⟨by simp, ?_, by simp⟩, by rfl, by rfl⟩
      intro c hc; simp at hc; subst hc; rfl
    · rw [if_neg h]
      obtain ⟨c, r, e, h1, h2⟩ := decP_head 25 k (by omega) (by omega)
      have hall := decP_dg 25 k
      have hval := decP_val 25 k (by omega)
      rw [e] at hall hval ⊢
      have hd : digsOf (c :: r) = c :: r := by unfold digsOf; rw [if_neg (by simp; omega)]
      refine ⟨⟨by simp, fun d hd => dg_notBl (List.all_eq_true.1 hall d hd), by simp; omega⟩, ?_, ?_⟩
      · unfold wfN; rw [hd, hall]; simp; omega
      · unfold sval; rw [if_neg (by simp; omega), hval]
  | negSucc k =>
    simp only [Int.natAbs_negSucc] at hn
    rw [itoa_neg k (by omega)]
    obtain ⟨c, r, e, h1, h2⟩ := decP_head 25 (k + 1) (by omega) (by omega)
    have hall := decP_dg 25 (k + 1)
    have hval := decP_val 25 (k + 1) (by omega)
    have hd : digsOf (45 :: decP 25 (k + 1)) = decP 25 (k + 1) := by unfold digsOf; rfl
    refine ⟨⟨by simp, ?_, by simp⟩, ?_, ?_⟩
    · intro d hd
      rcases List.mem_cons.1 hd with q | q
      · subst q; rfl
      · exact dg_notBl (List.all_eq_true.1 hall d q)
    · unfold wfN; rw [hd, hall, e]; simp; omega
    · unfold sval; rw [if_pos (show (45 :: decP 25 (k + 1)).head? = some 45 from rfl)]; simp only [List.tail_cons, hval]; omega
theorem numR_itoa {n lo hi : Int} (hn : n.natAbs < 10 ^ 24) : numR (itoaN n) lo hi = if lo ≤ n ∧ n ≤ hi then (n, 0) else (0, 10) := by
  obtain ⟨_, h2, h3⟩ := itoa_facts hn
  unfold numR; rw [h2, h3]; simp
/-! ### A word that is a number is the number's own text -/
theorem snoc_of {l : List Nat} (h : l ≠ []) : ∃ r d, l = r ++ [d] := ⟨l.dropLast, l.getLast h, (List.dropLast_concat_getLast h).symm⟩
theorem digV_ge : ∀ (n : Nat) (l : List Nat), l.length = n + 1 → (∀ d, d ∈ l → isDg d = true) → l.head? ≠ some 48 → 10 ^ n ≤ digV l
  | 0, l, hl, hd, hh => by
    match l, hl with
    | [d], _ =>
      have := hd d (by simp)
      simp [isDg] at this
      simp at hh
      simp [digV]; omega
  | n + 1, l, hl, hd, hh => by
    obtain ⟨r, d, rfl⟩ := snoc_of (l := l) (by intro q; subst q; simp at hl)
    have hr : r.length = n + 1 := by simpa using hl
    have ih := digV_ge n r hr (fun x hx => hd x (by simp [hx])) (by
      intro q; apply hh
      cases r with
      | nil => simp at hr
      | cons a r => simpa using q)
    rw [digV_snoc, Nat.pow_succ]; omega
theorem decP_of : ∀ (f : Nat) (l : List Nat), l.length ≤ f → (∀ d, d ∈ l → isDg d = true) → l.head? ≠ some 48 → decP f (digV l) = l
  | 0, l, hl, _, _ => by
    have : l = [] := List.length_eq_zero_iff.1 (by omega)
    subst this; rfl
  | f + 1, l, hl, hd, hh => by
    by_cases h : l = []
    · subst h; exact decP_zero _
    obtain ⟨r, d, rfl⟩ := snoc_of h
    have hrl : r.length + 1 = (r ++ [d]).length := by simp
    have hge := digV_ge r.length (r ++ [d]) hrl.symm hd hh
    have hp : 0 < 10 ^ r.length := Nat.pos_of_ne_zero (by simp)
    have hdd := hd d (by simp)
    simp [isDg] at hdd
    rw [digV_snoc] at hge ⊢
    have ih := decP_of f r (by omega) (fun x hx => hd x (by simp [hx])) (by
      intro q; apply hh
      cases r with
      | nil => simp at q
      | cons a r => simpa using q)
    unfold decP
    rw [if_neg (by omega), show (10 * digV r + (d - 48)) / 10 = digV r from by omega, show 48 + (10 * digV r + (d - 48)) % 10 = d from by omega, ih]
theorem word_itoa {w : List Nat} (h : wfN w = true) (hb : (sval w).natAbs < 10 ^ 24) : w = itoaN (sval w) := by
  have h25 : (10 : Nat) ^ 25 = 10 ^ 24 * 10 := by rw [← Nat.pow_succ]
  by_cases h0 : w = [48]
  · subst h0; rfl
  have hwf := h
  unfold wfN at h
  simp only [Bool.and_eq_true, Bool.not_eq_true', decide_eq_false h0, Bool.not_false, Bool.and_true] at h
  obtain ⟨⟨a, b⟩, c⟩ := h
  have hne : digsOf w ≠ [] := fun q => by rw [q] at a; simp at a
  have hh : (digsOf w).head? ≠ some 48 := by simpa using c
  have hd := List.all_eq_true.1 b
  obtain ⟨n, hn⟩ : ∃ n, (digsOf w).length = n + 1 := ⟨(digsOf w).length - 1, by have := List.length_pos_iff.2 hne; omega⟩
  have hge := digV_ge n (digsOf w) hn hd hh
  have hab : digV (digsOf w) < 10 ^ 24 := by
    unfold sval at hb; unfold digsOf
    split at hb <;> rename_i q
    · rw [if_pos q]; omega
    · rw [if_neg q]; omega
  have hn24 : n < 24 := (Nat.pow_lt_pow_iff_right (by omega)).1 (Nat.lt_of_le_of_lt hge hab)
  have hof := decP_of 25 (digsOf w) (by omega) hd hh
  have hpos : 0 < digV (digsOf w) := Nat.lt_of_lt_of_le (Nat.pos_of_ne_zero (by simp)) hge
  unfold sval
  by_cases q : w.head? = some 45
  · have e : digsOf w = w.tail := by unfold digsOf; rw [if_pos q]
    rw [e] at hof hpos hab
    rw [if_pos q]
    obtain ⟨k, hk⟩ : ∃ k, digV w.tail = k + 1 := ⟨digV w.tail - 1, by omega⟩
    have e2 : (-((k + 1 : Nat) : Int)) = Int.negSucc k := rfl
    rw [hk] at hof hab
    rw [hk, e2, itoa_neg k (by omega), hof]
    cases w with
    | nil => simp at q
    | cons a w => simp at q; subst q; rfl
  · have e : digsOf w = w := by unfold digsOf; rw [if_neg q]
    rw [e] at hof hpos hab
    rw [if_neg q, itoa_nat _ (by omega), if_neg (by omega), hof]
/-- A word that is read as a number in a range is that number's text. -/
theorem numR_word {w : List Nat} {lo hi n : Int} (h : numR w lo hi = (n, 0)) (hlo : -(10 : Int) ^ 20 ≤ lo) (hhi : hi ≤ (10 : Int) ^ 20) : w = itoaN n ∧ lo ≤ n ∧ n ≤ hi := by
  unfold numR at h
  split at h
  · cases h
  · rename_i hw
    split at h
    · rename_i hr
      cases h
      have e : (10 : Int) ^ 20 = 100000000000000000000 := by decide
      have e2 : (10 : Nat) ^ 24 = 1000000000000000000000000 := by decide
      exact ⟨word_itoa (by simpa using hw) (by omega), hr⟩
    · cases h
end Go.AI

/- A mesh, its text, and what reading it gives: plain. No claim by itself. -/
namespace Go.AI
/-- What a word comes to: a number, and what is wrong. -/
abbrev Wc := List Nat → Int × Int
def wordAt (en : Nat) (ts : List Tok) : Tok := ts.head?.getD (en, [])
def rdC (en : Nat) : List Wc → List Tok → Except (Nat × Int) (List Int × List Tok)
  | [], ts => .ok ([], ts)
  | c :: cs, ts => if (c (wordAt en ts).2).2 = 0 then (match rdC en cs ts.tail with | .ok (xs, r) => .ok ((c (wordAt en ts).2).1 :: xs, r) | .error e => .error e) else .error ((wordAt en ts).1, (c (wordAt en ts).2).2)
def vS : List Nat := [118]
def fS : List Nat := [102]
def coordW : Wc := fun w => numR w (-4294967296) 4294967296
def zeroW : Wc := fun w => if w = [48] then (0, 0) else (0, 11)
def denW (P : List (Int × Int)) (W : Int) : Wc := fun w => if (numR w 1 1048576).2 = 0 ∧ P ≠ [] ∧ (numR w 1 1048576).1 ≠ W then (0, 11) else numR w 1 1048576
def idxW (n : Nat) : Wc := fun w => numR w 1 n
abbrev Ob := List (Int × Int) × Int × List (List Int)
/-- The edges of a face, round it. -/
def edgesF (f : List Int) : List (Int × Int) := f.zip (f.tail ++ f.take 1)
def fitP (p : Int × Int) : Prop := (-4294967296 ≤ p.1 ∧ p.1 ≤ 4294967296) ∧ (-4294967296 ≤ p.2 ∧ p.2 ≤ 4294967296)
structure FacesOk (n : Nat) (F : List (List Int)) : Prop where
  le : n ≤ 1048576
  fs : ∀ f, f ∈ F → 3 ≤ f.length ∧ f.Nodup ∧ ∀ k, k ∈ f → 0 ≤ k ∧ k < n
  es : (F.flatMap edgesF).Nodup
structure ValidO (P : List (Int × Int)) (W : Int) (F : List (List Int)) : Prop where
  ne : F ≠ []
  w0 : 1 ≤ W
  w1 : W ≤ 1048576
  ps : ∀ p, p ∈ P → fitP p
  fo : FacesOk P.length F
  f4 : ∀ f, f ∈ F → f.length ≤ 4
  pd : P.Nodup
  us : ∀ i : Nat, i < P.length → ∃ f, f ∈ F ∧ (i : Int) ∈ f
open Classical in
noncomputable def chkO (P : List (Int × Int)) (W : Int) (F : List (List Int)) : Int := if ValidO P W F then 0 else 2
def nilO : Ob := ([], 0, [])
open Classical in
noncomputable def finO (P : List (Int × Int)) (W : Int) (F : List (List Int)) : Ob × Int × Int := if ValidO P W F then ((P, W, F), 0, 0) else (nilO, 0, 2)
def dec1 (l : List Int) : List Int := l.map (· - 1)
noncomputable def readO (en : Nat) : Nat → List (Int × Int) → Int → List (List Int) → List Tok → Ob × Int × Int
  | 0, P, W, F, _ => finO P W F
  | _ + 1, P, W, F, [] => finO P W F
  | f + 1, P, W, F, t :: r =>
    if t.2 = vS ∧ F = [] then
      match rdC en [coordW, coordW, zeroW, denW P W] r with
      | .ok (xs, r') => readO en f (P ++ [(xs[0]?.getD 0, xs[1]?.getD 0)]) (xs[3]?.getD 0) F r'
      | .error e => (nilO, e.1, e.2)
    else if t.2 = fS then
      match rdC en [idxW P.length, idxW P.length, idxW P.length] r with
      | .ok (xs, r') =>
        if (idxW P.length (wordAt en r').2).2 = 11 then readO en f P W (F ++ [dec1 xs]) r'
        else if (idxW P.length (wordAt en r').2).2 = 0 then readO en f P W (F ++ [dec1 xs ++ [(idxW P.length (wordAt en r').2).1 - 1]]) r'.tail
        else (nilO, (wordAt en r').1, (idxW P.length (wordAt en r').2).2)
      | .error e => (nilO, e.1, e.2)
    else (nilO, t.1, 11)
/-- A row's words, each with a blank behind it, the last with the end of the line. -/
def joinQ : List (List Nat) → List Wd
  | [] => []
  | [w] => [(w, [10])]
  | w :: ws => (w, [32]) :: joinQ ws
theorem joinQ_txt : ∀ ws : List (List Nat), (joinQ ws).map (·.1) = ws
  | [] => rfl
  | [w] => rfl
  | w :: x :: ws => by simp [joinQ, joinQ_txt (x :: ws)]
theorem joinQ_sep : ∀ (ws : List (List Nat)) (q : Wd), q ∈ joinQ ws → q.1 ∈ ws ∧ sepOk q.2 ∧ q.2.length = 1
  | [], q, h => by simp [joinQ] at h
  | [w], q, h => by simp [joinQ] at h; subst h; exact ⟨by simp, sep_nl, rfl⟩
  | w :: x :: ws, q, h => by
    simp only [joinQ] at h
    rcases List.mem_cons.1 h with r | r
    · subst r; exact ⟨by simp, sep_sp, rfl⟩
    · have := joinQ_sep (x :: ws) q r; exact ⟨List.mem_cons_of_mem _ this.1, this.2⟩
def placeT (W : Int) (p : Int × Int) : List (List Nat) := [vS, itoaN p.1, itoaN p.2, [48], itoaN W]
def faceT (f : List Int) : List (List Nat) := fS :: f.map fun i => itoaN (i + 1)
def txtO (P : List (Int × Int)) (W : Int) (F : List (List Int)) : List (List Nat) := P.flatMap (placeT W) ++ F.flatMap faceT
def wordsO (P : List (Int × Int)) (W : Int) (F : List (List Int)) : List Wd := P.flatMap (fun p => joinQ (placeT W p)) ++ F.flatMap fun f => joinQ (faceT f)
def textO (P : List (Int × Int)) (W : Int) (F : List (List Int)) : List Nat := rend (wordsO P W F)
theorem wordsO_txt (P : List (Int × Int)) (W : Int) (F : List (List Int)) : (wordsO P W F).map (·.1) = txtO P W F := by
  simp [wordsO, txtO, List.map_flatMap, joinQ_txt]
/-! ### Reading rows -/
theorem rdC_ok (en : Nat) : ∀ (cs : List Wc) (ws : List (List Nat)) (xs : List Int) (ts : List Tok) (rest : List (List Nat)), ts.map (·.2) = ws ++ rest → ws.length = cs.length → xs.length = cs.length →
    (∀ (i : Nat) (c : Wc) (w : List Nat) (x : Int), cs[i]? = some c → ws[i]? = some w → xs[i]? = some x → c w = (x, 0)) → rdC en cs ts = .ok (xs, ts.drop cs.length)
  | [], [], [], ts, rest, _, _, _, _ => by simp [rdC]
  | c :: cs, w :: ws, x :: xs, ts, rest, h, hw, hx, hc => by
    cases ts with
    | nil => simp at h
    | cons t ts =>
      simp only [List.map_cons, List.cons_append, List.cons.injEq] at h
      have h0 := hc 0 c w x rfl rfl rfl
      have ih := rdC_ok en cs ws xs ts rest h.2 (by simpa using hw) (by simpa using hx) (fun i c w x a b d => hc (i + 1) c w x a b d)
      unfold rdC wordAt
      simp only [List.head?_cons, Option.getD_some, h.1, h0, List.tail_cons, ih, if_true]
      simp
  | c :: cs, [], xs, ts, rest, _, hw, _, _ => by simp at hw
  | c :: cs, w :: ws, [], ts, rest, _, _, hx, _ => by simp at hx
  | [], w :: ws, xs, ts, rest, _, hw, _, _ => by simp at hw
  | [], [], x :: xs, ts, rest, _, _, hx, _ => by simp at hx
theorem coord_itoa {n : Int} (h : -4294967296 ≤ n ∧ n ≤ 4294967296) : coordW (itoaN n) = (n, 0) := by
  have e : (10 : Nat) ^ 24 = 1000000000000000000000000 := by decide
  unfold coordW; rw [numR_itoa (by omega), if_pos h]
theorem den_itoa {P : List (Int × Int)} {W0 W : Int} (h : 1 ≤ W ∧ W ≤ 1048576) (k : P = [] ∨ W0 = W) : denW P W0 (itoaN W) = (W, 0) := by
  have e : (10 : Nat) ^ 24 = 1000000000000000000000000 := by decide
  unfold denW
  rw [numR_itoa (by omega), if_pos h, if_neg]
  rintro ⟨_, b, c⟩
  rcases k with k | k
  · exact b k
  · exact c k.symm
theorem idx_itoa {n : Nat} {k : Int} (h : 0 ≤ k ∧ k < n) (hn : n ≤ 1048576) : idxW n (itoaN (k + 1)) = (k + 1, 0) := by
  have e : (10 : Nat) ^ 24 = 1000000000000000000000000 := by decide
  unfold idxW; rw [numR_itoa (by omega), if_pos (by omega)]
/-- The rows of places. -/
theorem readO_places (en : Nat) {W : Int} (hW : 1 ≤ W ∧ W ≤ 1048576) : ∀ (P1 P0 : List (Int × Int)) (W0 : Int) (ts : List Tok) (rest : List (List Nat)) (f : Nat), (∀ p, p ∈ P1 → fitP p) → (P0 = [] ∨ W0 = W) →
    ts.map (·.2) = P1.flatMap (placeT W) ++ rest → readO en (P1.length + f) P0 W0 [] ts = readO en f (P0 ++ P1) (if P1 = [] then W0 else W) [] (ts.drop (5 * P1.length))
  | [], P0, W0, ts, rest, f, _, _, _ => by simp
  | p :: P1, P0, W0, ts, rest, f, hp, h0, h => by
    cases ts with
    | nil => simp [placeT] at h
    | cons t ts =>
      have hv : t.2 = vS := by simp [placeT] at h; exact h.1
      have h4 : ts.map (·.2) = [itoaN p.1, itoaN p.2, [48], itoaN W] ++ (P1.flatMap (placeT W) ++ rest) := by
        simp [placeT] at h; simpa using h.2
      have hfit := hp p (by simp)
      have hr := rdC_ok en [coordW, coordW, zeroW, denW P0 W0] [itoaN p.1, itoaN p.2, [48], itoaN W] [p.1, p.2, 0, W] ts _ h4 rfl rfl (by
        intro i c w x a b d
        match i with
        | 0 => simp at a b d; subst a b d; exact coord_itoa hfit.1
        | 1 => simp at a b d; subst a b d; exact coord_itoa hfit.2
        | 2 => simp at a b d; subst a b d; rfl
        | 3 => simp at a b d; subst a b d; exact den_itoa hW h0
        | i + 4 => simp at a)
      have h5 : (ts.drop 4).map (·.2) = P1.flatMap (placeT W) ++ rest := by rw [List.map_drop, h4]; rfl
      have ih := readO_places en hW P1 (P0 ++ [p]) W (ts.drop 4) rest f (fun q hq => hp q (by simp [hq])) (.inr rfl) h5
      have e1 : (p :: P1).length + f = P1.length + f + 1 := by simp; omega
      rw [e1]
      conv => lhs; unfold readO
      rw [if_pos ⟨hv, rfl⟩, hr]
      simp only [List.getElem?_cons_zero, List.getElem?_cons_succ, Option.getD_some, List.length_cons, List.length_nil]
      rw [ih]
      have e2 : (if P1 = [] then W else W) = W := by split <;> rfl
      rw [e2]
      simp only [List.append_assoc, List.singleton_append, List.drop_drop]
      rw [if_neg (by simp)]
      congr 1
      rw [show 5 * (P1.length + 1) = (4 + 5 * P1.length) + 1 from by omega, List.drop_succ_cons]
theorem idx_stop {n : Nat} {w : List Nat} (h : wfN w = false) : (idxW n w).2 = 11 := by unfold idxW numR; rw [h]; rfl
theorem len34 {g : List Int} (h3 : 3 ≤ g.length) (h4 : g.length ≤ 4) : (∃ a b c, g = [a, b, c]) ∨ ∃ a b c d, g = [a, b, c, d] := by
  match g, h3, h4 with
  | [a, b, c], _, _ => exact .inl ⟨a, b, c, rfl⟩
  | [a, b, c, d], _, _ => exact .inr ⟨a, b, c, d, rfl⟩
  | a :: b :: c :: d :: e :: g, _, h => simp at h
/-- The rows of faces. -/
theorem readO_faces (en : Nat) {P : List (Int × Int)} {W : Int} (hn : P.length ≤ 1048576) : ∀ (F1 F0 : List (List Int)) (ts : List Tok) (rest : List (List Nat)) (f : Nat), (∀ g, g ∈ F1 → 3 ≤ g.length ∧ g.length ≤ 4 ∧ ∀ k, k ∈ g → 0 ≤ k ∧ k < P.length) →
    ts.map (·.2) = F1.flatMap faceT ++ rest → (∀ t, (ts.drop (F1.flatMap faceT).length).head? = some t → wfN t.2 = false) → readO en (F1.length + f) P W F0 ts = readO en f P W (F0 ++ F1) (ts.drop (F1.flatMap faceT).length)
  | [], F0, ts, rest, f, _, _, _ => by simp
  | g :: F1, F0, ts, rest, f, hg, h, hs => by
    cases ts with
    | nil => simp [faceT] at h
    | cons t ts =>
      obtain ⟨g3, g4, gk⟩ := hg g (by simp)
      have hv : t.2 = fS := by simp [faceT] at h; exact h.1
      have hvn : ¬ (t.2 = vS ∧ F0 = []) := by rw [hv]; rintro ⟨q, _⟩; exact absurd q (by decide)
      have h4 : ts.map (·.2) = g.map (fun i => itoaN (i + 1)) ++ (F1.flatMap faceT ++ rest) := by
        simp [faceT] at h; simpa using h.2
      have e1 : (g :: F1).length + f = F1.length + f + 1 := by simp; omega
      have hdl : ((g :: F1).flatMap faceT).length = (g.length + (F1.flatMap faceT).length) + 1 := by simp [faceT]
      rw [hdl, List.drop_succ_cons] at hs ⊢
      have ih := readO_faces en (W := W) hn F1 (F0 ++ [g]) (ts.drop g.length) rest f (fun q hq => hg q (by simp [hq])) (by rw [List.map_drop, h4]; simp) (by rw [List.drop_drop]; exact hs)
      rw [List.drop_drop, List.append_assoc, List.singleton_append] at ih
      rw [e1]
      conv => lhs; unfold readO
      rw [if_neg hvn, if_pos hv]
      rcases len34 g3 g4 with ⟨a, b, c, rfl⟩ | ⟨a, b, c, d, rfl⟩
      · have hr := rdC_ok en [idxW P.length, idxW P.length, idxW P.length] [itoaN (a + 1), itoaN (b + 1), itoaN (c + 1)] [a + 1, b + 1, c + 1] ts _ h4 rfl rfl (by
          intro i x w y q1 q2 q3
          match i with
          | 0 => simp at q1 q2 q3; subst q1 q2 q3; exact idx_itoa (gk a (by simp)) hn
          | 1 => simp at q1 q2 q3; subst q1 q2 q3; exact idx_itoa (gk b (by simp)) hn
          | 2 => simp at q1 q2 q3; subst q1 q2 q3; exact idx_itoa (gk c (by simp)) hn
          | i + 3 => simp at q1)
        rw [hr]
        simp only [List.length_cons, List.length_nil]
        have hst : (idxW P.length (wordAt en (ts.drop 3)).2).2 = 11 := by
          apply idx_stop
          have h3 : (ts.drop 3).map (·.2) = F1.flatMap faceT ++ rest := by rw [List.map_drop, h4]; rfl
          unfold wordAt
          cases hd : ts.drop 3 with
          | nil => rfl
          | cons u us =>
            simp only [List.head?_cons, Option.getD_some]
            cases F1 with
            | nil => exact hs u (by simp [hd])
            | cons g1 F1 =>
              rw [hd] at h3
              simp [faceT] at h3
              rw [h3.1]; rfl
        rw [if_pos hst]
        have hd1 : dec1 [a + 1, b + 1, c + 1] = [a, b, c] := by simp [dec1]
        rw [hd1]
        exact ih
      · have hr := rdC_ok en [idxW P.length, idxW P.length, idxW P.length] [itoaN (a + 1), itoaN (b + 1), itoaN (c + 1)] [a + 1, b + 1, c + 1] ts (itoaN (d + 1) :: (F1.flatMap faceT ++ rest)) h4 rfl rfl (by
          intro i x w y q1 q2 q3
          match i with
          | 0 => simp at q1 q2 q3; subst q1 q2 q3; exact idx_itoa (gk a (by simp)) hn
          | 1 => simp at q1 q2 q3; subst q1 q2 q3; exact idx_itoa (gk b (by simp)) hn
          | 2 => simp at q1 q2 q3; subst q1 q2 q3; exact idx_itoa (gk c (by simp)) hn
          | i + 3 => simp at q1)
        rw [hr]
        simp only [List.length_cons, List.length_nil]
        have hwd : idxW P.length (wordAt en (ts.drop 3)).2 = (d + 1, 0) := by
          have h3 : (ts.drop 3).map (·.2) = itoaN (d + 1) :: (F1.flatMap faceT ++ rest) := by rw [List.map_drop, h4]; rfl
          unfold wordAt
          cases hd : ts.drop 3 with
          | nil => rw [hd] at h3; simp at h3
          | cons u us =>
            rw [hd] at h3
            simp only [List.map_cons, List.cons.injEq] at h3
            simp only [List.head?_cons, Option.getD_some, h3.1]
            exact idx_itoa (gk d (by simp)) hn
        rw [hwd, if_neg (by simp), if_pos rfl]
        have hd1 : dec1 [a + 1, b + 1, c + 1] ++ [d + 1 - 1] = [a, b, c, d] := by simp [dec1]
        rw [List.tail_drop, hd1]
        exact ih
theorem rdC_len (en : Nat) : ∀ (cs : List Wc) (ts : List Tok) (xs : List Int) (r : List Tok), rdC en cs ts = .ok (xs, r) → r.length ≤ ts.length ∧ xs.length = cs.length
  | [], ts, xs, r, h => by simp [rdC] at h; obtain ⟨rfl, rfl⟩ := h; simp
  | c :: cs, ts, xs, r, h => by
    unfold rdC at h
    split at h
    · cases hq : rdC en cs ts.tail with
      | error e => rw [hq] at h; cases h
      | ok p =>
        obtain ⟨ys, r'⟩ := p
        rw [hq] at h
        simp only [Except.ok.injEq, Prod.mk.injEq] at h
        obtain ⟨rfl, rfl⟩ := h
        have := rdC_len en cs ts.tail ys r' hq
        have hl : ts.tail.length ≤ ts.length := by simp
        exact ⟨by omega, by simp [this.2]⟩
    · cases h
theorem readO_fuel (en : Nat) : ∀ (f f' : Nat) (P : List (Int × Int)) (W : Int) (F : List (List Int)) (ts : List Tok), ts.length ≤ f → ts.length ≤ f' → readO en f P W F ts = readO en f' P W F ts
  | f, f', P, W, F, [], _, _ => by cases f <;> cases f' <;> rfl
  | 0, f', P, W, F, t :: ts, h, _ => by simp at h
  | f + 1, 0, P, W, F, t :: ts, _, h => by simp at h
  | f + 1, f' + 1, P, W, F, t :: ts, h, h' => by
    have h1 : ts.length ≤ f := by simpa using h
    have h2 : ts.length ≤ f' := by simpa using h'
    unfold readO
    by_cases c1 : t.2 = vS ∧ F = []
    · rw [if_pos c1, if_pos c1]
      cases hq : rdC en [coordW, coordW, zeroW, denW P W] ts with
      | error e => rfl
      | ok p =>
        have := (rdC_len en _ _ p.1 p.2 hq).1
        exact readO_fuel en f f' _ _ _ _ (by omega) (by omega)
    · rw [if_neg c1, if_neg c1]
      by_cases c2 : t.2 = fS
      · rw [if_pos c2, if_pos c2]
        cases hq : rdC en [idxW P.length, idxW P.length, idxW P.length] ts with
        | error e => rfl
        | ok p =>
          have := (rdC_len en _ _ p.1 p.2 hq).1
          have ht : p.2.tail.length ≤ p.2.length := by simp
          simp only
          split
          · exact readO_fuel en f f' _ _ _ _ (by omega) (by omega)
          · split
            · exact readO_fuel en f f' _ _ _ _ (by omega) (by omega)
            · rfl
      · rw [if_neg c2, if_neg c2]
/-- What reading bytes gives. -/
noncomputable def parO (s : List Nat) : Ob × Int × Int := if 1048576 < s.length then (nilO, 0, 3) else readO s.length (wordsN s).length [] 0 [] (wordsN s)
theorem finO_ok {P : List (Int × Int)} {W : Int} {F : List (List Int)} (h : ValidO P W F) : finO P W F = ((P, W, F), 0, 0) := by unfold finO; rw [if_pos h]
theorem chkO_ok {P : List (Int × Int)} {W : Int} {F : List (List Int)} (h : ValidO P W F) : chkO P W F = 0 := by unfold chkO; rw [if_pos h]
theorem chkO_no {P : List (Int × Int)} {W : Int} {F : List (List Int)} (h : ¬ ValidO P W F) : chkO P W F = 2 := by unfold chkO; rw [if_neg h]
theorem txtO_len (P : List (Int × Int)) (W : Int) (F : List (List Int)) : 5 * P.length + F.length ≤ (txtO P W F).length := by
  have h1 : (P.flatMap (placeT W)).length = 5 * P.length := by
    induction P with
    | nil => rfl
    | cons p P ih => simp only [List.flatMap_cons, List.length_append, ih]; simp [placeT]; omega
  have h2 : F.length ≤ (F.flatMap faceT).length := by
    induction F with
    | nil => simp
    | cons f F ih => simp only [List.flatMap_cons, List.length_append, List.length_cons]; simp only [faceT, List.length_cons]; omega
  unfold txtO
  rw [List.length_append]; omega
theorem ValidO.pne {P : List (Int × Int)} {W : Int} {F : List (List Int)} (h : ValidO P W F) : P ≠ [] := by
  intro q
  subst q
  obtain ⟨f, hf⟩ := List.exists_mem_of_ne_nil F h.ne
  obtain ⟨a, _, c⟩ := h.fo.fs f hf
  obtain ⟨k, hk⟩ := List.exists_mem_of_ne_nil f (by intro q; subst q; simp at a)
  have := c k hk
  simp at this; omega
/-- The words of a mesh are read as it. -/
theorem readO_words (en : Nat) {P : List (Int × Int)} {W : Int} {F : List (List Int)} (h : ValidO P W F) {ts : List Tok} (ht : ts.map (·.2) = txtO P W F) {f : Nat} (hf : ts.length ≤ f) : readO en f [] 0 [] ts = ((P, W, F), 0, 0) := by
  have hl := txtO_len P W F
  have htl : ts.length = (txtO P W F).length := by rw [← ht]; simp
  obtain ⟨g, hg⟩ : ∃ g, ts.length = P.length + (F.length + g) := ⟨ts.length - P.length - F.length, by omega⟩
  have hP5 : (P.flatMap (placeT W)).length = 5 * P.length := by
    clear h ht hl htl hg
    induction P with
    | nil => rfl
    | cons p P ih => simp only [List.flatMap_cons, List.length_append, ih]; simp [placeT]; omega
  rw [readO_fuel en f ts.length [] 0 [] ts hf (Nat.le_refl _), hg]
  rw [readO_places en ⟨h.w0, h.w1⟩ P [] 0 ts (F.flatMap faceT) _ h.ps (.inl rfl) ht, if_neg h.pne, List.nil_append]
  have h2 : (ts.drop (5 * P.length)).map (·.2) = F.flatMap faceT ++ [] := by
    rw [List.map_drop, ht]; unfold txtO; rw [← hP5, List.drop_left, List.append_nil]
  have hl2 : (ts.drop (5 * P.length)).length = (F.flatMap faceT).length := by
    have := congrArg List.length h2; simpa using this
  have hnil : (ts.drop (5 * P.length)).drop (F.flatMap faceT).length = [] := by rw [← hl2, List.drop_length]
  rw [readO_faces en h.fo.le F [] _ [] _ (fun q hq => ⟨(h.fo.fs q hq).1, h.f4 q hq, (h.fo.fs q hq).2.2⟩) h2 (by rw [hnil]; simp), hnil, List.nil_append]
  have : ∀ k, readO en k P W F [] = finO P W F := fun k => by cases k <;> rfl
  rw [this, finO_ok h]
end Go.AI

/- What is read is the mesh of its words; words that are wrong: plain. No claim by itself. -/
namespace Go.AI
theorem rdC_back (en : Nat) : ∀ (cs : List Wc) (ts : List Tok) (xs : List Int) (r : List Tok), (∀ c, c ∈ cs → (c []).2 ≠ 0) → rdC en cs ts = .ok (xs, r) →
    ∃ ws, ts.map (·.2) = ws ++ r.map (·.2) ∧ ws.length = cs.length ∧ ∀ (i : Nat) (c : Wc) (w : List Nat) (x : Int), cs[i]? = some c → ws[i]? = some w → xs[i]? = some x → c w = (x, 0)
  | [], ts, xs, r, _, h => by
    simp [rdC] at h; obtain ⟨rfl, rfl⟩ := h
    exact ⟨[], by simp, rfl, fun i c w x a => by simp at a⟩
  | c :: cs, ts, xs, r, hc, h => by
    unfold rdC at h
    split at h
    · rename_i h0
      cases ts with
      | nil => exact absurd h0 (hc c (by simp))
      | cons t ts =>
        simp only [wordAt, List.head?_cons, Option.getD_some, List.tail_cons] at h h0
        cases hq : rdC en cs ts with
        | error e => rw [hq] at h; cases h
        | ok p =>
          obtain ⟨ys, r'⟩ := p
          rw [hq] at h
          simp only [Except.ok.injEq, Prod.mk.injEq] at h
          obtain ⟨rfl, rfl⟩ := h
          obtain ⟨ws, e1, e2, e3⟩ := rdC_back en cs ts ys r' (fun c h => hc c (by simp [h])) hq
          refine ⟨t.2 :: ws, by simp [e1], by simp [e2], fun i d w x a b k => ?_⟩
          match i with
          | 0 => simp at a b k; subst a b k; exact Prod.ext rfl h0
          | i + 1 => exact e3 i d w x (by simpa using a) (by simpa using b) (by simpa using k)
    · cases h
theorem p20 : (10 : Int) ^ 20 = 100000000000000000000 := by decide
theorem coord_word {w : List Nat} {x : Int} (h : coordW w = (x, 0)) : w = itoaN x ∧ -4294967296 ≤ x ∧ x ≤ 4294967296 := numR_word h (by rw [p20]; omega) (by rw [p20]; omega)
theorem zero_word {w : List Nat} {x : Int} (h : zeroW w = (x, 0)) : w = [48] := by
  unfold zeroW at h; split at h
  · assumption
  · cases h
theorem den_word {P : List (Int × Int)} {W : Int} {w : List Nat} {x : Int} (h : denW P W w = (x, 0)) : w = itoaN x ∧ (1 ≤ x ∧ x ≤ 1048576) ∧ (P = [] ∨ x = W) := by
  unfold denW at h; split at h
  · cases h
  · rename_i q
    obtain ⟨a, b⟩ := numR_word h (by rw [p20]; omega) (by rw [p20]; omega)
    refine ⟨a, b, ?_⟩
    rw [h] at q
    by_cases hp : P = []
    · exact .inl hp
    · exact .inr (Classical.byContradiction fun hx => q ⟨rfl, hp, hx⟩)
theorem idx_word {n : Nat} {w : List Nat} {x : Int} (hn : n ≤ 1000000000) (h : idxW n w = (x, 0)) : w = itoaN x ∧ 1 ≤ x ∧ x ≤ n := numR_word h (by rw [p20]; omega) (by rw [p20]; omega)
theorem nilW : wfN [] = false := rfl
theorem coord_nil : (coordW []).2 ≠ 0 := by decide
theorem zero_nil : (zeroW []).2 ≠ 0 := by decide
theorem den_nil (P : List (Int × Int)) (W : Int) : (denW P W []).2 ≠ 0 := by
  have : numR [] 1 1048576 = (0, 11) := by decide
  unfold denW; rw [this]; simp
theorem idx_nil (n : Nat) : (idxW n []).2 = 11 := idx_stop nilW
theorem map_four {l : List (List Nat)} (h : l.length = 4) : ∃ a b c d, l = [a, b, c, d] := by
  match l, h with
  | [a, b, c, d], _ => exact ⟨a, b, c, d, rfl⟩
theorem map_three {l : List (List Nat)} (h : l.length = 3) : ∃ a b c, l = [a, b, c] := by
  match l, h with
  | [a, b, c], _ => exact ⟨a, b, c, rfl⟩
theorem int_four {l : List Int} (h : l.length = 4) : ∃ a b c d, l = [a, b, c, d] := by
  match l, h with
  | [a, b, c, d], _ => exact ⟨a, b, c, d, rfl⟩
theorem int_three {l : List Int} (h : l.length = 3) : ∃ a b c, l = [a, b, c] := by
  match l, h with
  | [a, b, c], _ => exact ⟨a, b, c, rfl⟩
theorem finO_back {P : List (Int × Int)} {W : Int} {F : List (List Int)} {o : Ob} (h : finO P W F = (o, 0, 0)) : ValidO P W F ∧ o = (P, W, F) := by
  unfold finO at h; split at h
  · rename_i q; cases h; exact ⟨q, rfl⟩
  · cases h
theorem rdC_err {en : Nat} : ∀ {cs : List Wc} {ts : List Tok} {e : Nat × Int}, rdC en cs ts = .error e → e.2 ≠ 0
  | [], ts, e, h => by simp [rdC] at h
  | c :: cs, ts, e, h => by
    unfold rdC at h
    split at h
    · cases hq : rdC en cs ts.tail with
      | ok p => rw [hq] at h; cases h
      | error e' => rw [hq] at h; cases h; exact rdC_err hq
    · rename_i h0; cases h; exact h0
theorem err_no {o o' : Ob} {p x : Int} {e : Int} (he : e ≠ 0) : ¬ ((o, p, e) = (o', x, 0)) := by
  intro h; simp only [Prod.mk.injEq] at h; exact he h.2.2
theorem readO_back (en : Nat) : ∀ (f : Nat) (P0 : List (Int × Int)) (W0 : Int) (F0 : List (List Int)) (ts : List Tok) (P : List (Int × Int)) (W : Int) (F : List (List Int)), ts.length ≤ f → P0.length + ts.length ≤ 1000000000 → readO en f P0 W0 F0 ts = ((P, W, F), 0, 0) →
    ValidO P W F ∧ ∃ P1 F1, P = P0 ++ P1 ∧ F = F0 ++ F1 ∧ (P1 = [] → W = W0) ∧ (P1 ≠ [] → F0 = [] ∧ (P0 = [] ∨ W0 = W)) ∧ ts.map (·.2) = P1.flatMap (placeT W) ++ F1.flatMap faceT := by
  intro f
  induction f with
  | zero =>
    intro P0 W0 F0 ts P W F hl _ h
    have : ts = [] := List.length_eq_zero_iff.1 (by omega)
    subst this
    obtain ⟨a, b⟩ := finO_back h
    cases b
    exact ⟨a, [], [], by simp, by simp, fun _ => rfl, fun q => absurd rfl q, by simp⟩
  | succ f ih =>
    intro P0 W0 F0 ts P W F hl hb h
    cases ts with
    | nil =>
      obtain ⟨a, b⟩ := finO_back h
      cases b
      exact ⟨a, [], [], by simp, by simp, fun _ => rfl, fun q => absurd rfl q, by simp⟩
    | cons t ts =>
      simp only [List.length_cons] at hl hb
      unfold readO at h
      split at h
      · rename_i c1
        obtain ⟨hv, rfl⟩ := c1
        cases hq : rdC en [coordW, coordW, zeroW, denW P0 W0] ts with
        | error e => rw [hq] at h; exact absurd h (err_no (rdC_err hq))
        | ok p =>
          obtain ⟨xs, r⟩ := p
          rw [hq] at h
          simp only at h
          have hlen := rdC_len en _ _ _ _ hq
          obtain ⟨ws, e1, e2, e3⟩ := rdC_back en _ _ _ _ (by
            intro c hc
            simp only [List.mem_cons, List.not_mem_nil, or_false] at hc
            rcases hc with rfl | rfl | rfl | rfl
            · exact coord_nil
            · exact coord_nil
            · exact zero_nil
            · exact den_nil _ _) hq
          obtain ⟨w0, w1, w2, w3, rfl⟩ := map_four e2
          obtain ⟨x, y, z, w, rfl⟩ := int_four hlen.2
          obtain ⟨a1, a2⟩ := coord_word (e3 0 _ _ _ rfl rfl rfl)
          obtain ⟨b1, b2⟩ := coord_word (e3 1 _ _ _ rfl rfl rfl)
          have c1 := zero_word (e3 2 _ _ _ rfl rfl rfl)
          obtain ⟨d1, d2, d3⟩ := den_word (e3 3 _ _ _ rfl rfl rfl)
          simp only [List.getElem?_cons_zero, List.getElem?_cons_succ, Option.getD_some] at h
          obtain ⟨hval, P1, F1, hP, hF, k1, k2, k3⟩ := ih _ _ _ _ _ _ _ (by omega) (by simp; omega) h
          have hW : W = w := by
            by_cases hp : P1 = []
            · exact k1 hp
            · rcases (k2 hp).2 with q | q
              · simp at q
              · exact q.symm
          subst hW
          refine ⟨hval, (x, y) :: P1, F1, by rw [hP]; simp, hF, fun q => (by cases q), fun _ => ⟨rfl, ?_⟩, ?_⟩
          · rcases d3 with q | q
            · exact .inl q
            · exact .inr q.symm
          · simp only [List.map_cons, hv, e1, k3, List.flatMap_cons, placeT, a1, b1, c1, d1]
            simp
      · split at h
        · rename_i hv
          cases hq : rdC en [idxW P0.length, idxW P0.length, idxW P0.length] ts with
          | error e => rw [hq] at h; exact absurd h (err_no (rdC_err hq))
          | ok p =>
            obtain ⟨xs, r⟩ := p
            rw [hq] at h
            simp only at h
            have hlen := rdC_len en _ _ _ _ hq
            have htl : r.tail.length ≤ r.length := by simp
            obtain ⟨ws, e1, e2, e3⟩ := rdC_back en _ _ _ _ (by
              intro c hc
              simp only [List.mem_cons, List.not_mem_nil, or_false] at hc
              rcases hc with rfl | rfl | rfl <;> (rw [idx_nil]; decide)) hq
            obtain ⟨w0, w1, w2, rfl⟩ := map_three e2
            obtain ⟨x, y, z, rfl⟩ := int_three hlen.2
            obtain ⟨a1, a2⟩ := idx_word (by omega) (e3 0 _ _ _ rfl rfl rfl)
            obtain ⟨b1, b2⟩ := idx_word (by omega) (e3 1 _ _ _ rfl rfl rfl)
            obtain ⟨c1, c2⟩ := idx_word (by omega) (e3 2 _ _ _ rfl rfl rfl)
            split at h
            · obtain ⟨hval, P1, F1, hP, hF, k1, k2, k3⟩ := ih _ _ _ _ _ _ _ (by omega) (by omega) h
              have hp : P1 = [] := Classical.byContradiction fun q => by have := (k2 q).1; simp at this
              subst hp
              refine ⟨hval, [], dec1 [x, y, z] :: F1, hP, by rw [hF]; simp, k1, fun q => absurd rfl q, ?_⟩
              simp only [List.map_cons, hv, e1, k3, List.flatMap_cons, List.flatMap_nil, List.nil_append, faceT, dec1, List.map_nil, a1, b1, c1]
              simp
            · split at h
              · rename_i h0
                cases r with
                | nil => simp [wordAt, idx_nil] at h0
                | cons u us =>
                  simp only [wordAt, List.head?_cons, Option.getD_some, List.tail_cons] at h h0
                  simp only [List.length_cons] at hlen
                  obtain ⟨d1, d2⟩ := idx_word (n := P0.length) (w := u.2) (x := (idxW P0.length u.2).1) (by omega) (Prod.ext rfl h0)
                  obtain ⟨hval, P1, F1, hP, hF, k1, k2, k3⟩ := ih _ _ _ _ _ _ _ (by omega) (by omega) h
                  have hp : P1 = [] := Classical.byContradiction fun q => by have := (k2 q).1; simp at this
                  subst hp
                  generalize (idxW P0.length u.2).1 = v at *
                  refine ⟨hval, [], (dec1 [x, y, z] ++ [v - 1]) :: F1, hP, by rw [hF]; simp, k1, fun q => absurd rfl q, ?_⟩
                  simp only [List.map_cons, hv, e1, k3, List.flatMap_cons, List.flatMap_nil, List.nil_append, faceT, dec1, List.map_nil, a1, b1, c1, d1]
                  simp
              · rename_i h0
                exact absurd h (err_no h0)
        · exact absurd h (err_no (by decide))
end Go.AI

/- Sorting by merging; whether a place stands twice: plain. No claim by itself. -/
namespace Go.AI
def lessP (a b : Int × Int) : Bool := decide (a.1 < b.1) || (decide (a.1 = b.1) && decide (a.2 < b.2))
def leP (a b : Int × Int) : Bool := !lessP b a
theorem leP_iff {a b : Int × Int} : leP a b = true ↔ a.1 < b.1 ∨ (a.1 = b.1 ∧ a.2 ≤ b.2) := by
  unfold leP lessP; simp only [Bool.not_eq_true', Bool.or_eq_false_iff, Bool.and_eq_false_iff, decide_eq_false_iff_not]; omega
theorem leP_trans (a b c : Int × Int) (h : leP a b = true) (k : leP b c = true) : leP a c = true := by rw [leP_iff] at *; omega
theorem leP_total (a b : Int × Int) : (leP a b || leP b a) = true := by rw [Bool.or_eq_true, leP_iff, leP_iff]; omega
theorem leP_anti {a b : Int × Int} (h : leP a b = true) (k : leP b a = true) : a = b := by
  rw [leP_iff] at *; exact Prod.ext (by omega) (by omega)
def ptAt (P : List (Int × Int)) (i : Int) : Int × Int := P[i.toNat]?.getD (0, 0)
def leI (P : List (Int × Int)) (a b : Int) : Bool := leP (ptAt P a) (ptAt P b)
def sortI (P : List (Int × Int)) : Nat → List Int → List Int
  | 0, l => l
  | f + 1, l => if l.length < 2 then l else List.merge (sortI P f (l.take (l.length / 2))) (sortI P f (l.drop (l.length / 2))) (leI P)
theorem sortI_perm (P : List (Int × Int)) : ∀ (f : Nat) (l : List Int), (sortI P f l).Perm l
  | 0, l => by simp [sortI]
  | f + 1, l => by
    unfold sortI; split
    · exact List.Perm.refl _
    · refine (List.merge_perm_append (leI P)).trans ?_
      have := (sortI_perm P f (l.take (l.length / 2))).append (sortI_perm P f (l.drop (l.length / 2)))
      rwa [List.take_append_drop] at this
theorem sortI_sorted (P : List (Int × Int)) : ∀ (f : Nat) (l : List Int), l.length ≤ f → (sortI P f l).Pairwise (fun a b => leI P a b = true)
  | 0, l, h => by
    have : l = [] := List.length_eq_zero_iff.1 (by omega)
    subst this; simp [sortI]
  | f + 1, l, h => by
    unfold sortI; split
    · match l with
      | [] => simp
      | [a] => simp
      | a :: b :: r => simp at *; omega
    · refine List.pairwise_merge (le := leI P) (fun a b c => leP_trans _ _ _) (fun a b => leP_total _ _) _ _ (sortI_sorted P f _ ?_) (sortI_sorted P f _ ?_)
      · simp; omega
      · simp; omega
def idxs (n : Nat) : List Int := (List.range n).map Int.ofNat
/-- The numbers of places, in the places' order. -/
def ordI (P : List (Int × Int)) : List Int := sortI P P.length (idxs P.length)
theorem ordI_perm (P : List (Int × Int)) : (ordI P).Perm (idxs P.length) := sortI_perm _ _ _
theorem ordI_mem {P : List (Int × Int)} {i : Int} (h : i ∈ ordI P) : 0 ≤ i ∧ i < P.length := by
  have := (ordI_perm P).mem_iff.1 h
  simp [idxs] at this
  obtain ⟨a, ha, rfl⟩ := this; omega
theorem ordI_len (P : List (Int × Int)) : (ordI P).length = P.length := by rw [(ordI_perm P).length_eq]; simp [idxs]
theorem map_pt (P : List (Int × Int)) : (idxs P.length).map (ptAt P) = P := by
  apply List.ext_getElem
  · simp [idxs]
  · intro i h1 h2
    simp [idxs, ptAt, List.getElem?_eq_getElem h2]
theorem ordI_map (P : List (Int × Int)) : ((ordI P).map (ptAt P)).Perm P := by
  have := (ordI_perm P).map (ptAt P); rwa [map_pt] at this
theorem ordI_sorted (P : List (Int × Int)) : ((ordI P).map (ptAt P)).Pairwise (fun a b => leP a b = true) := by
  rw [List.pairwise_map]; exact sortI_sorted P _ _ (by simp [idxs])
theorem sorted_nodup : ∀ (Q : List (Int × Int)), Q.Pairwise (fun a b => leP a b = true) → (∀ i : Nat, i + 1 < Q.length → Q[i]? ≠ Q[i + 1]?) → Q.Nodup
  | [], _, _ => by simp
  | [a], _, _ => by simp
  | a :: b :: r, h, k => by
    have h2 := List.pairwise_cons.1 h
    have ih := sorted_nodup (b :: r) h2.2 (fun i hi => by have := k (i + 1) (by simp at hi ⊢; omega); simpa using this)
    have hab : a ≠ b := fun q => by have := k 0 (by simp); simp [q] at this
    refine List.nodup_cons.2 ⟨fun hm => ?_, ih⟩
    rcases List.mem_cons.1 hm with q | q
    · exact hab q
    · have h3 := (List.pairwise_cons.1 h2.2).1 a q
      exact hab (leP_anti (h2.1 b (by simp)) h3)
/-- Two neighbours in order are alike, just if a place stands twice. -/
theorem adj_iff (P : List (Int × Int)) : (∃ i : Nat, i + 1 < P.length ∧ ((ordI P).map (ptAt P))[i]? = ((ordI P).map (ptAt P))[i + 1]?) ↔ ¬ P.Nodup := by
  have hl : ((ordI P).map (ptAt P)).length = P.length := by simp [ordI_len]
  rw [← (ordI_map P).nodup_iff]
  constructor
  · rintro ⟨i, hi, h⟩ hn
    rw [List.getElem?_eq_getElem (by omega), List.getElem?_eq_getElem (by omega), Option.some.injEq] at h
    have := List.pairwise_iff_getElem.1 hn i (i + 1) (by omega) (by omega) (by omega)
    exact this h
  · intro hn
    refine Classical.byContradiction fun hc => hn (sorted_nodup _ (ordI_sorted P) fun i hi hq => hc ⟨i, by omega, hq⟩)
end Go.AI

/- Rows that read whole, and their parts. No claim by itself. -/
namespace Go.AI
section
variable {α : Type} {e : Nat} {enc : α → List AV} {H H' : Heap} {v : AV} {xs : List α}
theorem flat_drop (hn : ∀ x, (enc x).length = e) : ∀ (xs : List α) (k : Nat), (xs.flatMap enc).drop (k * e) = (xs.drop k).flatMap enc
  | xs, 0 => by simp
  | [], k + 1 => by simp
  | x :: xs, k + 1 => by
    have h := hn x
    rw [List.flatMap_cons, List.drop_succ_cons, ← flat_drop hn xs k, List.drop_append, List.drop_of_length_le (by rw [h, Nat.add_mul]; omega), List.nil_append]
    congr 1; rw [h, Nat.add_mul]; omega
theorem flat_take (hn : ∀ x, (enc x).length = e) : ∀ (xs : List α) (k : Nat), (xs.flatMap enc).take (k * e) = (xs.take k).flatMap enc
  | xs, 0 => by simp
  | [], k + 1 => by simp
  | x :: xs, k + 1 => by
    have h := hn x
    rw [List.flatMap_cons, List.take_succ_cons, List.flatMap_cons, ← flat_take hn xs k, List.take_append, List.take_of_length_le (by rw [h, Nat.add_mul]; omega)]
    congr 2; rw [h, Nat.add_mul]; omega
/-- A slice that reads whole, whose capacity is no less than its length. -/
structure Rw (e : Nat) (enc : α → List AV) (H : Heap) (v : AV) (xs : List α) : Prop where
  sw : Sw e enc H v xs
  cap : capOk v = true
theorem Sw.slw (hn : ∀ x, (enc x).length = e) (h : Sw e enc H v xs) : Sl e enc H v xs := by
  rcases h with h | ⟨o, off, lo, ex, rfl, h⟩
  · exact .inl h
  · unfold Heap.readSeg at h
    cases hc : H.cellsAt o with
    | none => rw [hc] at h; cases h
    | some cs =>
      rw [hc] at h
      have h : seg cs off (xs.length * e) = some (xs.flatMap enc) := h
      refine .inr ⟨o, off, lo, ex, cs, rfl, hc, fun i x hx => ?_⟩
      have hi : i < xs.length := (List.getElem?_eq_some_iff.1 hx).1
      have h1 : (i + 1) * e ≤ xs.length * e := Nat.mul_le_mul_right e hi
      rw [Nat.add_mul] at h1
      rw [seg_cut h (f := i * e) (m := e) (by omega), flat_drop hn]
      have h2 : xs.drop i = x :: xs.drop (i + 1) := drop_get hx
      rw [h2, List.flatMap_cons, List.take_append_of_le_length (by rw [hn]; exact Nat.le_refl _), List.take_of_length_le (by rw [hn]; exact Nat.le_refl _)]
theorem Rw.sl (hn : ∀ x, (enc x).length = e) (h : Rw e enc H v xs) : Sl e enc H v xs := h.sw.slw hn
theorem Sw.exte (h : Sw e enc H v xs) (k : Ext H H') : Sw e enc H' v xs := by
  rcases h with h | ⟨o, off, lo, ex, rfl, h⟩
  · exact .inl h
  · refine .inr ⟨o, off, lo, ex, rfl, ?_⟩
    unfold Heap.readSeg at h ⊢
    cases hc : H.cellsAt o with
    | none => rw [hc] at h; cases h
    | some cs => rw [k.cells hc]; rw [hc] at h; exact h
theorem Sw.frS {S : List Nat} (h : Sw e enc H v xs) (k : Fr S H H') (hn : ∀ o, rowObj v = some o → o ∉ S) : Sw e enc H' v xs := by
  rcases h with h | ⟨o, off, lo, ex, rfl, h⟩
  · exact .inl h
  · refine .inr ⟨o, off, lo, ex, rfl, ?_⟩
    unfold Heap.readSeg at h ⊢
    cases hc : H.cellsAt o with
    | none => rw [hc] at h; cases h
    | some cs => rw [cellsAt_get (k.keep _ _ (hn _ rfl) (get_cellsAt hc))]; rw [hc] at h; exact h
theorem Rw.ext (h : Rw e enc H v xs) (k : Ext H H') : Rw e enc H' v xs := ⟨h.sw.exte k, h.cap⟩
theorem Rw.fr {S : List Nat} (h : Rw e enc H v xs) (k : Fr S H H') (hn : ∀ o, rowObj v = some o → o ∉ S) : Rw e enc H' v xs := ⟨h.sw.frS k hn, h.cap⟩
theorem Rw.len (h : Rw e enc H v xs) : lenA v = some (.int .i64 xs.length) := by
  rcases h.sw with ⟨rfl, rfl⟩ | ⟨o, off, lo, ex, rfl, _⟩ <;> rfl
theorem Rw.one (h : Rw e enc H v xs) : v.one = true ∧ v.cells = [v] := by
  rcases h.sw with ⟨rfl, _⟩ | ⟨o, off, lo, ex, rfl, _⟩ <;> exact ⟨rfl, rfl⟩
theorem Rw.rowLt (hn : ∀ x, (enc x).length = e) (h : Rw e enc H v xs) (hw : H.Wf) {o : Nat} (ho : rowObj v = some o) : o < H.next := (h.sl hn).rowLt hw ho
theorem Ow.rw (hn : ∀ x, (enc x).length = e) (h : Ow e enc H v xs) : Rw e enc H v xs := ⟨h.sw hn, by
  rcases h with ⟨rfl, _⟩ | ⟨o, rfl, _⟩
  · rfl
  · simp [capOk]⟩
theorem Rw.take (hn : ∀ x, (enc x).length = e) (h : Rw e enc H v xs) {k : Nat} (hk : k ≤ xs.length) :
    ∃ v', sliceA e v none (some (.int .i64 k)) none = some v' ∧ Rw e enc H v' (xs.take k) ∧ rowObj v' = rowObj v := by
  obtain ⟨h, hc⟩ := h
  rcases h with ⟨rfl, rfl⟩ | ⟨o, off, lo, ex, rfl, h⟩
  · have : k = 0 := by simpa using hk
    subst this
    exact ⟨.nils, rfl, ⟨.inl ⟨rfl, rfl⟩, rfl⟩, rfl⟩
  · have hlo : xs.length ≤ lo := by simpa [capOk] using hc
    have b1 : (0 : Int) ≤ (k : Int) ∧ (k : Int) ≤ (lo : Int) := by omega
    have hl : (xs.take k).length = k := by rw [List.length_take]; omega
    refine ⟨.slc o off k e lo ex, ?_, ⟨.inr ⟨o, off, lo, ex, by rw [hl], ?_⟩, by simp [capOk]; omega⟩, rfl⟩
    · simp only [sliceA, Nat.beq_refl, cond_true, boundsA, boundA, if_pos b1, Option.map_some, Int.toNat_natCast, Nat.zero_mul, Nat.add_zero, Nat.sub_zero]
    · unfold Heap.readSeg at h ⊢
      cases hc : H.cellsAt o with
      | none => rw [hc] at h; cases h
      | some cs =>
        rw [hc] at h
        have h : seg cs off (xs.length * e) = some (xs.flatMap enc) := h
        have hm : k * e ≤ xs.length * e := Nat.mul_le_mul_right e hk
        have := seg_cut h (f := 0) (m := k * e) (by omega)
        rw [hl]
        show seg cs off (k * e) = _
        rw [Nat.add_zero, List.drop_zero, flat_take hn] at this
        exact this
theorem Rw.drop (hn : ∀ x, (enc x).length = e) (h : Rw e enc H v xs) {k : Nat} (hk : k ≤ xs.length) :
    ∃ v', sliceA e v (some (.int .i64 k)) none none = some v' ∧ Rw e enc H v' (xs.drop k) ∧ rowObj v' = rowObj v := by
  obtain ⟨h, hc⟩ := h
  rcases h with ⟨rfl, rfl⟩ | ⟨o, off, lo, ex, rfl, h⟩
  · have : k = 0 := by simpa using hk
    subst this
    exact ⟨.nils, rfl, ⟨.inl ⟨rfl, rfl⟩, rfl⟩, rfl⟩
  · have hlo : xs.length ≤ lo := by simpa [capOk] using hc
    have b1 : (0 : Int) ≤ (k : Int) ∧ (k : Int) ≤ ((xs.length : Nat) : Int) := by omega
    have hl : (xs.drop k).length = xs.length - k := by simp
    refine ⟨.slc o (off + k * e) (xs.length - k) e (lo - k) ex, ?_, ⟨.inr ⟨o, off + k * e, lo - k, ex, by rw [hl], ?_⟩, by simp [capOk]; omega⟩, rfl⟩
    · simp only [sliceA, Nat.beq_refl, cond_true, boundsA, boundA, if_pos b1, Option.map_some, Int.toNat_natCast]
    · unfold Heap.readSeg at h ⊢
      cases hc : H.cellsAt o with
      | none => rw [hc] at h; cases h
      | some cs =>
        rw [hc] at h
        have h : seg cs off (xs.length * e) = some (xs.flatMap enc) := h
        have hm : k * e + (xs.length - k) * e = xs.length * e := by rw [← Nat.add_mul]; congr 1; omega
        have := seg_cut h (f := k * e) (m := (xs.length - k) * e) (by omega)
        rw [hl]
        show seg cs (off + k * e) ((xs.length - k) * e) = _
        rw [flat_drop hn] at this
        rw [this]
        congr 1
        apply List.take_of_length_le
        rw [flat_len hn, hl]; exact Nat.le_refl _
theorem Rw.lit (_hn : (enc : α → List AV) = enc) {o : Nat} {a : α} (hl : (enc a).length = e) (hg : H.get o = some (.cells (enc a))) : Rw e enc H (.slc o 0 1 e 1 true) [a] := by
  refine ⟨.inr ⟨o, 0, 1, true, rfl, ?_⟩, rfl⟩
  unfold Heap.readSeg
  rw [cellsAt_get hg]
  simp only [List.flatMap_cons, List.flatMap_nil, List.append_nil]
  exact seg_all (by rw [hl]; simp)
end
end Go.AI

/- Tables whose keys are pairs; rows of rows. No claim by itself. -/
namespace Go.AI
/-! ### Tables of pairs -/
def mapUpdA (H : Heap) (d : EqD) (m k v : AV) : Option (AV × Heap) :=
  match m with
  | .map o =>
    bif Nat.ble H.floor o then
      match H.get o with
      | some (.map es) =>
        bif plainKey d k then
          match findA d k es 0 with
          | none => none
          | some (some (i, _)) => some (undefA, H.set o (.map (es.set i (k, v))))
          | some none => some (undefA, H.set o (.map (es ++ [(k, v)])))
        else none
      | _ => none
    else none
  | _ => none
@[simp] theorem p_mapUpdate {e : Opd → AV} {H : Heap} {d : EqD} {m k v : Opd} : plainOp e H (.mapUpdate d m k v) = mapUpdA H d (e m) (e k) (e v) := rfl
abbrev Ent := (Int × Int) × Int
def entc (q : Ent) : AV × AV := (.agg (pairc q.1), .int .i64 q.2)
theorem cells_pair (x y : Int × Int) : eqA (.flat [.int, .int]) (.agg (pairc x)) (.agg (pairc y)) = some (decide (x = y)) := by
  have e : eqA (.flat [.int, .int]) (.agg (pairc x)) (.agg (pairc y)) = (match some (x.1 == y.1) with | some true => (match some (x.2 == y.2) with | some true => some true | some false => some false | none => none) | some false => some false | none => none) := rfl
  rw [e]
  obtain ⟨a, b⟩ := x
  obtain ⟨c, d⟩ := y
  cases h1 : (a == c) <;> cases h2 : (b == d) <;> simp_all
theorem plain_pair (x : Int × Int) : plainKey (.flat [.int, .int]) (.agg (pairc x)) = true := by
  have : cellsEq [.int, .int] (pairc x) (pairc x) = some true := by
    have := cells_pair x x
    have e : eqA (.flat [.int, .int]) (.agg (pairc x)) (.agg (pairc x)) = cellsEq [.int, .int] (pairc x) (pairc x) := rfl
    rw [← e, this]; simp
  show (cellsEq [.int, .int] (pairc x) (pairc x)).isSome = true
  rw [this]; rfl
/-- What a table tells of a pair; -1: none. -/
def lookE (E : List Ent) (s : Int × Int) : Int := ((E.find? fun q => decide (s = q.1)).map (·.2)).getD (-1)
theorem find_ent (s : Int × Int) : ∀ (E : List Ent) (j : Nat), findA (.flat [.int, .int]) (.agg (pairc s)) (E.map entc) j = match E.find? (fun q => decide (s = q.1)) with | some q => some (some (j + E.findIdx (fun q => decide (s = q.1)), .int .i64 q.2)) | none => some none
  | [], j => rfl
  | q :: E, j => by
    have ih := find_ent s E (j + 1)
    simp only [List.map_cons, entc, findA, cells_pair]
    by_cases h : s = q.1
    · simp [h, List.findIdx_cons]
    · rw [decide_eq_false h]
      simp only [List.find?_cons, decide_eq_false h, List.findIdx_cons, cond_false]
      rw [ih]
      cases E.find? (fun q => decide (s = q.1)) with
      | none => rfl
      | some q' => simp only [Option.some.injEq, Prod.mk.injEq, and_true]; omega
theorem look_none {E : List Ent} {s : Int × Int} : E.find? (fun q => decide (s = q.1)) = none ↔ s ∉ E.map (·.1) := by
  rw [List.find?_eq_none]
  simp only [List.mem_map, not_exists, not_and, decide_eq_true_eq]
  exact ⟨fun h q hq e => h q hq e.symm, fun h q hq e => h q hq e.symm⟩
theorem lookA_ent {H : Heap} {o : Nat} {E : List Ent} {s : Int × Int} (h : H.get o = some (.map (E.map entc))) :
    ∃ r, lookA H (.flat [.int, .int]) (.map o) (.agg (pairc s)) = some r ∧ ((s ∉ E.map (·.1) ∧ r = none ∧ lookE E s = -1) ∨ (s ∈ E.map (·.1) ∧ ∃ i k, r = some (i, .int .i64 k) ∧ lookE E s = k ∧ (s, k) ∈ E)) := by
  unfold lookA
  simp only [h, plain_pair, cond_true, find_ent s E 0]
  cases hf : E.find? (fun q => decide (s = q.1)) with
  | none => exact ⟨none, rfl, .inl ⟨look_none.1 hf, rfl, by unfold lookE; rw [hf]; rfl⟩⟩
  | some q =>
    have hm := List.mem_of_find?_eq_some hf
    have hs : s = q.1 := by have := List.find?_some hf; simpa using this
    refine ⟨_, rfl, .inr ⟨?_, _, q.2, rfl, by unfold lookE; rw [hf]; rfl, ?_⟩⟩
    · rw [hs]; exact List.mem_map_of_mem hm
    · rw [hs]; exact hm
theorem mapUpd_new {H : Heap} {o : Nat} {E : List Ent} {s : Int × Int} {k : Int} (hf : H.floor ≤ o) (h : H.get o = some (.map (E.map entc))) (hn : s ∉ E.map (·.1)) :
    mapUpdA H (.flat [.int, .int]) (.map o) (.agg (pairc s)) (.int .i64 k) = some (undefA, H.set o (.map ((E ++ [(s, k)]).map entc))) := by
  have hb : Nat.ble H.floor o = true := Nat.ble_eq_true_of_le hf
  unfold mapUpdA
  simp only [h, hb, cond_true, plain_pair, find_ent s E 0, look_none.2 hn, List.map_append, List.map_cons, List.map_nil]
  rfl
/-! ### Rows of rows -/
abbrev OneV := {v : AV // v.one = true}
def onec (x : OneV) : List AV := [x.1]
theorem onec_len (x : OneV) : (onec x).length = 1 := rfl
theorem onec_one (x : OneV) : allOne (onec x) = true := by unfold onec; rw [allOne_of x.2]; rfl
structure Gd (H : Heap) (v : AV) (F : List (List Int)) : Prop where
  ex : ∃ rs : List OneV, Rw 1 onec H v rs ∧ rs.length = F.length ∧ ∀ (i : Nat) (r : OneV) (f : List Int), rs[i]? = some r → F[i]? = some f → Rw 1 i64c H r.1 f
section
variable {H H' : Heap} {v : AV} {F : List (List Int)}
theorem Gd.len (h : Gd H v F) : lenA v = some (.int .i64 F.length) := by
  obtain ⟨rs, a, b, _⟩ := h.ex; rw [← b]; exact a.len
theorem Gd.one (h : Gd H v F) : v.one = true ∧ v.cells = [v] := by
  obtain ⟨rs, a, _, _⟩ := h.ex; exact a.one
theorem Gd.ext (h : Gd H v F) (k : Ext H H') : Gd H' v F := by
  obtain ⟨rs, a, b, c⟩ := h.ex; exact ⟨rs, a.ext k, b, fun i r f q1 q2 => (c i r f q1 q2).ext k⟩
theorem Gd.idx (h : Gd H v F) {k : IntKind} {i : Int} (h0 : 0 ≤ i) (h1 : i < F.length) :
    ∃ p r f, F[i.toNat]? = some f ∧ indexAddrV 1 v (.int k i) = some p ∧ loadA H none p = some r ∧ Rw 1 i64c H r f := by
  obtain ⟨rs, a, b, c⟩ := h.ex
  obtain ⟨p, x, q1, q2, _, q4⟩ := Sl.idx (a.sl onec_len) (k := k) h0 (by omega)
  have hl : i.toNat < F.length := by omega
  exact ⟨p, x.1, F[i.toNat], List.getElem?_eq_getElem hl, q2, q4 _ rfl rfl, c _ _ _ q1 (List.getElem?_eq_getElem hl)⟩
theorem load_ext {n : Option Nat} {p r : AV} (h : loadA H n p = some r) (k : Ext H H') : loadA H' n p = some r := by
  cases p with
  | ptr o off =>
    rw [loadA_ptr] at h ⊢
    cases hc : H.cellsAt o with
    | none => rw [hc] at h; cases h
    | some cs => rw [k.cells hc]; rw [hc] at h; exact h
  | _ => cases h
theorem Gd.idxE (h : Gd H v F) (e : Ext H H') {k : IntKind} {i : Int} (h0 : 0 ≤ i) (h1 : i < F.length) :
    ∃ p r f, F[i.toNat]? = some f ∧ indexAddrV 1 v (.int k i) = some p ∧ loadA H' none p = some r ∧ Rw 1 i64c H r f := by
  obtain ⟨p, r, f, a, b, c, d⟩ := h.idx (k := k) h0 h1
  exact ⟨p, r, f, a, b, load_ext c e, d⟩
end
/-! ### Edges -/
def rowOk (n : Int) (f : List Int) : Prop := 3 ≤ f.length ∧ f.Nodup ∧ ∀ k, k ∈ f → 0 ≤ k ∧ k < n
theorem edgesF_len (f : List Int) : (edgesF f).length = f.length := by
  unfold edgesF
  rw [List.length_zip, List.length_append, List.length_tail, List.length_take]; omega
theorem edgesF_get {f : List Int} {k : Nat} {a b : Int} (ha : f[k]? = some a) (hb : f[(k + 1) % f.length]? = some b) : (edgesF f)[k]? = some (a, b) := by
  have hk : k < f.length := (List.getElem?_eq_some_iff.1 ha).1
  unfold edgesF
  rw [List.getElem?_zip_eq_some]
  refine ⟨ha, ?_⟩
  by_cases h : k + 1 < f.length
  · rw [Nat.mod_eq_of_lt h] at hb
    rw [List.getElem?_append_left (by simp; omega), List.getElem?_tail]; exact hb
  · have : k + 1 = f.length := by omega
    rw [this, Nat.mod_self] at hb
    rw [List.getElem?_append_right (by simp; omega)]
    have hz : k - f.tail.length = 0 := by simp; omega
    rw [hz, List.getElem?_take, if_pos (by omega)]; exact hb
/-- All edges, each with the number of its face. -/
def tabF : Nat → List (List Int) → List Ent
  | _, [] => []
  | i, f :: F => (edgesF f).map (fun s => (s, (i : Int))) ++ tabF (i + 1) F
theorem tabF_fst : ∀ (i : Nat) (F : List (List Int)), (tabF i F).map (·.1) = F.flatMap edgesF
  | _, [] => rfl
  | i, f :: F => by simp [tabF, tabF_fst (i + 1) F, Function.comp_def]
theorem tabF_app : ∀ (i : Nat) (F G : List (List Int)), tabF i (F ++ G) = tabF i F ++ tabF (i + F.length) G
  | i, [], G => by simp [tabF]
  | i, f :: F, G => by
    simp only [List.cons_append, tabF, tabF_app (i + 1) F G, List.append_assoc, List.length_cons]
    congr 3; omega
open Classical in
/-- What is wrong with faces. -/
noncomputable def chkF (n : Int) (F : List (List Int)) : Int := if (0 ≤ n ∧ n ≤ 1048576) ∧ ∀ f, f ∈ F → rowOk n f then (if (F.flatMap edgesF).Nodup then 0 else 80) else 2
theorem chkF_ok {n : Nat} {F : List (List Int)} : chkF n F = 0 ↔ FacesOk n F := by
  unfold chkF
  constructor
  · intro h
    split at h
    · rename_i h1
      split at h
      · rename_i h2; exact ⟨by omega, h1.2, h2⟩
      · simp at h
    · simp at h
  · intro h
    have hle := h.le
    rw [if_pos ⟨⟨by omega, by omega⟩, h.fs⟩, if_pos h.es]
end Go.AI

/- Arguments of a law that are rows of rows. No claim by itself. -/
namespace Go.AI
open Go.ChangeShapes Go.WideShapes Go.Deep
/-- A law's call, over arguments that are told; what lies in memory is told of where all objects lie. -/
theorem law_told2 {P : Program} {G : World → Prop} {FT : Nat → Option FnD} (hFT : TableOk P G FT) {f : Nat} {args : List AV} {css : List (List AV)} {Ls : List (Option Loc)} {v : AV} {w : World} {avs : List Value}
    (h : Cp FT f args (heapR css.reverse) fun r _ => r = v) (hp : v.plain = true) (hl : LRel (fun o => (Ls[o]?).join) args avs) (hn : Ls.length = css.length)
    (hm : ∀ (o : Nat) (l : Loc), Ls[o]? = some (some l) → ∀ cs, css[o]? = some cs → l.blk < w.heap.size ∧ At (fun o => (Ls[o]?).join) w l cs ∧ l.base + cs.length ≤ l.size) (hgood : ∀ w' : World, (∀ b, b < w.heap.size → w'.heap[b]? = w.heap[b]?) → G w') :
    Calls P f avs.toArray w fun e w' => ∃ r, e = .returned r ∧ VRel (fun _ => none) v r ∧ RowKit.Below w.heap.size w w' := by
  obtain ⟨n, v1, H', hc, rfl⟩ := h
  have hnx := heapR_next css.reverse
  rw [List.length_reverse] at hnx
  have key : ∀ (o : Nat) (L : Loc), ((Ls[o]?).join : Option Loc) = some L → Ls[o]? = some (some L) := fun o L e => by
    cases q : Ls[o]? with
    | none => rw [q] at e; cases e
    | some x => rw [q] at e; simp at e; rw [e]
  have lt : ∀ (o : Nat) (L : Loc), ((Ls[o]?).join : Option Loc) = some L → o < css.length := fun o L e => by
    have := (List.getElem?_eq_some_iff.1 (key o L e)).1; omega
  refine (law_calls hFT hc hl (by rw [hnx.1, hnx.2]) (heapR_wf css.reverse).2 (fun o L e => ⟨by rw [hnx.1]; exact lt o L e, ?_⟩) (fun o L x e hx => ?_) hgood).mono ?_
  · have hlt := lt o L e
    exact (hm o L (key o L e) _ (List.getElem?_eq_getElem hlt)).1
  · rw [heapR_get, List.reverse_reverse] at hx
    cases hg : css[o]? with
    | none => rw [hg] at hx; cases hx
    | some cs =>
      rw [hg] at hx; cases hx
      have h1 := hm o L (key o L e) _ hg
      exact ⟨h1.2.1, h1.2.2, fun hb => absurd (lt o L e) (by rw [hnx.1] at hb; omega)⟩
  · rintro e w' ⟨φ', r, rfl, hv, hb⟩
    exact ⟨r, rfl, hv.plain hp, hb⟩
theorem heapF_get (css : List (List AV)) (o : Nat) : (heapR css.reverse).get o = (css[o]?).map .cells := by rw [heapR_get, List.reverse_reverse]
section
variable {H : Type} {enc : TypeId × Value → H} {P : Program} {w : World} {base : Nat} {held : Bool}
theorem arg_cells2 {Q : Pl → Prop} {a : Addr} {len cap e o : Nat} {cs : List AV} (hl : len ≤ cap) (he : 0 < e) (hcs : cs.length = len * e)
    (hc : ∀ i, i < cap * e → ∃ u, w.cell? (a.add i) = some u) (hv : ∀ i x, cs[i]? = some x → ∃ u, w.cell? (a.add i) = some u ∧ ∀ φ, Q φ → VRel φ x u) :
    ∃ L : Option Loc, (∀ φ : Pl, φ o = L → VRel φ (.slc o 0 len e len false) (.slice (some a) len cap)) ∧ ∀ l, L = some l → l.blk < w.heap.size ∧ (∀ φ, Q φ → At φ w l cs) ∧ l.base + cs.length ≤ l.size := by
  rcases Nat.eq_zero_or_pos cap with h0 | h0
  · subst h0
    obtain rfl : len = 0 := by omega
    exact ⟨none, fun φ _ => .slc0 _ _ _ _ _, fun l e => by cases e⟩
  · have hpos : 0 < cap * e := Nat.mul_pos h0 he
    obtain ⟨u0, hu0⟩ := hc 0 hpos
    rw [add_zero'] at hu0
    refine ⟨some ⟨a.block, a.off, a.off + cap * e⟩, fun φ hφ => ?_, fun l e => ?_⟩
    · rw [spot_none hu0]
      exact VRel.slc (φ := φ) o 0 len e len false ⟨a.block, a.off, a.off + cap * e⟩ cap hφ (Nat.le_refl _) hl (fun q => by cases q) (Nat.le_refl _)
    · cases e
      refine ⟨cell_blk hu0, fun φ hQ i x hx => ?_, ?_⟩
      · obtain ⟨u, h1, h2⟩ := hv i x hx
        exact ⟨u, cell_add h1 ⟨u0, hu0⟩, h2 φ hQ⟩
      · show a.off + cs.length ≤ _
        rw [hcs]; exact Nat.add_le_add_left (Nat.mul_le_mul_right _ hl) _
theorem arg_ints2 {t e : TypeId} {fuel : Nat} {cs : List Value} {x : DataW H × List MemPlace} (o : Nat) (ht : P.underlying t = some (.slice e)) (he : P.underlying e = some (.int .i64)) (hc : P.cellsOf e = 1)
    (h : DataW.trod enc P w base (fun _ => true) held fuel t cs = some x) : ∃ v xs av L, cs = [v] ∧ SlArg w o 1 i64c v xs av L := by
  rcases open_ints ht he hc h with ⟨hcs, _⟩ | ⟨a, len, cap, zs, hcs, _⟩
  · subst hcs
    obtain ⟨xs, av, L, _, hs, _⟩ := arg_ints o ht he hc h
    exact ⟨_, xs, av, L, rfl, hs⟩
  · subst hcs
    obtain ⟨xs, av, L, _, hs, _⟩ := arg_ints o ht he hc h
    exact ⟨_, xs, av, L, rfl, hs⟩
/-- What a row of rows comes to: its objects o, o+1, .. -/
structure GdArg (w : World) (o : Nat) (v : Value) (F : List (List Int)) (av : AV) (css : List (List AV)) (Ls : List (Option Loc)) : Prop where
  ln : Ls.length = css.length
  rel : ∀ φ : Pl, (∀ k, φ (o + k) = (Ls[k]?).join) → VRel φ av v
  mem : ∀ (k : Nat) (l : Loc), Ls[k]? = some (some l) → ∀ cs, css[k]? = some cs → l.blk < w.heap.size ∧ (∀ φ : Pl, (∀ k, φ (o + k) = (Ls[k]?).join) → At φ w l cs) ∧ l.base + cs.length ≤ l.size
  gd : ∀ H : Heap, (∀ k cs, css[k]? = some cs → H.get (o + k) = some (.cells cs)) → Gd H av F
instance : Inhabited OneV := ⟨⟨.nils, rfl⟩⟩
theorem SlArg.rw {α : Type} {e : Nat} {en : α → List AV} (hn : ∀ x, (en x).length = e) {w : World} {o : Nat} {v : Value} {xs : List α} {av : AV} {L : Option Loc} {H : Heap} (h : SlArg w o e en v xs av L) (hg : H.get o = some (.cells (xs.flatMap en))) : Rw e en H av xs :=
  ⟨h.sw hn hg, by
    rcases h.2 with ⟨rfl, _⟩ | rfl
    · rfl
    · simp [capOk]⟩
theorem arg_grid {t e q : TypeId} {fuel : Nat} {cs : List Value} {x : DataW H × List MemPlace} (o : Nat) (ht : P.underlying t = some (.slice e)) (he : P.underlying e = some (.slice q)) (hq : P.underlying q = some (.int .i64)) (ce : P.cellsOf e = 1) (cq : P.cellsOf q = 1)
    (h : DataW.trod enc P w base (fun _ => true) held fuel t cs = some x) : ∃ v F av css Ls, cs = [v] ∧ GdArg w o v F av css Ls := by
  rcases open_slice1 ht ce h with ⟨hcs, _⟩ | ⟨a, len, cap, m, n, V, D, Pl, rfl, hb, hl, hm, hmm, rfl, hx⟩
  · subst hcs
    refine ⟨_, [], .nils, [], [], rfl, ⟨rfl, fun φ _ => .nils, fun k l e => by simp at e, fun H _ => ⟨⟨[], ⟨.inl ⟨rfl, rfl⟩, rfl⟩, rfl, fun i r f h => by simp at h⟩⟩⟩⟩
  · simp only [if_true] at hmm
    subst hmm
    have each : ∀ r, r < len → ∃ y : List Int × OneV × Option Loc, SlArg w (o + 1 + r) 1 i64c (V r) y.1 y.2.1.1 y.2.2 := by
      intro r hr
      obtain ⟨v, xs, av, L, h1, h2⟩ := arg_ints2 (o + 1 + r) he hq cq (hx r (by omega)).2
      cases h1
      exact ⟨(xs, ⟨av, by rcases h2.2 with ⟨q, _⟩ | q <;> (rw [q]; rfl)⟩, L), h2⟩
    obtain ⟨y, hy⟩ := choose_lt each
    obtain ⟨L0, r0, m0⟩ := arg_cells2 (w := w) (Q := fun φ => ∀ r, r < len → φ (o + 1 + r) = (y r).2.2) (a := a) (len := len) (cap := m) (e := 1) (o := o) (cs := ((List.range len).map fun r => (y r).2.1).flatMap onec) hl (by omega) (by rw [flat_len onec_len]; simp)
      (fun i hi => ⟨_, (hx i (by omega)).1⟩) (fun i z hz => by
        have hfl : (((List.range len).map fun r => (y r).2.1).flatMap onec) = (List.range len).map fun r => (y r).2.1.1 := by
          generalize List.range len = l
          induction l with
          | nil => rfl
          | cons r l ih => simp only [List.map_cons, List.flatMap_cons, ih]; rfl
        rw [hfl, List.getElem?_map] at hz
        cases hr : (List.range len)[i]? with
        | none => rw [hr] at hz; cases hz
        | some r =>
          obtain ⟨h1, h2⟩ := List.getElem?_eq_some_iff.1 hr
          simp at h1 h2
          subst h2
          rw [hr] at hz
          simp at hz; subst hz
          exact ⟨_, (hx i (by omega)).1, fun φ hφ => (hy i h1).1.rel φ (hφ i h1)⟩)
    have hL : ∀ r, r < len → ((L0 :: (List.range len).map fun r => (y r).2.2)[r + 1]?).join = (y r).2.2 := fun r hr => by simp [hr]
    refine ⟨_, (List.range len).map fun r => (y r).1, .slc o 0 len 1 len false, (((List.range len).map fun r => (y r).2.1).flatMap onec) :: (List.range len).map (fun r => (y r).1.flatMap i64c), L0 :: (List.range len).map (fun r => (y r).2.2), rfl, ⟨by simp, fun φ hφ => r0 φ (by have := hφ 0; simpa using this), ?_, ?_⟩⟩
    · intro k l hk cs hcs
      cases k with
      | zero =>
        simp at hk hcs
        subst hcs
        obtain ⟨h1, h2, h3⟩ := m0 l hk
        refine ⟨h1, fun φ hφ => h2 φ fun r hr => ?_, h3⟩
        have := hφ (r + 1)
        rw [hL r hr] at this
        rw [← this]; congr 1; omega
      | succ k =>
        have hkl : k < len := by
          have := (List.getElem?_eq_some_iff.1 hk).1; simp at this; exact this
        simp [hkl] at hk hcs
        subst hcs
        obtain ⟨h1, h2, h3⟩ := (hy k hkl).1.mem l hk
        exact ⟨h1, fun φ _ => h2 φ, h3⟩
    · intro Hp hg
      have g0 := hg 0 _ rfl
      refine ⟨⟨(List.range len).map fun r => (y r).2.1, ⟨.inr ⟨o, 0, len, false, by simp, ?_⟩, by simp [capOk]⟩, by simp, fun i r f h1 h2 => ?_⟩⟩
      · unfold Heap.readSeg
        rw [show o + 0 = o from rfl] at g0
        rw [cellsAt_get g0]
        exact seg_all (by rw [flat_len onec_len])
      · have hil : i < len := by
          have := (List.getElem?_eq_some_iff.1 h1).1; simpa using this
        simp [hil] at h1 h2
        subst h1 h2
        have gi := hg (i + 1) ((y i).1.flatMap i64c) (by simp [hil])
        exact (hy i hil).rw i64c_len (by rw [show o + 1 + i = o + (i + 1) from by omega]; exact gi)
end
end Go.AI

/- What reading a mesh's words comes to: its shape; words that are wrong; words cut off: plain. No claim by itself. -/
namespace Go.AI
theorem scan_at {α : Type} {val : α → Nat} : ∀ (l : List α) (k : Nat) (s : SS α), (match s with | .word f _ => f ≤ k | _ => True) → ∀ t, t ∈ scanW val l k s → t.1 ≤ k + l.length
  | [], k, .out, _, t, ht => by simp [scanW] at ht
  | [], k, .com, _, t, ht => by simp [scanW] at ht
  | [], k, .word f acc, h, t, ht => by simp [scanW] at ht; subst ht; exact Nat.le_add_right_of_le h
  | c :: r, k, .out, _, t, ht => by
    simp only [scanW] at ht
    cases h1 : isBl (val c) with
    | true => rw [h1] at ht; have := scan_at r _ .out trivial t ht; simp at this ⊢; omega
    | false =>
      rw [h1] at ht; simp only [cond_false] at ht
      cases h2 : Nat.beq (val c) 35 with
      | true => rw [h2] at ht; have := scan_at r _ .com trivial t ht; simp at this ⊢; omega
      | false => rw [h2] at ht; have := scan_at r (k + 1) (.word k [c]) (by show k ≤ k + 1; omega) t ht; simp at this ⊢; omega
  | c :: r, k, .com, _, t, ht => by
    simp only [scanW] at ht
    cases h2 : Nat.beq (val c) 10 with
    | true => rw [h2] at ht; have := scan_at r _ .out trivial t ht; simp at this ⊢; omega
    | false => rw [h2] at ht; have := scan_at r _ .com trivial t ht; simp at this ⊢; omega
  | c :: r, k, .word f acc, h, t, ht => by
    have h : f ≤ k := h
    simp only [scanW] at ht
    cases h1 : isBl (val c) with
    | true =>
      rw [h1] at ht; simp only [cond_true] at ht
      rcases List.mem_cons.1 ht with q | q
      · subst q; simp; omega
      · have := scan_at r _ .out trivial t q; simp at this ⊢; omega
    | false => rw [h1] at ht; have := scan_at r (k + 1) (.word f (c :: acc)) (by show f ≤ k + 1; omega) t ht; simp at this ⊢; omega
theorem words_at {s : List Nat} {t : Nat × List Nat} (h : t ∈ wordsN s) : t.1 ≤ s.length := by
  have := scan_at s 0 .out trivial t h; simpa using this
theorem rdC_pos {en : Nat} : ∀ {cs : List Wc} {ts : List Tok} {e : Nat × Int}, (∀ t, t ∈ ts → t.1 ≤ en) → rdC en cs ts = .error e → e.1 ≤ en
  | [], ts, e, _, h => by simp [rdC] at h
  | c :: cs, ts, e, hp, h => by
    unfold rdC at h
    split at h
    · cases hq : rdC en cs ts.tail with
      | ok p => rw [hq] at h; cases h
      | error e' => rw [hq] at h; cases h; exact rdC_pos (fun t ht => hp t (List.mem_of_mem_tail ht)) hq
    · cases h
      unfold wordAt
      cases ts with
      | nil => simp
      | cons t ts => exact hp t (by simp)
theorem rdC_sub (en : Nat) : ∀ (cs : List Wc) (ts : List Tok) (xs : List Int) (r : List Tok), rdC en cs ts = .ok (xs, r) → ∀ t, t ∈ r → t ∈ ts
  | [], ts, xs, r, h => by simp [rdC] at h; obtain ⟨rfl, rfl⟩ := h; exact fun t h => h
  | c :: cs, ts, xs, r, h => by
    unfold rdC at h
    split at h
    · cases hq : rdC en cs ts.tail with
      | error e => rw [hq] at h; cases h
      | ok p =>
        obtain ⟨ys, r'⟩ := p
        rw [hq] at h
        simp only [Except.ok.injEq, Prod.mk.injEq] at h
        obtain ⟨rfl, rfl⟩ := h
        exact fun t ht => List.mem_of_mem_tail (rdC_sub en cs ts.tail ys r' hq t ht)
    · cases h
def ShO (en : Nat) (x : Ob × Int × Int) : Prop := (x.2.2 ≠ 0 ∧ x.1 = nilO ∧ 0 ≤ x.2.1 ∧ x.2.1 ≤ en) ∨ (x.2.2 = 0 ∧ x.2.1 = 0)
theorem finO_shape (en : Nat) (P : List (Int × Int)) (W : Int) (F : List (List Int)) : ShO en (finO P W F) := by
  unfold finO ShO
  split
  · exact .inr ⟨rfl, rfl⟩
  · exact .inl ⟨by decide, rfl, by decide, by simp⟩
theorem readO_shape (en : Nat) : ∀ (f : Nat) (P : List (Int × Int)) (W : Int) (F : List (List Int)) (ts : List Tok), (∀ t, t ∈ ts → t.1 ≤ en) → ShO en (readO en f P W F ts) := by
  intro f
  induction f with
  | zero => intro P W F ts _; exact finO_shape en P W F
  | succ f ih =>
    intro P W F ts hp
    have bad : ∀ (e : Nat × Int), e.2 ≠ 0 → e.1 ≤ en → ShO en (nilO, (e.1 : Int), e.2) := fun e h1 h2 => .inl ⟨h1, rfl, by simp, by simp; exact h2⟩
    cases ts with
    | nil => exact finO_shape en P W F
    | cons t r =>
      have hr : ∀ t, t ∈ r → t.1 ≤ en := fun x hx => hp x (List.mem_cons_of_mem _ hx)
      unfold readO
      split
      · cases hq : rdC en [coordW, coordW, zeroW, denW P W] r with
        | error e => exact bad e (rdC_err hq) (rdC_pos hr hq)
        | ok p => exact ih _ _ _ _ fun x hx => hr x (rdC_sub en _ _ p.1 p.2 hq x hx)
      · split
        · cases hq : rdC en [idxW P.length, idxW P.length, idxW P.length] r with
          | error e => exact bad e (rdC_err hq) (rdC_pos hr hq)
          | ok p =>
            have hs := fun x hx => hr x (rdC_sub en _ _ p.1 p.2 hq x hx)
            simp only
            split
            · exact ih _ _ _ _ hs
            · split
              · exact ih _ _ _ _ fun x hx => hs x (List.mem_of_mem_tail hx)
              · rename_i h0
                refine bad ((wordAt en p.2).1, _) h0 ?_
                unfold wordAt
                cases hp2 : p.2 with
                | nil => simp
                | cons u us => rw [hp2] at hs; exact hs u (by simp)
        · exact bad (t.1, 11) (by simp) (hp t (by simp))
theorem parO_shape (s : List Nat) : ShO s.length (parO s) := by
  unfold parO
  split
  · exact .inl ⟨by decide, rfl, by decide, by simp⟩
  · exact readO_shape _ _ _ _ _ _ fun t ht => words_at ht
/-- What is read with no error may be, and its words are those that were read. -/
theorem parO_ok {s : List Nat} {P : List (Int × Int)} {W : Int} {F : List (List Int)} {a : Int} (h : parO s = ((P, W, F), a, 0)) : a = 0 ∧ s.length ≤ 1048576 ∧ ValidO P W F ∧ (wordsN s).map (·.2) = txtO P W F := by
  have hsh := parO_shape s
  rw [h] at hsh
  have ha : a = 0 := by
    rcases hsh with q | q
    · exact absurd rfl q.1
    · exact q.2
  subst ha
  unfold parO at h
  split at h
  · cases h
  · rename_i hl
    have hwl : (wordsN s).length ≤ s.length := by have := scan_len (val := idN) s 0 .out; simpa [wordsN] using this
    obtain ⟨hv, P1, F1, h1, h2, k1, k2, k3⟩ := readO_back _ _ _ _ _ _ _ _ _ (Nat.le_refl _) (by simp; omega) h
    simp only [List.nil_append] at h1 h2
    subst h1 h2
    exact ⟨rfl, by omega, hv, k3⟩
theorem parO_no {s : List Nat} {o : Ob} {a e : Int} (h : parO s = (o, a, e)) (he : e ≠ 0) : o = nilO ∧ 0 ≤ a ∧ a ≤ s.length := by
  have hsh := parO_shape s
  rw [h] at hsh
  rcases hsh with q | q
  · exact ⟨q.2.1, q.2.2⟩
  · exact absurd q.1 he
/-- The text of a mesh that may be is read as it. -/
theorem wordsO_ok {P : List (Int × Int)} {W : Int} {F : List (List Int)} (h : ValidO P W F) : ∀ q, q ∈ wordsO P W F → wordOk q.1 ∧ sepOk q.2 := by
  have e24 : (10 : Nat) ^ 24 = 1000000000000000000000000 := by decide
  have hv : wordOk vS := ⟨by simp [vS], by simp [vS, isBl], by simp [vS]⟩
  have hf : wordOk fS := ⟨by simp [fS], by simp [fS, isBl], by simp [fS]⟩
  have hz : wordOk [48] := ⟨by simp, by simp [isBl], by simp⟩
  have hi : ∀ n : Int, n.natAbs < 10 ^ 24 → wordOk (itoaN n) := fun n hn => (itoa_facts hn).1
  intro q hq
  unfold wordsO at hq
  have hw0 := h.w0
  have hw1 := h.w1
  have hle := h.fo.le
  rcases List.mem_append.1 hq with hq | hq
  · obtain ⟨p, hp, hq⟩ := List.mem_flatMap.1 hq
    obtain ⟨hm, hs, _⟩ := joinQ_sep _ _ hq
    obtain ⟨⟨p1, p2⟩, p3, p4⟩ := h.ps p hp
    refine ⟨?_, hs⟩
    simp only [placeT, List.mem_cons, List.not_mem_nil, or_false] at hm
    rcases hm with r | r | r | r | r <;> rw [r]
    · exact hv
    · exact hi _ (by omega)
    · exact hi _ (by omega)
    · exact hz
    · exact hi _ (by omega)
  · obtain ⟨f, hf', hq⟩ := List.mem_flatMap.1 hq
    obtain ⟨hm, hs, _⟩ := joinQ_sep _ _ hq
    refine ⟨?_, hs⟩
    simp only [faceT, List.mem_cons, List.mem_map] at hm
    rcases hm with r | ⟨k, hk, r⟩
    · rw [r]; exact hf
    · rw [← r]
      have := (h.fo.fs f hf').2.2 k hk
      exact hi _ (by omega)
theorem words_text {P : List (Int × Int)} {W : Int} {F : List (List Int)} (h : ValidO P W F) : wordsN (textO P W F) = toksAt 0 (wordsO P W F) := words_rend (wordsO_ok h)
/-- Words with a blank behind each that are a mesh's are read as it. -/
theorem parO_rend {P : List (Int × Int)} {W : Int} {F : List (List Int)} (h : ValidO P W F) {l : List Wd} (hl : ∀ q, q ∈ l → wordOk q.1 ∧ sepOk q.2) (ht : l.map (·.1) = txtO P W F) (hs : (rend l).length ≤ 1048576) : parO (rend l) = ((P, W, F), 0, 0) := by
  unfold parO
  rw [if_neg (by omega)]
  refine readO_words _ h ?_ (Nat.le_refl _)
  rw [words_rend hl, toksAt_txt, ht]
theorem parO_text {P : List (Int × Int)} {W : Int} {F : List (List Int)} (h : ValidO P W F) (hs : (textO P W F).length ≤ 1048576) : parO (textO P W F) = ((P, W, F), 0, 0) :=
  parO_rend h (wordsO_ok h) (wordsO_txt P W F) hs
end Go.AI

/- A mesh's words, one of them wrong, or cut off: what reading them comes to: plain. No claim by itself. -/
namespace Go.AI
structure BadW (w : List Nat) : Prop where
  wf : wfN w = false
  v : w ≠ vS
  f : w ≠ fS
  z : w ≠ [48]
theorem BadW.nil : BadW [] := ⟨rfl, by decide, by decide, by decide⟩
theorem BadW.zero {w : List Nat} (h : BadW w) : (zeroW w).2 = 11 := by unfold zeroW; rw [if_neg h.z]
theorem BadW.idx {w : List Nat} (h : BadW w) (n : Nat) : (idxW n w).2 = 11 := idx_stop h.wf
/-- What is asked of a cut: a word stands there, or the place is neither a row's first nor a face's fourth number's. -/
structure InW (T : List (List Nat)) (k : Nat) : Prop where
  a : T[k]? ≠ some vS
  b : T[k]? ≠ some fS
  c : ¬ (4 ≤ k ∧ T[k - 4]? = some fS ∧ ∀ m, k - 4 < m → m ≤ k → T[m]? ≠ some vS ∧ T[m]? ≠ some fS)
end Go.AI
