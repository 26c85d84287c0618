/- Texts, words and numbers: plain. No claim by itself. -/
import Derived.Test.YtacfhbhfgbjleaaDoorED
namespace Go.AI
abbrev Tok := Nat × List Nat
abbrev Toks := Sl 2 tokA
/-! ### Words, each with what stands behind it -/
abbrev Wd := List Nat × List Nat
def rend (l : List Wd) : List Nat := l.flatMap fun p => p.1 ++ p.2
def wordOk (w : List Nat) : Prop := w ≠ [] ∧ (∀ c, c ∈ w → isBl c = false) ∧ w.head? ≠ some 35
/-- What stands behind a word begins with a blank, and holds no word. -/
def sepOk (g : List Nat) : Prop := (∃ c r, g = c :: r ∧ isBl c = true) ∧ ∀ (r : List Nat) (p : Nat), scanW idN (g ++ r) p .out = scanW idN r (p + g.length) .out
def toksAt : Nat → List Wd → List Tok
  | _, [] => []
  | p, (w, g) :: l => (p, w) :: toksAt (p + w.length + g.length) l
theorem scan_inw : ∀ (w r : List Nat) (p f : Nat) (acc : List Nat), (∀ c, c ∈ w → isBl c = false) → scanW idN (w ++ r) p (.word f acc) = scanW idN r (p + w.length) (.word f (w.reverse ++ acc))
  | [], r, p, f, acc, _ => by simp
  | c :: w, r, p, f, acc, h => by
    have hc := h c (by simp)
    simp only [List.cons_append, scanW, idN, hc, cond_false]
    rw [scan_inw w r (p + 1) f (c :: acc) (fun d hd => h d (by simp [hd]))]
    simp only [List.length_cons, List.reverse_cons, List.append_assoc, List.singleton_append]
    congr 1; omega
theorem scan_start' {w : List Nat} (h : wordOk w) (r : List Nat) (p : Nat) : scanW idN (w ++ r) p .out = scanW idN r (p + w.length) (.word p w.reverse) := by
  obtain ⟨h0, h1, h2⟩ := h
  cases w with
  | nil => exact absurd rfl h0
  | cons c w =>
    have hc := h1 c (by simp)
    have h35 : c ≠ 35 := fun q => h2 (by simp [q])
    simp only [List.cons_append, scanW, idN, hc, cond_false, Tr.nbeq, h35, decide_false]
    rw [scan_inw w r (p + 1) p [c] (fun d hd => h1 d (by simp [hd]))]
    simp only [List.length_cons, List.reverse_cons]
    congr 1; omega
theorem scan_close {g : List Nat} (h : sepOk g) (r : List Nat) (p f : Nat) (acc : List Nat) : scanW idN (g ++ r) p (.word f acc) = (f, acc.reverse) :: scanW idN r (p + g.length) .out := by
  rw [← h.2 r p]
  obtain ⟨⟨c, g', rfl, hc⟩, _⟩ := h
  simp only [List.cons_append, scanW, idN, hc, cond_true]
theorem scan_rend : ∀ (l : List Wd) (r : List Nat) (p : Nat), (∀ q, q ∈ l → wordOk q.1 ∧ sepOk q.2) → scanW idN (rend l ++ r) p .out = toksAt p l ++ scanW idN r (p + (rend l).length) .out
  | [], r, p, _ => by simp [rend, toksAt]
  | (w, g) :: l, r, p, h => by
    obtain ⟨hw, hg⟩ := h (w, g) (by simp)
    have ih := scan_rend l r (p + w.length + g.length) (fun q hq => h q (by simp [hq]))
    have e : rend ((w, g) :: l) ++ r = w ++ (g ++ (rend l ++ r)) := by simp [rend]
    rw [e, scan_start' hw, scan_close hg, ih]
    have hl : p + (rend ((w, g) :: l)).length = p + w.length + g.length + (rend l).length := by simp [rend]; omega
    rw [hl]
    simp [toksAt]
theorem words_rend {l : List Wd} (h : ∀ q, q ∈ l → wordOk q.1 ∧ sepOk q.2) : wordsN (rend l) = toksAt 0 l := by
  have := scan_rend l [] 0 h
  simp only [List.append_nil, scanW] at this
  exact this
theorem toksAt_txt : ∀ (p : Nat) (l : List Wd), (toksAt p l).map (·.2) = l.map (·.1)
  | _, [] => rfl
  | p, (w, g) :: l => by simp [toksAt, toksAt_txt _ l]
theorem toksAt_len (p : Nat) (l : List Wd) : (toksAt p l).length = l.length := by
  have := congrArg List.length (toksAt_txt p l); simpa using this
theorem toksAt_get : ∀ (p : Nat) (l : List Wd) (k : Nat) (q : Wd), l[k]? = some q → (toksAt p l)[k]? = some (p + (rend (l.take k)).length, q.1)
  | _, [], k, q, h => by simp at h
  | p, (w, g) :: l, 0, q, h => by simp at h; subst h; simp [toksAt, rend]
  | p, (w, g) :: l, k + 1, q, h => by
    simp only [toksAt, List.getElem?_cons_succ]
    rw [toksAt_get _ l k q (by simpa using h)]
    simp only [Option.some.injEq, Prod.mk.injEq, and_true, rend, List.take_succ_cons, List.flatMap_cons, List.length_append]
    omega
theorem rend_app (a b : List Wd) : rend (a ++ b) = rend a ++ rend b := by simp [rend]
theorem sep_sp : sepOk [32] := ⟨⟨32, [], rfl, rfl⟩, fun _r _p => rfl⟩
theorem sep_nl : sepOk [10] := ⟨⟨10, [], rfl, rfl⟩, fun _r _p => rfl⟩
/-! ### Decimal words -/
theorem decP_zero (f : Nat) : decP f 0 = [] := by cases f <;> simp [decP]
theorem decP_dg : ∀ (f u : Nat), (decP f u).all isDg = true
  | 0, _ => rfl
  | f + 1, u => by
    unfold decP; split
    · rfl
    · rw [List.all_append, decP_dg f (u / 10)]
      simp [isDg]; omega
theorem decP_val : ∀ (f u : Nat), u < 10 ^ f → digV (decP f u) = u
  | 0, u, h => by simp at h; subst h; rfl
  | f + 1, u, h => by
    unfold decP; split
    · rename_i q; subst q; rfl
    · rw [digV_snoc, decP_val f (u / 10) (by rw [Nat.pow_succ] at h; omega)]; omega
theorem decP_head : ∀ (f u : Nat), 0 < u → u < 10 ^ f → ∃ c r, decP f u = c :: r ∧ 48 < c ∧ c ≤ 57
  | 0, u, h, k => by simp at k; omega
  | f + 1, u, h, k => by
    unfold decP; rw [if_neg (by omega)]
    by_cases h10 : u < 10
    · have : u / 10 = 0 := by omega
      rw [this, decP_zero]
      exact ⟨48 + u % 10, [], rfl, by omega, by omega⟩
    · obtain ⟨c, r, e, h1, h2⟩ := decP_head f (u / 10) (by omega) (by rw [Nat.pow_succ] at k; omega)
      exact ⟨c, r ++ [48 + u % 10], by rw [e]; rfl, h1, h2⟩
theorem itoa_nat (k : Nat) (hk : k < 10 ^ 25) : itoaN (k : Int) = if k = 0 then [48] else decP 25 k := by
  show decF 25 k [] = _
  by_cases h : k = 0
  · subst h; rfl
  · rw [if_neg h, decF_P 25 k [] (by omega) hk, List.append_nil]
theorem itoa_neg (k : Nat) (hk : k + 1 < 10 ^ 25) : itoaN (Int.negSucc k) = 45 :: decP 25 (k + 1) := by
  show 45 :: decF 25 (k + 1) [] = _
  rw [decF_P 25 (k + 1) [] (by omega) hk, List.append_nil]
theorem dg_notBl {c : Nat} (h : isDg c = true) : isBl c = false := by
  simp [isDg] at h
  simp [isBl]; omega
theorem itoa_facts {n : Int} (hn : n.natAbs < 10 ^ 24) : wordOk (itoaN n) ∧ wfN (itoaN n) = true ∧ sval (itoaN n) = n := by
  have h25 : (10 : Nat) ^ 25 = 10 ^ 24 * 10 := by rw [← Nat.pow_succ]
  cases n with
  | ofNat k =>
    simp only [Int.ofNat_eq_natCast, Int.natAbs_natCast] at hn ⊢
    rw [itoa_nat k (by omega)]
    by_cases h : k = 0
    · subst h
      refine ⟨⟨by simp, ?_, by simp⟩, by rfl, by rfl⟩
      intro c hc; simp at hc; subst hc; rfl
    · rw [if_neg h]
      obtain ⟨c, r, e, h1, h2⟩ := decP_head 25 k (by omega) (by omega)
      have hall := decP_dg 25 k
      have hval := decP_val 25 k (by omega)
      rw [e] at hall hval ⊢
      have hd : digsOf (c :: r) = c :: r := by unfold digsOf; rw [if_neg (by simp; omega)]
      refine ⟨⟨by simp, fun d hd => dg_notBl (List.all_eq_true.1 hall d hd), by simp; omega⟩, ?_, ?_⟩
      · unfold wfN; rw [hd, hall]; simp; omega
      · unfold sval; rw [if_neg (by simp; omega), hval]
  | negSucc k =>
    simp only [Int.natAbs_negSucc] at hn
    rw [itoa_neg k (by omega)]
    obtain ⟨c, r, e, h1, h2⟩ := decP_head 25 (k + 1) (by omega) (by omega)
    have hall := decP_dg 25 (k + 1)
    have hval := decP_val 25 (k + 1) (by omega)
    have hd : digsOf (45 :: decP 25 (k + 1)) = decP 25 (k + 1) := by unfold digsOf; rfl
    refine ⟨⟨by simp, ?_, by simp⟩, ?_, ?_⟩
    · intro d hd
      rcases List.mem_cons.1 hd with q | q
      · subst q; rfl
      · exact dg_notBl (List.all_eq_true.1 hall d q)
    · unfold wfN; rw [hd, hall, e]; simp; omega
    · unfold sval; rw [if_pos (show (45 :: decP 25 (k + 1)).head? = some 45 from rfl)]; simp only [List.tail_cons, hval]; omega
theorem numR_itoa {n lo hi : Int} (hn : n.natAbs < 10 ^ 24) : numR (itoaN n) lo hi = if lo ≤ n ∧ n ≤ hi then (n, 0) else (0, 10) := by
  obtain ⟨_, h2, h3⟩ := itoa_facts hn
  unfold numR; rw [h2, h3]; simp
/-! ### A word that is a number is the number's own text -/
theorem snoc_of {l : List Nat} (h : l ≠ []) : ∃ r d, l = r ++ [d] := ⟨l.dropLast, l.getLast h, (List.dropLast_concat_getLast h).symm⟩
theorem digV_ge : ∀ (n : Nat) (l : List Nat), l.length = n + 1 → (∀ d, d ∈ l → isDg d = true) → l.head? ≠ some 48 → 10 ^ n ≤ digV l
  | 0, l, hl, hd, hh => by
    match l, hl with
    | [d], _ =>
      have := hd d (by simp)
      simp [isDg] at this
      simp at hh
      simp [digV]; omega
  | n + 1, l, hl, hd, hh => by
    obtain ⟨r, d, rfl⟩ := snoc_of (l := l) (by intro q; subst q; simp at hl)
    have hr : r.length = n + 1 := by simpa using hl
    have ih := digV_ge n r hr (fun x hx => hd x (by simp [hx])) (by
      intro q; apply hh
      cases r with
      | nil => simp at hr
      | cons a r => simpa using q)
    rw [digV_snoc, Nat.pow_succ]; omega
end Go.AI

/- A mesh, its text, and what reading it gives: plain. No claim by itself. -/
namespace Go.AI
/-- What a word comes to: a number, and what is wrong. -/
abbrev Wc := List Nat → Int × Int
def wordAt (en : Nat) (ts : List Tok) : Tok := ts.head?.getD (en, [])
def rdC (en : Nat) : List Wc → List Tok → Except (Nat × Int) (List Int × List Tok)
  | [], ts => .ok ([], ts)
  | c :: cs, ts => if (c (wordAt en ts).2).2 = 0 then (match rdC en cs ts.tail with | .ok (xs, r) => .ok ((c (wordAt en ts).2).1 :: xs, r) | .error e => .error e) else .error ((wordAt en ts).1, (c (wordAt en ts).2).2)
def vS : List Nat := [118]
def fS : List Nat := [102]
def coordW : Wc := fun w => numR w (-4294967296) 4294967296
def zeroW : Wc := fun w => if w = [48] then (0, 0) else (0, 11)
def denW (P : List (Int × Int)) (W : Int) : Wc := fun w => if (numR w 1 1048576).2 = 0 ∧ P ≠ [] ∧ (numR w 1 1048576).1 ≠ W then (0, 11) else numR w 1 1048576
def idxW (n : Nat) : Wc := fun w => numR w 1 n
abbrev Ob := List (Int × Int) × Int × List (List Int)
/-- The edges of a face, round it. -/
def edgesF (f : List Int) : List (Int × Int) := f.zip (f.tail ++ f.take 1)
def fitP (p : Int × Int) : Prop := (-4294967296 ≤ p.1 ∧ p.1 ≤ 4294967296) ∧ (-4294967296 ≤ p.2 ∧ p.2 ≤ 4294967296)
structure FacesOk (n : Nat) (F : List (List Int)) : Prop where
  le : n ≤ 1048576
  fs : ∀ f, f ∈ F → 3 ≤ f.length ∧ f.Nodup ∧ ∀ k, k ∈ f → 0 ≤ k ∧ k < n
  es : (F.flatMap edgesF).Nodup
structure ValidO (P : List (Int × Int)) (W : Int) (F : List (List Int)) : Prop where
  ne : F ≠ []
  w0 : 1 ≤ W
  w1 : W ≤ 1048576
  ps : ∀ p, p ∈ P → fitP p
  fo : FacesOk P.length F
  f4 : ∀ f, f ∈ F → f.length ≤ 4
  pd : P.Nodup
  us : ∀ i : Nat, i < P.length → ∃ f, f ∈ F ∧ (i : Int) ∈ f
open Classical in
noncomputable def chkO (P : List (Int × Int)) (W : Int) (F : List (List Int)) : Int := if ValidO P W F then 0 else 2
def nilO : Ob := ([], 0, [])
open Classical in
noncomputable def finO (P : List (Int × Int)) (W : Int) (F : List (List Int)) : Ob × Int × Int := if ValidO P W F then ((P, W, F), 0, 0) else (nilO, 0, 2)
def dec1 (l : List Int) : List Int := l.map (· - 1)
noncomputable def readO (en : Nat) : Nat → List (Int × Int) → Int → List (List Int) → List Tok → Ob × Int × Int
  | 0, P, W, F, _ => finO P W F
  | _ + 1, P, W, F, [] => finO P W F
  | f + 1, P, W, F, t :: r =>
    if t.2 = vS ∧ F = [] then
      match rdC en [coordW, coordW, zeroW, denW P W] r with
      | .ok (xs, r') => readO en f (P ++ [(xs[0]?.getD 0, xs[1]?.getD 0)]) (xs[3]?.getD 0) F r'
      | .error e => (nilO, e.1, e.2)
    else if t.2 = fS then
      match rdC en [idxW P.length, idxW P.length, idxW P.length] r with
      | .ok (xs, r') =>
        if (idxW P.length (wordAt en r').2).2 = 11 then readO en f P W (F ++ [dec1 xs]) r'
        else if (idxW P.length (wordAt en r').2).2 = 0 then readO en f P W (F ++ [dec1 xs ++ [(idxW P.length (wordAt en r').2).1 - 1]]) r'.tail
        else (nilO, (wordAt en r').1, (idxW P.length (wordAt en r').2).2)
      | .error e => (nilO, e.1, e.2)
    else (nilO, t.1, 11)
/-- A row's words, each with a blank behind it, the last with the end of the line. -/
def joinQ : List (List Nat) → List Wd
  | [] => []
  | [w] => [(w, [10])]
  | w :: ws => (w, [32]) :: joinQ ws
theorem joinQ_txt : ∀ ws : List (List Nat), (joinQ ws).map (·.1) = ws
  | [] => rfl
  | [w] => rfl
  | w :: x :: ws => by simp [joinQ, joinQ_txt (x :: ws)]
theorem joinQ_sep : ∀ (ws : List (List Nat)) (q : Wd), q ∈ joinQ ws → q.1 ∈ ws ∧ sepOk q.2 ∧ q.2.length = 1
  | [], q, h => by simp [joinQ] at h
  | [w], q, h => by simp [joinQ] at h; subst h; exact ⟨by simp, sep_nl, rfl⟩
  | w :: x :: ws, q, h => by
    simp only [joinQ] at h
    rcases List.mem_cons.1 h with r | r
    · subst r; exact ⟨by simp, sep_sp, rfl⟩
    · have := joinQ_sep (x :: ws) q r; exact ⟨List.mem_cons_of_mem _ this.1, this.2⟩
def placeT (W : Int) (p : Int × Int) : List (List Nat) := [vS, itoaN p.1, itoaN p.2, [48], itoaN W]
def faceT (f : List Int) : List (List Nat) := fS :: f.map fun i => itoaN (i + 1)
def txtO (P : List (Int × Int)) (W : Int) (F : List (List Int)) : List (List Nat) := P.flatMap (placeT W) ++ F.flatMap faceT
def wordsO (P : List (Int × Int)) (W : Int) (F : List (List Int)) : List Wd := P.flatMap (fun p => joinQ (placeT W p)) ++ F.flatMap fun f => joinQ (faceT f)
def textO (P : List (Int × Int)) (W : Int) (F : List (List Int)) : List Nat := rend (wordsO P W F)
theorem wordsO_txt (P : List (Int × Int)) (W : Int) (F : List (List Int)) : (wordsO P W F).map (·.1) = txtO P W F := by
  simp [wordsO, txtO, List.map_flatMap, joinQ_txt]
/-! ### Reading rows -/
theorem rdC_ok (en : Nat) : ∀ (cs : List Wc) (ws : List (List Nat)) (xs : List Int) (ts : List Tok) (rest : List (List Nat)), ts.map (·.2) = ws ++ rest → ws.length = cs.length → xs.length = cs.length →
    (∀ (i : Nat) (c : Wc) (w : List Nat) (x : Int), cs[i]? = some c → ws[i]? = some w → xs[i]? = some x → c w = (x, 0)) → rdC en cs ts = .ok (xs, ts.drop cs.length)
  | [], [], [], ts, rest, _, _, _, _ => by simp [rdC]
  | c :: cs, w :: ws, x :: xs, ts, rest, h, hw, hx, hc => by
    cases ts with
    | nil => simp at h
    | cons t ts =>
      simp only [List.map_cons, List.cons_append, List.cons.injEq] at h
      have h0 := hc 0 c w x rfl rfl rfl
      have ih := rdC_ok en cs ws xs ts rest h.2 (by simpa using hw) (by simpa using hx) (fun i c w x a b d => hc (i + 1) c w x a b d)
      unfold rdC wordAt
      simp only [List.head?_cons, Option.getD_some, h.1, h0, List.tail_cons, ih, if_true]
      simp
  | c :: cs, [], xs, ts, rest, _, hw, _, _ => by simp at hw
  | c :: cs, w :: ws, [], ts, rest, _, _, hx, _ => by simp at hx
  | [], w :: ws, xs, ts, rest, _, hw, _, _ => by simp at hw
  | [], [], x :: xs, ts, rest, _, _, hx, _ => by simp at hx
theorem coord_itoa {n : Int} (h : -4294967296 ≤ n ∧ n ≤ 4294967296) : coordW (itoaN n) = (n, 0) := by
  have e : (10 : Nat) ^ 24 = 1000000000000000000000000 := by decide
  unfold coordW; rw [numR_itoa (by omega), if_pos h]
theorem den_itoa {P : List (Int × Int)} {W0 W : Int} (h : 1 ≤ W ∧ W ≤ 1048576) (k : P = [] ∨ W0 = W) : denW P W0 (itoaN W) = (W, 0) := by
  have e : (10 : Nat) ^ 24 = 1000000000000000000000000 := by decide
  unfold denW
  rw [numR_itoa (by omega), if_pos h, if_neg]
  rintro ⟨_, b, c⟩
  rcases k with k | k
  · exact b k
  · exact c k.symm
theorem idx_itoa {n : Nat} {k : Int} (h : 0 ≤ k ∧ k < n) (hn : n ≤ 1048576) : idxW n (itoaN (k + 1)) = (k + 1, 0) := by
  have e : (10 : Nat) ^ 24 = 1000000000000000000000000 := by decide
  unfold idxW; rw [numR_itoa (by omega), if_pos (by omega)]
/-- The rows of places. -/
theorem readO_places (en : Nat) {W : Int} (hW : 1 ≤ W ∧ W ≤ 1048576) : ∀ (P1 P0 : List (Int × Int)) (W0 : Int) (ts : List Tok) (rest : List (List Nat)) (f : Nat), (∀ p, p ∈ P1 → fitP p) → (P0 = [] ∨ W0 = W) →
    ts.map (·.2) = P1.flatMap (placeT W) ++ rest → readO en (P1.length + f) P0 W0 [] ts = readO en f (P0 ++ P1) (if P1 = [] then W0 else W) [] (ts.drop (5 * P1.length))
  | [], P0, W0, ts, rest, f, _, _, _ => by simp
  | p :: P1, P0, W0, ts, rest, f, hp, h0, h => by
    cases ts with
    | nil => simp [placeT] at h
    | cons t ts =>
      have hv : t.2 = vS := by simp [placeT] at h; exact h.1
      have h4 : ts.map (·.2) = [itoaN p.1, itoaN p.2, [48], itoaN W] ++ (P1.flatMap (placeT W) ++ rest) := by
        simp [placeT] at h; simpa using h.2
      have hfit := hp p (by simp)
      have hr := rdC_ok en [coordW, coordW, zeroW, denW P0 W0] [itoaN p.1, itoaN p.2, [48], itoaN W] [p.1, p.2, 0, W] ts _ h4 rfl rfl (by
        intro i c w x a b d
        match i with
        | 0 => simp at a b d; subst a b d; exact coord_itoa hfit.1
        | 1 => simp at a b d; subst a b d; exact coord_itoa hfit.2
        | 2 => simp at a b d; subst a b d; rfl
        | 3 => simp at a b d; subst a b d; exact den_itoa hW h0
        | i + 4 => simp at a)
      have h5 : (ts.drop 4).map (·.2) = P1.flatMap (placeT W) ++ rest := by rw [List.map_drop, h4]; rfl
      have ih := readO_places en hW P1 (P0 ++ [p]) W (ts.drop 4) rest f (fun q hq => hp q (by simp [hq])) (.inr rfl) h5
      have e1 : (p :: P1).length + f = P1.length + f + 1 := by simp; omega
      rw [e1]
      conv => lhs; unfold readO
      rw [if_pos ⟨hv, rfl⟩, hr]
      simp only [List.getElem?_cons_zero, List.getElem?_cons_succ, Option.getD_some, List.length_cons, List.length_nil]
      rw [ih]
      have e2 : (if P1 = [] then W else W) = W := by split <;> rfl
      rw [e2]
      simp only [List.append_assoc, List.singleton_append, List.drop_drop]
      rw [if_neg (by simp)]
      congr 1
      rw [show 5 * (P1.length + 1) = (4 + 5 * P1.length) + 1 from by omega, List.drop_succ_cons]
theorem idx_stop {n : Nat} {w : List Nat} (h : wfN w = false) : (idxW n w).2 = 11 := by unfold idxW numR; rw [h]; rfl
theorem len34 {g : List Int} (h3 : 3 ≤ g.length) (h4 : g.length ≤ 4) : (∃ a b c, g = [a, b, c]) ∨ ∃ a b c d, g = [a, b, c, d] := by
  match g, h3, h4 with
  | [a, b, c], _, _ => exact .inl ⟨a, b, c, rfl⟩
  | [a, b, c, d], _, _ => exact .inr ⟨a, b, c, d, rfl⟩
  | a :: b :: c :: d :: e :: g, _, h => simp at h
/-- The rows of faces. -/
theorem readO_faces (en : Nat) {P : List (Int × Int)} {W : Int} (hn : P.length ≤ 1048576) : ∀ (F1 F0 : List (List Int)) (ts : List Tok) (rest : List (List Nat)) (f : Nat), (∀ g, g ∈ F1 → 3 ≤ g.length ∧ g.length ≤ 4 ∧ ∀ k, k ∈ g → 0 ≤ k ∧ k < P.length) →
    ts.map (·.2) = F1.flatMap faceT ++ rest → (∀ t, (ts.drop (F1.flatMap faceT).length).head? = some t → wfN t.2 = false) → readO en (F1.length + f) P W F0 ts = readO en f P W (F0 ++ F1) (ts.drop (F1.flatMap faceT).length)
  | [], F0, ts, rest, f, _, _, _ => by simp
  | g :: F1, F0, ts, rest, f, hg, h, hs => by
    cases ts with
    | nil => simp [faceT] at h
    | cons t ts =>
      obtain ⟨g3, g4, gk⟩ := hg g (by simp)
      have hv : t.2 = fS := by simp [faceT] at h; exact h.1
      have hvn : ¬ (t.2 = vS ∧ F0 = []) := by rw [hv]; rintro ⟨q, _⟩; exact absurd q (by decide)
      have h4 : ts.map (·.2) = g.map (fun i => itoaN (i + 1)) ++ (F1.flatMap faceT ++ rest) := by
        simp [faceT] at h; simpa using h.2
      have e1 : (g :: F1).length + f = F1.length + f + 1 := by simp; omega
      have hdl : ((g :: F1).flatMap faceT).length = (g.length + (F1.flatMap faceT).length) + 1 := by simp [faceT]
      rw [hdl, List.drop_succ_cons] at hs ⊢
      have ih := readO_faces en (W := W) hn F1 (F0 ++ [g]) (ts.drop g.length) rest f (fun q hq => hg q (by simp [hq])) (by rw [List.map_drop, h4]; simp) (by rw [List.drop_drop]; exact hs)
      rw [List.drop_drop, List.append_assoc, List.singleton_append] at ih
      rw [e1]
      conv => lhs; unfold readO
      rw [if_neg hvn, if_pos hv]
      rcases len34 g3 g4 with ⟨a, b, c, rfl⟩ | ⟨a, b, c, d, rfl⟩
      · have hr := rdC_ok en [idxW P.length, idxW P.length, idxW P.length] [itoaN (a + 1), itoaN (b + 1), itoaN (c + 1)] [a + 1, b + 1, c + 1] ts _ h4 rfl rfl (by
          intro i x w y q1 q2 q3
          match i with
          | 0 => simp at q1 q2 q3; subst q1 q2 q3; exact idx_itoa (gk a (by simp)) hn
          | 1 => simp at q1 q2 q3; subst q1 q2 q3; exact idx_itoa (gk b (by simp)) hn
          | 2 => simp at q1 q2 q3; subst q1 q2 q3; exact idx_itoa (gk c (by simp)) hn
          | i + 3 => simp at q1)
        rw [hr]
        simp only [List.length_cons, List.length_nil]
        have hst : (idxW P.length (wordAt en (ts.drop 3)).2).2 = 11 := by
          apply idx_stop
          have h3 : (ts.drop 3).map (·.2) = F1.flatMap faceT ++ rest := by rw [List.map_drop, h4]; rfl
          unfold wordAt
          cases hd : ts.drop 3 with
          | nil => rfl
          | cons u us =>
            simp only [List.head?_cons, Option.getD_some]
            cases F1 with
            | nil => exact hs u (by simp [hd])
            | cons g1 F1 =>
              rw [hd] at h3
              simp [faceT] at h3
              rw [h3.1]; rfl
        rw [if_pos hst]
        have hd1 : dec1 [a + 1, b + 1, c + 1] = [a, b, c] := by simp [dec1]
        rw [hd1]
        exact ih
      · have hr := rdC_ok en [idxW P.length, idxW P.length, idxW P.length] [itoaN (a + 1), itoaN (b + 1), itoaN (c + 1)] [a + 1, b + 1, c + 1] ts (itoaN (d + 1) :: (F1.flatMap faceT ++ rest)) h4 rfl rfl (by
          intro i x w y q1 q2 q3
          match i with
          | 0 => simp at q1 q2 q3; subst q1 q2 q3; exact idx_itoa (gk a (by simp)) hn
          | 1 => simp at q1 q2 q3; subst q1 q2 q3; exact idx_itoa (gk b (by simp)) hn
          | 2 => simp at q1 q2 q3; subst q1 q2 q3; exact idx_itoa (gk c (by simp)) hn
          | i + 3 => simp at q1)
        rw [hr]
        simp only [List.length_cons, List.length_nil]
        have hwd : idxW P.length (wordAt en (ts.drop 3)).2 = (d + 1, 0) := by
          have h3 : (ts.drop 3).map (·.2) = itoaN (d + 1) :: (F1.flatMap faceT ++ rest) := by rw [List.map_drop, h4]; rfl
          unfold wordAt
          cases hd : ts.drop 3 with
          | nil => rw [hd] at h3; simp at h3
          | cons u us =>
            rw [hd] at h3
            simp only [List.map_cons, List.cons.injEq] at h3
            simp only [List.head?_cons, Option.getD_some, h3.1]
            exact idx_itoa (gk d (by simp)) hn
        rw [hwd, if_neg (by simp), if_pos rfl]
        have hd1 : dec1 [a + 1, b + 1, c + 1] ++ [d + 1 - 1] = [a, b, c, d] := by simp [dec1]
        rw [List.tail_drop, hd1]
        exact ih
theorem rdC_len (en : Nat) : ∀ (cs : List Wc) (ts : List Tok) (xs : List Int) (r : List Tok), rdC en cs ts = .ok (xs, r) → r.length ≤ ts.length ∧ xs.length = cs.length
  | [], ts, xs, r, h => by simp [rdC] at h; obtain ⟨rfl, rfl⟩ := h; simp
  | c :: cs, ts, xs, r, h => by
    unfold rdC at h
    split at h
    · cases hq : rdC en cs ts.tail with
      | error e => rw [hq] at h; cases h
      | ok p =>
        obtain ⟨ys, r'⟩ := p
        rw [hq] at h
        simp only [Except.ok.injEq, Prod.mk.injEq] at h
        obtain ⟨rfl, rfl⟩ := h
        have := rdC_len en cs ts.tail ys r' hq
        have hl : ts.tail.length ≤ ts.length := by simp
        exact ⟨by omega, by simp [this.2]⟩
    · cases h
theorem readO_fuel (en : Nat) : ∀ (f f' : Nat) (P : List (Int × Int)) (W : Int) (F : List (List Int)) (ts : List Tok), ts.length ≤ f → ts.length ≤ f' → readO en f P W F ts = readO en f' P W F ts
  | f, f', P, W, F, [], _, _ => by cases f <;> cases f' <;> rfl
  | 0, f', P, W, F, t :: ts, h, _ => by simp at h
  | f + 1, 0, P, W, F, t :: ts, _, h => by simp at h
  | f + 1, f' + 1, P, W, F, t :: ts, h, h' => by
    have h1 : ts.length ≤ f := by simpa using h
    have h2 : ts.length ≤ f' := by simpa using h'
    unfold readO
    by_cases c1 : t.2 = vS ∧ F = []
    · rw [if_pos c1, if_pos c1]
      cases hq : rdC en [coordW, coordW, zeroW, denW P W] ts with
      | error e => rfl
      | ok p =>
        have := (rdC_len en _ _ p.1 p.2 hq).1
        exact readO_fuel en f f' _ _ _ _ (by omega) (by omega)
    · rw [if_neg c1, if_neg c1]
      by_cases c2 : t.2 = fS
      · rw [if_pos c2, if_pos c2]
        cases hq : rdC en [idxW P.length, idxW P.length, idxW P.length] ts with
        | error e => rfl
        | ok p =>
          have := (rdC_len en _ _ p.1 p.2 hq).1
          have ht : p.2.tail.length ≤ p.2.length := by simp
          simp only
          split
          · exact readO_fuel en f f' _ _ _ _ (by omega) (by omega)
          · split
            · exact readO_fuel en f f' _ _ _ _ (by omega) (by omega)
            · rfl
      · rw [if_neg c2, if_neg c2]
/-- What reading bytes gives. -/
noncomputable def parO (s : List Nat) : Ob × Int × Int := if 1048576 < s.length then (nilO, 0, 3) else readO s.length (wordsN s).length [] 0 [] (wordsN s)
theorem finO_ok {P : List (Int × Int)} {W : Int} {F : List (List Int)} (h : ValidO P W F) : finO P W F = ((P, W, F), 0, 0) := by unfold finO; rw [if_pos h]
theorem chkO_ok {P : List (Int × Int)} {W : Int} {F : List (List Int)} (h : ValidO P W F) : chkO P W F = 0 := by unfold chkO; rw [if_pos h]
theorem chkO_no {P : List (Int × Int)} {W : Int} {F : List (List Int)} (h : ¬ ValidO P W F) : chkO P W F = 2 := by unfold chkO; rw [if_neg h]
theorem txtO_len (P : List (Int × Int)) (W : Int) (F : List (List Int)) : 5 * P.length + F.length ≤ (txtO P W F).length := by
  have h1 : (P.flatMap (placeT W)).length = 5 * P.length := by
    induction P with
    | nil => rfl
    | cons p P ih => simp only [List.flatMap_cons, List.length_append, ih]; simp [placeT]; omega
  have h2 : F.length ≤ (F.flatMap faceT).length := by
    induction F with
    | nil => simp
    | cons f F ih => simp only [List.flatMap_cons, List.length_append, List.length_cons]; simp only [faceT, List.length_cons]; omega
  unfold txtO
  rw [List.length_append]; omega
theorem ValidO.pne {P : List (Int × Int)} {W : Int} {F : List (List Int)} (h : ValidO P W F) : P ≠ [] := by
  intro q
  subst q
  obtain ⟨f, hf⟩ := List.exists_mem_of_ne_nil F h.ne
  obtain ⟨a, _, c⟩ := h.fo.fs f hf
  obtain ⟨k, hk⟩ := List.exists_mem_of_ne_nil f (by intro q; subst q; simp at a)
  have := c k hk
  simp at this; omega
end Go.AI

/- What is read is the mesh of its words; words that are wrong: plain. No claim by itself. -/
namespace Go.AI
theorem int_three {l : List Int} (h : l.length = 3) : ∃ a b c, l = [a, b, c] := by
  match l, h with
  | [a, b, c], _ => exact ⟨a, b, c, rfl⟩
theorem rdC_err {en : Nat} : ∀ {cs : List Wc} {ts : List Tok} {e : Nat × Int}, rdC en cs ts = .error e → e.2 ≠ 0
  | [], ts, e, h => by simp [rdC] at h
  | c :: cs, ts, e, h => by
    unfold rdC at h
    split at h
    · cases hq : rdC en cs ts.tail with
      | ok p => rw [hq] at h; cases h
      | error e' => rw [hq] at h; cases h; exact rdC_err hq
    · rename_i h0; cases h; exact h0
end Go.AI

/- Sorting by merging; whether a place stands twice: plain. No claim by itself. -/
namespace Go.AI
def lessP (a b : Int × Int) : Bool := decide (a.1 < b.1) || (decide (a.1 = b.1) && decide (a.2 < b.2))
def leP (a b : Int × Int) : Bool := !lessP b a
theorem leP_iff {a b : Int × Int} : leP a b = true ↔ a.1 < b.1 ∨ (a.1 = b.1 ∧ a.2 ≤ b.2) := by
  unfold leP lessP; simp only [Bool.not_eq_true', Bool.or_eq_false_iff, Bool.and_eq_false_iff, decide_eq_false_iff_not]; omega
theorem leP_trans (a b c : Int × Int) (h : leP a b = true) (k : leP b c = true) : leP a c = true := by rw [leP_iff] at *; omega
theorem leP_total (a b : Int × Int) : (leP a b || leP b a) = true := by rw [Bool.or_eq_true, leP_iff, leP_iff]; omega
theorem leP_anti {a b : Int × Int} (h : leP a b = true) (k : leP b a = true) : a = b := by
  rw [leP_iff] at *; exact Prod.ext (by omega) (by omega)
def ptAt (P : List (Int × Int)) (i : Int) : Int × Int := P[i.toNat]?.getD (0, 0)
def leI (P : List (Int × Int)) (a b : Int) : Bool := leP (ptAt P a) (ptAt P b)
def sortI (P : List (Int × Int)) : Nat → List Int → List Int
  | 0, l => l
  | f + 1, l => if l.length < 2 then l else List.merge (sortI P f (l.take (l.length / 2))) (sortI P f (l.drop (l.length / 2))) (leI P)
theorem sortI_perm (P : List (Int × Int)) : ∀ (f : Nat) (l : List Int), (sortI P f l).Perm l
  | 0, l => by simp [sortI]
  | f + 1, l => by
    unfold sortI; split
    · exact List.Perm.refl _
    · refine (List.merge_perm_append (leI P)).trans ?_
      have := (sortI_perm P f (l.take (l.length / 2))).append (sortI_perm P f (l.drop (l.length / 2)))
      rwa [List.take_append_drop] at this
theorem sortI_sorted (P : List (Int × Int)) : ∀ (f : Nat) (l : List Int), l.length ≤ f → (sortI P f l).Pairwise (fun a b => leI P a b = true)
  | 0, l, h => by
    have : l = [] := List.length_eq_zero_iff.1 (by omega)
    subst this; simp [sortI]
  | f + 1, l, h => by
    unfold sortI; split
    · match l with
      | [] => simp
      | [a] => simp
      | a :: b :: r => simp at *; omega
    · refine List.pairwise_merge (le := leI P) (fun a b c => leP_trans _ _ _) (fun a b => leP_total _ _) _ _ (sortI_sorted P f _ ?_) (sortI_sorted P f _ ?_)
      · simp; omega
      · simp; omega
def idxs (n : Nat) : List Int := (List.range n).map Int.ofNat
/-- The numbers of places, in the places' order. -/
def ordI (P : List (Int × Int)) : List Int := sortI P P.length (idxs P.length)
theorem ordI_perm (P : List (Int × Int)) : (ordI P).Perm (idxs P.length) := sortI_perm _ _ _
theorem ordI_mem {P : List (Int × Int)} {i : Int} (h : i ∈ ordI P) : 0 ≤ i ∧ i < P.length := by
  have := (ordI_perm P).mem_iff.1 h
  simp [idxs] at this
  obtain ⟨a, ha, rfl⟩ := this; omega
theorem ordI_len (P : List (Int × Int)) : (ordI P).length = P.length := by rw [(ordI_perm P).length_eq]; simp [idxs]
theorem map_pt (P : List (Int × Int)) : (idxs P.length).map (ptAt P) = P := by
  apply List.ext_getElem
  · simp [idxs]
  · intro i h1 h2
    simp [idxs, ptAt, List.getElem?_eq_getElem h2]
theorem ordI_map (P : List (Int × Int)) : ((ordI P).map (ptAt P)).Perm P := by
  have := (ordI_perm P).map (ptAt P); rwa [map_pt] at this
theorem ordI_sorted (P : List (Int × Int)) : ((ordI P).map (ptAt P)).Pairwise (fun a b => leP a b = true) := by
  rw [List.pairwise_map]; exact sortI_sorted P _ _ (by simp [idxs])
theorem sorted_nodup : ∀ (Q : List (Int × Int)), Q.Pairwise (fun a b => leP a b = true) → (∀ i : Nat, i + 1 < Q.length → Q[i]? ≠ Q[i + 1]?) → Q.Nodup
  | [], _, _ => by simp
  | [a], _, _ => by simp
  | a :: b :: r, h, k => by
    have h2 := List.pairwise_cons.1 h
    have ih := sorted_nodup (b :: r) h2.2 (fun i hi => by have := k (i + 1) (by simp at hi ⊢; omega); simpa using this)
    have hab : a ≠ b := fun q => by have := k 0 (by simp); simp [q] at this
    refine List.nodup_cons.2 ⟨fun hm => ?_, ih⟩
    rcases List.mem_cons.1 hm with q | q
    · exact hab q
    · have h3 := (List.pairwise_cons.1 h2.2).1 a q
      exact hab (leP_anti (h2.1 b (by simp)) h3)
/-- Two neighbours in order are alike, just if a place stands twice. -/
theorem adj_iff (P : List (Int × Int)) : (∃ i : Nat, i + 1 < P.length ∧ ((ordI P).map (ptAt P))[i]? = ((ordI P).map (ptAt P))[i + 1]?) ↔ ¬ P.Nodup := by
  have hl : ((ordI P).map (ptAt P)).length = P.length := by simp [ordI_len]
  rw [← (ordI_map P).nodup_iff]
  constructor
  · rintro ⟨i, hi, h⟩ hn
    rw [List.getElem?_eq_getElem (by omega), List.getElem?_eq_getElem (by omega), Option.some.injEq] at h
    have := List.pairwise_iff_getElem.1 hn i (i + 1) (by omega) (by omega) (by omega)
    exact this h
  · intro hn
    refine Classical.byContradiction fun hc => hn (sorted_nodup _ (ordI_sorted P) fun i hi hq => hc ⟨i, by omega, hq⟩)
end Go.AI

/- Rows that read whole, and their parts. No claim by itself. -/
namespace Go.AI
section
variable {α : Type} {e : Nat} {enc : α → List AV} {H H' : Heap} {v : AV} {xs : List α}
theorem flat_drop (hn : ∀ x, (enc x).length = e) : ∀ (xs : List α) (k : Nat), (xs.flatMap enc).drop (k * e) = (xs.drop k).flatMap enc
  | xs, 0 => by simp
  | [], k + 1 => by simp
  | x :: xs, k + 1 => by
    have h := hn x
    rw [List.flatMap_cons, List.drop_succ_cons, ← flat_drop hn xs k, List.drop_append, List.drop_of_length_le (by rw [h, Nat.add_mul]; omega), List.nil_append]
    congr 1; rw [h, Nat.add_mul]; omega
theorem flat_take (hn : ∀ x, (enc x).length = e) : ∀ (xs : List α) (k : Nat), (xs.flatMap enc).take (k * e) = (xs.take k).flatMap enc
  | xs, 0 => by simp
  | [], k + 1 => by simp
  | x :: xs, k + 1 => by
    have h := hn x
    rw [List.flatMap_cons, List.take_succ_cons, List.flatMap_cons, ← flat_take hn xs k, List.take_append, List.take_of_length_le (by rw [h, Nat.add_mul]; omega)]
    congr 2; rw [h, Nat.add_mul]; omega
/-- A slice that reads whole, whose capacity is no less than its length. -/
structure Rw (e : Nat) (enc : α → List AV) (H : Heap) (v : AV) (xs : List α) : Prop where
  sw : Sw e enc H v xs
  cap : capOk v = true
theorem Sw.slw (hn : ∀ x, (enc x).length = e) (h : Sw e enc H v xs) : Sl e enc H v xs := by
  rcases h with h | ⟨o, off, lo, ex, rfl, h⟩
  · exact .inl h
  · unfold Heap.readSeg at h
    cases hc : H.cellsAt o with
    | none => rw [hc] at h; cases h
    | some cs =>
      rw [hc] at h
      have h : seg cs off (xs.length * e) = some (xs.flatMap enc) := h
      refine .inr ⟨o, off, lo, ex, cs, rfl, hc, fun i x hx => ?_⟩
      have hi : i < xs.length := (List.getElem?_eq_some_iff.1 hx).1
      have h1 : (i + 1) * e ≤ xs.length * e := Nat.mul_le_mul_right e hi
      rw [Nat.add_mul] at h1
      rw [seg_cut h (f := i * e) (m := e) (by omega), flat_drop hn]
      have h2 : xs.drop i = x :: xs.drop (i + 1) := drop_get hx
      rw [h2, List.flatMap_cons, List.take_append_of_le_length (by rw [hn]; exact Nat.le_refl _), List.take_of_length_le (by rw [hn]; exact Nat.le_refl _)]
theorem Rw.sl (hn : ∀ x, (enc x).length = e) (h : Rw e enc H v xs) : Sl e enc H v xs := h.sw.slw hn
theorem Sw.exte (h : Sw e enc H v xs) (k : Ext H H') : Sw e enc H' v xs := by
  rcases h with h | ⟨o, off, lo, ex, rfl, h⟩
  · exact .inl h
  · refine .inr ⟨o, off, lo, ex, rfl, ?_⟩
    unfold Heap.readSeg at h ⊢
    cases hc : H.cellsAt o with
    | none => rw [hc] at h; cases h
    | some cs => rw [k.cells hc]; rw [hc] at h; exact h
theorem Sw.frS {S : List Nat} (h : Sw e enc H v xs) (k : Fr S H H') (hn : ∀ o, rowObj v = some o → o ∉ S) : Sw e enc H' v xs := by
  rcases h with h | ⟨o, off, lo, ex, rfl, h⟩
  · exact .inl h
  · refine .inr ⟨o, off, lo, ex, rfl, ?_⟩
    unfold Heap.readSeg at h ⊢
    cases hc : H.cellsAt o with
    | none => rw [hc] at h; cases h
    | some cs => rw [cellsAt_get (k.keep _ _ (hn _ rfl) (get_cellsAt hc))]; rw [hc] at h; exact h
theorem Rw.ext (h : Rw e enc H v xs) (k : Ext H H') : Rw e enc H' v xs := ⟨h.sw.exte k, h.cap⟩
theorem Rw.fr {S : List Nat} (h : Rw e enc H v xs) (k : Fr S H H') (hn : ∀ o, rowObj v = some o → o ∉ S) : Rw e enc H' v xs := ⟨h.sw.frS k hn, h.cap⟩
theorem Rw.len (h : Rw e enc H v xs) : lenA v = some (.int .i64 xs.length) := by
  rcases h.sw with ⟨rfl, rfl⟩ | ⟨o, off, lo, ex, rfl, _⟩ <;> rfl
theorem Rw.one (h : Rw e enc H v xs) : v.one = true ∧ v.cells = [v] := by
  rcases h.sw with ⟨rfl, _⟩ | ⟨o, off, lo, ex, rfl, _⟩ <;> exact ⟨rfl, rfl⟩
theorem Rw.rowLt (hn : ∀ x, (enc x).length = e) (h : Rw e enc H v xs) (hw : H.Wf) {o : Nat} (ho : rowObj v = some o) : o < H.next := (h.sl hn).rowLt hw ho
theorem Ow.rw (hn : ∀ x, (enc x).length = e) (h : Ow e enc H v xs) : Rw e enc H v xs := ⟨h.sw hn, by
  rcases h with ⟨rfl, _⟩ | ⟨o, rfl, _⟩
  · rfl
  · simp [capOk]⟩
theorem Rw.take (hn : ∀ x, (enc x).length = e) (h : Rw e enc H v xs) {k : Nat} (hk : k ≤ xs.length) :
    ∃ v', sliceA e v none (some (.int .i64 k)) none = some v' ∧ Rw e enc H v' (xs.take k) ∧ rowObj v' = rowObj v := by
  obtain ⟨h, hc⟩ := h
  rcases h with ⟨rfl, rfl⟩ | ⟨o, off, lo, ex, rfl, h⟩
  · have : k = 0 := by simpa using hk
    subst this
    exact ⟨.nils, rfl, ⟨.inl ⟨rfl, rfl⟩, rfl⟩, rfl⟩
  · have hlo : xs.length ≤ lo := by simpa [capOk] using hc
    have b1 : (0 : Int) ≤ (k : Int) ∧ (k : Int) ≤ (lo : Int) := by omega
    have hl : (xs.take k).length = k := by rw [List.length_take]; omega
    refine ⟨.slc o off k e lo ex, ?_, ⟨.inr ⟨o, off, lo, ex, by rw [hl], ?_⟩, by simp [capOk]; omega⟩, rfl⟩
    · simp only [sliceA, Nat.beq_refl, cond_true, boundsA, boundA, if_pos b1, Option.map_some, Int.toNat_natCast, Nat.zero_mul, Nat.add_zero, Nat.sub_zero]
    · unfold Heap.readSeg at h ⊢
      cases hc : H.cellsAt o with
      | none => rw [hc] at h; cases h
      | some cs =>
        rw [hc] at h
        have h : seg cs off (xs.length * e) = some (xs.flatMap enc) := h
        have hm : k * e ≤ xs.length * e := Nat.mul_le_mul_right e hk
        have := seg_cut h (f := 0) (m := k * e) (by omega)
        rw [hl]
        show seg cs off (k * e) = _
        rw [Nat.add_zero, List.drop_zero, flat_take hn] at this
        exact this
theorem Rw.drop (hn : ∀ x, (enc x).length = e) (h : Rw e enc H v xs) {k : Nat} (hk : k ≤ xs.length) :
    ∃ v', sliceA e v (some (.int .i64 k)) none none = some v' ∧ Rw e enc H v' (xs.drop k) ∧ rowObj v' = rowObj v := by
  obtain ⟨h, hc⟩ := h
  rcases h with ⟨rfl, rfl⟩ | ⟨o, off, lo, ex, rfl, h⟩
  · have : k = 0 := by simpa using hk
    subst this
    exact ⟨.nils, rfl, ⟨.inl ⟨rfl, rfl⟩, rfl⟩, rfl⟩
  · have hlo : xs.length ≤ lo := by simpa [capOk] using hc
    have b1 : (0 : Int) ≤ (k : Int) ∧ (k : Int) ≤ ((xs.length : Nat) : Int) := by omega
    have hl : (xs.drop k).length = xs.length - k := by simp
    refine ⟨.slc o (off + k * e) (xs.length - k) e (lo - k) ex, ?_, ⟨.inr ⟨o, off + k * e, lo - k, ex, by rw [hl], ?_⟩, by simp [capOk]; omega⟩, rfl⟩
    · simp only [sliceA, Nat.beq_refl, cond_true, boundsA, boundA, if_pos b1, Option.map_some, Int.toNat_natCast]
    · unfold Heap.readSeg at h ⊢
      cases hc : H.cellsAt o with
      | none => rw [hc] at h; cases h
      | some cs =>
        rw [hc] at h
        have h : seg cs off (xs.length * e) = some (xs.flatMap enc) := h
        have hm : k * e + (xs.length - k) * e = xs.length * e := by rw [← Nat.add_mul]; congr 1; omega
        have := seg_cut h (f := k * e) (m := (xs.length - k) * e) (by omega)
        rw [hl]
        show seg cs (off + k * e) ((xs.length - k) * e) = _
        rw [flat_drop hn] at this
        rw [this]
        congr 1
        apply List.take_of_length_le
        rw [flat_len hn, hl]; exact Nat.le_refl _
theorem Rw.lit (_hn : (enc : α → List AV) = enc) {o : Nat} {a : α} (hl : (enc a).length = e) (hg : H.get o = some (.cells (enc a))) : Rw e enc H (.slc o 0 1 e 1 true) [a] := by
  refine ⟨.inr ⟨o, 0, 1, true, rfl, ?_⟩, rfl⟩
  unfold Heap.readSeg
  rw [cellsAt_get hg]
  simp only [List.flatMap_cons, List.flatMap_nil, List.append_nil]
  exact seg_all (by rw [hl]; simp)
end
end Go.AI

/- Tables whose keys are pairs; rows of rows. No claim by itself. -/
namespace Go.AI
/-! ### Tables of pairs -/
def mapUpdA (H : Heap) (d : EqD) (m k v : AV) : Option (AV × Heap) :=
  match m with
  | .map o =>
    bif Nat.ble H.floor o then
      match H.get o with
      | some (.map es) =>
        bif plainKey d k then
          match findA d k es 0 with
          | none => none
          | some (some (i, _)) => some (undefA, H.set o (.map (es.set i (k, v))))
          | some none => some (undefA, H.set o (.map (es ++ [(k, v)])))
        else none
      | _ => none
    else none
  | _ => none
@[simp] theorem p_mapUpdate {e : Opd → AV} {H : Heap} {d : EqD} {m k v : Opd} : plainOp e H (.mapUpdate d m k v) = mapUpdA H d (e m) (e k) (e v) := rfl
abbrev Ent := (Int × Int) × Int
def entc (q : Ent) : AV × AV := (.agg (pairc q.1), .int .i64 q.2)
theorem cells_pair (x y : Int × Int) : eqA (.flat [.int, .int]) (.agg (pairc x)) (.agg (pairc y)) = some (decide (x = y)) := by
  have e : eqA (.flat [.int, .int]) (.agg (pairc x)) (.agg (pairc y)) = (match some (x.1 == y.1) with | some true => (match some (x.2 == y.2) with | some true => some true | some false => some false | none => none) | some false => some false | none => none) := rfl
  rw [e]
  obtain ⟨a, b⟩ := x
  obtain ⟨c, d⟩ := y
  cases h1 : (a == c) <;> cases h2 : (b == d) <;> simp_all
theorem plain_pair (x : Int × Int) : plainKey (.flat [.int, .int]) (.agg (pairc x)) = true := by
  have : cellsEq [.int, .int] (pairc x) (pairc x) = some true := by
    have := cells_pair x x
    have e : eqA (.flat [.int, .int]) (.agg (pairc x)) (.agg (pairc x)) = cellsEq [.int, .int] (pairc x) (pairc x) := rfl
    rw [← e, this]; simp
  show (cellsEq [.int, .int] (pairc x) (pairc x)).isSome = true
  rw [this]; rfl
/-- What a table tells of a pair; -1: none. -/
def lookE (E : List Ent) (s : Int × Int) : Int := ((E.find? fun q => decide (s = q.1)).map (·.2)).getD (-1)
theorem find_ent (s : Int × Int) : ∀ (E : List Ent) (j : Nat), findA (.flat [.int, .int]) (.agg (pairc s)) (E.map entc) j = match E.find? (fun q => decide (s = q.1)) with | some q => some (some (j + E.findIdx (fun q => decide (s = q.1)), .int .i64 q.2)) | none => some none
  | [], j => rfl
  | q :: E, j => by
    have ih := find_ent s E (j + 1)
    simp only [List.map_cons, entc, findA, cells_pair]
    by_cases h : s = q.1
    · simp [h, List.findIdx_cons]
    · rw [decide_eq_false h]
      simp only [List.find?_cons, decide_eq_false h, List.findIdx_cons, cond_false]
      rw [ih]
      cases E.find? (fun q => decide (s = q.1)) with
      | none => rfl
      | some q' => simp only [Option.some.injEq, Prod.mk.injEq, and_true]; omega
theorem look_none {E : List Ent} {s : Int × Int} : E.find? (fun q => decide (s = q.1)) = none ↔ s ∉ E.map (·.1) := by
  rw [List.find?_eq_none]
  simp only [List.mem_map, not_exists, not_and, decide_eq_true_eq]
  exact ⟨fun h q hq e => h q hq e.symm, fun h q hq e => h q hq e.symm⟩
theorem lookA_ent {H : Heap} {o : Nat} {E : List Ent} {s : Int × Int} (h : H.get o = some (.map (E.map entc))) :
    ∃ r, lookA H (.flat [.int, .int]) (.map o) (.agg (pairc s)) = some r ∧ ((s ∉ E.map (·.1) ∧ r = none ∧ lookE E s = -1) ∨ (s ∈ E.map (·.1) ∧ ∃ i k, r = some (i, .int .i64 k) ∧ lookE E s = k ∧ (s, k) ∈ E)) := by
  unfold lookA
  simp only [h, plain_pair, cond_true, find_ent s E 0]
  cases hf : E.find? (fun q => decide (s = q.1)) with
  | none => exact ⟨none, rfl, .inl ⟨look_none.1 hf, rfl, by unfold lookE; rw [hf]; rfl⟩⟩
  | some q =>
    have hm := List.mem_of_find?_eq_some hf
    have hs : s = q.1 := by have := List.find?_some hf; simpa using this
    refine ⟨_, rfl, .inr ⟨?_, _, q.2, rfl, by unfold lookE; rw [hf]; rfl, ?_⟩⟩
    · rw [hs]; exact List.mem_map_of_mem hm
    · rw [hs]; exact hm
theorem mapUpd_new {H : Heap} {o : Nat} {E : List Ent} {s : Int × Int} {k : Int} (hf : H.floor ≤ o) (h : H.get o = some (.map (E.map entc))) (hn : s ∉ E.map (·.1)) :
    mapUpdA H (.flat [.int, .int]) (.map o) (.agg (pairc s)) (.int .i64 k) = some (undefA, H.set o (.map ((E ++ [(s, k)]).map entc))) := by
  have hb : Nat.ble H.floor o = true := Nat.ble_eq_true_of_le hf
  unfold mapUpdA
  simp only [h, hb, cond_true, plain_pair, find_ent s E 0, look_none.2 hn, List.map_append, List.map_cons, List.map_nil]
  rfl
/-! ### Rows of rows -/
abbrev OneV := {v : AV // v.one = true}
def onec (x : OneV) : List AV := [x.1]
theorem onec_len (x : OneV) : (onec x).length = 1 := rfl
theorem onec_one (x : OneV) : allOne (onec x) = true := by unfold onec; rw [allOne_of x.2]; rfl
structure Gd (H : Heap) (v : AV) (F : List (List Int)) : Prop where
  ex : ∃ rs : List OneV, Rw 1 onec H v rs ∧ rs.length = F.length ∧ ∀ (i : Nat) (r : OneV) (f : List Int), rs[i]? = some r → F[i]? = some f → Rw 1 i64c H r.1 f
section
variable {H H' : Heap} {v : AV} {F : List (List Int)}
theorem Gd.len (h : Gd H v F) : lenA v = some (.int .i64 F.length) := by
  obtain ⟨rs, a, b, _⟩ := h.ex; rw [← b]; exact a.len
theorem Gd.one (h : Gd H v F) : v.one = true ∧ v.cells = [v] := by
  obtain ⟨rs, a, _, _⟩ := h.ex; exact a.one
theorem Gd.ext (h : Gd H v F) (k : Ext H H') : Gd H' v F := by
  obtain ⟨rs, a, b, c⟩ := h.ex; exact ⟨rs, a.ext k, b, fun i r f q1 q2 => (c i r f q1 q2).ext k⟩
theorem Gd.idx (h : Gd H v F) {k : IntKind} {i : Int} (h0 : 0 ≤ i) (h1 : i < F.length) :
    ∃ p r f, F[i.toNat]? = some f ∧ indexAddrV 1 v (.int k i) = some p ∧ loadA H none p = some r ∧ Rw 1 i64c H r f := by
  obtain ⟨rs, a, b, c⟩ := h.ex
  obtain ⟨p, x, q1, q2, _, q4⟩ := Sl.idx (a.sl onec_len) (k := k) h0 (by omega)
  have hl : i.toNat < F.length := by omega
  exact ⟨p, x.1, F[i.toNat], List.getElem?_eq_getElem hl, q2, q4 _ rfl rfl, c _ _ _ q1 (List.getElem?_eq_getElem hl)⟩
theorem load_ext {n : Option Nat} {p r : AV} (h : loadA H n p = some r) (k : Ext H H') : loadA H' n p = some r := by
  cases p with
  | ptr o off =>
    rw [loadA_ptr] at h ⊢
    cases hc : H.cellsAt o with
    | none => rw [hc] at h; cases h
    | some cs => rw [k.cells hc]; rw [hc] at h; exact h
  | _ => cases h
theorem Gd.idxE (h : Gd H v F) (e : Ext H H') {k : IntKind} {i : Int} (h0 : 0 ≤ i) (h1 : i < F.length) :
    ∃ p r f, F[i.toNat]? = some f ∧ indexAddrV 1 v (.int k i) = some p ∧ loadA H' none p = some r ∧ Rw 1 i64c H r f := by
  obtain ⟨p, r, f, a, b, c, d⟩ := h.idx (k := k) h0 h1
  exact ⟨p, r, f, a, b, load_ext c e, d⟩
end
/-! ### Edges -/
def rowOk (n : Int) (f : List Int) : Prop := 3 ≤ f.length ∧ f.Nodup ∧ ∀ k, k ∈ f → 0 ≤ k ∧ k < n
theorem edgesF_len (f : List Int) : (edgesF f).length = f.length := by
  unfold edgesF
  rw [List.length_zip, List.length_append, List.length_tail, List.length_take]; omega
theorem edgesF_get {f : List Int} {k : Nat} {a b : Int} (ha : f[k]? = some a) (hb : f[(k + 1) % f.length]? = some b) : (edgesF f)[k]? = some (a, b) := by
  have hk : k < f.length := (List.getElem?_eq_some_iff.1 ha).1
  unfold edgesF
  rw [List.getElem?_zip_eq_some]
  refine ⟨ha, ?_⟩
  by_cases h : k + 1 < f.length
  · rw [Nat.mod_eq_of_lt h] at hb
    rw [List.getElem?_append_left (by simp; omega), List.getElem?_tail]; exact hb
  · have : k + 1 = f.length := by omega
    rw [this, Nat.mod_self] at hb
    rw [List.getElem?_append_right (by simp; omega)]
    have hz : k - f.tail.length = 0 := by simp; omega
    rw [hz, List.getElem?_take, if_pos (by omega)]; exact hb
/-- All edges, each with the number of its face. -/
def tabF : Nat → List (List Int) → List Ent
  | _, [] => []
  | i, f :: F => (edgesF f).map (fun s => (s, (i : Int))) ++ tabF (i + 1) F
theorem tabF_fst : ∀ (i : Nat) (F : List (List Int)), (tabF i F).map (·.1) = F.flatMap edgesF
  | _, [] => rfl
  | i, f :: F => by simp [tabF, tabF_fst (i + 1) F, Function.comp_def]
theorem tabF_app : ∀ (i : Nat) (F G : List (List Int)), tabF i (F ++ G) = tabF i F ++ tabF (i + F.length) G
  | i, [], G => by simp [tabF]
  | i, f :: F, G => by
    simp only [List.cons_append, tabF, tabF_app (i + 1) F G, List.append_assoc, List.length_cons]
    congr 3; omega
open Classical in
/-- What is wrong with faces. -/
noncomputable def chkF (n : Int) (F : List (List Int)) : Int := if (0 ≤ n ∧ n ≤ 1048576) ∧ ∀ f, f ∈ F → rowOk n f then (if (F.flatMap edgesF).Nodup then 0 else 80) else 2
theorem chkF_ok {n : Nat} {F : List (List Int)} : chkF n F = 0 ↔ FacesOk n F := by
  unfold chkF
  constructor
  · intro h
    split at h
    · rename_i h1
      split at h
      · rename_i h2; exact ⟨by omega, h1.2, h2⟩
      · simp at h
    · simp at h
  · intro h
    have hle := h.le
    rw [if_pos ⟨⟨by omega, by omega⟩, h.fs⟩, if_pos h.es]
end Go.AI

/- Arguments of a law that are rows of rows. No claim by itself. -/
namespace Go.AI
open Go.ChangeShapes Go.WideShapes Go.Deep
/-- A law's call, over arguments that are told; what lies in memory is told of where all objects lie. -/
theorem law_told2 {P : Program} {G : World → Prop} {FT : Nat → Option FnD} (hFT : TableOk P G FT) {f : Nat} {args : List AV} {css : List (List AV)} {Ls : List (Option Loc)} {v : AV} {w : World} {avs : List Value}
    (h : Cp FT f args (heapR css.reverse) fun r _ => r = v) (hp : v.plain = true) (hl : LRel (fun o => (Ls[o]?).join) args avs) (hn : Ls.length = css.length)
    (hm : ∀ (o : Nat) (l : Loc), Ls[o]? = some (some l) → ∀ cs, css[o]? = some cs → l.blk < w.heap.size ∧ At (fun o => (Ls[o]?).join) w l cs ∧ l.base + cs.length ≤ l.size) (hgood : ∀ w' : World, (∀ b, b < w.heap.size → w'.heap[b]? = w.heap[b]?) → G w') :
    Calls P f avs.toArray w fun e w' => ∃ r, e = .returned r ∧ VRel (fun _ => none) v r ∧ RowKit.Below w.heap.size w w' := by
  obtain ⟨n, v1, H', hc, rfl⟩ := h
  have hnx := heapR_next css.reverse
  rw [List.length_reverse] at hnx
  have key : ∀ (o : Nat) (L : Loc), ((Ls[o]?).join : Option Loc) = some L → Ls[o]? = some (some L) := fun o L e => by
    cases q : Ls[o]? with
    | none => rw [q] at e; cases e
    | some x => rw [q] at e; simp at e; rw [e]
  have lt : ∀ (o : Nat) (L : Loc), ((Ls[o]?).join : Option Loc) = some L → o < css.length := fun o L e => by
    have := (List.getElem?_eq_some_iff.1 (key o L e)).1; omega
  refine (law_calls hFT hc hl (by rw [hnx.1, hnx.2]) (heapR_wf css.reverse).2 (fun o L e => ⟨by rw [hnx.1]; exact lt o L e, ?_⟩) (fun o L x e hx => ?_) hgood).mono ?_
  · have hlt := lt o L e
    exact (hm o L (key o L e) _ (List.getElem?_eq_getElem hlt)).1
  · rw [heapR_get, List.reverse_reverse] at hx
    cases hg : css[o]? with
    | none => rw [hg] at hx; cases hx
    | some cs =>
      rw [hg] at hx; cases hx
      have h1 := hm o L (key o L e) _ hg
      exact ⟨h1.2.1, h1.2.2, fun hb => absurd (lt o L e) (by rw [hnx.1] at hb; omega)⟩
  · rintro e w' ⟨φ', r, rfl, hv, hb⟩
    exact ⟨r, rfl, hv.plain hp, hb⟩
theorem heapF_get (css : List (List AV)) (o : Nat) : (heapR css.reverse).get o = (css[o]?).map .cells := by rw [heapR_get, List.reverse_reverse]
section
variable {H : Type} {enc : TypeId × Value → H} {P : Program} {w : World} {base : Nat} {held : Bool}
theorem arg_cells2 {Q : Pl → Prop} {a : Addr} {len cap e o : Nat} {cs : List AV} (hl : len ≤ cap) (he : 0 < e) (hcs : cs.length = len * e)
    (hc : ∀ i, i < cap * e → ∃ u, w.cell? (a.add i) = some u) (hv : ∀ i x, cs[i]? = some x → ∃ u, w.cell? (a.add i) = some u ∧ ∀ φ, Q φ → VRel φ x u) :
    ∃ L : Option Loc, (∀ φ : Pl, φ o = L → VRel φ (.slc o 0 len e len false) (.slice (some a) len cap)) ∧ ∀ l, L = some l → l.blk < w.heap.size ∧ (∀ φ, Q φ → At φ w l cs) ∧ l.base + cs.length ≤ l.size := by
  rcases Nat.eq_zero_or_pos cap with h0 | h0
  · subst h0
    obtain rfl : len = 0 := by omega
    exact ⟨none, fun φ _ => .slc0 _ _ _ _ _, fun l e => by cases e⟩
  · have hpos : 0 < cap * e := Nat.mul_pos h0 he
    obtain ⟨u0, hu0⟩ := hc 0 hpos
    rw [add_zero'] at hu0
    refine ⟨some ⟨a.block, a.off, a.off + cap * e⟩, fun φ hφ => ?_, fun l e => ?_⟩
    · rw [spot_none hu0]
      exact VRel.slc (φ := φ) o 0 len e len false ⟨a.block, a.off, a.off + cap * e⟩ cap hφ (Nat.le_refl _) hl (fun q => by cases q) (Nat.le_refl _)
    · cases e
      refine ⟨cell_blk hu0, fun φ hQ i x hx => ?_, ?_⟩
      · obtain ⟨u, h1, h2⟩ := hv i x hx
        exact ⟨u, cell_add h1 ⟨u0, hu0⟩, h2 φ hQ⟩
      · show a.off + cs.length ≤ _
        rw [hcs]; exact Nat.add_le_add_left (Nat.mul_le_mul_right _ hl) _
theorem arg_ints2 {t e : TypeId} {fuel : Nat} {cs : List Value} {x : DataW H × List MemPlace} (o : Nat) (ht : P.underlying t = some (.slice e)) (he : P.underlying e = some (.int .i64)) (hc : P.cellsOf e = 1)
    (h : DataW.trod enc P w base (fun _ => true) held fuel t cs = some x) : ∃ v xs av L, cs = [v] ∧ SlArg w o 1 i64c v xs av L := by
  rcases open_ints ht he hc h with ⟨hcs, _⟩ | ⟨a, len, cap, zs, hcs, _⟩
  · subst hcs
    obtain ⟨xs, av, L, _, hs, _⟩ := arg_ints o ht he hc h
    exact ⟨_, xs, av, L, rfl, hs⟩
  · subst hcs
    obtain ⟨xs, av, L, _, hs, _⟩ := arg_ints o ht he hc h
    exact ⟨_, xs, av, L, rfl, hs⟩
/-- What a row of rows comes to: its objects o, o+1, .. -/
structure GdArg (w : World) (o : Nat) (v : Value) (F : List (List Int)) (av : AV) (css : List (List AV)) (Ls : List (Option Loc)) : Prop where
  ln : Ls.length = css.length
  rel : ∀ φ : Pl, (∀ k, φ (o + k) = (Ls[k]?).join) → VRel φ av v
  mem : ∀ (k : Nat) (l : Loc), Ls[k]? = some (some l) → ∀ cs, css[k]? = some cs → l.blk < w.heap.size ∧ (∀ φ : Pl, (∀ k, φ (o + k) = (Ls[k]?).join) → At φ w l cs) ∧ l.base + cs.length ≤ l.size
  gd : ∀ H : Heap, (∀ k cs, css[k]? = some cs → H.get (o + k) = some (.cells cs)) → Gd H av F
instance : Inhabited OneV := ⟨⟨.nils, rfl⟩⟩
theorem SlArg.rw {α : Type} {e : Nat} {en : α → List AV} (hn : ∀ x, (en x).length = e) {w : World} {o : Nat} {v : Value} {xs : List α} {av : AV} {L : Option Loc} {H : Heap} (h : SlArg w o e en v xs av L) (hg : H.get o = some (.cells (xs.flatMap en))) : Rw e en H av xs :=
  ⟨h.sw hn hg, by
    rcases h.2 with ⟨rfl, _⟩ | rfl
    · rfl
    · simp [capOk]⟩
theorem arg_grid {t e q : TypeId} {fuel : Nat} {cs : List Value} {x : DataW H × List MemPlace} (o : Nat) (ht : P.underlying t = some (.slice e)) (he : P.underlying e = some (.slice q)) (hq : P.underlying q = some (.int .i64)) (ce : P.cellsOf e = 1) (cq : P.cellsOf q = 1)
    (h : DataW.trod enc P w base (fun _ => true) held fuel t cs = some x) : ∃ v F av css Ls, cs = [v] ∧ GdArg w o v F av css Ls := by
  rcases open_slice1 ht ce h with ⟨hcs, _⟩ | ⟨a, len, cap, m, n, V, D, Pl, rfl, hb, hl, hm, hmm, rfl, hx⟩
  · subst hcs
    refine ⟨_, [], .nils, [], [], rfl, ⟨rfl, fun φ _ => .nils, fun k l e => by simp at e, fun H _ => ⟨⟨[], ⟨.inl ⟨rfl, rfl⟩, rfl⟩, rfl, fun i r f h => by simp at h⟩⟩⟩⟩
  · simp only [if_true] at hmm
    subst hmm
    have each : ∀ r, r < len → ∃ y : List Int × OneV × Option Loc, SlArg w (o + 1 + r) 1 i64c (V r) y.1 y.2.1.1 y.2.2 := by
      intro r hr
      obtain ⟨v, xs, av, L, h1, h2⟩ := arg_ints2 (o + 1 + r) he hq cq (hx r (by omega)).2
      cases h1
      exact ⟨(xs, ⟨av, by rcases h2.2 with ⟨q, _⟩ | q <;> (rw [q]; rfl)⟩, L), h2⟩
    obtain ⟨y, hy⟩ := choose_lt each
    obtain ⟨L0, r0, m0⟩ := arg_cells2 (w := w) (Q := fun φ => ∀ r, r < len → φ (o + 1 + r) = (y r).2.2) (a := a) (len := len) (cap := m) (e := 1) (o := o) (cs := ((List.range len).map fun r => (y r).2.1).flatMap onec) hl (by omega) (by rw [flat_len onec_len]; simp)
      (fun i hi => ⟨_, (hx i (by omega)).1⟩) (fun i z hz => by
        have hfl : (((List.range len).map fun r => (y r).2.1).flatMap onec) = (List.range len).map fun r => (y r).2.1.1 := by
          generalize List.range len = l
          induction l with
          | nil => rfl
          | cons r l ih => simp only [List.map_cons, List.flatMap_cons, ih]; rfl
        rw [hfl, List.getElem?_map] at hz
        cases hr : (List.range len)[i]? with
        | none => rw [hr] at hz; cases hz
        | some r =>
          obtain ⟨h1, h2⟩ := List.getElem?_eq_some_iff.1 hr
          simp at h1 h2
          subst h2
          rw [hr] at hz
          simp at hz; subst hz
          exact ⟨_, (hx i (by omega)).1, fun φ hφ => (hy i h1).1.rel φ (hφ i h1)⟩)
    have hL : ∀ r, r < len → ((L0 :: (List.range len).map fun r => (y r).2.2)[r + 1]?).join = (y r).2.2 := fun r hr => by simp [hr]
    refine ⟨_, (List.range len).map fun r => (y r).1, .slc o 0 len 1 len false, (((List.range len).map fun r => (y r).2.1).flatMap onec) :: (List.range len).map (fun r => (y r).1.flatMap i64c), L0 :: (List.range len).map (fun r => (y r).2.2), rfl, ⟨by simp, fun φ hφ => r0 φ (by have := hφ 0; simpa using this), ?_, ?_⟩⟩
    · intro k l hk cs hcs
      cases k with
      | zero =>
        simp at hk hcs
        subst hcs
        obtain ⟨h1, h2, h3⟩ := m0 l hk
        refine ⟨h1, fun φ hφ => h2 φ fun r hr => ?_, h3⟩
        have := hφ (r + 1)
        rw [hL r hr] at this
        rw [← this]; congr 1; omega
      | succ k =>
        have hkl : k < len := by
          have := (List.getElem?_eq_some_iff.1 hk).1; simp at this; exact this
        simp [hkl] at hk hcs
        subst hcs
        obtain ⟨h1, h2, h3⟩ := (hy k hkl).1.mem l hk
        exact ⟨h1, fun φ _ => h2 φ, h3⟩
    · intro Hp hg
      have g0 := hg 0 _ rfl
      refine ⟨⟨(List.range len).map fun r => (y r).2.1, ⟨.inr ⟨o, 0, len, false, by simp, ?_⟩, by simp [capOk]⟩, by simp, fun i r f h1 h2 => ?_⟩⟩
      · unfold Heap.readSeg
        rw [show o + 0 = o from rfl] at g0
        rw [cellsAt_get g0]
        exact seg_all (by rw [flat_len onec_len])
      · have hil : i < len := by
          have := (List.getElem?_eq_some_iff.1 h1).1; simpa using this
        simp [hil] at h1 h2
        subst h1 h2
        have gi := hg (i + 1) ((y i).1.flatMap i64c) (by simp [hil])
        exact (hy i hil).rw i64c_len (by rw [show o + 1 + i = o + (i + 1) from by omega]; exact gi)
end
end Go.AI

/- What reading a mesh's words comes to: its shape; words that are wrong; words cut off: plain. No claim by itself. -/
namespace Go.AI
def ShO (en : Nat) (x : Ob × Int × Int) : Prop := (x.2.2 ≠ 0 ∧ x.1 = nilO ∧ 0 ≤ x.2.1 ∧ x.2.1 ≤ en) ∨ (x.2.2 = 0 ∧ x.2.1 = 0)
/-- The text of a mesh that may be is read as it. -/
theorem wordsO_ok {P : List (Int × Int)} {W : Int} {F : List (List Int)} (h : ValidO P W F) : ∀ q, q ∈ wordsO P W F → wordOk q.1 ∧ sepOk q.2 := by
  have e24 : (10 : Nat) ^ 24 = 1000000000000000000000000 := by decide
  have hv : wordOk vS := ⟨by simp [vS], by simp [vS, isBl], by simp [vS]⟩
  have hf : wordOk fS := ⟨by simp [fS], by simp [fS, isBl], by simp [fS]⟩
  have hz : wordOk [48] := ⟨by simp, by simp [isBl], by simp⟩
  have hi : ∀ n : Int, n.natAbs < 10 ^ 24 → wordOk (itoaN n) := fun n hn => (itoa_facts hn).1
  intro q hq
  unfold wordsO at hq
  have hw0 := h.w0
  have hw1 := h.w1
  have hle := h.fo.le
  rcases List.mem_append.1 hq with hq | hq
  · obtain ⟨p, hp, hq⟩ := List.mem_flatMap.1 hq
    obtain ⟨hm, hs, _⟩ := joinQ_sep _ _ hq
    obtain ⟨⟨p1, p2⟩, p3, p4⟩ := h.ps p hp
    refine ⟨?_, hs⟩
    simp only [placeT, List.mem_cons, List.not_mem_nil, or_false] at hm
    rcases hm with r | r | r | r | r <;> rw [r]
    · exact hv
    · exact hi _ (by omega)
    · exact hi _ (by omega)
    · exact hz
    · exact hi _ (by omega)
  · obtain ⟨f, hf', hq⟩ := List.mem_flatMap.1 hq
    obtain ⟨hm, hs, _⟩ := joinQ_sep _ _ hq
    refine ⟨?_, hs⟩
    simp only [faceT, List.mem_cons, List.mem_map] at hm
    rcases hm with r | ⟨k, hk, r⟩
    · rw [r]; exact hf
    · rw [← r]
      have := (h.fo.fs f hf').2.2 k hk
      exact hi _ (by omega)
theorem words_text {P : List (Int × Int)} {W : Int} {F : List (List Int)} (h : ValidO P W F) : wordsN (textO P W F) = toksAt 0 (wordsO P W F) := words_rend (wordsO_ok h)
end Go.AI

/- A mesh's words, one of them wrong, or cut off: what reading them comes to: plain. No claim by itself. -/
namespace Go.AI
theorem rdE_at (en : Nat) : ∀ (cs : List Wc) (ts : List Tok) (k : Nat) (c : Wc), (∀ (i : Nat) (d : Wc), i < k → cs[i]? = some d → (d (wordAt en (ts.drop i)).2).2 = 0) → cs[k]? = some c → (c (wordAt en (ts.drop k)).2).2 ≠ 0 →
    rdC en cs ts = .error ((wordAt en (ts.drop k)).1, (c (wordAt en (ts.drop k)).2).2)
  | [], ts, k, c, _, h, _ => by simp at h
  | d :: cs, ts, 0, c, _, h, hn => by simp at h; subst h; rw [List.drop_zero] at hn ⊢; unfold rdC; rw [if_neg hn]
  | d :: cs, ts, k + 1, c, ha, h, hn => by
    have e : ts.tail.drop k = ts.drop (k + 1) := List.drop_tail
    have ih := rdE_at en cs ts.tail k c (fun i x hi hx => by
      rw [List.drop_tail]; exact ha (i + 1) x (by omega) (by simpa using hx)) (by simpa using h) (by rw [e]; exact hn)
    rw [e] at ih
    have h0 := ha 0 d (by omega) rfl
    rw [List.drop_zero] at h0
    conv => lhs; unfold rdC
    rw [if_pos h0, ih]
theorem rdE_all (en : Nat) : ∀ (cs : List Wc) (ts : List Tok), (∀ (i : Nat) (d : Wc), cs[i]? = some d → (d (wordAt en (ts.drop i)).2).2 = 0) → ∃ xs, rdC en cs ts = .ok (xs, ts.drop cs.length)
  | [], ts, _ => ⟨[], rfl⟩
  | c :: cs, ts, h => by
    obtain ⟨xs, q⟩ := rdE_all en cs ts.tail (fun i d hd => by rw [List.drop_tail]; exact h (i + 1) d (by simpa using hd))
    rw [List.drop_tail] at q
    have h0 := h 0 c rfl
    rw [List.drop_zero] at h0
    refine ⟨(c (wordAt en ts).2).1 :: xs, ?_⟩
    conv => lhs; unfold rdC
    rw [if_pos h0, q]
    rfl
structure BadW (w : List Nat) : Prop where
  wf : wfN w = false
  v : w ≠ vS
  f : w ≠ fS
  z : w ≠ [48]
theorem BadW.nil : BadW [] := ⟨rfl, by decide, by decide, by decide⟩
theorem BadW.coord {w : List Nat} (h : BadW w) : (coordW w).2 = 11 := by unfold coordW numR; rw [h.wf]; rfl
theorem BadW.zero {w : List Nat} (h : BadW w) : (zeroW w).2 = 11 := by unfold zeroW; rw [if_neg h.z]
theorem BadW.den {w : List Nat} (h : BadW w) (P : List (Int × Int)) (W : Int) : (denW P W w).2 = 11 := by
  have : numR w 1 1048576 = (0, 11) := by unfold numR; rw [h.wf]; rfl
  unfold denW; rw [this]; simp
theorem BadW.idx {w : List Nat} (h : BadW w) (n : Nat) : (idxW n w).2 = 11 := idx_stop h.wf
theorem rows_split {α β : Type} (f : α → List β) : ∀ (L : List α) (k : Nat), k < (L.flatMap f).length → ∃ (i : Nat) (x : α) (r : Nat), L[i]? = some x ∧ r < (f x).length ∧ k = ((L.take i).flatMap f).length + r
  | [], k, h => by simp at h
  | x :: L, k, h => by
    by_cases c : k < (f x).length
    · exact ⟨0, x, k, rfl, c, by simp⟩
    · rw [List.flatMap_cons, List.length_append] at h
      obtain ⟨i, y, r, h1, h2, h3⟩ := rows_split f L (k - (f x).length) (by omega)
      refine ⟨i + 1, y, r, by simpa using h1, h2, ?_⟩
      rw [List.take_succ_cons, List.flatMap_cons, List.length_append]; omega
theorem word_of {ts : List Tok} {T : List (List Nat)} {k : Nat} (ht : (ts.map (·.2)).take k = T.take k) {m : Nat} (hm : m < k) {w : List Nat} (hw : T[m]? = some w) : ∃ t, ts[m]? = some t ∧ t.2 = w := by
  have h1 : (T.take k)[m]? = some w := by rw [List.getElem?_take, if_pos hm]; exact hw
  rw [← ht, List.getElem?_take, if_pos hm, List.getElem?_map] at h1
  cases hq : ts[m]? with
  | none => rw [hq] at h1; cases h1
  | some t => rw [hq] at h1; exact ⟨t, rfl, by simpa using h1⟩
theorem at_drop (en : Nat) (ts : List Tok) (i : Nat) : wordAt en (ts.drop i) = ts[i]?.getD (en, []) := by
  unfold wordAt; rw [List.head?_drop]
theorem word_at {en : Nat} {ts : List Tok} {T : List (List Nat)} {k : Nat} (ht : (ts.map (·.2)).take k = T.take k) {m : Nat} (hm : m < k) {w : List Nat} (hw : T[m]? = some w) : (wordAt en (ts.drop m)).2 = w := by
  obtain ⟨t, h1, h2⟩ := word_of ht hm hw
  rw [at_drop, h1]; exact h2
/-- What is asked of a cut: a word stands there, or the place is neither a row's first nor a face's fourth number's. -/
structure InW (T : List (List Nat)) (k : Nat) : Prop where
  a : T[k]? ≠ some vS
  b : T[k]? ≠ some fS
  c : ¬ (4 ≤ k ∧ T[k - 4]? = some fS ∧ ∀ m, k - 4 < m → m ≤ k → T[m]? ≠ some vS ∧ T[m]? ≠ some fS)
theorem itoa_ne {n : Int} (h : n.natAbs < 10 ^ 24) : itoaN n ≠ vS ∧ itoaN n ≠ fS := by
  have hw := (itoa_facts h).2.1
  constructor <;> (intro q; rw [q] at hw; exact absurd hw (by decide))
theorem readO_bad {en : Nat} {P : List (Int × Int)} {W : Int} {F : List (List Int)} (h : ValidO P W F) {ts : List Tok} {k : Nat} (ht : (ts.map (·.2)).take k = (txtO P W F).take k) (hk : k < (txtO P W F).length) (hb : BadW (wordAt en (ts.drop k)).2)
    (hin : k < ts.length ∨ InW (txtO P W F) k) {f : Nat} (hf : ts.length ≤ f) : readO en f [] 0 [] ts = (nilO, ((wordAt en (ts.drop k)).1 : Int), 11) := by
  have hlen : k ≤ ts.length := by
    have := congrArg List.length ht
    simp only [List.length_take, List.length_map] at this; omega
  have e24 : (10 : Nat) ^ 24 = 1000000000000000000000000 := by decide
  have hw0 := h.w0
  have hw1 := h.w1
  have hle := h.fo.le
  have hP5 : ∀ Q : List (Int × Int), (Q.flatMap (placeT W)).length = 5 * Q.length := by
    intro Q
    induction Q with
    | nil => rfl
    | cons p Q ih => simp only [List.flatMap_cons, List.length_append, ih]; simp [placeT]; omega
  -- a row's first word that is wrong
  have first : ∀ (g : Nat) (P0 : List (Int × Int)) (W0 : Int) (F0 : List (List Int)), k < ts.length → readO en (g + 1) P0 W0 F0 (ts.drop k) = (nilO, ((wordAt en (ts.drop k)).1 : Int), 11) := by
    intro g P0 W0 F0 hkl
    obtain ⟨t, h1⟩ : ∃ t, ts[k]? = some t := ⟨_, List.getElem?_eq_getElem hkl⟩
    have h2 : ts.drop k = t :: ts.drop (k + 1) := drop_get h1
    have h3 : wordAt en (ts.drop k) = t := by rw [at_drop, h1]; rfl
    rw [h3] at hb ⊢
    rw [h2]
    unfold readO
    rw [if_neg (fun q => hb.v q.1), if_neg hb.f]
  by_cases hkP : k < 5 * P.length
  · obtain ⟨i, p, r, hi, hr, hkr⟩ := rows_split (placeT W) P k (by rw [hP5]; exact hkP)
    have hil : i < P.length := (List.getElem?_eq_some_iff.1 hi).1
    have hti : (P.take i).length = i := by rw [List.length_take]; omega
    rw [hP5, hti] at hkr
    have hr5 : r < 5 := by simpa [placeT] using hr
    have hT : txtO P W F = (P.take i).flatMap (placeT W) ++ (placeT W p ++ ((P.drop (i + 1)).flatMap (placeT W) ++ F.flatMap faceT)) := by
      have h1 : P = P.take i ++ p :: P.drop (i + 1) := by rw [← drop_get hi, List.take_append_drop]
      unfold txtO
      conv => lhs; rw [h1]
      simp
    have hA : ((P.take i).flatMap (placeT W)).length = 5 * i := by rw [hP5, hti]
    have hTq : ∀ q, q < 5 → (txtO P W F)[5 * i + q]? = (placeT W p)[q]? := fun q hq => by
      rw [hT, List.getElem?_append_right (by omega), hA, show 5 * i + q - 5 * i = q from by omega, List.getElem?_append_left (by simpa [placeT] using hq)]
    -- the places ahead
    have hpre : ts.map (·.2) = (P.take i).flatMap (placeT W) ++ (ts.map (·.2)).drop (5 * i) := by
      have h1 : (ts.map (·.2)).take (5 * i) = (P.take i).flatMap (placeT W) := by
        have h2 := congrArg (List.take (5 * i)) ht
        have h3 : ((P.take i).flatMap (placeT W)).take (5 * i) = (P.take i).flatMap (placeT W) := List.take_of_length_le (by omega)
        rw [List.take_take, List.take_take, Nat.min_eq_left (by omega), hT, List.take_append_of_le_length (by omega), h3] at h2
        exact h2
      rw [← h1, List.take_append_drop]
    have hfu := readO_fuel en f (i + (ts.length + 1)) [] 0 [] ts hf (by omega)
    have hpl := readO_places en ⟨hw0, hw1⟩ (P.take i) [] 0 ts _ (ts.length + 1) (fun q hq => h.ps q (List.mem_of_mem_take hq)) (.inl rfl) hpre
    rw [hti] at hpl
    rw [hfu, hpl, List.nil_append]
    have hW0 : P.take i = [] ∨ (if P.take i = [] then (0 : Int) else W) = W := by
      by_cases q : P.take i = []
      · exact .inl q
      · exact .inr (if_neg q)
    generalize (if P.take i = [] then (0 : Int) else W) = W0 at *
    by_cases hr0 : r = 0
    · subst hr0
      have hkl : k < ts.length := by
        rcases hin with q | q
        · exact q
        · exact absurd (by rw [hkr]; exact hTq 0 (by omega)) q.a
      have hk5 : 5 * i = k := by omega
      rw [hk5]
      exact first ts.length _ _ _ hkl
    · obtain ⟨t, ht1, ht2⟩ := word_of ht (m := 5 * i) (by omega) (w := vS) (hTq 0 (by omega))
      have hd : ts.drop (5 * i) = t :: ts.drop (5 * i + 1) := drop_get ht1
      rw [hd]
      unfold readO
      rw [if_pos ⟨ht2, rfl⟩]
      have hdd : ∀ q, (ts.drop (5 * i + 1)).drop q = ts.drop (5 * i + (q + 1)) := fun q => by rw [List.drop_drop]; congr 1; omega
      have hfit := h.ps p (List.mem_of_getElem? hi)
      have val : ∀ q, q + 1 < r → ∀ w, (placeT W p)[q + 1]? = some w → (wordAt en ((ts.drop (5 * i + 1)).drop q)).2 = w := fun q hq w hw => by
        rw [hdd]; exact word_at ht (by omega) (by rw [hTq _ (by omega)]; exact hw)
      have hbr : (ts.drop (5 * i + 1)).drop (r - 1) = ts.drop k := by rw [hdd]; congr 1; omega
      have key : ∀ (c : Wc), [coordW, coordW, zeroW, denW (P.take i) W0][r - 1]? = some c → (c (wordAt en (ts.drop k)).2).2 = 11 → rdC en [coordW, coordW, zeroW, denW (P.take i) W0] (ts.drop (5 * i + 1)) = .error ((wordAt en (ts.drop k)).1, 11) := by
        intro c hc h11
        have := rdE_at en [coordW, coordW, zeroW, denW (P.take i) W0] (ts.drop (5 * i + 1)) (r - 1) c (fun q d hq hd => by
          match q, hd with
          | 0, hd => simp at hd; subst hd; rw [val 0 (by omega) (itoaN p.1) rfl, coord_itoa hfit.1]
          | 1, hd => simp at hd; subst hd; rw [val 1 (by omega) (itoaN p.2) rfl, coord_itoa hfit.2]
          | 2, hd => simp at hd; subst hd; rw [val 2 (by omega) [48] rfl]; rfl
          | q + 3, hd => omega) hc (by rw [hbr, h11]; decide)
        rw [hbr, h11] at this
        exact this
      have : rdC en [coordW, coordW, zeroW, denW (P.take i) W0] (ts.drop (5 * i + 1)) = .error ((wordAt en (ts.drop k)).1, 11) := by
        match r, hr0, hr5 with
        | 1, _, _ => exact key coordW rfl hb.coord
        | 2, _, _ => exact key coordW rfl hb.coord
        | 3, _, _ => exact key zeroW rfl hb.zero
        | 4, _, _ => exact key _ rfl (hb.den _ _)
      rw [this]
  · obtain ⟨j, g, r, hj, hr, hkr⟩ := rows_split faceT F (k - 5 * P.length) (by
      have : (txtO P W F).length = 5 * P.length + (F.flatMap faceT).length := by unfold txtO; rw [List.length_append, hP5]
      omega)
    have hgm := List.mem_of_getElem? hj
    obtain ⟨g3, _, gk⟩ := h.fo.fs g hgm
    have g4 := h.f4 g hgm
    have hfl : (faceT g).length = g.length + 1 := by simp [faceT]
    generalize hL : ((F.take j).flatMap faceT).length = L at *
    have hkr' : k = 5 * P.length + L + r := by omega
    have hT : txtO P W F = (P.flatMap (placeT W) ++ (F.take j).flatMap faceT) ++ (faceT g ++ (F.drop (j + 1)).flatMap faceT) := by
      have h1 : F = F.take j ++ g :: F.drop (j + 1) := by rw [← drop_get hj, List.take_append_drop]
      unfold txtO
      conv => lhs; rw [h1]
      simp
    have hA : (P.flatMap (placeT W) ++ (F.take j).flatMap faceT).length = 5 * P.length + L := by rw [List.length_append, hP5, hL]
    have hTq : ∀ q, q < g.length + 1 → (txtO P W F)[5 * P.length + L + q]? = (faceT g)[q]? := fun q hq => by
      rw [hT, List.getElem?_append_right (by omega), hA, show 5 * P.length + L + q - (5 * P.length + L) = q from by omega, List.getElem?_append_left (by omega)]
    have hall : (ts.map (·.2)).take (5 * P.length + L) = P.flatMap (placeT W) ++ (F.take j).flatMap faceT := by
      have h2 := congrArg (List.take (5 * P.length + L)) ht
      have h3 : (P.flatMap (placeT W) ++ (F.take j).flatMap faceT).take (5 * P.length + L) = P.flatMap (placeT W) ++ (F.take j).flatMap faceT := List.take_of_length_le (by omega)
      rw [List.take_take, List.take_take, Nat.min_eq_left (by omega), hT, List.take_append_of_le_length (by omega), h3] at h2
      exact h2
    have hpre : ts.map (·.2) = P.flatMap (placeT W) ++ ((F.take j).flatMap faceT ++ (ts.map (·.2)).drop (5 * P.length + L)) := by
      rw [← List.append_assoc, ← hall, List.take_append_drop]
    have hpre2 : (ts.drop (5 * P.length)).map (·.2) = (F.take j).flatMap faceT ++ (ts.map (·.2)).drop (5 * P.length + L) := by
      rw [List.map_drop]
      conv => lhs; rw [hpre]
      rw [← hP5 P, List.drop_left]
    have hfu := readO_fuel en f (P.length + ((F.take j).length + (ts.length + 2))) [] 0 [] ts hf (by omega)
    have hpl := readO_places en ⟨hw0, hw1⟩ P [] 0 ts _ ((F.take j).length + (ts.length + 2)) h.ps (.inl rfl) hpre
    rw [if_neg h.pne, List.nil_append] at hpl
    have hdL : (ts.drop (5 * P.length)).drop L = ts.drop (5 * P.length + L) := by rw [List.drop_drop]
    have hfc := readO_faces en (W := W) hle (F.take j) [] (ts.drop (5 * P.length)) _ (ts.length + 2) (fun q hq => ⟨(h.fo.fs q (List.mem_of_mem_take hq)).1, h.f4 q (List.mem_of_mem_take hq), (h.fo.fs q (List.mem_of_mem_take hq)).2.2⟩) hpre2 (by
      intro t htt
      rw [hL, hdL, List.head?_drop] at htt
      by_cases hr0 : r = 0
      · have : wordAt en (ts.drop k) = t := by rw [at_drop, hkr', hr0, Nat.add_zero, htt]; rfl
        rw [this] at hb; exact hb.wf
      · obtain ⟨t', h1, h2⟩ := word_of ht (m := 5 * P.length + L) (by omega) (w := fS) (hTq 0 (by omega))
        rw [h1] at htt; cases htt
        rw [h2]; rfl)
    rw [hL, hdL, List.nil_append] at hfc
    rw [hfu, hpl, hfc]
    by_cases hr0 : r = 0
    · subst hr0
      have hkl : k < ts.length := by
        rcases hin with q | q
        · exact q
        · exact absurd (by rw [hkr']; exact hTq 0 (by omega)) q.b
      have hk5 : 5 * P.length + L = k := by omega
      rw [hk5]
      exact first (ts.length + 1) _ _ _ hkl
    · obtain ⟨t, ht1, ht2⟩ := word_of ht (m := 5 * P.length + L) (by omega) (w := fS) (hTq 0 (by omega))
      have hd : ts.drop (5 * P.length + L) = t :: ts.drop (5 * P.length + L + 1) := drop_get ht1
      rw [hd]
      unfold readO
      rw [if_neg (by rw [ht2]; rintro ⟨q, _⟩; exact absurd q (by decide)), if_pos ht2]
      have hdd : ∀ q, (ts.drop (5 * P.length + L + 1)).drop q = ts.drop (5 * P.length + L + (q + 1)) := fun q => by rw [List.drop_drop]; congr 1; omega
      have val : ∀ q, q + 1 < r → q < g.length → (idxW P.length (wordAt en ((ts.drop (5 * P.length + L + 1)).drop q)).2).2 = 0 := fun q hq hg => by
        have hx : (faceT g)[q + 1]? = some (itoaN (g[q] + 1)) := by simp [faceT, hg]
        rw [hdd, word_at ht (by omega) (by rw [hTq _ (by omega)]; exact hx), idx_itoa (gk _ (List.getElem_mem hg)) hle]
      have hbr : (ts.drop (5 * P.length + L + 1)).drop (r - 1) = ts.drop k := by rw [hdd]; congr 1; omega
      have c3 : ∀ q d, [idxW P.length, idxW P.length, idxW P.length][q]? = some d → d = idxW P.length ∧ q < 3 := fun q d hq => by
        match q, hq with
        | 0, hq => simp at hq; exact ⟨hq.symm, by omega⟩
        | 1, hq => simp at hq; exact ⟨hq.symm, by omega⟩
        | 2, hq => simp at hq; exact ⟨hq.symm, by omega⟩
        | q + 3, hq => simp at hq
      by_cases hr4 : r ≤ 3
      · have hc : [idxW P.length, idxW P.length, idxW P.length][r - 1]? = some (idxW P.length) := by
          match r, hr0, hr4 with
          | 1, _, _ => rfl
          | 2, _, _ => rfl
          | 3, _, _ => rfl
        have h11 := hb.idx P.length
        have := rdE_at en [idxW P.length, idxW P.length, idxW P.length] (ts.drop (5 * P.length + L + 1)) (r - 1) (idxW P.length) (fun q d hq hd => by
          obtain ⟨rfl, _⟩ := c3 q d hd
          exact val q (by omega) (by omega)) hc (by rw [hbr, h11]; decide)
        rw [hbr, h11] at this
        rw [this]
      · have hr4' : r = 4 := by omega
        subst hr4'
        have hkl : k < ts.length := by
          rcases hin with q | q
          · exact q
          · refine absurd ⟨by omega, ?_, fun m hm1 hm2 => ?_⟩ q.c
            · rw [show k - 4 = 5 * P.length + L + 0 from by omega]; exact hTq 0 (by omega)
            · obtain ⟨q, rfl, hq⟩ : ∃ q, m = 5 * P.length + L + (q + 1) ∧ q < g.length := ⟨m - (5 * P.length + L) - 1, by omega, by omega⟩
              have hx : (faceT g)[q + 1]? = some (itoaN (g[q] + 1)) := by simp [faceT, hq]
              have hgk := gk _ (List.getElem_mem hq)
              obtain ⟨n1, n2⟩ := itoa_ne (n := g[q] + 1) (by omega)
              rw [hTq _ (by omega), hx]
              exact ⟨fun e => n1 (Option.some.inj e), fun e => n2 (Option.some.inj e)⟩
        obtain ⟨xs, hxs⟩ := rdE_all en [idxW P.length, idxW P.length, idxW P.length] (ts.drop (5 * P.length + L + 1)) (fun q d hd => by
          obtain ⟨rfl, hq3⟩ := c3 q d hd
          exact val q (by omega) (by omega))
        have h3 : (ts.drop (5 * P.length + L + 1)).drop ([idxW P.length, idxW P.length, idxW P.length] : List Wc).length = ts.drop k := hbr
        rw [h3] at hxs
        rw [hxs]
        simp only
        rw [if_pos (hb.idx P.length)]
        exact first ts.length _ _ _ hkl
end Go.AI
