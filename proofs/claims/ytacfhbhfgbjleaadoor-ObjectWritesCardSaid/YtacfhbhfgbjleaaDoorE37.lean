/- A mesh, its text, and what reading it gives: plain. No claim by itself. -/
import Derived.Test.YtacfhbhfgbjleaaDoorE36
namespace Go.AI
/-- What a word comes to: a number, and what is wrong. -/
abbrev Wc := List Nat → Int × Int
def wordAt (en : Nat) (ts : List Tok) : Tok := ts.head?.getD (en, [])
def rdC (en : Nat) : List Wc → List Tok → Except (Nat × Int) (List Int × List Tok)
  | [], ts => .ok ([], ts)
  | c :: cs, ts => if (c (wordAt en ts).2).2 = 0 then (match rdC en cs ts.tail with | .ok (xs, r) => .ok ((c (wordAt en ts).2).1 :: xs, r) | .error e => .error e) else .error ((wordAt en ts).1, (c (wordAt en ts).2).2)
def vS : List Nat := [118]
def fS : List Nat := [102]
def coordW : Wc := fun w => numR w (-4294967296) 4294967296
def zeroW : Wc := fun w => if w = [48] then (0, 0) else (0, 11)
def denW (P : List (Int × Int)) (W : Int) : Wc := fun w => if (numR w 1 1048576).2 = 0 ∧ P ≠ [] ∧ (numR w 1 1048576).1 ≠ W then (0, 11) else numR w 1 1048576
def idxW (n : Nat) : Wc := fun w => numR w 1 n
abbrev Ob := List (Int × Int) × Int × List (List Int)
/-- The edges of a face, round it. -/
def edgesF (f : List Int) : List (Int × Int) := f.zip (f.tail ++ f.take 1)
def fitP (p : Int × Int) : Prop := (-4294967296 ≤ p.1 ∧ p.1 ≤ 4294967296) ∧ (-4294967296 ≤ p.2 ∧ p.2 ≤ 4294967296)
structure FacesOk (n : Nat) (F : List (List Int)) : Prop where
  le : n ≤ 1048576
  fs : ∀ f, f ∈ F → 3 ≤ f.length ∧ f.Nodup ∧ ∀ k, k ∈ f → 0 ≤ k ∧ k < n
  es : (F.flatMap edgesF).Nodup
structure ValidO (P : List (Int × Int)) (W : Int) (F : List (List Int)) : Prop where
  ne : F ≠ []
  w0 : 1 ≤ W
  w1 : W ≤ 1048576
  ps : ∀ p, p ∈ P → fitP p
  fo : FacesOk P.length F
  f4 : ∀ f, f ∈ F → f.length ≤ 4
  pd : P.Nodup
  us : ∀ i : Nat, i < P.length → ∃ f, f ∈ F ∧ (i : Int) ∈ f
open Classical in
noncomputable def chkO (P : List (Int × Int)) (W : Int) (F : List (List Int)) : Int := if ValidO P W F then 0 else 2
def nilO : Ob := ([], 0, [])
open Classical in
noncomputable def finO (P : List (Int × Int)) (W : Int) (F : List (List Int)) : Ob × Int × Int := if ValidO P W F then ((P, W, F), 0, 0) else (nilO, 0, 2)
def dec1 (l : List Int) : List Int := l.map (· - 1)
noncomputable def readO (en : Nat) : Nat → List (Int × Int) → Int → List (List Int) → List Tok → Ob × Int × Int
  | 0, P, W, F, _ => finO P W F
  | _ + 1, P, W, F, [] => finO P W F
  | f + 1, P, W, F, t :: r =>
    if t.2 = vS ∧ F = [] then
      match rdC en [coordW, coordW, zeroW, denW P W] r with
      | .ok (xs, r') => readO en f (P ++ [(xs[0]?.getD 0, xs[1]?.getD 0)]) (xs[3]?.getD 0) F r'
      | .error e => (nilO, e.1, e.2)
    else if t.2 = fS then
      match rdC en [idxW P.length, idxW P.length, idxW P.length] r with
      | .ok (xs, r') =>
        if (idxW P.length (wordAt en r').2).2 = 11 then readO en f P W (F ++ [dec1 xs]) r'
        else if (idxW P.length (wordAt en r').2).2 = 0 then readO en f P W (F ++ [dec1 xs ++ [(idxW P.length (wordAt en r').2).1 - 1]]) r'.tail
        else (nilO, (wordAt en r').1, (idxW P.length (wordAt en r').2).2)
      | .error e => (nilO, e.1, e.2)
    else (nilO, t.1, 11)
/-- A row's words, each with a blank behind it, the last with the end of the line. -/
def joinQ : List (List Nat) → List Wd
  | [] => []
  | [w] => [(w, [10])]
  | w :: ws => (w, [32]) :: joinQ ws
theorem joinQ_txt : ∀ ws : List (List Nat), (joinQ ws).map (·.1) = ws
  | [] => rfl
  | [w] => rfl
  | w :: x :: ws => by simp [joinQ, joinQ_txt (x :: ws)]
theorem joinQ_sep : ∀ (ws : List (List Nat)) (q : Wd), q ∈ joinQ ws → q.1 ∈ ws ∧ sepOk q.2 ∧ q.2.length = 1
  | [], q, h => by simp [joinQ] at h
  | [w], q, h => by simp [joinQ] at h; subst h; exact ⟨by simp, sep_nl, rfl⟩
  | w :: x :: ws, q, h => by
    simp only [joinQ] at h
    rcases List.mem_cons.1 h with r | r
    · subst r; exact ⟨by simp, sep_sp, rfl⟩
    · have := joinQ_sep (x :: ws) q r; exact ⟨List.mem_cons_of_mem _ this.1, this.2⟩
def placeT (W : Int) (p : Int × Int) : List (List Nat) := [vS, itoaN p.1, itoaN p.2, [48], itoaN W]
def faceT (f : List Int) : List (List Nat) := fS :: f.map fun i => itoaN (i + 1)
def txtO (P : List (Int × Int)) (W : Int) (F : List (List Int)) : List (List Nat) := P.flatMap (placeT W) ++ F.flatMap faceT
def wordsO (P : List (Int × Int)) (W : Int) (F : List (List Int)) : List Wd := P.flatMap (fun p => joinQ (placeT W p)) ++ F.flatMap fun f => joinQ (faceT f)
def textO (P : List (Int × Int)) (W : Int) (F : List (List Int)) : List Nat := rend (wordsO P W F)
theorem wordsO_txt (P : List (Int × Int)) (W : Int) (F : List (List Int)) : (wordsO P W F).map (·.1) = txtO P W F := by
  simp [wordsO, txtO, List.map_flatMap, joinQ_txt]
/-! ### Reading rows -/
theorem rdC_ok (en : Nat) : ∀ (cs : List Wc) (ws : List (List Nat)) (xs : List Int) (ts : List Tok) (rest : List (List Nat)), ts.map (·.2) = ws ++ rest → ws.length = cs.length → xs.length = cs.length →
    (∀ (i : Nat) (c : Wc) (w : List Nat) (x : Int), cs[i]? = some c → ws[i]? = some w → xs[i]? = some x → c w = (x, 0)) → rdC en cs ts = .ok (xs, ts.drop cs.length)
  | [], [], [], ts, rest, _, _, _, _ => by simp [rdC]
  | c :: cs, w :: ws, x :: xs, ts, rest, h, hw, hx, hc => by
    cases ts with
    | nil => simp at h
    | cons t ts =>
      simp only [List.map_cons, List.cons_append, List.cons.injEq] at h
      have h0 := hc 0 c w x rfl rfl rfl
      have ih := rdC_ok en cs ws xs ts rest h.2 (by simpa using hw) (by simpa using hx) (fun i c w x a b d => hc (i + 1) c w x a b d)
      unfold rdC wordAt
      simp only [List.head?_cons, Option.getD_some, h.1, h0, List.tail_cons, ih, if_true]
      simp
  | c :: cs, [], xs, ts, rest, _, hw, _, _ => by simp at hw
  | c :: cs, w :: ws, [], ts, rest, _, _, hx, _ => by simp at hx
  | [], w :: ws, xs, ts, rest, _, hw, _, _ => by simp at hw
  | [], [], x :: xs, ts, rest, _, _, hx, _ => by simp at hx
theorem coord_itoa {n : Int} (h : -4294967296 ≤ n ∧ n ≤ 4294967296) : coordW (itoaN n) = (n, 0) := by
  have e : (10 : Nat) ^ 24 = 1000000000000000000000000 := by decide
  unfold coordW; rw [numR_itoa (by omega), if_pos h]
theorem den_itoa {P : List (Int × Int)} {W0 W : Int} (h : 1 ≤ W ∧ W ≤ 1048576) (k : P = [] ∨ W0 = W) : denW P W0 (itoaN W) = (W, 0) := by
  have e : (10 : Nat) ^ 24 = 1000000000000000000000000 := by decide
  unfold denW
  rw [numR_itoa (by omega), if_pos h, if_neg]
  rintro ⟨_, b, c⟩
  rcases k with k | k
  · exact b k
  · exact c k.symm
theorem idx_itoa {n : Nat} {k : Int} (h : 0 ≤ k ∧ k < n) (hn : n ≤ 1048576) : idxW n (itoaN (k + 1)) = (k + 1, 0) := by
  have e : (10 : Nat) ^ 24 = 1000000000000000000000000 := by decide
  unfold idxW; rw [numR_itoa (by omega), if_pos (by omega)]
/-- The rows of places. -/
theorem readO_places (en : Nat) {W : Int} (hW : 1 ≤ W ∧ W ≤ 1048576) : ∀ (P1 P0 : List (Int × Int)) (W0 : Int) (ts : List Tok) (rest : List (List Nat)) (f : Nat), (∀ p, p ∈ P1 → fitP p) → (P0 = [] ∨ W0 = W) →
    ts.map (·.2) = P1.flatMap (placeT W) ++ rest → readO en (P1.length + f) P0 W0 [] ts = readO en f (P0 ++ P1) (if P1 = [] then W0 else W) [] (ts.drop (5 * P1.length))
  | [], P0, W0, ts, rest, f, _, _, _ => by simp
  | p :: P1, P0, W0, ts, rest, f, hp, h0, h => by
    cases ts with
    | nil => simp [placeT] at h
    | cons t ts =>
      have hv : t.2 = vS := by simp [placeT] at h; exact h.1
      have h4 : ts.map (·.2) = [itoaN p.1, itoaN p.2, [48], itoaN W] ++ (P1.flatMap (placeT W) ++ rest) := by
        simp [placeT] at h; simpa using h.2
      have hfit := hp p (by simp)
      have hr := rdC_ok en [coordW, coordW, zeroW, denW P0 W0] [itoaN p.1, itoaN p.2, [48], itoaN W] [p.1, p.2, 0, W] ts _ h4 rfl rfl (by
        intro i c w x a b d
        match i with
        | 0 => simp at a b d; subst a b d; exact coord_itoa hfit.1
        | 1 => simp at a b d; subst a b d; exact coord_itoa hfit.2
        | 2 => simp at a b d; subst a b d; rfl
        | 3 => simp at a b d; subst a b d; exact den_itoa hW h0
        | i + 4 => simp at a)
      have h5 : (ts.drop 4).map (·.2) = P1.flatMap (placeT W) ++ rest := by rw [List.map_drop, h4]; rfl
      have ih := readO_places en hW P1 (P0 ++ [p]) W (ts.drop 4) rest f (fun q hq => hp q (by simp [hq])) (.inr rfl) h5
      have e1 : (p :: P1).length + f = P1.length + f + 1 := by simp; omega
      rw [e1]
      conv => lhs; unfold readO
      rw [if_pos ⟨hv, rfl⟩, hr]
      simp only [List.getElem?_cons_zero, List.getElem?_cons_succ, Option.getD_some, List.length_cons, List.length_nil]
      rw [ih]
      have e2 : (if P1 = [] then W else W) = W := by split <;> rfl
      rw [e2]
      simp only [List.append_assoc, List.singleton_append, List.drop_drop]
      rw [if_neg (by simp)]
      congr 1
      rw [show 5 * (P1.length + 1) = (4 + 5 * P1.length) + 1 from by omega, List.drop_succ_cons]
theorem idx_stop {n : Nat} {w : List Nat} (h : wfN w = false) : (idxW n w).2 = 11 := by unfold idxW numR; rw [h]; rfl
theorem len34 {g : List Int} (h3 : 3 ≤ g.length) (h4 : g.length ≤ 4) : (∃ a b c, g = [a, b, c]) ∨ ∃ a b c d, g = [a, b, c, d] := by
  match g, h3, h4 with
  | [a, b, c], _, _ => exact .inl ⟨a, b, c, rfl⟩
  | [a, b, c, d], _, _ => exact .inr ⟨a, b, c, d, rfl⟩
  | a :: b :: c :: d :: e :: g, _, h => simp at h
/-- The rows of faces. -/
theorem readO_faces (en : Nat) {P : List (Int × Int)} {W : Int} (hn : P.length ≤ 1048576) : ∀ (F1 F0 : List (List Int)) (ts : List Tok) (rest : List (List Nat)) (f : Nat), (∀ g, g ∈ F1 → 3 ≤ g.length ∧ g.length ≤ 4 ∧ ∀ k, k ∈ g → 0 ≤ k ∧ k < P.length) →
    ts.map (·.2) = F1.flatMap faceT ++ rest → (∀ t, (ts.drop (F1.flatMap faceT).length).head? = some t → wfN t.2 = false) → readO en (F1.length + f) P W F0 ts = readO en f P W (F0 ++ F1) (ts.drop (F1.flatMap faceT).length)
  | [], F0, ts, rest, f, _, _, _ => by simp
  | g :: F1, F0, ts, rest, f, hg, h, hs => by
    cases ts with
    | nil => simp [faceT] at h
    | cons t ts =>
      obtain ⟨g3, g4, gk⟩ := hg g (by simp)
      have hv : t.2 = fS := by simp [faceT] at h; exact h.1
      have hvn : ¬ (t.2 = vS ∧ F0 = []) := by rw [hv]; rintro ⟨q, _⟩; exact absurd q (by decide)
      have h4 : ts.map (·.2) = g.map (fun i => itoaN (i + 1)) ++ (F1.flatMap faceT ++ rest) := by
        simp [faceT] at h; simpa using h.2
      have e1 : (g :: F1).length + f = F1.length + f + 1 := by simp; omega
      have hdl : ((g :: F1).flatMap faceT).length = (g.length + (F1.flatMap faceT).length) + 1 := by simp [faceT]
      rw [hdl, List.drop_succ_cons] at hs ⊢
      have ih := readO_faces en (W := W) hn F1 (F0 ++ [g]) (ts.drop g.length) rest f (fun q hq => hg q (by simp [hq])) (by rw [List.map_drop, h4]; simp) (by rw [List.drop_drop]; exact hs)
      rw [List.drop_drop, List.append_assoc, List.singleton_append] at ih
      rw [e1]
      conv => lhs; unfold readO
      rw [if_neg hvn, if_pos hv]
      rcases len34 g3 g4 with ⟨a, b, c, rfl⟩ | ⟨a, b, c, d, rfl⟩
      · have hr := rdC_ok en [idxW P.length, idxW P.length, idxW P.length] [itoaN (a + 1), itoaN (b + 1), itoaN (c + 1)] [a + 1, b + 1, c + 1] ts _ h4 rfl rfl (by
          intro i x w y q1 q2 q3
          match i with
          | 0 => simp at q1 q2 q3; subst q1 q2 q3; exact idx_itoa (gk a (by simp)) hn
          | 1 => simp at q1 q2 q3; subst q1 q2 q3; exact idx_itoa (gk b (by simp)) hn
          | 2 => simp at q1 q2 q3; subst q1 q2 q3; exact idx_itoa (gk c (by simp)) hn
          | i + 3 => simp at q1)
        rw [hr]
        simp only [List.length_cons, List.length_nil]
        have hst : (idxW P.length (wordAt en (ts.drop 3)).2).2 = 11 := by
          apply idx_stop
          have h3 : (ts.drop 3).map (·.2) = F1.flatMap faceT ++ rest := by rw [List.map_drop, h4]; rfl
          unfold wordAt
          cases hd : ts.drop 3 with
          | nil => rfl
          | cons u us =>
            simp only [List.head?_cons, Option.getD_some]
            cases F1 with
            | nil => exact hs u (by simp [hd])
            | cons g1 F1 =>
              rw [hd] at h3
              simp [faceT] at h3
              rw [h3.1]; rfl
        rw [if_pos hst]
        have hd1 : dec1 [a + 1, b + 1, c + 1] = [a, b, c] := by simp [dec1]
        rw [hd1]
        exact ih
      · have hr := rdC_ok en [idxW P.length, idxW P.length, idxW P.length] [itoaN (a + 1), itoaN (b + 1), itoaN (c + 1)] [a + 1, b + 1, c + 1] ts (itoaN (d + 1) :: (F1.flatMap faceT ++ rest)) h4 rfl rfl (by
          intro i x w y q1 q2 q3
          match i with
          | 0 => simp at q1 q2 q3; subst q1 q2 q3; exact idx_itoa (gk a (by simp)) hn
          | 1 => simp at q1 q2 q3; subst q1 q2 q3; exact idx_itoa (gk b (by simp)) hn
          | 2 => simp at q1 q2 q3; subst q1 q2 q3; exact idx_itoa (gk c (by simp)) hn
          | i + 3 => simp at q1)
        rw [hr]
        simp only [List.length_cons, List.length_nil]
        have hwd : idxW P.length (wordAt en (ts.drop 3)).2 = (d + 1, 0) := by
          have h3 : (ts.drop 3).map (·.2) = itoaN (d + 1) :: (F1.flatMap faceT ++ rest) := by rw [List.map_drop, h4]; rfl
          unfold wordAt
          cases hd : ts.drop 3 with
          | nil => rw [hd] at h3; simp at h3
          | cons u us =>
            rw [hd] at h3
            simp only [List.map_cons, List.cons.injEq] at h3
            simp only [List.head?_cons, Option.getD_some, h3.1]
            exact idx_itoa (gk d (by simp)) hn
        rw [hwd, if_neg (by simp), if_pos rfl]
        have hd1 : dec1 [a + 1, b + 1, c + 1] ++ [d + 1 - 1] = [a, b, c, d] := by simp [dec1]
        rw [List.tail_drop, hd1]
        exact ih
theorem rdC_len (en : Nat) : ∀ (cs : List Wc) (ts : List Tok) (xs : List Int) (r : List Tok), rdC en cs ts = .ok (xs, r) → r.length ≤ ts.length ∧ xs.length = cs.length
  | [], ts, xs, r, h => by simp [rdC] at h; obtain ⟨rfl, rfl⟩ := h; simp
  | c :: cs, ts, xs, r, h => by
    unfold rdC at h
    split at h
    · cases hq : rdC en cs ts.tail with
      | error e => rw [hq] at h; cases h
      | ok p =>
        obtain ⟨ys, r'⟩ := p
        rw [hq] at h
        simp only [Except.ok.injEq, Prod.mk.injEq] at h
        obtain ⟨rfl, rfl⟩ := h
        have := rdC_len en cs ts.tail ys r' hq
        have hl : ts.tail.length ≤ ts.length := by simp
        exact ⟨by omega, by simp [this.2]⟩
    · cases h
theorem readO_fuel (en : Nat) : ∀ (f f' : Nat) (P : List (Int × Int)) (W : Int) (F : List (List Int)) (ts : List Tok), ts.length ≤ f → ts.length ≤ f' → readO en f P W F ts = readO en f' P W F ts
  | f, f', P, W, F, [], _, _ => by cases f <;> cases f' <;> rfl
  | 0, f', P, W, F, t :: ts, h, _ => by simp at h
  | f + 1, 0, P, W, F, t :: ts, _, h => by simp at h
  | f + 1, f' + 1, P, W, F, t :: ts, h, h' => by
    have h1 : ts.length ≤ f := by simpa using h
    have h2 : ts.length ≤ f' := by simpa using h'
    unfold readO
    by_cases c1 : t.2 = vS ∧ F = []
    · rw [if_pos c1, if_pos c1]
      cases hq : rdC en [coordW, coordW, zeroW, denW P W] ts with
      | error e => rfl
      | ok p =>
        have := (rdC_len en _ _ p.1 p.2 hq).1
        exact readO_fuel en f f' _ _ _ _ (by omega) (by omega)
    · rw [if_neg c1, if_neg c1]
      by_cases c2 : t.2 = fS
      · rw [if_pos c2, if_pos c2]
        cases hq : rdC en [idxW P.length, idxW P.length, idxW P.length] ts with
        | error e => rfl
        | ok p =>
          have := (rdC_len en _ _ p.1 p.2 hq).1
          have ht : p.2.tail.length ≤ p.2.length := by simp
          simp only
          split
          · exact readO_fuel en f f' _ _ _ _ (by omega) (by omega)
          · split
            · exact readO_fuel en f f' _ _ _ _ (by omega) (by omega)
            · rfl
      · rw [if_neg c2, if_neg c2]
/-- What reading bytes gives. -/
noncomputable def parO (s : List Nat) : Ob × Int × Int := if 1048576 < s.length then (nilO, 0, 3) else readO s.length (wordsN s).length [] 0 [] (wordsN s)
theorem finO_ok {P : List (Int × Int)} {W : Int} {F : List (List Int)} (h : ValidO P W F) : finO P W F = ((P, W, F), 0, 0) := by unfold finO; rw [if_pos h]
theorem chkO_ok {P : List (Int × Int)} {W : Int} {F : List (List Int)} (h : ValidO P W F) : chkO P W F = 0 := by unfold chkO; rw [if_pos h]
theorem chkO_no {P : List (Int × Int)} {W : Int} {F : List (List Int)} (h : ¬ ValidO P W F) : chkO P W F = 2 := by unfold chkO; rw [if_neg h]
theorem txtO_len (P : List (Int × Int)) (W : Int) (F : List (List Int)) : 5 * P.length + F.length ≤ (txtO P W F).length := by
  have h1 : (P.flatMap (placeT W)).length = 5 * P.length := by
    induction P with
    | nil => rfl
    | cons p P ih => simp only [List.flatMap_cons, List.length_append, ih]; simp [placeT]; omega
  have h2 : F.length ≤ (F.flatMap faceT).length := by
    induction F with
    | nil => simp
    | cons f F ih => simp only [List.flatMap_cons, List.length_append, List.length_cons]; simp only [faceT, List.length_cons]; omega
  unfold txtO
  rw [List.length_append]; omega
theorem ValidO.pne {P : List (Int × Int)} {W : Int} {F : List (List Int)} (h : ValidO P W F) : P ≠ [] := by
  intro q
  subst q
  obtain ⟨f, hf⟩ := List.exists_mem_of_ne_nil F h.ne
  obtain ⟨a, _, c⟩ := h.fo.fs f hf
  obtain ⟨k, hk⟩ := List.exists_mem_of_ne_nil f (by intro q; subst q; simp at a)
  have := c k hk
  simp at this; omega
/-- The words of a mesh are read as it. -/
theorem readO_words (en : Nat) {P : List (Int × Int)} {W : Int} {F : List (List Int)} (h : ValidO P W F) {ts : List Tok} (ht : ts.map (·.2) = txtO P W F) {f : Nat} (hf : ts.length ≤ f) : readO en f [] 0 [] ts = ((P, W, F), 0, 0) := by
  have hl := txtO_len P W F
  have htl : ts.length = (txtO P W F).length := by rw [← ht]; simp
  obtain ⟨g, hg⟩ : ∃ g, ts.length = P.length + (F.length + g) := ⟨ts.length - P.length - F.length, by omega⟩
  have hP5 : (P.flatMap (placeT W)).length = 5 * P.length := by
    clear h ht hl htl hg
    induction P with
    | nil => rfl
    | cons p P ih => simp only [List.flatMap_cons, List.length_append, ih]; simp [placeT]; omega
  rw [readO_fuel en f ts.length [] 0 [] ts hf (Nat.le_refl _), hg]
  rw [readO_places en ⟨h.w0, h.w1⟩ P [] 0 ts (F.flatMap faceT) _ h.ps (.inl rfl) ht, if_neg h.pne, List.nil_append]
  have h2 : (ts.drop (5 * P.length)).map (·.2) = F.flatMap faceT ++ [] := by
    rw [List.map_drop, ht]; unfold txtO; rw [← hP5, List.drop_left, List.append_nil]
  have hl2 : (ts.drop (5 * P.length)).length = (F.flatMap faceT).length := by
    have := congrArg List.length h2; simpa using this
  have hnil : (ts.drop (5 * P.length)).drop (F.flatMap faceT).length = [] := by rw [← hl2, List.drop_length]
  rw [readO_faces en h.fo.le F [] _ [] _ (fun q hq => ⟨(h.fo.fs q hq).1, h.f4 q hq, (h.fo.fs q hq).2.2⟩) h2 (by rw [hnil]; simp), hnil, List.nil_append]
  have : ∀ k, readO en k P W F [] = finO P W F := fun k => by cases k <;> rfl
  rw [this, finO_ok h]
end Go.AI
