/- Reading all numbers, one by one: the same as reading by kinds. Plain. No claim by itself. -/
import Derived.Test.YtmgaaieofdjfdaaDoorC9
namespace Go.Proofs.YtmgaaieofdjfdaaDoor
open Go Go.AI
def limI (i : Nat) (n : List Int) : Int × Int :=
  if i = 0 then (0, 200) else if i < 3 then (0, 400) else if (i : Int) < 3 + 2 * (n[0]?).getD 0 then (-1048576, 1048576) else (0, (n[0]?).getD 0 - 1)
def pairUp : List Int → List (Int × Int)
  | a :: b :: r => (a, b) :: pairUp r
  | _ => []
def nOf (n : List Int) (i : Nat) : Nat := ((n[i]?).getD 0).toNat
def splitN (n : List Int) : Pl3 := ((pairUp (n.drop 3)).take (nOf n 0), ((pairUp (n.drop 3)).drop (nOf n 0)).take (nOf n 1), (pairUp (n.drop 3)).drop (nOf n 0 + nOf n 1))
def finN (n : List Int) : List Tok → Pl3 × Int × Int
  | [] => (splitN n, 0, 0)
  | t :: _ => (([], [], []), (t.1 : Int), 11)
def allN (n : List Int) : Nat := 3 + 2 * (nOf n 0 + nOf n 1 + nOf n 2)
/-- The document's loop. -/
def flatF (en : Nat) : Nat → Nat → Nat → List Int → List Tok → Pl3 × Int × Int
  | 0, _, _, n, ts => finN n ts
  | f + 1, i, all, n, ts =>
    if i < all then
      match rdN en (limI i n).1 (limI i n).2 (.ok ts) with
      | (x, .ok ts') => flatF en f (i + 1) (if i = 2 then allN (n ++ [x]) else all) (n ++ [x]) ts'
      | (_, .error e) => (([], [], []), (e.1 : Int), e.2)
    else finN n ts
/-- Numbers one by one. -/
def rdF (en : Nat) : List (Int × Int) → List Tok → Except (Nat × Int) (List Int × List Tok)
  | [], ts => .ok ([], ts)
  | l :: ls, ts =>
    match rdN en l.1 l.2 (.ok ts) with
    | (x, .ok ts') => (match rdF en ls ts' with | .ok (xs, r) => .ok (x :: xs, r) | .error e => .error e)
    | (_, .error e) => .error e
theorem rdF_app (en : Nat) (a b : List (Int × Int)) (ts : List Tok) : rdF en (a ++ b) ts = match rdF en a ts with | .ok (xs, r) => (match rdF en b r with | .ok (ys, r') => .ok (xs ++ ys, r') | .error e => .error e) | .error e => .error e := by
  induction a generalizing ts with
  | nil => simp only [List.nil_append, rdF]; cases rdF en b ts <;> rfl
  | cons l a ih =>
    simp only [List.cons_append, rdF]
    obtain ⟨x, r⟩ := rdN en l.1 l.2 (.ok ts)
    cases r with
    | error e => rfl
    | ok ts' =>
      simp only [ih]
      cases rdF en a ts' with
      | error e => rfl
      | ok q => obtain ⟨xs, r⟩ := q; simp only; cases rdF en b r <;> rfl
theorem rdF_len (en : Nat) : ∀ (a : List (Int × Int)) (ts : List Tok) (xs : List Int) (r : List Tok), rdF en a ts = .ok (xs, r) → xs.length = a.length
  | [], ts, xs, r, h => by simp [rdF] at h; rw [h.1]; rfl
  | l :: a, ts, xs, r, h => by
    simp only [rdF] at h
    split at h
    · rename_i x ts' _
      split at h
      · rename_i ys r' hq
        cases h
        simp [rdF_len en a ts' ys r hq]
      · cases h
    · cases h
theorem rdP_F (en : Nat) (lo hi : Int) : ∀ (n : Nat) (ts : List Tok), (∃ xs r, rdF en (List.replicate (2 * n) (lo, hi)) ts = .ok (xs, r) ∧ rdP en lo hi n (.ok ts) = (pairUp xs, .ok r)) ∨ (∃ e, rdF en (List.replicate (2 * n) (lo, hi)) ts = .error e ∧ (rdP en lo hi n (.ok ts)).2 = .error e)
  | 0, ts => .inl ⟨[], ts, rfl, rfl⟩
  | n + 1, ts => by
    have e1 : 2 * (n + 1) = (2 * n) + 1 + 1 := by omega
    rw [e1, List.replicate_succ, List.replicate_succ]
    have hp : rdP en lo hi (n + 1) (.ok ts) = ((rd2 en lo hi (.ok ts)).1 :: (rdP en lo hi n (rd2 en lo hi (.ok ts)).2).1, (rdP en lo hi n (rd2 en lo hi (.ok ts)).2).2) := rdP_ok rfl n
    rw [hp]
    simp only [rdF, rd2]
    generalize hq : rdN en lo hi (.ok ts) = q
    obtain ⟨x, r⟩ := q
    cases r with
    | error e =>
      right
      have e2 : rdN en lo hi (.error e) = (0, .error e) := rfl
      have e3 : rdP en lo hi n (.error e) = ([], .error e) := rdP_err rfl n
      exact ⟨e, rfl, by simp only [e2, e3]⟩
    | ok t1 =>
      simp only
      generalize hq2 : rdN en lo hi (.ok t1) = q2
      obtain ⟨y, r2⟩ := q2
      cases r2 with
      | error e =>
        right
        have e3 : rdP en lo hi n (.error e) = ([], .error e) := rdP_err rfl n
        exact ⟨e, rfl, by simp only [e3]⟩
      | ok t2 =>
        simp only
        rcases rdP_F en lo hi n t2 with ⟨xs, r, h1, h2⟩ | ⟨e, h1, h2⟩
        · left; exact ⟨x :: y :: xs, r, by rw [h1], by rw [h2]; rfl⟩
        · right; exact ⟨e, by rw [h1], h2⟩
theorem pairUp_app : ∀ (a b : List Int), a.length % 2 = 0 → pairUp (a ++ b) = pairUp a ++ pairUp b
  | [], b, _ => rfl
  | [x], b, h => by simp at h
  | x :: y :: r, b, h => by
    simp only [List.cons_append, pairUp]
    rw [pairUp_app r b (by simp at h; omega)]
theorem pairUp_len : ∀ (a : List Int), (pairUp a).length = a.length / 2
  | [] => rfl
  | [x] => by simp [pairUp]
  | x :: y :: r => by simp only [pairUp, List.length_cons, pairUp_len r]; omega
theorem flat_body (en : Nat) : ∀ (f i all : Nat) (n : List Int) (ts : List Tok), 3 ≤ i → i ≤ all → all ≤ i + f → i = n.length →
    flatF en f i all n ts = match rdF en ((List.range' i (all - i)).map fun j => limI j n) ts with | .ok (xs, r) => finN (n ++ xs) r | .error e => (([], [], []), (e.1 : Int), e.2)
  | 0, i, all, n, ts, h3, h1, h2, h4 => by
    have : all - i = 0 := by omega
    rw [this]; simp [flatF, rdF]
  | f + 1, i, all, n, ts, h3, h1, h2, h4 => by
    unfold flatF
    by_cases hi : i < all
    · rw [if_pos hi]
      have e1 : all - i = (all - (i + 1)) + 1 := by omega
      rw [e1, List.range'_succ]
      simp only [List.map_cons, rdF]
      generalize rdN en (limI i n).1 (limI i n).2 (.ok ts) = q
      obtain ⟨x, r⟩ := q
      cases r with
      | error e => rfl
      | ok t1 =>
        simp only
        rw [if_neg (by omega), flat_body en f (i + 1) all (n ++ [x]) t1 (by omega) (by omega) (by omega) (by simp; omega)]
        have hl : ((List.range' (i + 1) (all - (i + 1))).map fun j => limI j (n ++ [x])) = (List.range' (i + 1) (all - (i + 1))).map fun j => limI j n := by
          apply List.map_congr_left
          intro j _
          unfold limI
          rw [List.getElem?_append_left (by omega)]
        rw [hl]
        cases rdF en ((List.range' (i + 1) (all - (i + 1))).map fun j => limI j n) t1 with
        | error e => rfl
        | ok q => obtain ⟨xs, r⟩ := q; simp
    · rw [if_neg hi]
      have : all - i = 0 := by omega
      rw [this]; simp [rdF]
theorem lims_eq {n : List Int} {N M K : Nat} (h0 : n[0]? = some (N : Int)) : ((List.range' 3 (2 * (N + M + K))).map fun j => limI j n) = List.replicate (2 * N) (-1048576, 1048576) ++ (List.replicate (2 * M) (0, (N : Int) - 1) ++ List.replicate (2 * K) (0, (N : Int) - 1)) := by
  have e : 2 * (N + M + K) = 2 * N + (2 * M + 2 * K) := by omega
  rw [e, ← List.range'_append_1, List.map_append]
  have g : ∀ (s c : Nat) (l : Int × Int), (∀ j, s ≤ j → j < s + c → limI j n = l) → ((List.range' s c).map fun j => limI j n) = List.replicate c l := by
    intro s c l h
    rw [List.eq_replicate_iff]
    refine ⟨by simp, fun x hx => ?_⟩
    obtain ⟨j, hj, rfl⟩ := List.mem_map.1 hx
    rw [List.mem_range'_1] at hj
    exact h j hj.1 hj.2
  rw [g 3 (2 * N) (-1048576, 1048576) (fun j h1 h2 => by unfold limI; rw [if_neg (by omega), if_neg (by omega), if_pos (by simp [h0]; omega)]),
    g _ (2 * M + 2 * K) (0, (N : Int) - 1) (fun j h1 h2 => by unfold limI; rw [if_neg (by omega), if_neg (by omega), if_neg (by simp [h0]; omega), h0]; rfl), List.replicate_append_replicate]
theorem body3_flat (en : Nat) (ts : List Tok) : body3 en ts = flatF en 3000 0 3 [] ts := by
  have q1 := rdN_range (en := en) (lo := 0) (hi := 200) (by omega) (by omega) (.ok ts)
  unfold body3
  rw [show (3000 : Nat) = 2997 + 1 + 1 + 1 from rfl]
  rw [flatF, if_pos (by omega)]
  simp only [limI, if_true]
  generalize hq : rdN en 0 200 (.ok ts) = q at *
  obtain ⟨a, r⟩ := q
  simp only at q1
  obtain ⟨N, rfl⟩ := Int.eq_ofNat_of_zero_le q1.1
  have er : ∀ e lo hi, rdN en lo hi (.error e) = (0, .error e) := fun _ _ _ => rfl
  have ep : ∀ e lo hi n, rdP en lo hi n (.error e) = ([], .error e) := fun _ _ _ n => rdP_err rfl n
  cases r with
  | error e => simp only [er, ep, fin3]
  | ok t1 =>
    simp only [List.nil_append]
    rw [if_neg (by omega), flatF, if_pos (by omega)]
    simp only [limI]
    rw [if_neg (by omega), if_pos (by omega)]
    simp only
    have q2 := rdN_range (en := en) (lo := 0) (hi := 400) (by omega) (by omega) (.ok t1)
    generalize rdN en 0 400 (.ok t1) = q at *
    obtain ⟨b, r⟩ := q
    simp only at q2
    obtain ⟨M, rfl⟩ := Int.eq_ofNat_of_zero_le q2.1
    cases r with
    | error e => simp only [er, ep, fin3]
    | ok t2 =>
      simp only
      rw [if_neg (by omega), flatF, if_pos (by omega)]
      simp only [limI]
      rw [if_neg (by omega), if_pos (by omega)]
      simp only
      have q3 := rdN_range (en := en) (lo := 0) (hi := 400) (by omega) (by omega) (.ok t2)
      generalize rdN en 0 400 (.ok t2) = q at *
      obtain ⟨c, r⟩ := q
      simp only at q3
      obtain ⟨K, rfl⟩ := Int.eq_ofNat_of_zero_le q3.1
      cases r with
      | error e => simp only [ep, fin3]
      | ok t3 =>
        have hall : allN ([(N : Int)] ++ [(M : Int)] ++ [(K : Int)]) = 3 + 2 * (N + M + K) := by simp [allN, nOf]
        simp only
        simp only [if_true]
        rw [hall, flat_body en 2997 3 _ _ t3 (by omega) (by omega) (by omega) (by simp)]
        rw [show 3 + 2 * (N + M + K) - 3 = 2 * (N + M + K) from by omega, lims_eq (N := N) (M := M) (K := K) (by simp), rdF_app]
        simp only [Int.toNat_natCast]
        rcases rdP_F en (-1048576) 1048576 N t3 with ⟨xs, r, h1, h2⟩ | ⟨e, h1, h2⟩
        · rw [h1, h2]
          simp only
          rcases rdP_F en 0 ((N : Int) - 1) M r with ⟨ys, r', h3, h4⟩ | ⟨e, h3, h4⟩
          · rw [rdF_app, h3, h4]
            simp only
            rcases rdP_F en 0 ((N : Int) - 1) K r' with ⟨zs, r'', h5, h6⟩ | ⟨e, h5, h6⟩
            · rw [h5, h6]
              have lx := rdF_len en _ _ _ _ h1
              have ly := rdF_len en _ _ _ _ h3
              have lz := rdF_len en _ _ _ _ h5
              simp only [List.length_replicate] at lx ly lz
              have hsp : splitN ([(N : Int)] ++ [(M : Int)] ++ [(K : Int)] ++ (xs ++ (ys ++ zs))) = (pairUp xs, pairUp ys, pairUp zs) := by
                have px := pairUp_len xs
                have py := pairUp_len ys
                have hd : ([(N : Int)] ++ [(M : Int)] ++ [(K : Int)] ++ (xs ++ (ys ++ zs))).drop 3 = xs ++ (ys ++ zs) := by simp
                have hpu : pairUp (xs ++ (ys ++ zs)) = pairUp xs ++ (pairUp ys ++ pairUp zs) := by
                  rw [pairUp_app _ _ (by omega), pairUp_app _ _ (by omega)]
                have n0 : nOf ([(N : Int)] ++ [(M : Int)] ++ [(K : Int)] ++ (xs ++ (ys ++ zs))) 0 = N := by simp [nOf]
                have n1 : nOf ([(N : Int)] ++ [(M : Int)] ++ [(K : Int)] ++ (xs ++ (ys ++ zs))) 1 = M := by simp [nOf]
                unfold splitN
                rw [hd, hpu, n0, n1]
                have lpx : (pairUp xs).length = N := by omega
                have lpy : (pairUp ys).length = M := by omega
                rw [← List.drop_drop, ← lpx, List.take_left, List.drop_left, ← lpy, List.take_left, List.drop_left]
              cases r'' with
              | nil => simp only [fin3, finN, hsp]
              | cons t r'' => simp only [fin3, finN]
            · rw [h5]
              generalize rdP en 0 ((N : Int) - 1) K (.ok r') = z at h6
              simp only [h6, fin3]
          · rw [rdF_app, h3]
            generalize rdP en 0 ((N : Int) - 1) M (.ok r) = z at h4
            simp only [h4, ep, fin3]
        · rw [h1]
          generalize rdP en (-1048576) 1048576 N (.ok t3) = z at h2
          simp only [h2, ep, fin3]
end Go.Proofs.YtmgaaieofdjfdaaDoor
