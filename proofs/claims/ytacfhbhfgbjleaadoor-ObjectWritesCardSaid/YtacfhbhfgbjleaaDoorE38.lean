/- What is read is the mesh of its words; words that are wrong: plain. No claim by itself. -/
import Derived.Test.YtacfhbhfgbjleaaDoorE37
namespace Go.AI
theorem rdC_back (en : Nat) : ∀ (cs : List Wc) (ts : List Tok) (xs : List Int) (r : List Tok), (∀ c, c ∈ cs → (c []).2 ≠ 0) → rdC en cs ts = .ok (xs, r) →
    ∃ ws, ts.map (·.2) = ws ++ r.map (·.2) ∧ ws.length = cs.length ∧ ∀ (i : Nat) (c : Wc) (w : List Nat) (x : Int), cs[i]? = some c → ws[i]? = some w → xs[i]? = some x → c w = (x, 0)
  | [], ts, xs, r, _, h => by
    simp [rdC] at h; obtain ⟨rfl, rfl⟩ := h
    exact ⟨[], by simp, rfl, fun i c w x a => by simp at a⟩
  | c :: cs, ts, xs, r, hc, h => by
    unfold rdC at h
    split at h
    · rename_i h0
      cases ts with
      | nil => exact absurd h0 (hc c (by simp))
      | cons t ts =>
        simp only [wordAt, List.head?_cons, Option.getD_some, List.tail_cons] at h h0
        cases hq : rdC en cs ts with
        | error e => rw [hq] at h; cases h
        | ok p =>
          obtain ⟨ys, r'⟩ := p
          rw [hq] at h
          simp only [Except.ok.injEq, Prod.mk.injEq] at h
          obtain ⟨rfl, rfl⟩ := h
          obtain ⟨ws, e1, e2, e3⟩ := rdC_back en cs ts ys r' (fun c h => hc c (by simp [h])) hq
          refine ⟨t.2 :: ws, by simp [e1], by simp [e2], fun i d w x a b k => ?_⟩
          match i with
          | 0 => simp at a b k; subst a b k; exact Prod.ext rfl h0
          | i + 1 => exact e3 i d w x (by simpa using a) (by simpa using b) (by simpa using k)
    · cases h
theorem p20 : (10 : Int) ^ 20 = 100000000000000000000 := by decide
theorem coord_word {w : List Nat} {x : Int} (h : coordW w = (x, 0)) : w = itoaN x ∧ -4294967296 ≤ x ∧ x ≤ 4294967296 := numR_word h (by rw [p20]; omega) (by rw [p20]; omega)
theorem zero_word {w : List Nat} {x : Int} (h : zeroW w = (x, 0)) : w = [48] := by
  unfold zeroW at h; split at h
  · assumption
  · cases h
theorem den_word {P : List (Int × Int)} {W : Int} {w : List Nat} {x : Int} (h : denW P W w = (x, 0)) : w = itoaN x ∧ (1 ≤ x ∧ x ≤ 1048576) ∧ (P = [] ∨ x = W) := by
  unfold denW at h; split at h
  · cases h
  · rename_i q
    obtain ⟨a, b⟩ := numR_word h (by rw [p20]; omega) (by rw [p20]; omega)
    refine ⟨a, b, ?_⟩
    rw [h] at q
    by_cases hp : P = []
    · exact .inl hp
    · exact .inr (Classical.byContradiction fun hx => q ⟨rfl, hp, hx⟩)
theorem idx_word {n : Nat} {w : List Nat} {x : Int} (hn : n ≤ 1000000000) (h : idxW n w = (x, 0)) : w = itoaN x ∧ 1 ≤ x ∧ x ≤ n := numR_word h (by rw [p20]; omega) (by rw [p20]; omega)
theorem nilW : wfN [] = false := rfl
theorem coord_nil : (coordW []).2 ≠ 0 := by decide
theorem zero_nil : (zeroW []).2 ≠ 0 := by decide
theorem den_nil (P : List (Int × Int)) (W : Int) : (denW P W []).2 ≠ 0 := by
  have : numR [] 1 1048576 = (0, 11) := by decide
  unfold denW; rw [this]; simp
theorem idx_nil (n : Nat) : (idxW n []).2 = 11 := idx_stop nilW
theorem map_four {l : List (List Nat)} (h : l.length = 4) : ∃ a b c d, l = [a, b, c, d] := by
  match l, h with
  | [a, b, c, d], _ => exact ⟨a, b, c, d, rfl⟩
theorem map_three {l : List (List Nat)} (h : l.length = 3) : ∃ a b c, l = [a, b, c] := by
  match l, h with
  | [a, b, c], _ => exact ⟨a, b, c, rfl⟩
theorem int_four {l : List Int} (h : l.length = 4) : ∃ a b c d, l = [a, b, c, d] := by
  match l, h with
  | [a, b, c, d], _ => exact ⟨a, b, c, d, rfl⟩
theorem int_three {l : List Int} (h : l.length = 3) : ∃ a b c, l = [a, b, c] := by
  match l, h with
  | [a, b, c], _ => exact ⟨a, b, c, rfl⟩
theorem finO_back {P : List (Int × Int)} {W : Int} {F : List (List Int)} {o : Ob} (h : finO P W F = (o, 0, 0)) : ValidO P W F ∧ o = (P, W, F) := by
  unfold finO at h; split at h
  · rename_i q; cases h; exact ⟨q, rfl⟩
  · cases h
theorem rdC_err {en : Nat} : ∀ {cs : List Wc} {ts : List Tok} {e : Nat × Int}, rdC en cs ts = .error e → e.2 ≠ 0
  | [], ts, e, h => by simp [rdC] at h
  | c :: cs, ts, e, h => by
    unfold rdC at h
    split at h
    · cases hq : rdC en cs ts.tail with
      | ok p => rw [hq] at h; cases h
      | error e' => rw [hq] at h; cases h; exact rdC_err hq
    · rename_i h0; cases h; exact h0
theorem err_no {o o' : Ob} {p x : Int} {e : Int} (he : e ≠ 0) : ¬ ((o, p, e) = (o', x, 0)) := by
  intro h; simp only [Prod.mk.injEq] at h; exact he h.2.2
theorem readO_back (en : Nat) : ∀ (f : Nat) (P0 : List (Int × Int)) (W0 : Int) (F0 : List (List Int)) (ts : List Tok) (P : List (Int × Int)) (W : Int) (F : List (List Int)), ts.length ≤ f → P0.length + ts.length ≤ 1000000000 → readO en f P0 W0 F0 ts = ((P, W, F), 0, 0) →
    ValidO P W F ∧ ∃ P1 F1, P = P0 ++ P1 ∧ F = F0 ++ F1 ∧ (P1 = [] → W = W0) ∧ (P1 ≠ [] → F0 = [] ∧ (P0 = [] ∨ W0 = W)) ∧ ts.map (·.2) = P1.flatMap (placeT W) ++ F1.flatMap faceT := by
  intro f
  induction f with
  | zero =>
    intro P0 W0 F0 ts P W F hl _ h
    have : ts = [] := List.length_eq_zero_iff.1 (by omega)
    subst this
    obtain ⟨a, b⟩ := finO_back h
    cases b
    exact ⟨a, [], [], by simp, by simp, fun _ => rfl, fun q => absurd rfl q, by simp⟩
  | succ f ih =>
    intro P0 W0 F0 ts P W F hl hb h
    cases ts with
    | nil =>
      obtain ⟨a, b⟩ := finO_back h
      cases b
      exact ⟨a, [], [], by simp, by simp, fun _ => rfl, fun q => absurd rfl q, by simp⟩
    | cons t ts =>
      simp only [List.length_cons] at hl hb
      unfold readO at h
      split at h
      · rename_i c1
        obtain ⟨hv, rfl⟩ := c1
        cases hq : rdC en [coordW, coordW, zeroW, denW P0 W0] ts with
        | error e => rw [hq] at h; exact absurd h (err_no (rdC_err hq))
        | ok p =>
          obtain ⟨xs, r⟩ := p
          rw [hq] at h
          simp only at h
          have hlen := rdC_len en _ _ _ _ hq
          obtain ⟨ws, e1, e2, e3⟩ := rdC_back en _ _ _ _ (by
            intro c hc
            simp only [List.mem_cons, List.not_mem_nil, or_false] at hc
            rcases hc with rfl | rfl | rfl | rfl
            · exact coord_nil
            · exact coord_nil
            · exact zero_nil
            · exact den_nil _ _) hq
          obtain ⟨w0, w1, w2, w3, rfl⟩ := map_four e2
          obtain ⟨x, y, z, w, rfl⟩ := int_four hlen.2
          obtain ⟨a1, a2⟩ := coord_word (e3 0 _ _ _ rfl rfl rfl)
          obtain ⟨b1, b2⟩ := coord_word (e3 1 _ _ _ rfl rfl rfl)
          have c1 := zero_word (e3 2 _ _ _ rfl rfl rfl)
          obtain ⟨d1, d2, d3⟩ := den_word (e3 3 _ _ _ rfl rfl rfl)
          simp only [List.getElem?_cons_zero, List.getElem?_cons_succ, Option.getD_some] at h
          obtain ⟨hval, P1, F1, hP, hF, k1, k2, k3⟩ := ih _ _ _ _ _ _ _ (by omega) (by simp; omega) h
          have hW : W = w := by
            by_cases hp : P1 = []
            · exact k1 hp
            · rcases (k2 hp).2 with q | q
              · simp at q
              · exact q.symm
          subst hW
          refine ⟨hval, (x, y) :: P1, F1, by rw [hP]; simp, hF, fun q => (by cases q), fun _ => ⟨rfl, ?_⟩, ?_⟩
          · rcases d3 with q | q
            · exact .inl q
            · exact .inr q.symm
          · simp only [List.map_cons, hv, e1, k3, List.flatMap_cons, placeT, a1, b1, c1, d1]
            simp
      · split at h
        · rename_i hv
          cases hq : rdC en [idxW P0.length, idxW P0.length, idxW P0.length] ts with
          | error e => rw [hq] at h; exact absurd h (err_no (rdC_err hq))
          | ok p =>
            obtain ⟨xs, r⟩ := p
            rw [hq] at h
            simp only at h
            have hlen := rdC_len en _ _ _ _ hq
            have htl : r.tail.length ≤ r.length := by simp
            obtain ⟨ws, e1, e2, e3⟩ := rdC_back en _ _ _ _ (by
              intro c hc
              simp only [List.mem_cons, List.not_mem_nil, or_false] at hc
              rcases hc with rfl | rfl | rfl <;> (rw [idx_nil]; decide)) hq
            obtain ⟨w0, w1, w2, rfl⟩ := map_three e2
            obtain ⟨x, y, z, rfl⟩ := int_three hlen.2
            obtain ⟨a1, a2⟩ := idx_word (by omega) (e3 0 _ _ _ rfl rfl rfl)
            obtain ⟨b1, b2⟩ := idx_word (by omega) (e3 1 _ _ _ rfl rfl rfl)
            obtain ⟨c1, c2⟩ := idx_word (by omega) (e3 2 _ _ _ rfl rfl rfl)
            split at h
            · obtain ⟨hval, P1, F1, hP, hF, k1, k2, k3⟩ := ih _ _ _ _ _ _ _ (by omega) (by omega) h
              have hp : P1 = [] := Classical.byContradiction fun q => by have := (k2 q).1; simp at this
              subst hp
              refine ⟨hval, [], dec1 [x, y, z] :: F1, hP, by rw [hF]; simp, k1, fun q => absurd rfl q, ?_⟩
              simp only [List.map_cons, hv, e1, k3, List.flatMap_cons, List.flatMap_nil, List.nil_append, faceT, dec1, List.map_nil, a1, b1, c1]
              simp
            · split at h
              · rename_i h0
                cases r with
                | nil => simp [wordAt, idx_nil] at h0
                | cons u us =>
                  simp only [wordAt, List.head?_cons, Option.getD_some, List.tail_cons] at h h0
                  simp only [List.length_cons] at hlen
                  obtain ⟨d1, d2⟩ := idx_word (n := P0.length) (w := u.2) (x := (idxW P0.length u.2).1) (by omega) (Prod.ext rfl h0)
                  obtain ⟨hval, P1, F1, hP, hF, k1, k2, k3⟩ := ih _ _ _ _ _ _ _ (by omega) (by omega) h
                  have hp : P1 = [] := Classical.byContradiction fun q => by have := (k2 q).1; simp at this
                  subst hp
                  generalize (idxW P0.length u.2).1 = v at *
                  refine ⟨hval, [], (dec1 [x, y, z] ++ [v - 1]) :: F1, hP, by rw [hF]; simp, k1, fun q => absurd rfl q, ?_⟩
                  simp only [List.map_cons, hv, e1, k3, List.flatMap_cons, List.flatMap_nil, List.nil_append, faceT, dec1, List.map_nil, a1, b1, c1, d1]
                  simp
              · rename_i h0
                exact absurd h (err_no h0)
        · exact absurd h (err_no (by decide))
end Go.AI
