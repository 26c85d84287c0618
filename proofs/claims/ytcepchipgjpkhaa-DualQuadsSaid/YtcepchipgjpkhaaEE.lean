/- Texts, words and numbers: plain. No claim by itself. -/
import Derived.Test.YtcepchipgjpkhaaED
namespace Go.AI
abbrev Tok := Nat × List Nat
abbrev Toks := Sl 2 tokA
/-! ### Words, each with what stands behind it -/
abbrev Wd := List Nat × List Nat
def rend (l : List Wd) : List Nat := l.flatMap fun p => p.1 ++ p.2
def wordOk (w : List Nat) : Prop := w ≠ [] ∧ (∀ c, c ∈ w → isBl c = false) ∧ w.head? ≠ some 35
/-- What stands behind a word begins with a blank, and holds no word. -/
def sepOk (g : List Nat) : Prop := (∃ c r, g = c :: r ∧ isBl c = true) ∧ ∀ (r : List Nat) (p : Nat), scanW idN (g ++ r) p .out = scanW idN r (p + g.length) .out
def toksAt : Nat → List Wd → List Tok
  | _, [] => []
  | p, (w, g) :: l => (p, w) :: toksAt (p + w.length + g.length) l
/-! ### Decimal words -/
/-! ### A word that is a number is the number's own text -/
end Go.AI

/- A mesh, its text, and what reading it gives: plain. No claim by itself. -/
namespace Go.AI
/-- What a word comes to: a number, and what is wrong. -/
abbrev Wc := List Nat → Int × Int
def wordAt (en : Nat) (ts : List Tok) : Tok := ts.head?.getD (en, [])
def rdC (en : Nat) : List Wc → List Tok → Except (Nat × Int) (List Int × List Tok)
  | [], ts => .ok ([], ts)
  | c :: cs, ts => if (c (wordAt en ts).2).2 = 0 then (match rdC en cs ts.tail with | .ok (xs, r) => .ok ((c (wordAt en ts).2).1 :: xs, r) | .error e => .error e) else .error ((wordAt en ts).1, (c (wordAt en ts).2).2)
def vS : List Nat := [118]
def fS : List Nat := [102]
def coordW : Wc := fun w => numR w (-4294967296) 4294967296
def zeroW : Wc := fun w => if w = [48] then (0, 0) else (0, 11)
def denW (P : List (Int × Int)) (W : Int) : Wc := fun w => if (numR w 1 1048576).2 = 0 ∧ P ≠ [] ∧ (numR w 1 1048576).1 ≠ W then (0, 11) else numR w 1 1048576
def idxW (n : Nat) : Wc := fun w => numR w 1 n
abbrev Ob := List (Int × Int) × Int × List (List Int)
/-- The edges of a face, round it. -/
def edgesF (f : List Int) : List (Int × Int) := f.zip (f.tail ++ f.take 1)
def fitP (p : Int × Int) : Prop := (-4294967296 ≤ p.1 ∧ p.1 ≤ 4294967296) ∧ (-4294967296 ≤ p.2 ∧ p.2 ≤ 4294967296)
structure FacesOk (n : Nat) (F : List (List Int)) : Prop where
  le : n ≤ 1048576
  fs : ∀ f, f ∈ F → 3 ≤ f.length ∧ f.Nodup ∧ ∀ k, k ∈ f → 0 ≤ k ∧ k < n
  es : (F.flatMap edgesF).Nodup
structure ValidO (P : List (Int × Int)) (W : Int) (F : List (List Int)) : Prop where
  ne : F ≠ []
  w0 : 1 ≤ W
  w1 : W ≤ 1048576
  ps : ∀ p, p ∈ P → fitP p
  fo : FacesOk P.length F
  f4 : ∀ f, f ∈ F → f.length ≤ 4
  pd : P.Nodup
  us : ∀ i : Nat, i < P.length → ∃ f, f ∈ F ∧ (i : Int) ∈ f
open Classical in
noncomputable def chkO (P : List (Int × Int)) (W : Int) (F : List (List Int)) : Int := if ValidO P W F then 0 else 2
def nilO : Ob := ([], 0, [])
open Classical in
noncomputable def finO (P : List (Int × Int)) (W : Int) (F : List (List Int)) : Ob × Int × Int := if ValidO P W F then ((P, W, F), 0, 0) else (nilO, 0, 2)
def dec1 (l : List Int) : List Int := l.map (· - 1)
noncomputable def readO (en : Nat) : Nat → List (Int × Int) → Int → List (List Int) → List Tok → Ob × Int × Int
  | 0, P, W, F, _ => finO P W F
  | _ + 1, P, W, F, [] => finO P W F
  | f + 1, P, W, F, t :: r =>
    if t.2 = vS ∧ F = [] then
      match rdC en [coordW, coordW, zeroW, denW P W] r with
      | .ok (xs, r') => readO en f (P ++ [(xs[0]?.getD 0, xs[1]?.getD 0)]) (xs[3]?.getD 0) F r'
      | .error e => (nilO, e.1, e.2)
    else if t.2 = fS then
      match rdC en [idxW P.length, idxW P.length, idxW P.length] r with
      | .ok (xs, r') =>
        if (idxW P.length (wordAt en r').2).2 = 11 then readO en f P W (F ++ [dec1 xs]) r'
        else if (idxW P.length (wordAt en r').2).2 = 0 then readO en f P W (F ++ [dec1 xs ++ [(idxW P.length (wordAt en r').2).1 - 1]]) r'.tail
        else (nilO, (wordAt en r').1, (idxW P.length (wordAt en r').2).2)
      | .error e => (nilO, e.1, e.2)
    else (nilO, t.1, 11)
/-- A row's words, each with a blank behind it, the last with the end of the line. -/
def joinQ : List (List Nat) → List Wd
  | [] => []
  | [w] => [(w, [10])]
  | w :: ws => (w, [32]) :: joinQ ws
def placeT (W : Int) (p : Int × Int) : List (List Nat) := [vS, itoaN p.1, itoaN p.2, [48], itoaN W]
def faceT (f : List Int) : List (List Nat) := fS :: f.map fun i => itoaN (i + 1)
def txtO (P : List (Int × Int)) (W : Int) (F : List (List Int)) : List (List Nat) := P.flatMap (placeT W) ++ F.flatMap faceT
def wordsO (P : List (Int × Int)) (W : Int) (F : List (List Int)) : List Wd := P.flatMap (fun p => joinQ (placeT W p)) ++ F.flatMap fun f => joinQ (faceT f)
def textO (P : List (Int × Int)) (W : Int) (F : List (List Int)) : List Nat := rend (wordsO P W F)
/-! ### Reading rows -/
theorem idx_stop {n : Nat} {w : List Nat} (h : wfN w = false) : (idxW n w).2 = 11 := by unfold idxW numR; rw [h]; rfl
/-- What reading bytes gives. -/
noncomputable def parO (s : List Nat) : Ob × Int × Int := if 1048576 < s.length then (nilO, 0, 3) else readO s.length (wordsN s).length [] 0 [] (wordsN s)
end Go.AI

/- What is read is the mesh of its words; words that are wrong: plain. No claim by itself. -/
namespace Go.AI
end Go.AI

/- Sorting by merging; whether a place stands twice: plain. No claim by itself. -/
namespace Go.AI
def lessP (a b : Int × Int) : Bool := decide (a.1 < b.1) || (decide (a.1 = b.1) && decide (a.2 < b.2))
def leP (a b : Int × Int) : Bool := !lessP b a
def ptAt (P : List (Int × Int)) (i : Int) : Int × Int := P[i.toNat]?.getD (0, 0)
def leI (P : List (Int × Int)) (a b : Int) : Bool := leP (ptAt P a) (ptAt P b)
def sortI (P : List (Int × Int)) : Nat → List Int → List Int
  | 0, l => l
  | f + 1, l => if l.length < 2 then l else List.merge (sortI P f (l.take (l.length / 2))) (sortI P f (l.drop (l.length / 2))) (leI P)
def idxs (n : Nat) : List Int := (List.range n).map Int.ofNat
/-- The numbers of places, in the places' order. -/
def ordI (P : List (Int × Int)) : List Int := sortI P P.length (idxs P.length)
end Go.AI

/- Rows that read whole, and their parts. No claim by itself. -/
namespace Go.AI
section
variable {α : Type} {e : Nat} {enc : α → List AV} {H H' : Heap} {v : AV} {xs : List α}
theorem flat_drop (hn : ∀ x, (enc x).length = e) : ∀ (xs : List α) (k : Nat), (xs.flatMap enc).drop (k * e) = (xs.drop k).flatMap enc
  | xs, 0 => by simp
  | [], k + 1 => by simp
  | x :: xs, k + 1 => by
    have h := hn x
    rw [List.flatMap_cons, List.drop_succ_cons, ← flat_drop hn xs k, List.drop_append, List.drop_of_length_le (by rw [h, Nat.add_mul]; omega), List.nil_append]
    congr 1; rw [h, Nat.add_mul]; omega
theorem flat_take (hn : ∀ x, (enc x).length = e) : ∀ (xs : List α) (k : Nat), (xs.flatMap enc).take (k * e) = (xs.take k).flatMap enc
  | xs, 0 => by simp
  | [], k + 1 => by simp
  | x :: xs, k + 1 => by
    have h := hn x
    rw [List.flatMap_cons, List.take_succ_cons, List.flatMap_cons, ← flat_take hn xs k, List.take_append, List.take_of_length_le (by rw [h, Nat.add_mul]; omega)]
    congr 2; rw [h, Nat.add_mul]; omega
/-- A slice that reads whole, whose capacity is no less than its length. -/
structure Rw (e : Nat) (enc : α → List AV) (H : Heap) (v : AV) (xs : List α) : Prop where
  sw : Sw e enc H v xs
  cap : capOk v = true
theorem Sw.slw (hn : ∀ x, (enc x).length = e) (h : Sw e enc H v xs) : Sl e enc H v xs := by
  rcases h with h | ⟨o, off, lo, ex, rfl, h⟩
  · exact .inl h
  · unfold Heap.readSeg at h
    cases hc : H.cellsAt o with
    | none => rw [hc] at h; cases h
    | some cs =>
      rw [hc] at h
      have h : seg cs off (xs.length * e) = some (xs.flatMap enc) := h
      refine .inr ⟨o, off, lo, ex, cs, rfl, hc, fun i x hx => ?_⟩
      have hi : i < xs.length := (List.getElem?_eq_some_iff.1 hx).1
      have h1 : (i + 1) * e ≤ xs.length * e := Nat.mul_le_mul_right e hi
      rw [Nat.add_mul] at h1
      rw [seg_cut h (f := i * e) (m := e) (by omega), flat_drop hn]
      have h2 : xs.drop i = x :: xs.drop (i + 1) := drop_get hx
      rw [h2, List.flatMap_cons, List.take_append_of_le_length (by rw [hn]; exact Nat.le_refl _), List.take_of_length_le (by rw [hn]; exact Nat.le_refl _)]
theorem Rw.sl (hn : ∀ x, (enc x).length = e) (h : Rw e enc H v xs) : Sl e enc H v xs := h.sw.slw hn
theorem Sw.exte (h : Sw e enc H v xs) (k : Ext H H') : Sw e enc H' v xs := by
  rcases h with h | ⟨o, off, lo, ex, rfl, h⟩
  · exact .inl h
  · refine .inr ⟨o, off, lo, ex, rfl, ?_⟩
    unfold Heap.readSeg at h ⊢
    cases hc : H.cellsAt o with
    | none => rw [hc] at h; cases h
    | some cs => rw [k.cells hc]; rw [hc] at h; exact h
theorem Sw.frS {S : List Nat} (h : Sw e enc H v xs) (k : Fr S H H') (hn : ∀ o, rowObj v = some o → o ∉ S) : Sw e enc H' v xs := by
  rcases h with h | ⟨o, off, lo, ex, rfl, h⟩
  · exact .inl h
  · refine .inr ⟨o, off, lo, ex, rfl, ?_⟩
    unfold Heap.readSeg at h ⊢
    cases hc : H.cellsAt o with
    | none => rw [hc] at h; cases h
    | some cs => rw [cellsAt_get (k.keep _ _ (hn _ rfl) (get_cellsAt hc))]; rw [hc] at h; exact h
theorem Rw.ext (h : Rw e enc H v xs) (k : Ext H H') : Rw e enc H' v xs := ⟨h.sw.exte k, h.cap⟩
theorem Rw.fr {S : List Nat} (h : Rw e enc H v xs) (k : Fr S H H') (hn : ∀ o, rowObj v = some o → o ∉ S) : Rw e enc H' v xs := ⟨h.sw.frS k hn, h.cap⟩
theorem Rw.len (h : Rw e enc H v xs) : lenA v = some (.int .i64 xs.length) := by
  rcases h.sw with ⟨rfl, rfl⟩ | ⟨o, off, lo, ex, rfl, _⟩ <;> rfl
theorem Rw.one (h : Rw e enc H v xs) : v.one = true ∧ v.cells = [v] := by
  rcases h.sw with ⟨rfl, _⟩ | ⟨o, off, lo, ex, rfl, _⟩ <;> exact ⟨rfl, rfl⟩
theorem Rw.rowLt (hn : ∀ x, (enc x).length = e) (h : Rw e enc H v xs) (hw : H.Wf) {o : Nat} (ho : rowObj v = some o) : o < H.next := (h.sl hn).rowLt hw ho
theorem Ow.rw (hn : ∀ x, (enc x).length = e) (h : Ow e enc H v xs) : Rw e enc H v xs := ⟨h.sw hn, by
  rcases h with ⟨rfl, _⟩ | ⟨o, rfl, _⟩
  · rfl
  · simp [capOk]⟩
theorem Rw.take (hn : ∀ x, (enc x).length = e) (h : Rw e enc H v xs) {k : Nat} (hk : k ≤ xs.length) :
    ∃ v', sliceA e v none (some (.int .i64 k)) none = some v' ∧ Rw e enc H v' (xs.take k) ∧ rowObj v' = rowObj v := by
  obtain ⟨h, hc⟩ := h
  rcases h with ⟨rfl, rfl⟩ | ⟨o, off, lo, ex, rfl, h⟩
  · have : k = 0 := by simpa using hk
    subst this
    exact ⟨.nils, rfl, ⟨.inl ⟨rfl, rfl⟩, rfl⟩, rfl⟩
  · have hlo : xs.length ≤ lo := by simpa [capOk] using hc
    have b1 : (0 : Int) ≤ (k : Int) ∧ (k : Int) ≤ (lo : Int) := by omega
    have hl : (xs.take k).length = k := by rw [List.length_take]; omega
    refine ⟨.slc o off k e lo ex, ?_, ⟨.inr ⟨o, off, lo, ex, by rw [hl], ?_⟩, by simp [capOk]; omega⟩, rfl⟩
    · simp only [sliceA, Nat.beq_refl, cond_true, boundsA, boundA, if_pos b1, Option.map_some, Int.toNat_natCast, Nat.zero_mul, Nat.add_zero, Nat.sub_zero]
    · unfold Heap.readSeg at h ⊢
      cases hc : H.cellsAt o with
      | none => rw [hc] at h; cases h
      | some cs =>
        rw [hc] at h
        have h : seg cs off (xs.length * e) = some (xs.flatMap enc) := h
        have hm : k * e ≤ xs.length * e := Nat.mul_le_mul_right e hk
        have := seg_cut h (f := 0) (m := k * e) (by omega)
        rw [hl]
        show seg cs off (k * e) = _
        rw [Nat.add_zero, List.drop_zero, flat_take hn] at this
        exact this
theorem Rw.drop (hn : ∀ x, (enc x).length = e) (h : Rw e enc H v xs) {k : Nat} (hk : k ≤ xs.length) :
    ∃ v', sliceA e v (some (.int .i64 k)) none none = some v' ∧ Rw e enc H v' (xs.drop k) ∧ rowObj v' = rowObj v := by
  obtain ⟨h, hc⟩ := h
  rcases h with ⟨rfl, rfl⟩ | ⟨o, off, lo, ex, rfl, h⟩
  · have : k = 0 := by simpa using hk
    subst this
    exact ⟨.nils, rfl, ⟨.inl ⟨rfl, rfl⟩, rfl⟩, rfl⟩
  · have hlo : xs.length ≤ lo := by simpa [capOk] using hc
    have b1 : (0 : Int) ≤ (k : Int) ∧ (k : Int) ≤ ((xs.length : Nat) : Int) := by omega
    have hl : (xs.drop k).length = xs.length - k := by simp
    refine ⟨.slc o (off + k * e) (xs.length - k) e (lo - k) ex, ?_, ⟨.inr ⟨o, off + k * e, lo - k, ex, by rw [hl], ?_⟩, by simp [capOk]; omega⟩, rfl⟩
    · simp only [sliceA, Nat.beq_refl, cond_true, boundsA, boundA, if_pos b1, Option.map_some, Int.toNat_natCast]
    · unfold Heap.readSeg at h ⊢
      cases hc : H.cellsAt o with
      | none => rw [hc] at h; cases h
      | some cs =>
        rw [hc] at h
        have h : seg cs off (xs.length * e) = some (xs.flatMap enc) := h
        have hm : k * e + (xs.length - k) * e = xs.length * e := by rw [← Nat.add_mul]; congr 1; omega
        have := seg_cut h (f := k * e) (m := (xs.length - k) * e) (by omega)
        rw [hl]
        show seg cs (off + k * e) ((xs.length - k) * e) = _
        rw [flat_drop hn] at this
        rw [this]
        congr 1
        apply List.take_of_length_le
        rw [flat_len hn, hl]; exact Nat.le_refl _
theorem Rw.lit (_hn : (enc : α → List AV) = enc) {o : Nat} {a : α} (hl : (enc a).length = e) (hg : H.get o = some (.cells (enc a))) : Rw e enc H (.slc o 0 1 e 1 true) [a] := by
  refine ⟨.inr ⟨o, 0, 1, true, rfl, ?_⟩, rfl⟩
  unfold Heap.readSeg
  rw [cellsAt_get hg]
  simp only [List.flatMap_cons, List.flatMap_nil, List.append_nil]
  exact seg_all (by rw [hl]; simp)
end
end Go.AI

/- Tables whose keys are pairs; rows of rows. No claim by itself. -/
namespace Go.AI
/-! ### Tables of pairs -/
def mapUpdA (H : Heap) (d : EqD) (m k v : AV) : Option (AV × Heap) :=
  match m with
  | .map o =>
    bif Nat.ble H.floor o then
      match H.get o with
      | some (.map es) =>
        bif plainKey d k then
          match findA d k es 0 with
          | none => none
          | some (some (i, _)) => some (undefA, H.set o (.map (es.set i (k, v))))
          | some none => some (undefA, H.set o (.map (es ++ [(k, v)])))
        else none
      | _ => none
    else none
  | _ => none
@[simp] theorem p_mapUpdate {e : Opd → AV} {H : Heap} {d : EqD} {m k v : Opd} : plainOp e H (.mapUpdate d m k v) = mapUpdA H d (e m) (e k) (e v) := rfl
abbrev Ent := (Int × Int) × Int
def entc (q : Ent) : AV × AV := (.agg (pairc q.1), .int .i64 q.2)
theorem cells_pair (x y : Int × Int) : eqA (.flat [.int, .int]) (.agg (pairc x)) (.agg (pairc y)) = some (decide (x = y)) := by
  have e : eqA (.flat [.int, .int]) (.agg (pairc x)) (.agg (pairc y)) = (match some (x.1 == y.1) with | some true => (match some (x.2 == y.2) with | some true => some true | some false => some false | none => none) | some false => some false | none => none) := rfl
  rw [e]
  obtain ⟨a, b⟩ := x
  obtain ⟨c, d⟩ := y
  cases h1 : (a == c) <;> cases h2 : (b == d) <;> simp_all
theorem plain_pair (x : Int × Int) : plainKey (.flat [.int, .int]) (.agg (pairc x)) = true := by
  have : cellsEq [.int, .int] (pairc x) (pairc x) = some true := by
    have := cells_pair x x
    have e : eqA (.flat [.int, .int]) (.agg (pairc x)) (.agg (pairc x)) = cellsEq [.int, .int] (pairc x) (pairc x) := rfl
    rw [← e, this]; simp
  show (cellsEq [.int, .int] (pairc x) (pairc x)).isSome = true
  rw [this]; rfl
/-- What a table tells of a pair; -1: none. -/
def lookE (E : List Ent) (s : Int × Int) : Int := ((E.find? fun q => decide (s = q.1)).map (·.2)).getD (-1)
theorem find_ent (s : Int × Int) : ∀ (E : List Ent) (j : Nat), findA (.flat [.int, .int]) (.agg (pairc s)) (E.map entc) j = match E.find? (fun q => decide (s = q.1)) with | some q => some (some (j + E.findIdx (fun q => decide (s = q.1)), .int .i64 q.2)) | none => some none
  | [], j => rfl
  | q :: E, j => by
    have ih := find_ent s E (j + 1)
    simp only [List.map_cons, entc, findA, cells_pair]
    by_cases h : s = q.1
    · simp [h, List.findIdx_cons]
    · rw [decide_eq_false h]
      simp only [List.find?_cons, decide_eq_false h, List.findIdx_cons, cond_false]
      rw [ih]
      cases E.find? (fun q => decide (s = q.1)) with
      | none => rfl
      | some q' => simp only [Option.some.injEq, Prod.mk.injEq, and_true]; omega
theorem look_none {E : List Ent} {s : Int × Int} : E.find? (fun q => decide (s = q.1)) = none ↔ s ∉ E.map (·.1) := by
  rw [List.find?_eq_none]
  simp only [List.mem_map, not_exists, not_and, decide_eq_true_eq]
  exact ⟨fun h q hq e => h q hq e.symm, fun h q hq e => h q hq e.symm⟩
theorem lookA_ent {H : Heap} {o : Nat} {E : List Ent} {s : Int × Int} (h : H.get o = some (.map (E.map entc))) :
    ∃ r, lookA H (.flat [.int, .int]) (.map o) (.agg (pairc s)) = some r ∧ ((s ∉ E.map (·.1) ∧ r = none ∧ lookE E s = -1) ∨ (s ∈ E.map (·.1) ∧ ∃ i k, r = some (i, .int .i64 k) ∧ lookE E s = k ∧ (s, k) ∈ E)) := by
  unfold lookA
  simp only [h, plain_pair, cond_true, find_ent s E 0]
  cases hf : E.find? (fun q => decide (s = q.1)) with
  | none => exact ⟨none, rfl, .inl ⟨look_none.1 hf, rfl, by unfold lookE; rw [hf]; rfl⟩⟩
  | some q =>
    have hm := List.mem_of_find?_eq_some hf
    have hs : s = q.1 := by have := List.find?_some hf; simpa using this
    refine ⟨_, rfl, .inr ⟨?_, _, q.2, rfl, by unfold lookE; rw [hf]; rfl, ?_⟩⟩
    · rw [hs]; exact List.mem_map_of_mem hm
    · rw [hs]; exact hm
theorem mapUpd_new {H : Heap} {o : Nat} {E : List Ent} {s : Int × Int} {k : Int} (hf : H.floor ≤ o) (h : H.get o = some (.map (E.map entc))) (hn : s ∉ E.map (·.1)) :
    mapUpdA H (.flat [.int, .int]) (.map o) (.agg (pairc s)) (.int .i64 k) = some (undefA, H.set o (.map ((E ++ [(s, k)]).map entc))) := by
  have hb : Nat.ble H.floor o = true := Nat.ble_eq_true_of_le hf
  unfold mapUpdA
  simp only [h, hb, cond_true, plain_pair, find_ent s E 0, look_none.2 hn, List.map_append, List.map_cons, List.map_nil]
  rfl
/-! ### Rows of rows -/
abbrev OneV := {v : AV // v.one = true}
def onec (x : OneV) : List AV := [x.1]
theorem onec_len (x : OneV) : (onec x).length = 1 := rfl
theorem onec_one (x : OneV) : allOne (onec x) = true := by unfold onec; rw [allOne_of x.2]; rfl
structure Gd (H : Heap) (v : AV) (F : List (List Int)) : Prop where
  ex : ∃ rs : List OneV, Rw 1 onec H v rs ∧ rs.length = F.length ∧ ∀ (i : Nat) (r : OneV) (f : List Int), rs[i]? = some r → F[i]? = some f → Rw 1 i64c H r.1 f
section
variable {H H' : Heap} {v : AV} {F : List (List Int)}
theorem Gd.len (h : Gd H v F) : lenA v = some (.int .i64 F.length) := by
  obtain ⟨rs, a, b, _⟩ := h.ex; rw [← b]; exact a.len
theorem Gd.one (h : Gd H v F) : v.one = true ∧ v.cells = [v] := by
  obtain ⟨rs, a, _, _⟩ := h.ex; exact a.one
theorem Gd.ext (h : Gd H v F) (k : Ext H H') : Gd H' v F := by
  obtain ⟨rs, a, b, c⟩ := h.ex; exact ⟨rs, a.ext k, b, fun i r f q1 q2 => (c i r f q1 q2).ext k⟩
theorem Gd.idx (h : Gd H v F) {k : IntKind} {i : Int} (h0 : 0 ≤ i) (h1 : i < F.length) :
    ∃ p r f, F[i.toNat]? = some f ∧ indexAddrV 1 v (.int k i) = some p ∧ loadA H none p = some r ∧ Rw 1 i64c H r f := by
  obtain ⟨rs, a, b, c⟩ := h.ex
  obtain ⟨p, x, q1, q2, _, q4⟩ := Sl.idx (a.sl onec_len) (k := k) h0 (by omega)
  have hl : i.toNat < F.length := by omega
  exact ⟨p, x.1, F[i.toNat], List.getElem?_eq_getElem hl, q2, q4 _ rfl rfl, c _ _ _ q1 (List.getElem?_eq_getElem hl)⟩
theorem load_ext {n : Option Nat} {p r : AV} (h : loadA H n p = some r) (k : Ext H H') : loadA H' n p = some r := by
  cases p with
  | ptr o off =>
    rw [loadA_ptr] at h ⊢
    cases hc : H.cellsAt o with
    | none => rw [hc] at h; cases h
    | some cs => rw [k.cells hc]; rw [hc] at h; exact h
  | _ => cases h
end
/-! ### Edges -/
def rowOk (n : Int) (f : List Int) : Prop := 3 ≤ f.length ∧ f.Nodup ∧ ∀ k, k ∈ f → 0 ≤ k ∧ k < n
/-- All edges, each with the number of its face. -/
def tabF : Nat → List (List Int) → List Ent
  | _, [] => []
  | i, f :: F => (edgesF f).map (fun s => (s, (i : Int))) ++ tabF (i + 1) F
theorem tabF_fst : ∀ (i : Nat) (F : List (List Int)), (tabF i F).map (·.1) = F.flatMap edgesF
  | _, [] => rfl
  | i, f :: F => by simp [tabF, tabF_fst (i + 1) F, Function.comp_def]
theorem tabF_app : ∀ (i : Nat) (F G : List (List Int)), tabF i (F ++ G) = tabF i F ++ tabF (i + F.length) G
  | i, [], G => by simp [tabF]
  | i, f :: F, G => by
    simp only [List.cons_append, tabF, tabF_app (i + 1) F G, List.append_assoc, List.length_cons]
    congr 3; omega
open Classical in
/-- What is wrong with faces. -/
noncomputable def chkF (n : Int) (F : List (List Int)) : Int := if (0 ≤ n ∧ n ≤ 1048576) ∧ ∀ f, f ∈ F → rowOk n f then (if (F.flatMap edgesF).Nodup then 0 else 80) else 2
end Go.AI

/- Arguments of a law that are rows of rows. No claim by itself. -/
namespace Go.AI
open Go.ChangeShapes Go.WideShapes Go.Deep
/-- A law's call, over arguments that are told; what lies in memory is told of where all objects lie. -/
theorem law_told2 {P : Program} {G : World → Prop} {FT : Nat → Option FnD} (hFT : TableOk P G FT) {f : Nat} {args : List AV} {css : List (List AV)} {Ls : List (Option Loc)} {v : AV} {w : World} {avs : List Value}
    (h : Cp FT f args (heapR css.reverse) fun r _ => r = v) (hp : v.plain = true) (hl : LRel (fun o => (Ls[o]?).join) args avs) (hn : Ls.length = css.length)
    (hm : ∀ (o : Nat) (l : Loc), Ls[o]? = some (some l) → ∀ cs, css[o]? = some cs → l.blk < w.heap.size ∧ At (fun o => (Ls[o]?).join) w l cs ∧ l.base + cs.length ≤ l.size) (hgood : ∀ w' : World, (∀ b, b < w.heap.size → w'.heap[b]? = w.heap[b]?) → G w') :
    Calls P f avs.toArray w fun e w' => ∃ r, e = .returned r ∧ VRel (fun _ => none) v r ∧ RowKit.Below w.heap.size w w' := by
  obtain ⟨n, v1, H', hc, rfl⟩ := h
  have hnx := heapR_next css.reverse
  rw [List.length_reverse] at hnx
  have key : ∀ (o : Nat) (L : Loc), ((Ls[o]?).join : Option Loc) = some L → Ls[o]? = some (some L) := fun o L e => by
    cases q : Ls[o]? with
    | none => rw [q] at e; cases e
    | some x => rw [q] at e; simp at e; rw [e]
  have lt : ∀ (o : Nat) (L : Loc), ((Ls[o]?).join : Option Loc) = some L → o < css.length := fun o L e => by
    have := (List.getElem?_eq_some_iff.1 (key o L e)).1; omega
  refine (law_calls hFT hc hl (by rw [hnx.1, hnx.2]) (heapR_wf css.reverse).2 (fun o L e => ⟨by rw [hnx.1]; exact lt o L e, ?_⟩) (fun o L x e hx => ?_) hgood).mono ?_
  · have hlt := lt o L e
    exact (hm o L (key o L e) _ (List.getElem?_eq_getElem hlt)).1
  · rw [heapR_get, List.reverse_reverse] at hx
    cases hg : css[o]? with
    | none => rw [hg] at hx; cases hx
    | some cs =>
      rw [hg] at hx; cases hx
      have h1 := hm o L (key o L e) _ hg
      exact ⟨h1.2.1, h1.2.2, fun hb => absurd (lt o L e) (by rw [hnx.1] at hb; omega)⟩
  · rintro e w' ⟨φ', r, rfl, hv, hb⟩
    exact ⟨r, rfl, hv.plain hp, hb⟩
theorem heapF_get (css : List (List AV)) (o : Nat) : (heapR css.reverse).get o = (css[o]?).map .cells := by rw [heapR_get, List.reverse_reverse]
section
variable {H : Type} {enc : TypeId × Value → H} {P : Program} {w : World} {base : Nat} {held : Bool}
/-- What a row of rows comes to: its objects o, o+1, .. -/
structure GdArg (w : World) (o : Nat) (v : Value) (F : List (List Int)) (av : AV) (css : List (List AV)) (Ls : List (Option Loc)) : Prop where
  ln : Ls.length = css.length
  rel : ∀ φ : Pl, (∀ k, φ (o + k) = (Ls[k]?).join) → VRel φ av v
  mem : ∀ (k : Nat) (l : Loc), Ls[k]? = some (some l) → ∀ cs, css[k]? = some cs → l.blk < w.heap.size ∧ (∀ φ : Pl, (∀ k, φ (o + k) = (Ls[k]?).join) → At φ w l cs) ∧ l.base + cs.length ≤ l.size
  gd : ∀ H : Heap, (∀ k cs, css[k]? = some cs → H.get (o + k) = some (.cells cs)) → Gd H av F
instance : Inhabited OneV := ⟨⟨.nils, rfl⟩⟩
theorem SlArg.rw {α : Type} {e : Nat} {en : α → List AV} (hn : ∀ x, (en x).length = e) {w : World} {o : Nat} {v : Value} {xs : List α} {av : AV} {L : Option Loc} {H : Heap} (h : SlArg w o e en v xs av L) (hg : H.get o = some (.cells (xs.flatMap en))) : Rw e en H av xs :=
  ⟨h.sw hn hg, by
    rcases h.2 with ⟨rfl, _⟩ | rfl
    · rfl
    · simp [capOk]⟩
end
end Go.AI

/- What reading a mesh's words comes to: its shape; words that are wrong; words cut off: plain. No claim by itself. -/
namespace Go.AI
def ShO (en : Nat) (x : Ob × Int × Int) : Prop := (x.2.2 ≠ 0 ∧ x.1 = nilO ∧ 0 ≤ x.2.1 ∧ x.2.1 ≤ en) ∨ (x.2.2 = 0 ∧ x.2.1 = 0)
end Go.AI

/- A mesh's words, one of them wrong, or cut off: what reading them comes to: plain. No claim by itself. -/
namespace Go.AI
structure BadW (w : List Nat) : Prop where
  wf : wfN w = false
  v : w ≠ vS
  f : w ≠ fS
  z : w ≠ [48]
theorem BadW.nil : BadW [] := ⟨rfl, by decide, by decide, by decide⟩
theorem BadW.zero {w : List Nat} (h : BadW w) : (zeroW w).2 = 11 := by unfold zeroW; rw [if_neg h.z]
theorem BadW.idx {w : List Nat} (h : BadW w) (n : Nat) : (idxW n w).2 = 11 := idx_stop h.wf
/-- What is asked of a cut: a word stands there, or the place is neither a row's first nor a face's fourth number's. -/
structure InW (T : List (List Nat)) (k : Nat) : Prop where
  a : T[k]? ≠ some vS
  b : T[k]? ≠ some fS
  c : ¬ (4 ≤ k ∧ T[k - 4]? = some fS ∧ ∀ m, k - 4 < m → m ≤ k → T[m]? ≠ some vS ∧ T[m]? ≠ some fS)
end Go.AI
