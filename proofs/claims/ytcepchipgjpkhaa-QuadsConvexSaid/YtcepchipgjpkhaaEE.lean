/- Texts, words and numbers: plain. No claim by itself. -/
import Derived.Test.YtcepchipgjpkhaaED
namespace Go.AI
abbrev Tok := Nat × List Nat
abbrev Wd := List Nat × List Nat
def zcb8 : Nat -> List Wd -> List Tok
 | _, [] => []
 | p, (w, g) :: l => (p, w) :: zcb8 (p + w.length + g.length) l
end Go.AI
namespace Go.AI
abbrev Wc := List Nat -> Int × Int
def zy0 (en : Nat) (ts : List Tok) : Tok := ts.head?.getD (en, [])
def rdC (en : Nat) : List Wc -> List Tok -> Except (Nat × Int) (List Int × List Tok)
 | [], ts => .ok ([], ts)
 | c :: cs, ts => if (c (zy0 en ts).2).2 = 0 then (match rdC en cs ts.tail with | .ok (xs, r) => .ok ((c (zy0 en ts).2).1 :: xs, r) | .error e => .error e) else .error ((zy0 en ts).1, (c (zy0 en ts).2).2)
def vS : List Nat := [118]
def fS : List Nat := [102]
def zby8 : Wc := fun w => numR w (-4294967296) 4294967296
def zb04 : Wc := fun w => if w = [48] then (0, 0) else (0, 11)
def denW (P : List (Int × Int)) (W : Int) : Wc := fun w => if (numR w 1 1048576).2 = 0 /\ P ≠ [] /\ (numR w 1 1048576).1 ≠ W then (0, 11) else numR w 1 1048576
def idxW (n : Nat) : Wc := fun w => numR w 1 n
abbrev Ob := List (Int × Int) × Int × List (List Int)
def zh7 (f : List Int) : List (Int × Int) := f.zip (f.tail ++ f.take 1)
def fitP (p : Int × Int) : Prop := (-4294967296 <= p.1 /\ p.1 <= 4294967296) /\ (-4294967296 <= p.2 /\ p.2 <= 4294967296)
structure zb85 (n : Nat) (F : List (List Int)) : Prop where
 le : n <= 1048576
 fs : ∀ f, f ∈ F -> 3 <= f.length /\ f.Nodup /\ ∀ k, k ∈ f -> 0 <= k /\ k < n
 es : (F.flatMap zh7).Nodup
structure zbz2 (P : List (Int × Int)) (W : Int) (F : List (List Int)) : Prop where
 ne : F ≠ []
 w0 : 1 <= W
 w1 : W <= 1048576
 ps : ∀ p, p ∈ P -> fitP p
 fo : zb85 P.length F
 f4 : ∀ f, f ∈ F -> f.length <= 4
 pd : P.Nodup
 us : ∀ i : Nat, i < P.length -> ∃ f, f ∈ F /\ (i : Int) ∈ f
open Classical in
noncomputable def chkO (P : List (Int × Int)) (W : Int) (F : List (List Int)) : Int := if zbz2 P W F then 0 else 2
def nilO : Ob := ([], 0, [])
open Classical in
noncomputable def finO (P : List (Int × Int)) (W : Int) (F : List (List Int)) : Ob × Int × Int := if zbz2 P W F then ((P, W, F), 0, 0) else (nilO, 0, 2)
def dec1 (l : List Int) : List Int := l.map (· - 1)
noncomputable def zb30 (en : Nat) : Nat -> List (Int × Int) -> Int -> List (List Int) -> List Tok -> Ob × Int × Int
 | 0, P, W, F, _ => finO P W F
 | _ + 1, P, W, F, [] => finO P W F
 | f + 1, P, W, F, t :: r =>
  if t.2 = vS /\ F = [] then
   match rdC en [zby8, zby8, zb04, denW P W] r with
   | .ok (xs, r') => zb30 en f (P ++ [(xs[0]?.getD 0, xs[1]?.getD 0)]) (xs[3]?.getD 0) F r'
   | .error e => (nilO, e.1, e.2)
  else if t.2 = fS then
   match rdC en [idxW P.length, idxW P.length, idxW P.length] r with
   | .ok (xs, r') =>
    if (idxW P.length (zy0 en r').2).2 = 11 then zb30 en f P W (F ++ [dec1 xs]) r'
    else if (idxW P.length (zy0 en r').2).2 = 0 then zb30 en f P W (F ++ [dec1 xs ++ [(idxW P.length (zy0 en r').2).1 - 1]]) r'.tail
    else (nilO, (zy0 en r').1, (idxW P.length (zy0 en r').2).2)
   | .error e => (nilO, e.1, e.2)
  else (nilO, t.1, 11)
def zcq5 : List (List Nat) -> List Wd
 | [] => []
 | [w] => [(w, [10])]
 | w :: ws => (w, [32]) :: zcq5 ws
theorem zbs2 {n : Nat} {w : List Nat} (h : wfN w = false) : (idxW n w).2 = 11 := by unfold idxW numR; rw [h]; rfl
end Go.AI
namespace Go.AI
end Go.AI
namespace Go.AI
def zcq1 (a b : Int × Int) : Bool := decide (a.1 < b.1) || (decide (a.1 = b.1) && decide (a.2 < b.2))
def leP (a b : Int × Int) : Bool := !zcq1 b a
def ptAt (P : List (Int × Int)) (i : Int) : Int × Int := P[i.toNat]?.getD (0, 0)
def leI (P : List (Int × Int)) (a b : Int) : Bool := leP (ptAt P a) (ptAt P b)
def zcc4 (P : List (Int × Int)) : Nat -> List Int -> List Int
 | 0, l => l
 | f + 1, l => if l.length < 2 then l else List.merge (zcc4 P f (l.take (l.length / 2))) (zcc4 P f (l.drop (l.length / 2))) (leI P)
end Go.AI
namespace Go.AI
section
variable {α : Type} {e : Nat} {enc : α -> List AV} {H H' : Heap} {v : AV} {xs : List α}
theorem zaf1 (hn : ∀ x, (enc x).length = e) : ∀ (xs : List α) (k : Nat), (xs.flatMap enc).drop (k * e) = (xs.drop k).flatMap enc
 | xs, 0 => by simp
 | [], k + 1 => by simp
 | x :: xs, k + 1 => by
  have h := hn x
  rw [List.flatMap_cons, List.drop_succ_cons, <- zaf1 hn xs k, List.drop_append, List.drop_of_length_le (by rw [h, Nat.add_mul]; omega), List.nil_append]
  congr 1; rw [h, Nat.add_mul]; omega
theorem zar8 (hn : ∀ x, (enc x).length = e) : ∀ (xs : List α) (k : Nat), (xs.flatMap enc).take (k * e) = (xs.take k).flatMap enc
 | xs, 0 => by simp
 | [], k + 1 => by simp
 | x :: xs, k + 1 => by
  have h := hn x
  rw [List.flatMap_cons, List.take_succ_cons, List.flatMap_cons, <- zar8 hn xs k, List.take_append, List.take_of_length_le (by rw [h, Nat.add_mul]; omega)]
  congr 2; rw [h, Nat.add_mul]; omega
structure Rw (e : Nat) (enc : α -> List AV) (H : Heap) (v : AV) (xs : List α) : Prop where
 sw : Sw e enc H v xs
 cap : zo2 v = true
theorem Sw.slw (hn : ∀ x, (enc x).length = e) (h : Sw e enc H v xs) : Sl e enc H v xs := by
 rcases h with h | ⟨o, off, lo, ex, rfl, h⟩
 ·exact .inl h
 ·unfold Heap.readSeg at h
  cases hc : H.cellsAt o with
  | none => rw [hc] at h; cases h
  | some cs =>
   rw [hc] at h
   have h : seg cs off (xs.length * e) = some (xs.flatMap enc) := h
   refine .inr ⟨o, off, lo, ex, cs, rfl, hc, fun i x hx => ?_⟩
   have hi : i < xs.length := (List.getElem?_eq_some_iff.1 hx).1
   have h1 : (i + 1) * e <= xs.length * e := Nat.mul_le_mul_right e hi
   rw [Nat.add_mul] at h1
   rw [zav1 h (f := i * e) (m := e) (by omega), zaf1 hn]
   have h2 : xs.drop i = x :: xs.drop (i + 1) := zo0 hx
   rw [h2, List.flatMap_cons, List.take_append_of_le_length (by rw [hn]; exact Nat.le_refl _), List.take_of_length_le (by rw [hn]; exact Nat.le_refl _)]
theorem Rw.sl (hn : ∀ x, (enc x).length = e) (h : Rw e enc H v xs) : Sl e enc H v xs := h.sw.slw hn
theorem Sw.exte (h : Sw e enc H v xs) (k : Ext H H') : Sw e enc H' v xs := by
 rcases h with h | ⟨o, off, lo, ex, rfl, h⟩
 ·exact .inl h
 ·refine .inr ⟨o, off, lo, ex, rfl, ?_⟩
  unfold Heap.readSeg at h ⊢
  cases hc : H.cellsAt o with
  | none => rw [hc] at h; cases h
  | some cs => rw [k.cells hc]; rw [hc] at h; exact h
theorem Sw.frS {S : List Nat} (h : Sw e enc H v xs) (k : Fr S H H') (hn : ∀ o, rowObj v = some o -> o ∉ S) : Sw e enc H' v xs := by
 rcases h with h | ⟨o, off, lo, ex, rfl, h⟩
 ·exact .inl h
 ·refine .inr ⟨o, off, lo, ex, rfl, ?_⟩
  unfold Heap.readSeg at h ⊢
  cases hc : H.cellsAt o with
  | none => rw [hc] at h; cases h
  | some cs => rw [za3 (k.keep _ _ (hn _ rfl) (zp2 hc))]; rw [hc] at h; exact h
theorem Rw.ext (h : Rw e enc H v xs) (k : Ext H H') : Rw e enc H' v xs := ⟨h.sw.exte k, h.cap⟩
theorem Rw.fr {S : List Nat} (h : Rw e enc H v xs) (k : Fr S H H') (hn : ∀ o, rowObj v = some o -> o ∉ S) : Rw e enc H' v xs := ⟨h.sw.frS k hn, h.cap⟩
theorem Rw.len (h : Rw e enc H v xs) : lenA v = some (.int .i64 xs.length) := by
 rcases h.sw with ⟨rfl, rfl⟩ | ⟨o, off, lo, ex, rfl, _⟩ <;> rfl
theorem Rw.one (h : Rw e enc H v xs) : v.one = true /\ v.cells = [v] := by
 rcases h.sw with ⟨rfl, _⟩ | ⟨o, off, lo, ex, rfl, _⟩ <;> exact ⟨rfl, rfl⟩
theorem Rw.rowLt (hn : ∀ x, (enc x).length = e) (h : Rw e enc H v xs) (hw : H.Wf) {o : Nat} (ho : rowObj v = some o) : o < H.next := (h.sl hn).rowLt hw ho
theorem Ow.rw (hn : ∀ x, (enc x).length = e) (h : Ow e enc H v xs) : Rw e enc H v xs := ⟨h.sw hn, by
 rcases h with ⟨rfl, _⟩ | ⟨o, rfl, _⟩
 ·rfl
 ·simp [zo2]⟩
theorem Rw.take (hn : ∀ x, (enc x).length = e) (h : Rw e enc H v xs) {k : Nat} (hk : k <= xs.length) :
  ∃ v', sliceA e v none (some (.int .i64 k)) none = some v' /\ Rw e enc H v' (xs.take k) /\ rowObj v' = rowObj v := by
 obtain ⟨h, hc⟩ := h
 rcases h with ⟨rfl, rfl⟩ | ⟨o, off, lo, ex, rfl, h⟩
 ·have : k = 0 := by simpa using hk
  subst this
  exact ⟨.nils, rfl, ⟨.inl ⟨rfl, rfl⟩, rfl⟩, rfl⟩
 ·have hlo : xs.length <= lo := by simpa [zo2] using hc
  have b1 : (0 : Int) <= (k : Int) /\ (k : Int) <= (lo : Int) := by omega
  have hl : (xs.take k).length = k := by rw [List.length_take]; omega
  refine ⟨.slc o off k e lo ex, ?_, ⟨.inr ⟨o, off, lo, ex, by rw [hl], ?_⟩, by simp [zo2]; omega⟩, rfl⟩
  ·simp only [sliceA, Nat.beq_refl, cond_true, zd8, zl1, if_pos b1, Option.map_some, Int.toNat_natCast, Nat.zero_mul, Nat.add_zero, Nat.sub_zero]
  ·unfold Heap.readSeg at h ⊢
   cases hc : H.cellsAt o with
   | none => rw [hc] at h; cases h
   | some cs =>
    rw [hc] at h
    have h : seg cs off (xs.length * e) = some (xs.flatMap enc) := h
    have hm : k * e <= xs.length * e := Nat.mul_le_mul_right e hk
    have := zav1 h (f := 0) (m := k * e) (by omega)
    rw [hl]
    show seg cs off (k * e) = _
    rw [Nat.add_zero, List.drop_zero, zar8 hn] at this
    exact this
theorem Rw.drop (hn : ∀ x, (enc x).length = e) (h : Rw e enc H v xs) {k : Nat} (hk : k <= xs.length) :
  ∃ v', sliceA e v (some (.int .i64 k)) none none = some v' /\ Rw e enc H v' (xs.drop k) /\ rowObj v' = rowObj v := by
 obtain ⟨h, hc⟩ := h
 rcases h with ⟨rfl, rfl⟩ | ⟨o, off, lo, ex, rfl, h⟩
 ·have : k = 0 := by simpa using hk
  subst this
  exact ⟨.nils, rfl, ⟨.inl ⟨rfl, rfl⟩, rfl⟩, rfl⟩
 ·have hlo : xs.length <= lo := by simpa [zo2] using hc
  have b1 : (0 : Int) <= (k : Int) /\ (k : Int) <= ((xs.length : Nat) : Int) := by omega
  have hl : (xs.drop k).length = xs.length - k := by simp
  refine ⟨.slc o (off + k * e) (xs.length - k) e (lo - k) ex, ?_, ⟨.inr ⟨o, off + k * e, lo - k, ex, by rw [hl], ?_⟩, by simp [zo2]; omega⟩, rfl⟩
  ·simp only [sliceA, Nat.beq_refl, cond_true, zd8, zl1, if_pos b1, Option.map_some, Int.toNat_natCast]
  ·unfold Heap.readSeg at h ⊢
   cases hc : H.cellsAt o with
   | none => rw [hc] at h; cases h
   | some cs =>
    rw [hc] at h
    have h : seg cs off (xs.length * e) = some (xs.flatMap enc) := h
    have hm : k * e + (xs.length - k) * e = xs.length * e := by rw [<- Nat.add_mul]; congr 1; omega
    have := zav1 h (f := k * e) (m := (xs.length - k) * e) (by omega)
    rw [hl]
    show seg cs (off + k * e) ((xs.length - k) * e) = _
    rw [zaf1 hn] at this
    rw [this]
    congr 1
    apply List.take_of_length_le
    rw [zg6 hn, hl]; exact Nat.le_refl _
end
end Go.AI
namespace Go.AI
def zl7 (H : Heap) (d : EqD) (m k v : AV) : Option (AV × Heap) :=
 match m with
 | .map o =>
  bif Nat.ble H.floor o then
   match H.get o with
   | some (.map es) =>
    bif plainKey d k then
     match zk2 d k es 0 with
     | none => none
     | some (some (i, _)) => some (zb8, H.set o (.map (es.set i (k, v))))
     | some none => some (zb8, H.set o (.map (es ++ [(k, v)])))
    else none
   | _ => none
  else none
 | _ => none
@[simp] theorem zav9 {e : Opd -> AV} {H : Heap} {d : EqD} {m k v : Opd} : zb2 e H (.mapUpdate d m k v) = zl7 H d (e m) (e k) (e v) := rfl
abbrev Ent := (Int × Int) × Int
def entc (q : Ent) : AV × AV := (.agg (za2 q.1), .int .i64 q.2)
theorem z99 (x y : Int × Int) : eqA (.flat [.int, .int]) (.agg (za2 x)) (.agg (za2 y)) = some (decide (x = y)) := by
 have e : eqA (.flat [.int, .int]) (.agg (za2 x)) (.agg (za2 y)) = (match some (x.1 == y.1) with | some true => (match some (x.2 == y.2) with | some true => some true | some false => some false | none => none) | some false => some false | none => none) := rfl
 rw [e]
 obtain ⟨a, b⟩ := x
 obtain ⟨c, d⟩ := y
 cases h1 : (a == c) <;> cases h2 : (b == d) <;> simp_all
theorem zu7 (x : Int × Int) : plainKey (.flat [.int, .int]) (.agg (za2 x)) = true := by
 have : zd5 [.int, .int] (za2 x) (za2 x) = some true := by
  have := z99 x x
  have e : eqA (.flat [.int, .int]) (.agg (za2 x)) (.agg (za2 x)) = zd5 [.int, .int] (za2 x) (za2 x) := rfl
  rw [<- e, this]; simp
 show (zd5 [.int, .int] (za2 x) (za2 x)).isSome = true
 rw [this]; rfl
def zw8 (E : List Ent) (s : Int × Int) : Int := ((E.find? fun q => decide (s = q.1)).map (·.2)).getD (-1)
theorem zam6 (s : Int × Int) : ∀ (E : List Ent) (j : Nat), zk2 (.flat [.int, .int]) (.agg (za2 s)) (E.map entc) j = match E.find? (fun q => decide (s = q.1)) with | some q => some (some (j + E.findIdx (fun q => decide (s = q.1)), .int .i64 q.2)) | none => some none
 | [], j => rfl
 | q :: E, j => by
  have ih := zam6 s E (j + 1)
  simp only [List.map_cons, entc, zk2, z99]
  by_cases h : s = q.1
  ·simp [h, List.findIdx_cons]
  ·rw [decide_eq_false h]
   simp only [List.find?_cons, decide_eq_false h, List.findIdx_cons, cond_false]
   rw [ih]
   cases E.find? (fun q => decide (s = q.1)) with
   | none => rfl
   | some q' => simp only [Option.some.injEq, Prod.mk.injEq, and_true]; omega
theorem zz7 {E : List Ent} {s : Int × Int} : E.find? (fun q => decide (s = q.1)) = none ↔ s ∉ E.map (·.1) := by
 rw [List.find?_eq_none]
 simp only [List.mem_map, not_exists, not_and, decide_eq_true_eq]
 exact ⟨fun h q hq e => h q hq e.symm, fun h q hq e => h q hq e.symm⟩
theorem zbg8 {H : Heap} {o : Nat} {E : List Ent} {s : Int × Int} (h : H.get o = some (.map (E.map entc))) :
  ∃ r, zp1 H (.flat [.int, .int]) (.map o) (.agg (za2 s)) = some r /\ ((s ∉ E.map (·.1) /\ r = none /\ zw8 E s = -1) \/ (s ∈ E.map (·.1) /\ ∃ i k, r = some (i, .int .i64 k) /\ zw8 E s = k /\ (s, k) ∈ E)) := by
 unfold zp1
 simp only [h, zu7, cond_true, zam6 s E 0]
 cases hf : E.find? (fun q => decide (s = q.1)) with
 | none => exact ⟨none, rfl, .inl ⟨zz7.1 hf, rfl, by unfold zw8; rw [hf]; rfl⟩⟩
 | some q =>
  have hm := List.mem_of_find?_eq_some hf
  have hs : s = q.1 := by have := List.find?_some hf; simpa using this
  refine ⟨_, rfl, .inr ⟨?_, _, q.2, rfl, by unfold zw8; rw [hf]; rfl, ?_⟩⟩
  ·rw [hs]; exact List.mem_map_of_mem hm
  ·rw [hs]; exact hm
theorem za71 {H : Heap} {o : Nat} {E : List Ent} {s : Int × Int} {k : Int} (hf : H.floor <= o) (h : H.get o = some (.map (E.map entc))) (hn : s ∉ E.map (·.1)) :
  zl7 H (.flat [.int, .int]) (.map o) (.agg (za2 s)) (.int .i64 k) = some (zb8, H.set o (.map ((E ++ [(s, k)]).map entc))) := by
 have hb : Nat.ble H.floor o = true := Nat.ble_eq_true_of_le hf
 unfold zl7
 simp only [h, hb, cond_true, zu7, zam6 s E 0, zz7.2 hn, List.map_append, List.map_cons, List.map_nil]
 rfl
abbrev OneV := {v : AV // v.one = true}
def onec (x : OneV) : List AV := [x.1]
theorem zq2 (x : OneV) : (onec x).length = 1 := rfl
theorem za13 (x : OneV) : za5 (onec x) = true := by unfold onec; rw [zh1 x.2]; rfl
structure Gd (H : Heap) (v : AV) (F : List (List Int)) : Prop where
 ex : ∃ rs : List OneV, Rw 1 onec H v rs /\ rs.length = F.length /\ ∀ (i : Nat) (r : OneV) (f : List Int), rs[i]? = some r -> F[i]? = some f -> Rw 1 zi7 H r.1 f
section
variable {H H' : Heap} {v : AV} {F : List (List Int)}
theorem Gd.len (h : Gd H v F) : lenA v = some (.int .i64 F.length) := by
 obtain ⟨rs, a, b, _⟩ := h.ex; rw [<- b]; exact a.len
theorem Gd.one (h : Gd H v F) : v.one = true /\ v.cells = [v] := by
 obtain ⟨rs, a, _, _⟩ := h.ex; exact a.one
theorem Gd.ext (h : Gd H v F) (k : Ext H H') : Gd H' v F := by
 obtain ⟨rs, a, b, c⟩ := h.ex; exact ⟨rs, a.ext k, b, fun i r f q1 q2 => (c i r f q1 q2).ext k⟩
theorem Gd.idx (h : Gd H v F) {k : IntKind} {i : Int} (h0 : 0 <= i) (h1 : i < F.length) :
  ∃ p r f, F[i.toNat]? = some f /\ zd7 1 v (.int k i) = some p /\ za9 H none p = some r /\ Rw 1 zi7 H r f := by
 obtain ⟨rs, a, b, c⟩ := h.ex
 obtain ⟨p, x, q1, q2, _, q4⟩ := Sl.idx (a.sl zq2) (k := k) h0 (by omega)
 have hl : i.toNat < F.length := by omega
 exact ⟨p, x.1, F[i.toNat], List.getElem?_eq_getElem hl, q2, q4 _ rfl rfl, c _ _ _ q1 (List.getElem?_eq_getElem hl)⟩
theorem zd6 {n : Option Nat} {p r : AV} (h : za9 H n p = some r) (k : Ext H H') : za9 H' n p = some r := by
 cases p with
 | ptr o off =>
  rw [ze3] at h ⊢
  cases hc : H.cellsAt o with
  | none => rw [hc] at h; cases h
  | some cs => rw [k.cells hc]; rw [hc] at h; exact h
 | _ => cases h
end
def rowOk (n : Int) (f : List Int) : Prop := 3 <= f.length /\ f.Nodup /\ ∀ k, k ∈ f -> 0 <= k /\ k < n
def z13 : Nat -> List (List Int) -> List Ent
 | _, [] => []
 | i, f :: F => (zh7 f).map (fun s => (s, (i : Int))) ++ z13 (i + 1) F
theorem za01 : ∀ (i : Nat) (F : List (List Int)), (z13 i F).map (·.1) = F.flatMap zh7
 | _, [] => rfl
 | i, f :: F => by simp [z13, za01 (i + 1) F, Function.comp_def]
theorem za02 : ∀ (i : Nat) (F G : List (List Int)), z13 i (F ++ G) = z13 i F ++ z13 (i + F.length) G
 | i, [], G => by simp [z13]
 | i, f :: F, G => by
  simp only [List.cons_append, z13, za02 (i + 1) F G, List.append_assoc, List.length_cons]
  congr 3; omega
open Classical in
noncomputable def chkF (n : Int) (F : List (List Int)) : Int := if (0 <= n /\ n <= 1048576) /\ ∀ f, f ∈ F -> rowOk n f then (if (F.flatMap zh7).Nodup then 0 else 80) else 2
end Go.AI
namespace Go.AI
open Go.ChangeShapes Go.WideShapes Go.Deep
theorem zbh1 {P : Program} {G : World -> Prop} {FT : Nat -> Option FnD} (hFT : zg3 P G FT) {f : Nat} {args : List AV} {css : List (List AV)} {Ls : List (Option Loc)} {v : AV} {w : World} {avs : List Value}
  (h : Cp FT f args (zx0 css.reverse) fun r _ => r = v) (hp : v.plain = true) (hl : zg4 (fun o => (Ls[o]?).join) args avs) (hn : Ls.length = css.length)
  (hm : ∀ (o : Nat) (l : Loc), Ls[o]? = some (some l) -> ∀ cs, css[o]? = some cs -> l.blk < w.heap.size /\ At (fun o => (Ls[o]?).join) w l cs /\ l.base + cs.length <= l.size) (hgood : ∀ w' : World, (∀ b, b < w.heap.size -> w'.heap[b]? = w.heap[b]?) -> G w') :
  Calls P f avs.toArray w fun e w' => ∃ r, e = .returned r /\ zc3 (fun _ => none) v r /\ RowKit.Below w.heap.size w w' := by
 obtain ⟨n, v1, H', hc, rfl⟩ := h
 have hnx := zr6 css.reverse
 rw [List.length_reverse] at hnx
 have key : ∀ (o : Nat) (L : Loc), ((Ls[o]?).join : Option Loc) = some L -> Ls[o]? = some (some L) := fun o L e => by
  cases q : Ls[o]? with
  | none => rw [q] at e; cases e
  | some x => rw [q] at e; simp at e; rw [e]
 have lt : ∀ (o : Nat) (L : Loc), ((Ls[o]?).join : Option Loc) = some L -> o < css.length := fun o L e => by
  have := (List.getElem?_eq_some_iff.1 (key o L e)).1; omega
 refine (zbh3 hFT hc hl (by rw [hnx.1, hnx.2]) (za23 css.reverse).2 (fun o L e => ⟨by rw [hnx.1]; exact lt o L e, ?_⟩) (fun o L x e hx => ?_) hgood).mono ?_
 ·have hlt := lt o L e
  exact (hm o L (key o L e) _ (List.getElem?_eq_getElem hlt)).1
 ·rw [zae8, List.reverse_reverse] at hx
  cases hg : css[o]? with
  | none => rw [hg] at hx; cases hx
  | some cs =>
   rw [hg] at hx; cases hx
   have h1 := hm o L (key o L e) _ hg
   exact ⟨h1.2.1, h1.2.2, fun hb => absurd (lt o L e) (by rw [hnx.1] at hb; omega)⟩
 ·rintro e w' ⟨φ', r, rfl, hv, hb⟩
  exact ⟨r, rfl, hv.plain hp, hb⟩
theorem zbh7 (css : List (List AV)) (o : Nat) : (zx0 css.reverse).get o = (css[o]?).map .cells := by rw [zae8, List.reverse_reverse]
section
variable {H : Type} {enc : TypeId × Value -> H} {P : Program} {w : World} {base : Nat} {held : Bool}
theorem za83 {Q : Pl -> Prop} {a : Addr} {len cap e o : Nat} {cs : List AV} (hl : len <= cap) (he : 0 < e) (hcs : cs.length = len * e)
  (hc : ∀ i, i < cap * e -> ∃ u, w.cell? (a.add i) = some u) (hv : ∀ i x, cs[i]? = some x -> ∃ u, w.cell? (a.add i) = some u /\ ∀ φ, Q φ -> zc3 φ x u) :
  ∃ L : Option Loc, (∀ φ : Pl, φ o = L -> zc3 φ (.slc o 0 len e len false) (.slice (some a) len cap)) /\ ∀ l, L = some l -> l.blk < w.heap.size /\ (∀ φ, Q φ -> At φ w l cs) /\ l.base + cs.length <= l.size := by
 rcases Nat.eq_zero_or_pos cap with h0 | h0
 ·subst h0
  obtain rfl : len = 0 := by omega
  exact ⟨none, fun φ _ => .slc0 _ _ _ _ _, fun l e => by cases e⟩
 ·have hpos : 0 < cap * e := Nat.mul_pos h0 he
  obtain ⟨u0, hu0⟩ := hc 0 hpos
  rw [add_zero'] at hu0
  refine ⟨some ⟨a.block, a.off, a.off + cap * e⟩, fun φ hφ => ?_, fun l e => ?_⟩
  ·rw [zao6 hu0]
   exact zc3.slc (φ := φ) o 0 len e len false ⟨a.block, a.off, a.off + cap * e⟩ cap hφ (Nat.le_refl _) hl (fun q => by cases q) (Nat.le_refl _)
  ·cases e
   refine ⟨za44 hu0, fun φ hQ i x hx => ?_, ?_⟩
   ·obtain ⟨u, h1, h2⟩ := hv i x hx
    exact ⟨u, za45 h1 ⟨u0, hu0⟩, h2 φ hQ⟩
   ·show a.off + cs.length <= _
    rw [hcs]; exact Nat.add_le_add_left (Nat.mul_le_mul_right _ hl) _
theorem zbl5 {t e : TypeId} {fuel : Nat} {cs : List Value} {x : DataW H × List MemPlace} (o : Nat) (ht : P.underlying t = some (.slice e)) (he : P.underlying e = some (.int .i64)) (hc : P.cellsOf e = 1)
  (h : DataW.trod enc P w base (fun _ => true) held fuel t cs = some x) : ∃ v xs av L, cs = [v] /\ zx8 w o 1 zi7 v xs av L := by
 rcases open_ints ht he hc h with ⟨hcs, _⟩ | ⟨a, len, cap, zs, hcs, _⟩
 ·subst hcs
  obtain ⟨xs, av, L, _, hs, _⟩ := za50 o ht he hc h
  exact ⟨_, xs, av, L, rfl, hs⟩
 ·subst hcs
  obtain ⟨xs, av, L, _, hs, _⟩ := za50 o ht he hc h
  exact ⟨_, xs, av, L, rfl, hs⟩
instance : Inhabited OneV := ⟨⟨.nils, rfl⟩⟩
theorem zx8.rw {α : Type} {e : Nat} {en : α -> List AV} (hn : ∀ x, (en x).length = e) {w : World} {o : Nat} {v : Value} {xs : List α} {av : AV} {L : Option Loc} {H : Heap} (h : zx8 w o e en v xs av L) (hg : H.get o = some (.cells (xs.flatMap en))) : Rw e en H av xs :=
 ⟨h.sw hn hg, by
  rcases h.2 with ⟨rfl, _⟩ | rfl
  ·rfl
  ·simp [zo2]⟩
end
end Go.AI
namespace Go.AI
end Go.AI
namespace Go.AI
structure BadW (w : List Nat) : Prop where
 wf : wfN w = false
 v : w ≠ vS
 f : w ≠ fS
 z : w ≠ [48]
theorem BadW.nil : BadW [] := ⟨rfl, by decide, by decide, by decide⟩
theorem BadW.zero {w : List Nat} (h : BadW w) : (zb04 w).2 = 11 := by unfold zb04; rw [if_neg h.z]
theorem BadW.idx {w : List Nat} (h : BadW w) (n : Nat) : (idxW n w).2 = 11 := zbs2 h.wf
end Go.AI
