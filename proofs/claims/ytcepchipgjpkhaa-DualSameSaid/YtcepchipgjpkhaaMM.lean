/- Meshes in plain words: triangles, what may be, which two may be made one. No claim by itself. -/
import Derived.Test.YtcepchipgjpkhaaNA
import Derived.Test.YtcepchipgjpkhaaEH
namespace Go.Proofs.Ytcepchipgjpkhaa
open Go Go.AI
/-! ### Turns -/
theorem orZ_vals (a b c : Int × Int) : orZ a b c = 1 ∨ orZ a b c = 0 ∨ orZ a b c = -1 := by
  unfold orZ
  split
  · rcases Int.lt_trichotomy (areaZ a b c) 0 with h | h | h
    · exact .inr (.inr (Int.sign_eq_neg_one_of_neg h))
    · rw [h]; exact .inr (.inl rfl)
    · exact .inl (Int.sign_eq_one_of_pos h)
  · exact .inr (.inl rfl)
theorem areaZ_rot (a b c : Int × Int) : areaZ b c a = areaZ a b c := by unfold areaZ; omega
theorem areaZ_swap (a b c : Int × Int) : areaZ a c b = -areaZ a b c := by
  unfold areaZ
  rw [Int.mul_comm c.1 b.2, Int.mul_comm c.2 b.1, Int.mul_comm a.1 c.2, Int.mul_comm a.2 c.1, Int.mul_comm b.1 a.2, Int.mul_comm b.2 a.1]
  omega
theorem orZ_rot (a b c : Int × Int) : orZ b c a = orZ a b c := by
  unfold orZ
  rw [areaZ_rot]
  by_cases h : fitQ a ∧ fitQ b ∧ fitQ c
  · rw [if_pos h, if_pos ⟨h.2.1, h.2.2, h.1⟩]
  · rw [if_neg h, if_neg fun q => h ⟨q.2.2, q.1, q.2.1⟩]
theorem orZ_swap (a b c : Int × Int) : orZ a c b = -orZ a b c := by
  unfold orZ
  rw [areaZ_swap, Int.sign_neg]
  by_cases h : fitQ a ∧ fitQ b ∧ fitQ c
  · rw [if_pos h, if_pos ⟨h.1, h.2.2, h.2.1⟩]
  · rw [if_neg h, if_neg fun q => h ⟨q.1, q.2.2, q.2.1⟩]; rfl
theorem orZ_same (a b : Int × Int) : orZ a b b = 0 := by have := orZ_swap a b b; omega
theorem orZ_same2 (a b : Int × Int) : orZ a a b = 0 := by rw [← orZ_rot]; rw [← orZ_rot]; exact orZ_same b a
theorem orZ_same3 (a b : Int × Int) : orZ a b a = 0 := by rw [← orZ_rot]; exact orZ_same b a
/-! ### Triangles -/
abbrev Tri := Int × Int × Int
def ltT (a b : Tri) : Bool := decide (a.1 < b.1 ∨ a.1 = b.1 ∧ (a.2.1 < b.2.1 ∨ a.2.1 = b.2.1 ∧ a.2.2 < b.2.2))
theorem stoT : STO ltT where
  irr x := by simp [ltT]
  tr h1 h2 := by simp only [ltT, decide_eq_true_eq] at *; omega
  tri h1 h2 := by
    simp only [ltT, decide_eq_false_iff_not] at *
    exact Prod.ext (by omega) (Prod.ext (by omega) (by omega))
def inN (n : Nat) (x : Int) : Prop := 0 ≤ x ∧ x < n
instance (n : Nat) (x : Int) : Decidable (inN n x) := by unfold inN; infer_instance
def orT (P : List (Int × Int)) (a b c : Int) : Int := orZ (ptQ P a) (ptQ P b) (ptQ P c)
def TriOk (P : List (Int × Int)) (t : Tri) : Prop := (inN P.length t.1 ∧ inN P.length t.2.1 ∧ inN P.length t.2.2) ∧ (t.1 < t.2.1 ∧ t.1 < t.2.2) ∧ orT P t.1 t.2.1 t.2.2 = 1
instance (P : List (Int × Int)) (t : Tri) : Decidable (TriOk P t) := by unfold TriOk; infer_instance
/-- From the least on. -/
def rotM (a b c : Int) : Tri := if a ≤ b ∧ a ≤ c then (a, b, c) else if b ≤ c ∧ b ≤ a then (b, c, a) else (c, a, b)
/-- The triangle of three places. -/
def triF (P : List (Int × Int)) (a b c : Int) : Option Tri :=
  if inN P.length a ∧ inN P.length b ∧ inN P.length c then (if orT P a b c = 0 then none else some (if orT P a b c = -1 then rotM a c b else rotM a b c)) else none
theorem orT_ne {P : List (Int × Int)} {a b c : Int} (h : orT P a b c ≠ 0) : a ≠ b ∧ a ≠ c ∧ b ≠ c := by
  unfold orT at h
  refine ⟨fun e => h ?_, fun e => h ?_, fun e => h ?_⟩
  · rw [e]; exact orZ_same2 _ _
  · rw [e]; exact orZ_same3 _ _
  · rw [e]; exact orZ_same _ _
theorem triF_ok {P : List (Int × Int)} {t : Tri} : triF P t.1 t.2.1 t.2.2 = some t ↔ TriOk P t := by
  obtain ⟨a, b, c⟩ := t
  unfold triF TriOk
  simp only
  by_cases hi : inN P.length a ∧ inN P.length b ∧ inN P.length c
  · rw [if_pos hi]
    by_cases h0 : orT P a b c = 0
    · rw [if_pos h0]
      constructor
      · intro h; cases h
      · intro h; rw [h0] at h; exact absurd h.2.2 (by decide)
    · rw [if_neg h0]
      obtain ⟨n1, n2, n3⟩ := orT_ne h0
      by_cases hm : orT P a b c = -1
      · rw [if_pos hm]
        constructor
        · intro h
          unfold rotM at h
          split at h
          · simp at h; omega
          · split at h
            · simp at h; omega
            · simp at h; omega
        · intro h; rw [hm] at h; exact absurd h.2.2 (by decide)
      · rw [if_neg hm]
        have h1 : orT P a b c = 1 := by
          rcases orZ_vals (ptQ P a) (ptQ P b) (ptQ P c) with q | q | q
          · exact q
          · exact absurd q h0
          · exact absurd q hm
        constructor
        · intro h
          unfold rotM at h
          split at h
          · rename_i q; exact ⟨hi, ⟨by omega, by omega⟩, h1⟩
          · split at h
            · simp at h; omega
            · simp at h; omega
        · intro h
          unfold rotM
          rw [if_pos ⟨by omega, by omega⟩]
  · rw [if_neg hi]
    exact ⟨fun h => (by cases h), fun h => absurd h.1 hi⟩
/-! ### Meshes that may be -/
def rowT (t : Tri) : List Int := [t.1, t.2.1, t.2.2]
def rowsT (T : List Tri) : List (List Int) := T.map rowT
def edT3 (t : Tri) : List (Int × Int) := [(t.1, t.2.1), (t.2.1, t.2.2), (t.2.2, t.1)]
theorem edgesF_row (t : Tri) : edgesF (rowT t) = edT3 t := rfl
/-- All edges, in their directions. -/
def edsM (T : List Tri) : List (Int × Int) := allE (rowsT T)
theorem edsM_eq (T : List Tri) : edsM T = T.flatMap edT3 := by
  unfold edsM allE rowsT
  rw [List.flatMap_map]
  rfl
theorem edsM_snoc {T : List Tri} {i : Nat} {t : Tri} (h : T[i]? = some t) : edsM (T.take (i + 1)) = edsM (T.take i) ++ edT3 t := by
  rw [edsM_eq, edsM_eq, List.take_add_one, h]; simp
structure MeshOk (P : List (Int × Int)) (T : List Tri) (S : List (Int × Int)) : Prop where
  tri : ∀ t, t ∈ T → TriOk P t
  rise : Rise ltT T
  nod : (edsM T).Nodup
  segU : ∀ s, s ∈ S → s.1 < s.2
  segR : Rise ltS S
  segE : ∀ s, s ∈ S → s ∈ edsM T ∨ rev s ∈ edsM T
  rim : ∀ s, s ∈ edsM T → rev s ∈ edsM T ∨ upE s ∈ S
open Classical in
/-- What is wrong with a mesh. -/
noncomputable def chkM (P : List (Int × Int)) (T : List Tri) (S : List (Int × Int)) : Int := if MeshOk P T S then 0 else 2
theorem chkM_ok {P : List (Int × Int)} {T : List Tri} {S : List (Int × Int)} (h : MeshOk P T S) : chkM P T S = 0 := by unfold chkM; rw [if_pos h]
theorem chkM_no {P : List (Int × Int)} {T : List Tri} {S : List (Int × Int)} (h : ¬ MeshOk P T S) : chkM P T S = 2 := by unfold chkM; rw [if_neg h]
theorem rise_snoc {α : Type} {lt : α → α → Bool} (h : STO lt) {l : List α} {i : Nat} {x y : α} (hr : Rise lt (l.take (i + 1))) (hx : l[i]? = some x) (hy : l[i + 1]? = some y) (hl : lt x y = true) : Rise lt (l.take (i + 2)) := by
  have e1 : l.take (i + 2) = l.take (i + 1) ++ [y] := by rw [List.take_add_one, hy]; rfl
  have e2 : l.take (i + 1) = l.take i ++ [x] := by rw [List.take_add_one, hx]; rfl
  rw [e1]
  refine List.pairwise_append.2 ⟨hr, by simp, fun a ha b hb => ?_⟩
  simp at hb
  subst hb
  rw [e2] at ha hr
  rcases List.mem_append.1 ha with q | q
  · exact h.tr ((List.pairwise_append.1 hr).2.2 a q x (by simp)) hl
  · simp at q; subst q; exact hl
theorem rise_no {α : Type} {lt : α → α → Bool} {l : List α} {i : Nat} {x y : α} (hx : l[i]? = some x) (hy : l[i + 1]? = some y) (hl : lt x y = false) : ¬ Rise lt l := by
  intro h
  obtain ⟨h1, e1⟩ := List.getElem?_eq_some_iff.1 hx
  obtain ⟨h2, e2⟩ := List.getElem?_eq_some_iff.1 hy
  have := List.pairwise_iff_getElem.1 h i (i + 1) h1 h2 (by omega)
  rw [e1, e2, hl] at this
  cases this
/-! ### Two triangles that share an edge -/
abbrev Quad := Int × Int × Int × Int
def sd3 (t : Tri) : List Tri := [(t.1, t.2.1, t.2.2), (t.2.1, t.2.2, t.1), (t.2.2, t.1, t.2.1)]
def hit (x y : Tri) : Option Quad := if x.1 = y.2.1 ∧ x.2.1 = y.1 then some (x.1, y.2.2, x.2.1, x.2.2) else none
def hits (t u : Tri) : List Quad := (sd3 t).flatMap fun x => (sd3 u).filterMap (hit x)
/-- The places round two triangles that share just one edge. -/
def sharedF (t u : Tri) : Option Quad := match hits t u with | [q] => some q | _ => none
def conv4 (p q r s : Int × Int) : Bool := decide (orZ p q r = 1) && decide (orZ p q s = 1) && decide (orZ p r s = 1) && decide (orZ q r s = 1)
theorem conv4_iff {p q r s : Int × Int} : conv4 p q r s = true ↔ convP [p, q, r, s] := by
  unfold conv4
  simp only [Bool.and_eq_true, decide_eq_true_eq]
  constructor
  · rintro ⟨⟨⟨h1, h2⟩, h3⟩, h4⟩
    refine ⟨by simp, fun i k j hik hkj a b c ha hb hc => ?_⟩
    have hj : j < 4 := by have := (List.getElem?_eq_some_iff.1 hc).1; simpa using this
    have : (i = 0 ∧ k = 1 ∧ j = 2) ∨ (i = 0 ∧ k = 1 ∧ j = 3) ∨ (i = 0 ∧ k = 2 ∧ j = 3) ∨ (i = 1 ∧ k = 2 ∧ j = 3) := by omega
    rcases this with ⟨rfl, rfl, rfl⟩ | ⟨rfl, rfl, rfl⟩ | ⟨rfl, rfl, rfl⟩ | ⟨rfl, rfl, rfl⟩ <;> (simp at ha hb hc; subst ha hb hc; assumption)
  · intro h
    exact ⟨⟨⟨h.2 0 1 2 (by omega) (by omega) p q r rfl rfl rfl, h.2 0 1 3 (by omega) (by omega) p q s rfl rfl rfl⟩, h.2 0 2 3 (by omega) (by omega) p r s rfl rfl rfl⟩, h.2 1 2 3 (by omega) (by omega) q r s rfl rfl rfl⟩
/-- Four places from the least on. -/
def from4 (a b c d : Int) : List Int := if a ≤ b ∧ a ≤ c ∧ a ≤ d then [a, b, c, d] else if b ≤ c ∧ b ≤ d then [b, c, d, a] else if c ≤ d then [c, d, a, b] else [d, a, b, c]
def upM (a b : Int) : Int × Int := (min a b, max a b)
theorem upM_up (s : Int × Int) : upM s.1 s.2 = upE s := by
  unfold upM upE
  split
  · rw [Int.min_eq_left (by omega), Int.max_eq_right (by omega)]
  · rw [Int.min_eq_right (by omega), Int.max_eq_left (by omega)]
/-- Two triangles as one face. -/
def quadF (P S : List (Int × Int)) (t u : Tri) : Option (List Int) :=
  match sharedF t u with
  | none => none
  | some (a, b, c, d) => if upM a c ∈ S then none else if conv4 (ptQ P a) (ptQ P b) (ptQ P c) (ptQ P d) = true then some (from4 a b c d) else none
def quadAt (P : List (Int × Int)) (T : List Tri) (S : List (Int × Int)) (i k : Nat) : Option (List Int) :=
  match T[i]?, T[k]? with
  | some t, some u => quadF P S t u
  | _, _ => none
/-- All pairs, rising. -/
def prsM (P : List (Int × Int)) (T : List Tri) (S : List (Int × Int)) : List (Int × Int) :=
  (List.range T.length).flatMap fun i => ((List.range T.length).filter fun k => decide (i < k) && (quadAt P T S i k).isSome).map fun (k : Nat) => ((i : Int), (k : Int))
theorem prsM_mem {P : List (Int × Int)} {T : List Tri} {S : List (Int × Int)} {s : Int × Int} : s ∈ prsM P T S ↔ ∃ i k : Nat, s = ((i : Int), (k : Int)) ∧ i < k ∧ k < T.length ∧ (quadAt P T S i k).isSome = true := by
  unfold prsM
  simp only [List.mem_flatMap, List.mem_map, List.mem_filter, List.mem_range, Bool.and_eq_true, decide_eq_true_eq]
  constructor
  · rintro ⟨i, hi, k, ⟨hk, h1, h2⟩, rfl⟩; exact ⟨i, k, rfl, h1, hk, h2⟩
  · rintro ⟨i, k, rfl, h1, hk, h2⟩; exact ⟨i, by omega, k, ⟨hk, h1, h2⟩, rfl⟩
theorem flat_rise {α : Type} {lt : α → α → Bool} {f : Nat → List α} : ∀ {l : List Nat}, l.Pairwise (· < ·) → (∀ i, i ∈ l → Rise lt (f i)) → (∀ i j x y, i < j → x ∈ f i → y ∈ f j → lt x y = true) → Rise lt (l.flatMap f)
  | [], _, _, _ => by simp
  | i :: l, hl, h1, h2 => by
    rw [List.flatMap_cons]
    have hl' := List.pairwise_cons.1 hl
    refine List.pairwise_append.2 ⟨h1 i (by simp), flat_rise hl'.2 (fun j hj => h1 j (List.mem_cons_of_mem _ hj)) h2, fun x hx y hy => ?_⟩
    obtain ⟨j, hj, hy⟩ := List.mem_flatMap.1 hy
    exact h2 i j x y (hl'.1 j hj) hx hy
theorem prsM_rise (P : List (Int × Int)) (T : List Tri) (S : List (Int × Int)) : Rise ltS (prsM P T S) := by
  unfold prsM
  refine flat_rise List.pairwise_lt_range (fun i _ => ?_) fun i j x y hij hx hy => ?_
  · unfold Rise
    rw [List.pairwise_map]
    refine (List.Pairwise.filter _ List.pairwise_lt_range).imp fun {a b} h => ?_
    simp [ltS]; omega
  · obtain ⟨a, _, rfl⟩ := List.mem_map.1 hx
    obtain ⟨b, _, rfl⟩ := List.mem_map.1 hy
    simp [ltS]; omega
/-! ### What the program makes of them -/
/-- The program's pairs, triangle by triangle, edge by edge. -/
def prA (P : List (Int × Int)) (T : List Tri) (S : List (Int × Int)) (i : Nat) (x : Tri) : List (Int × Int) :=
  if (i : Int) < leftF (rowsT T) (x.2.1, x.1) ∧ (quadAt P T S i (leftF (rowsT T) (x.2.1, x.1)).toNat).isSome = true then [((i : Int), leftF (rowsT T) (x.2.1, x.1))] else []
def prI (P : List (Int × Int)) (T : List Tri) (S : List (Int × Int)) (i : Nat) (t : Tri) : List (Int × Int) := (sd3 t).flatMap (prA P T S i)
def prL (P : List (Int × Int)) (T : List Tri) (S : List (Int × Int)) (n : Nat) : List (Int × Int) := (List.range n).flatMap fun i => match T[i]? with | some t => prI P T S i t | none => []
theorem prL_snoc {P : List (Int × Int)} {T : List Tri} {S : List (Int × Int)} {i : Nat} {t : Tri} (h : T[i]? = some t) : prL P T S (i + 1) = prL P T S i ++ prI P T S i t := by
  unfold prL
  rw [List.range_succ, List.flatMap_append]
  simp [h]
theorem sd3_ed {t x : Tri} (h : x ∈ sd3 t) : (x.1, x.2.1) ∈ edT3 t := by
  simp [sd3] at h
  rcases h with rfl | rfl | rfl <;> simp [edT3]
theorem ed_sd3 {t : Tri} {s : Int × Int} (h : s ∈ edT3 t) : ∃ x, x ∈ sd3 t ∧ (x.1, x.2.1) = s := by
  simp [edT3] at h
  rcases h with rfl | rfl | rfl
  · exact ⟨_, by simp [sd3], rfl⟩
  · exact ⟨(t.2.1, t.2.2, t.1), by simp [sd3], rfl⟩
  · exact ⟨(t.2.2, t.1, t.2.1), by simp [sd3], rfl⟩
theorem hits_mem {t u : Tri} {q : Quad} : q ∈ hits t u ↔ ∃ x y, x ∈ sd3 t ∧ y ∈ sd3 u ∧ x.1 = y.2.1 ∧ x.2.1 = y.1 ∧ q = (x.1, y.2.2, x.2.1, x.2.2) := by
  unfold hits hit
  simp only [List.mem_flatMap, List.mem_filterMap]
  constructor
  · rintro ⟨x, hx, y, hy, e⟩
    split at e
    · rename_i c; cases e; exact ⟨x, y, hx, hy, c.1, c.2, rfl⟩
    · cases e
  · rintro ⟨x, y, hx, hy, c1, c2, rfl⟩
    exact ⟨x, hx, y, hy, by rw [if_pos ⟨c1, c2⟩]⟩
theorem sharedF_some {t u : Tri} {q : Quad} (h : sharedF t u = some q) : hits t u = [q] := by
  unfold sharedF at h
  split at h
  · cases h; assumption
  · cases h
theorem quadF_shared {P S : List (Int × Int)} {t u : Tri} (h : (quadF P S t u).isSome = true) : ∃ q, sharedF t u = some q := by
  unfold quadF at h
  cases hs : sharedF t u with
  | none => rw [hs] at h; simp at h
  | some q => exact ⟨q, rfl⟩
/-- Two sides of a triangle that both lie on another one make two. -/
theorem one_side {t u : Tri} {q : Quad} (h : sharedF t u = some q) {i j : Nat} {x y : Tri} (hij : i < j) (hx : (sd3 t)[i]? = some x) (hy : (sd3 t)[j]? = some y) (h1 : (x.2.1, x.1) ∈ edT3 u) (h2 : (y.2.1, y.1) ∈ edT3 u) : False := by
  have hh := sharedF_some h
  have key : ∀ x : Tri, (x.2.1, x.1) ∈ edT3 u → 1 ≤ ((sd3 u).filterMap (hit x)).length := by
    intro x hx
    obtain ⟨y, hy, e⟩ := ed_sd3 hx
    have : (x.1, y.2.2, x.2.1, x.2.2) ∈ (sd3 u).filterMap (hit x) := by
      refine List.mem_filterMap.2 ⟨y, hy, ?_⟩
      unfold hit
      simp at e
      rw [if_pos ⟨e.2.symm, e.1.symm⟩]
    exact List.length_pos_of_mem this
  have k1 := key x h1
  have k2 := key y h2
  have hl : (hits t u).length = 1 := by rw [hh]; rfl
  unfold hits at hl
  simp only [sd3, List.flatMap_cons, List.flatMap_nil, List.append_nil, List.length_append] at hl
  have hj : j < 3 := by have := (List.getElem?_eq_some_iff.1 hy).1; simpa [sd3] using this
  have : (i = 0 ∧ j = 1) ∨ (i = 0 ∧ j = 2) ∨ (i = 1 ∧ j = 2) := by omega
  rcases this with ⟨rfl, rfl⟩ | ⟨rfl, rfl⟩ | ⟨rfl, rfl⟩ <;> (simp [sd3] at hx hy; subst hx hy; simp only [sd3] at k1 k2; omega)
theorem rows_get {T : List Tri} {i : Nat} {f : List Int} (h : (rowsT T)[i]? = some f) : ∃ t, T[i]? = some t ∧ f = rowT t := by
  unfold rowsT at h
  rw [List.getElem?_map] at h
  cases ht : T[i]? with
  | none => rw [ht] at h; cases h
  | some t => rw [ht] at h; cases h; exact ⟨t, rfl, rfl⟩
theorem get_rows {T : List Tri} {i : Nat} {t : Tri} (h : T[i]? = some t) : (rowsT T)[i]? = some (rowT t) := by unfold rowsT; rw [List.getElem?_map, h]; rfl
/-- The triangle on an edge's left. -/
theorem left_tri {T : List Tri} {s : Int × Int} (h : 0 ≤ leftF (rowsT T) s) : ∃ (k : Nat) (u : Tri), leftF (rowsT T) s = k ∧ T[k]? = some u ∧ s ∈ edT3 u := by
  obtain ⟨k, hk⟩ := Int.eq_ofNat_of_zero_le h
  obtain ⟨f, hf, hs⟩ := leftF_get hk
  obtain ⟨u, hu, rfl⟩ := rows_get hf
  exact ⟨k, u, hk, hu, hs⟩
theorem left_at {T : List Tri} (hn : (edsM T).Nodup) {s : Int × Int} {k : Nat} {u : Tri} (hu : T[k]? = some u) (hs : s ∈ edT3 u) : leftF (rowsT T) s = k := leftF_at hn (get_rows hu) hs
theorem prA_mem {P : List (Int × Int)} {T : List Tri} {S : List (Int × Int)} {i : Nat} {x : Tri} {s : Int × Int} (h : s ∈ prA P T S i x) : ∃ (k : Nat) (u : Tri), s = ((i : Int), (k : Int)) ∧ i < k ∧ T[k]? = some u ∧ (x.2.1, x.1) ∈ edT3 u ∧ (quadAt P T S i k).isSome = true := by
  unfold prA at h
  split at h
  · rename_i c
    obtain ⟨k, u, h1, h2, h3⟩ := left_tri (T := T) (s := (x.2.1, x.1)) (by omega)
    rw [h1] at h c
    simp at h
    exact ⟨k, u, h, by omega, h2, h3, by simpa using c.2⟩
  · simp at h
theorem quadAt_at {P : List (Int × Int)} {T : List Tri} {S : List (Int × Int)} {i k : Nat} {t u : Tri} (ht : T[i]? = some t) (hu : T[k]? = some u) : quadAt P T S i k = quadF P S t u := by unfold quadAt; rw [ht, hu]
theorem prA_nod (P : List (Int × Int)) (T : List Tri) (S : List (Int × Int)) (i : Nat) (x : Tri) : (prA P T S i x).Nodup := by
  unfold prA; split <;> simp
theorem prA_disj {P : List (Int × Int)} {T : List Tri} {S : List (Int × Int)} {i : Nat} {t : Tri} (ht : T[i]? = some t) {a b : Nat} {x y : Tri} (hab : a < b) (hx : (sd3 t)[a]? = some x) (hy : (sd3 t)[b]? = some y) {s : Int × Int} (h1 : s ∈ prA P T S i x) (h2 : s ∈ prA P T S i y) : False := by
  obtain ⟨k, u, rfl, _, hu, e1, q1⟩ := prA_mem h1
  obtain ⟨k', u', e, _, hu', e2, _⟩ := prA_mem h2
  simp at e
  have : k = k' := by omega
  subst this
  rw [hu] at hu'; cases hu'
  rw [quadAt_at ht hu] at q1
  obtain ⟨q, hq⟩ := quadF_shared q1
  exact one_side hq hab hx hy e1 e2
theorem prI_nod {P : List (Int × Int)} {T : List Tri} {S : List (Int × Int)} {i : Nat} {t : Tri} (ht : T[i]? = some t) : (prI P T S i t).Nodup := by
  unfold prI sd3
  simp only [List.flatMap_cons, List.flatMap_nil, List.append_nil]
  refine List.nodup_append.2 ⟨prA_nod _ _ _ _ _, List.nodup_append.2 ⟨prA_nod _ _ _ _ _, prA_nod _ _ _ _ _, fun s h1 s' h2 e => ?_⟩, fun s h1 s' h2 e => ?_⟩
  · subst e; exact prA_disj ht (a := 1) (b := 2) (by omega) rfl rfl h1 h2
  · subst e
    rcases List.mem_append.1 h2 with r | r
    · exact prA_disj ht (a := 0) (b := 1) (by omega) rfl rfl h1 r
    · exact prA_disj ht (a := 0) (b := 2) (by omega) rfl rfl h1 r
theorem prI_mem {P : List (Int × Int)} {T : List Tri} {S : List (Int × Int)} (hn : (edsM T).Nodup) {i : Nat} {t : Tri} (ht : T[i]? = some t) {s : Int × Int} : s ∈ prI P T S i t ↔ ∃ k : Nat, s = ((i : Int), (k : Int)) ∧ i < k ∧ k < T.length ∧ (quadAt P T S i k).isSome = true := by
  unfold prI
  constructor
  · intro h
    obtain ⟨x, _, h⟩ := List.mem_flatMap.1 h
    obtain ⟨k, u, h1, h2, h3, _, h5⟩ := prA_mem h
    exact ⟨k, h1, h2, (List.getElem?_eq_some_iff.1 h3).1, h5⟩
  · rintro ⟨k, rfl, h2, h3, h5⟩
    have hu : T[k]? = some T[k] := List.getElem?_eq_getElem h3
    have h5' := h5
    rw [quadAt_at ht hu] at h5
    obtain ⟨q, hq⟩ := quadF_shared h5
    have hm : q ∈ hits t T[k] := by rw [sharedF_some hq]; simp
    obtain ⟨x, y, hx, hy, c1, c2, _⟩ := hits_mem.1 hm
    refine List.mem_flatMap.2 ⟨x, hx, ?_⟩
    have hl : leftF (rowsT T) (x.2.1, x.1) = k := by
      refine left_at hn hu ?_
      rw [c1, c2]; exact sd3_ed hy
    unfold prA
    rw [hl, if_pos ⟨by omega, by simpa using h5'⟩]
    simp
theorem prL_nod {P : List (Int × Int)} {T : List Tri} {S : List (Int × Int)} : ∀ n, (prL P T S n).Nodup
  | 0 => by simp [prL]
  | n + 1 => by
    cases ht : T[n]? with
    | none =>
      have : prL P T S (n + 1) = prL P T S n := by unfold prL; rw [List.range_succ, List.flatMap_append]; simp [ht]
      rw [this]; exact prL_nod n
    | some t =>
      rw [prL_snoc ht]
      refine List.nodup_append.2 ⟨prL_nod n, prI_nod ht, fun s h1 s' h2 e => ?_⟩
      subst e
      unfold prL at h1
      obtain ⟨i, hi, h1⟩ := List.mem_flatMap.1 h1
      rw [List.mem_range] at hi
      cases hti : T[i]? with
      | none => rw [hti] at h1; simp at h1
      | some t' =>
        rw [hti] at h1
        obtain ⟨x, _, h1⟩ := List.mem_flatMap.1 h1
        obtain ⟨x', _, h2⟩ := List.mem_flatMap.1 h2
        obtain ⟨k, _, e1, _⟩ := prA_mem h1
        obtain ⟨k', _, e2, _⟩ := prA_mem h2
        rw [e1] at e2
        simp at e2
        omega
theorem prL_srt {P : List (Int × Int)} {T : List Tri} {S : List (Int × Int)} (hn : (edsM T).Nodup) : srtS (prL P T S T.length) = prsM P T S :=
  srtB_eq stoS (prL_nod _) (prsM_rise P T S) fun s => by
    rw [prsM_mem]
    unfold prL
    constructor
    · intro h
      obtain ⟨i, hi, h⟩ := List.mem_flatMap.1 h
      rw [List.mem_range] at hi
      rw [List.getElem?_eq_getElem hi] at h
      obtain ⟨k, h1, h2, h3, h4⟩ := (prI_mem hn (List.getElem?_eq_getElem hi)).1 h
      exact ⟨i, k, h1, h2, h3, h4⟩
    · rintro ⟨i, k, h1, h2, h3, h4⟩
      have hi : i < T.length := by omega
      refine List.mem_flatMap.2 ⟨i, List.mem_range.2 hi, ?_⟩
      rw [List.getElem?_eq_getElem hi]
      exact (prI_mem hn (List.getElem?_eq_getElem hi)).2 ⟨k, h1, h2, h3, h4⟩
theorem prL_len (P : List (Int × Int)) (T : List Tri) (S : List (Int × Int)) : ∀ n, (prL P T S n).length ≤ 3 * n
  | 0 => by simp [prL]
  | n + 1 => by
    have ih := prL_len P T S n
    have hA : ∀ x, (prA P T S n x).length ≤ 1 := fun x => by unfold prA; split <;> simp
    cases ht : T[n]? with
    | none =>
      have : prL P T S (n + 1) = prL P T S n := by unfold prL; rw [List.range_succ, List.flatMap_append]; simp [ht]
      rw [this]; omega
    | some t =>
      rw [prL_snoc ht, List.length_append]
      have h1 := hA (t.1, t.2.1, t.2.2)
      have h2 := hA (t.2.1, t.2.2, t.1)
      have h3 := hA (t.2.2, t.1, t.2.1)
      unfold prI sd3
      simp only [List.flatMap_cons, List.flatMap_nil, List.append_nil, List.length_append]
      omega
end Go.Proofs.Ytcepchipgjpkhaa

/- Two triangles as one face: plain laws. No claim by itself. -/
namespace Go.Proofs.Ytcepchipgjpkhaa
open Go Go.AI
/-! ### The other way round -/
def hitN (x y : Tri) : Nat := if x.1 = y.2.1 ∧ x.2.1 = y.1 then 1 else 0
def rot2 (q : Quad) : Quad := (q.2.2.1, q.2.2.2, q.1, q.2.1)
theorem sd3_in {P : List (Int × Int)} {t x : Tri} (h : TriOk P t) (hx : x ∈ sd3 t) : (inN P.length x.1 ∧ inN P.length x.2.1 ∧ inN P.length x.2.2) ∧ areaZ (ptQ P x.1) (ptQ P x.2.1) (ptQ P x.2.2) = areaZ (ptQ P t.1) (ptQ P t.2.1) (ptQ P t.2.2) := by
  obtain ⟨⟨a, b, c⟩, _, _⟩ := h
  simp [sd3] at hx
  rcases hx with rfl | rfl | rfl
  · exact ⟨⟨a, b, c⟩, rfl⟩
  · exact ⟨⟨b, c, a⟩, areaZ_rot _ _ _⟩
  · exact ⟨⟨c, a, b⟩, (areaZ_rot _ _ _).trans (areaZ_rot _ _ _)⟩
def area4 (p q r s : Int × Int) : Int := areaZ p q r + areaZ p r s
/-- What a face of two triangles is. -/
structure QuadIs (P : List (Int × Int)) (t u : Tri) (a b c d : Int) : Prop where
  ins : inN P.length a ∧ inN P.length b ∧ inN P.length c ∧ inN P.length d
  least : a ≤ b ∧ a ≤ c ∧ a ≤ d
  conv : conv4 (ptQ P a) (ptQ P b) (ptQ P c) (ptQ P d) = true
  area : area4 (ptQ P a) (ptQ P b) (ptQ P c) (ptQ P d) = areaZ (ptQ P t.1) (ptQ P t.2.1) (ptQ P t.2.2) + areaZ (ptQ P u.1) (ptQ P u.2.1) (ptQ P u.2.2)
open Classical in
/-- What Quad tells. -/
noncomputable def quadM (P : List (Int × Int)) (T : List Tri) (S : List (Int × Int)) (i k : Int) : Option (List Int) :=
  if MeshOk P T S ∧ inN T.length i ∧ inN T.length k then quadAt P T S i.toNat k.toNat else none
/-! ### Neighbours -/
def besL (P : List (Int × Int)) (T : List Tri) (S : List (Int × Int)) (i : Int) : List Int := (prsM P T S).filterMap fun s => if i = s.1 then some s.2 else if i = s.2 then some s.1 else none
/-! ### As great, turned -/
theorem orZ_fit {a b c : Int × Int} (h : orZ a b c ≠ 0) : fitQ a ∧ fitQ b ∧ fitQ c := by
  unfold orZ at h
  split at h
  · assumption
  · exact absurd rfl h
theorem quadF_map {P P' S : List (Int × Int)} {t u : Tri} (h : ∀ p q r s : Int, p ∈ rowT t ++ rowT u → q ∈ rowT t ++ rowT u → r ∈ rowT t ++ rowT u → s ∈ rowT t ++ rowT u → orT P' p q r = orT P p q r) : quadF P' S t u = quadF P S t u := by
  unfold quadF
  cases hs : sharedF t u with
  | none => rfl
  | some q =>
    obtain ⟨a, b, c, d⟩ := q
    simp only
    have hm : (a, b, c, d) ∈ hits t u := by rw [sharedF_some hs]; simp
    obtain ⟨x, y, hx, hy, c1, c2, e⟩ := hits_mem.1 hm
    simp only [Prod.mk.injEq] at e
    have inx : ∀ {t x : Tri}, x ∈ sd3 t → x.1 ∈ rowT t ∧ x.2.1 ∈ rowT t ∧ x.2.2 ∈ rowT t := by
      intro t x h
      simp [sd3] at h
      rcases h with rfl | rfl | rfl <;> simp [rowT]
    obtain ⟨x1, x2, x3⟩ := inx hx
    obtain ⟨y1, y2, y3⟩ := inx hy
    have ia : a ∈ rowT t ++ rowT u := by rw [e.1]; exact List.mem_append_left _ x1
    have ib : b ∈ rowT t ++ rowT u := by rw [e.2.1]; exact List.mem_append_right _ y3
    have ic : c ∈ rowT t ++ rowT u := by rw [e.2.2.1]; exact List.mem_append_left _ x2
    have id' : d ∈ rowT t ++ rowT u := by rw [e.2.2.2]; exact List.mem_append_left _ x3
    have hc : conv4 (ptQ P' a) (ptQ P' b) (ptQ P' c) (ptQ P' d) = conv4 (ptQ P a) (ptQ P b) (ptQ P c) (ptQ P d) := by
      have k1 := h a b c d ia ib ic id'
      have k2 := h a b d c ia ib id' ic
      have k3 := h a c d b ia ic id' ib
      have k4 := h b c d a ib ic id' ia
      unfold orT at k1 k2 k3 k4
      unfold conv4
      rw [k1, k2, k3, k4]
    rw [hc]
theorem prsM_congr {P P' S S' : List (Int × Int)} {T : List Tri} (h : ∀ (t u : Tri), t ∈ T → u ∈ T → (quadF P' S' t u).isSome = (quadF P S t u).isSome) : prsM P' T S' = prsM P T S := by
  unfold prsM
  congr 1
  funext i
  congr 1
  refine List.filter_congr fun k hk => ?_
  congr 1
  unfold quadAt
  cases ht : T[i]? with
  | none => rfl
  | some t =>
    cases hu : T[k]? with
    | none => rfl
    | some u => exact h t u (List.mem_of_getElem? ht) (List.mem_of_getElem? hu)
theorem prsM_none {P S : List (Int × Int)} {T : List Tri} (h : ∀ (t u : Tri), t ∈ T → u ∈ T → quadF P S t u = none) : prsM P T S = [] := by
  cases hp : prsM P T S with
  | nil => rfl
  | cons s l =>
    have hm : s ∈ prsM P T S := by rw [hp]; simp
    obtain ⟨i, k, _, l1, l2, q⟩ := prsM_mem.1 hm
    have hi : T[i]? = some T[i] := List.getElem?_eq_getElem (by omega)
    have hk : T[k]? = some T[k] := List.getElem?_eq_getElem l2
    rw [quadAt_at hi hk, h _ _ (List.mem_of_getElem? hi) (List.mem_of_getElem? hk)] at q
    cases q
/-- A shared edge that is a segment. -/
theorem quadF_seg {P S : List (Int × Int)} {t u : Tri} (h : ∀ s, s ∈ edT3 t → upE s ∈ S) : quadF P S t u = none := by
  unfold quadF
  cases hs : sharedF t u with
  | none => rfl
  | some q =>
    obtain ⟨a, b, c, d⟩ := q
    have hm : (a, b, c, d) ∈ hits t u := by rw [sharedF_some hs]; simp
    obtain ⟨x, y, hx, hy, c1, c2, e⟩ := hits_mem.1 hm
    simp only [Prod.mk.injEq] at e
    have := h _ (sd3_ed hx)
    simp only
    rw [e.1, e.2.2.1, ← upM_up (x.1, x.2.1)] at *
    rw [if_pos this]
end Go.Proofs.Ytcepchipgjpkhaa

/- Meshes turned, scaled, cut: plain laws. No claim by itself. -/
namespace Go.Proofs.Ytcepchipgjpkhaa
open Go Go.AI
theorem TriOk.fits {P : List (Int × Int)} {t : Tri} (h : TriOk P t) {x : Int} (hx : x ∈ rowT t) : inN P.length x ∧ fitQ (ptQ P x) := by
  have hf := orZ_fit (a := ptQ P t.1) (b := ptQ P t.2.1) (c := ptQ P t.2.2) (by have := h.2.2; unfold orT at this; rw [this]; decide)
  obtain ⟨⟨a, b, c⟩, _, _⟩ := h
  simp [rowT] at hx
  rcases hx with rfl | rfl | rfl
  · exact ⟨a, hf.1⟩
  · exact ⟨b, hf.2.1⟩
  · exact ⟨c, hf.2.2⟩
theorem ptQ_map {P : List (Int × Int)} {f : Int × Int → Int × Int} {x : Int} (h : inN P.length x) : ptQ (P.map f) x = f (ptQ P x) := by
  obtain ⟨h0, h1⟩ := h
  have hl : x.toNat < P.length := by omega
  unfold ptQ
  rw [List.getD_eq_getElem?_getD, List.getD_eq_getElem?_getD, List.getElem?_map, List.getElem?_eq_getElem hl]
  rfl
/-! ### Twice as great, turned by a right angle -/
def spin (p : Int × Int) : Int × Int := (IntKind.i64.wrap (-2 * p.2), IntKind.i64.wrap (2 * p.1))
theorem spin_fit {p : Int × Int} (h : fitQ p) : spin p = (-2 * p.2, 2 * p.1) := by
  obtain ⟨⟨a, b⟩, c, d⟩ := h
  unfold spin
  rw [wrap64 (by omega) (by omega), wrap64 (by omega) (by omega)]
theorem mmc (a b c d : Int) : (a * b) * (c * d) = (a * c) * (b * d) := by rw [Int.mul_assoc, Int.mul_assoc, Int.mul_left_comm b c d]
theorem mulm2 (a b : Int) : (-2 * a) * (2 * b) = -(4 * (a * b)) := by
  rw [mmc]
  show (-4) * (a * b) = _
  omega
theorem mul2m (a b : Int) : (2 * a) * (-2 * b) = -(4 * (a * b)) := by
  rw [mmc]
  show (-4) * (a * b) = _
  omega
theorem area_spin (p q r : Int × Int) : areaZ (-2 * p.2, 2 * p.1) (-2 * q.2, 2 * q.1) (-2 * r.2, 2 * r.1) = 4 * areaZ p q r := by
  unfold areaZ
  simp only [mulm2, mul2m]
  rw [Int.mul_comm p.2 q.1, Int.mul_comm q.2 r.1, Int.mul_comm r.2 p.1, Int.mul_comm p.1 q.2, Int.mul_comm q.1 r.2, Int.mul_comm r.1 p.2]
  rw [Int.mul_comm q.2 p.1, Int.mul_comm q.1 p.2, Int.mul_comm r.2 q.1, Int.mul_comm r.1 q.2, Int.mul_comm p.2 r.1, Int.mul_comm p.1 r.2]
  omega
theorem sign_mul4 (x : Int) : (4 * x).sign = x.sign := by rw [Int.sign_mul]; show 1 * _ = _; omega
theorem orZ_spin {p q r : Int × Int} (hp : fitQ p) (hq : fitQ q) (hr : fitQ r) (kp : fitQ (spin p)) (kq : fitQ (spin q)) (kr : fitQ (spin r)) : orZ (spin p) (spin q) (spin r) = orZ p q r := by
  unfold orZ
  rw [if_pos ⟨kp, kq, kr⟩, if_pos ⟨hp, hq, hr⟩, spin_fit hp, spin_fit hq, spin_fit hr, area_spin, sign_mul4]
theorem prs_spin {P S S' : List (Int × Int)} {T : List Tri} (h : MeshOk P T S) (k : MeshOk (P.map spin) T S') : prsM (P.map spin) T S = prsM P T S := by
  refine prsM_congr fun t u ht hu => ?_
  rw [quadF_map]
  have fit : ∀ x, x ∈ rowT t ++ rowT u → inN P.length x ∧ fitQ (ptQ P x) ∧ fitQ (spin (ptQ P x)) := by
    intro x hx
    have one : ∀ t, t ∈ T → x ∈ rowT t → inN P.length x ∧ fitQ (ptQ P x) ∧ fitQ (spin (ptQ P x)) := fun t ht hx => by
      obtain ⟨h1, h2⟩ := (h.tri t ht).fits hx
      obtain ⟨_, h4⟩ := (k.tri t ht).fits hx
      rw [ptQ_map h1] at h4
      exact ⟨h1, h2, h4⟩
    rcases List.mem_append.1 hx with q | q
    · exact one t ht q
    · exact one u hu q
  intro p q r _ hp hq hr _
  obtain ⟨p1, p2, p3⟩ := fit p hp
  obtain ⟨q1, q2, q3⟩ := fit q hq
  obtain ⟨r1, r2, r3⟩ := fit r hr
  unfold orT
  rw [ptQ_map p1, ptQ_map q1, ptQ_map r1]
  exact orZ_spin p2 q2 r2 p3 q3 r3
/-! ### All edges as segments -/
def layM (S : List (Int × Int)) (L : List (Int × Int)) : List (Int × Int) := layU ltS S (L.map upE)
theorem edsM_ends {P S : List (Int × Int)} {T : List Tri} (h : MeshOk P T S) {s : Int × Int} (hs : s ∈ edsM T) : s.1 ≠ s.2 := by
  rw [edsM_eq] at hs
  obtain ⟨t, ht, hs⟩ := List.mem_flatMap.1 hs
  have hn := orT_ne (P := P) (a := t.1) (b := t.2.1) (c := t.2.2) (by rw [(h.tri t ht).2.2]; decide)
  obtain ⟨n1, n2, n3⟩ := hn
  simp [edT3] at hs
  rcases hs with rfl | rfl | rfl
  · exact n1
  · exact n3
  · exact fun e => n2 e.symm
theorem upE_lt {s : Int × Int} (h : s.1 ≠ s.2) : (upE s).1 < (upE s).2 := by
  unfold upE
  split
  · assumption
  · show s.2 < s.1; omega
theorem mesh_full {P S : List (Int × Int)} {T : List Tri} (h : MeshOk P T S) : MeshOk P T (layM S (edsM T)) where
  tri := h.tri
  rise := h.rise
  nod := h.nod
  segU := fun s hs => by
    rcases layU_mem.1 hs with q | q
    · exact h.segU s q
    · obtain ⟨e, he, rfl⟩ := List.mem_map.1 q
      exact upE_lt (edsM_ends h he)
  segR := layU_rise stoS h.segR
  segE := fun s hs => by
    rcases layU_mem.1 hs with q | q
    · exact h.segE s q
    · obtain ⟨e, he, rfl⟩ := List.mem_map.1 q
      unfold upE
      split
      · exact .inl he
      · exact .inr he
  rim := fun s hs => .inr (layU_mem.2 (.inr (List.mem_map.2 ⟨s, hs, rfl⟩)))
theorem prs_full {P S : List (Int × Int)} {T : List Tri} : prsM P T (layM S (edsM T)) = [] :=
  prsM_none fun t u ht _ => quadF_seg fun s hs => layU_mem.2 (.inr (List.mem_map.2 ⟨s, by rw [edsM_eq]; exact List.mem_flatMap.2 ⟨t, ht, hs⟩, rfl⟩))
/-! ### Other places that turn alike -/
def scl (w : Int) (p : Int × Int) : Int × Int := (w * p.1, w * p.2)
/-! ### The fan -/
def fanB : List (Int × Int) := [(0, 0), (2, 0), (1, 2), (-1, 2), (-2, 0), (-1, -2), (1, -2)]
def fanT (n : Nat) : List Tri := (List.range (n - 2)).map fun (j : Nat) => ((0 : Int), (j : Int) + 1, (j : Int) + 2)
def fanS (n : Nat) : List (Int × Int) := layM [] (((List.range (n - 2)).map fun (j : Nat) => ((j : Int) + 1, (j : Int) + 2)) ++ [(0, 1), (0, (n : Int) - 1)])
def fanL (n : Nat) : List (Int × Int) := (List.range (n - 3)).map fun (j : Nat) => ((j : Int), (j : Int) + 1)
/-! ### Cut one way or the other -/
def cutT : List Tri := [(0, 1, 2), (0, 2, 3)]
def cutU : List Tri := [(0, 1, 3), (1, 2, 3)]
def cutS : List (Int × Int) := [(0, 1), (0, 3), (1, 2), (2, 3)]
def cutC : List (Int × Int) := [(0, 1), (0, 2), (0, 3), (1, 2), (2, 3)]
theorem cut_ok {a b c d : Int × Int} (h1 : orZ a b c = 1) (h2 : orZ a c d = 1) : MeshOk [a, b, c, d] cutT cutS ∧ MeshOk [a, b, c, d] cutT cutC := by
  have tri : ∀ t, t ∈ cutT → TriOk [a, b, c, d] t := by
    intro t ht
    simp [cutT] at ht
    rcases ht with rfl | rfl
    · exact ⟨(show inN 4 _ ∧ inN 4 _ ∧ inN 4 _ by decide), by decide, h1⟩
    · exact ⟨(show inN 4 _ ∧ inN 4 _ ∧ inN 4 _ by decide), by decide, h2⟩
  exact ⟨⟨tri, by decide, by decide, by decide, by decide, by decide, by decide⟩, ⟨tri, by decide, by decide, by decide, by decide, by decide, by decide⟩⟩
/-- The chapter's example. -/
def sqP : List (Int × Int) := [(0, 0), (4, 0), (4, 4), (0, 4)]
theorem sq_ok : MeshOk sqP cutT cutS := (cut_ok (by decide) (by decide)).1
theorem sq_prs : prsM sqP cutT cutS = [(0, 1)] := by decide +kernel
theorem sq_quad : quadM sqP cutT cutS 1 0 = some [0, 1, 2, 3] := by
  unfold quadM
  rw [if_pos ⟨sq_ok, by decide, by decide⟩]
  decide +kernel
theorem sq_self : quadM sqP cutT cutS 0 0 = none := by
  unfold quadM
  rw [if_pos ⟨sq_ok, by decide, by decide⟩]
  decide +kernel
theorem one_no : ¬ MeshOk [] [(0, 0, 0)] [] := fun h => by
  have := (h.tri (0, 0, 0) (by simp)).1.1.2
  simp at this
end Go.Proofs.Ytcepchipgjpkhaa

/- Places in rising lists. No claim by itself. -/
namespace Go.Proofs.Ytcepchipgjpkhaa
open Go Go.AI
/-- How many of a list lie ahead of a pair. -/
def rankS (l : List (Int × Int)) (s : Int × Int) : Nat := l.countP fun x => ltS x s
end Go.Proofs.Ytcepchipgjpkhaa
