/- Meshes in plain words: triangles, what may be, which two may be made one. No claim by itself. -/
import Derived.Test.YtcepchipgjpkhaaNA
import Derived.Test.YtcepchipgjpkhaaEH
namespace Go.Proofs.Ytcepchipgjpkhaa
open Go Go.AI
/-! ### Turns -/
theorem orZ_vals (a b c : Int × Int) : orZ a b c = 1 ∨ orZ a b c = 0 ∨ orZ a b c = -1 := by
  unfold orZ
  split
  · rcases Int.lt_trichotomy (areaZ a b c) 0 with h | h | h
    · exact .inr (.inr (Int.sign_eq_neg_one_of_neg h))
    · rw [h]; exact .inr (.inl rfl)
    · exact .inl (Int.sign_eq_one_of_pos h)
  · exact .inr (.inl rfl)
theorem areaZ_rot (a b c : Int × Int) : areaZ b c a = areaZ a b c := by unfold areaZ; omega
theorem areaZ_swap (a b c : Int × Int) : areaZ a c b = -areaZ a b c := by
  unfold areaZ
  rw [Int.mul_comm c.1 b.2, Int.mul_comm c.2 b.1, Int.mul_comm a.1 c.2, Int.mul_comm a.2 c.1, Int.mul_comm b.1 a.2, Int.mul_comm b.2 a.1]
  omega
theorem orZ_rot (a b c : Int × Int) : orZ b c a = orZ a b c := by
  unfold orZ
  rw [areaZ_rot]
  by_cases h : fitQ a ∧ fitQ b ∧ fitQ c
  · rw [if_pos h, if_pos ⟨h.2.1, h.2.2, h.1⟩]
  · rw [if_neg h, if_neg fun q => h ⟨q.2.2, q.1, q.2.1⟩]
theorem orZ_swap (a b c : Int × Int) : orZ a c b = -orZ a b c := by
  unfold orZ
  rw [areaZ_swap, Int.sign_neg]
  by_cases h : fitQ a ∧ fitQ b ∧ fitQ c
  · rw [if_pos h, if_pos ⟨h.1, h.2.2, h.2.1⟩]
  · rw [if_neg h, if_neg fun q => h ⟨q.1, q.2.2, q.2.1⟩]; rfl
theorem orZ_same (a b : Int × Int) : orZ a b b = 0 := by have := orZ_swap a b b; omega
theorem orZ_same2 (a b : Int × Int) : orZ a a b = 0 := by rw [← orZ_rot]; rw [← orZ_rot]; exact orZ_same b a
theorem orZ_same3 (a b : Int × Int) : orZ a b a = 0 := by rw [← orZ_rot]; exact orZ_same b a
/-! ### Triangles -/
abbrev Tri := Int × Int × Int
def ltT (a b : Tri) : Bool := decide (a.1 < b.1 ∨ a.1 = b.1 ∧ (a.2.1 < b.2.1 ∨ a.2.1 = b.2.1 ∧ a.2.2 < b.2.2))
theorem stoT : STO ltT where
  irr x := by simp [ltT]
  tr h1 h2 := by simp only [ltT, decide_eq_true_eq] at *; omega
  tri h1 h2 := by
    simp only [ltT, decide_eq_false_iff_not] at *
    exact Prod.ext (by omega) (Prod.ext (by omega) (by omega))
def inN (n : Nat) (x : Int) : Prop := 0 ≤ x ∧ x < n
instance (n : Nat) (x : Int) : Decidable (inN n x) := by unfold inN; infer_instance
def orT (P : List (Int × Int)) (a b c : Int) : Int := orZ (ptQ P a) (ptQ P b) (ptQ P c)
def TriOk (P : List (Int × Int)) (t : Tri) : Prop := (inN P.length t.1 ∧ inN P.length t.2.1 ∧ inN P.length t.2.2) ∧ (t.1 < t.2.1 ∧ t.1 < t.2.2) ∧ orT P t.1 t.2.1 t.2.2 = 1
instance (P : List (Int × Int)) (t : Tri) : Decidable (TriOk P t) := by unfold TriOk; infer_instance
/-- From the least on. -/
def rotM (a b c : Int) : Tri := if a ≤ b ∧ a ≤ c then (a, b, c) else if b ≤ c ∧ b ≤ a then (b, c, a) else (c, a, b)
/-- The triangle of three places. -/
def triF (P : List (Int × Int)) (a b c : Int) : Option Tri :=
  if inN P.length a ∧ inN P.length b ∧ inN P.length c then (if orT P a b c = 0 then none else some (if orT P a b c = -1 then rotM a c b else rotM a b c)) else none
theorem orT_ne {P : List (Int × Int)} {a b c : Int} (h : orT P a b c ≠ 0) : a ≠ b ∧ a ≠ c ∧ b ≠ c := by
  unfold orT at h
  refine ⟨fun e => h ?_, fun e => h ?_, fun e => h ?_⟩
  · rw [e]; exact orZ_same2 _ _
  · rw [e]; exact orZ_same3 _ _
  · rw [e]; exact orZ_same _ _
theorem triF_ok {P : List (Int × Int)} {t : Tri} : triF P t.1 t.2.1 t.2.2 = some t ↔ TriOk P t := by
  obtain ⟨a, b, c⟩ := t
  unfold triF TriOk
  simp only
  by_cases hi : inN P.length a ∧ inN P.length b ∧ inN P.length c
  · rw [if_pos hi]
    by_cases h0 : orT P a b c = 0
    · rw [if_pos h0]
      constructor
      · intro h; cases h
      · intro h; rw [h0] at h; exact absurd h.2.2 (by decide)
    · rw [if_neg h0]
      obtain ⟨n1, n2, n3⟩ := orT_ne h0
      by_cases hm : orT P a b c = -1
      · rw [if_pos hm]
        constructor
        · intro h
          unfold rotM at h
          split at h
          · simp at h; omega
          · split at h
            · simp at h; omega
            · simp at h; omega
        · intro h; rw [hm] at h; exact absurd h.2.2 (by decide)
      · rw [if_neg hm]
        have h1 : orT P a b c = 1 := by
          rcases orZ_vals (ptQ P a) (ptQ P b) (ptQ P c) with q | q | q
          · exact q
          · exact absurd q h0
          · exact absurd q hm
        constructor
        · intro h
          unfold rotM at h
          split at h
          · rename_i q; exact ⟨hi, ⟨by omega, by omega⟩, h1⟩
          · split at h
            · simp at h; omega
            · simp at h; omega
        · intro h
          unfold rotM
          rw [if_pos ⟨by omega, by omega⟩]
  · rw [if_neg hi]
    exact ⟨fun h => (by cases h), fun h => absurd h.1 hi⟩
/-! ### Meshes that may be -/
def rowT (t : Tri) : List Int := [t.1, t.2.1, t.2.2]
def rowsT (T : List Tri) : List (List Int) := T.map rowT
def edT3 (t : Tri) : List (Int × Int) := [(t.1, t.2.1), (t.2.1, t.2.2), (t.2.2, t.1)]
theorem edgesF_row (t : Tri) : edgesF (rowT t) = edT3 t := rfl
/-- All edges, in their directions. -/
def edsM (T : List Tri) : List (Int × Int) := allE (rowsT T)
theorem edsM_eq (T : List Tri) : edsM T = T.flatMap edT3 := by
  unfold edsM allE rowsT
  rw [List.flatMap_map]
  rfl
theorem edsM_snoc {T : List Tri} {i : Nat} {t : Tri} (h : T[i]? = some t) : edsM (T.take (i + 1)) = edsM (T.take i) ++ edT3 t := by
  rw [edsM_eq, edsM_eq, List.take_add_one, h]; simp
structure MeshOk (P : List (Int × Int)) (T : List Tri) (S : List (Int × Int)) : Prop where
  tri : ∀ t, t ∈ T → TriOk P t
  rise : Rise ltT T
  nod : (edsM T).Nodup
  segU : ∀ s, s ∈ S → s.1 < s.2
  segR : Rise ltS S
  segE : ∀ s, s ∈ S → s ∈ edsM T ∨ rev s ∈ edsM T
  rim : ∀ s, s ∈ edsM T → rev s ∈ edsM T ∨ upE s ∈ S
open Classical in
/-- What is wrong with a mesh. -/
noncomputable def chkM (P : List (Int × Int)) (T : List Tri) (S : List (Int × Int)) : Int := if MeshOk P T S then 0 else 2
theorem chkM_ok {P : List (Int × Int)} {T : List Tri} {S : List (Int × Int)} (h : MeshOk P T S) : chkM P T S = 0 := by unfold chkM; rw [if_pos h]
theorem chkM_no {P : List (Int × Int)} {T : List Tri} {S : List (Int × Int)} (h : ¬ MeshOk P T S) : chkM P T S = 2 := by unfold chkM; rw [if_neg h]
theorem rise_snoc {α : Type} {lt : α → α → Bool} (h : STO lt) {l : List α} {i : Nat} {x y : α} (hr : Rise lt (l.take (i + 1))) (hx : l[i]? = some x) (hy : l[i + 1]? = some y) (hl : lt x y = true) : Rise lt (l.take (i + 2)) := by
  have e1 : l.take (i + 2) = l.take (i + 1) ++ [y] := by rw [List.take_add_one, hy]; rfl
  have e2 : l.take (i + 1) = l.take i ++ [x] := by rw [List.take_add_one, hx]; rfl
  rw [e1]
  refine List.pairwise_append.2 ⟨hr, by simp, fun a ha b hb => ?_⟩
  simp at hb
  subst hb
  rw [e2] at ha hr
  rcases List.mem_append.1 ha with q | q
  · exact h.tr ((List.pairwise_append.1 hr).2.2 a q x (by simp)) hl
  · simp at q; subst q; exact hl
theorem rise_no {α : Type} {lt : α → α → Bool} {l : List α} {i : Nat} {x y : α} (hx : l[i]? = some x) (hy : l[i + 1]? = some y) (hl : lt x y = false) : ¬ Rise lt l := by
  intro h
  obtain ⟨h1, e1⟩ := List.getElem?_eq_some_iff.1 hx
  obtain ⟨h2, e2⟩ := List.getElem?_eq_some_iff.1 hy
  have := List.pairwise_iff_getElem.1 h i (i + 1) h1 h2 (by omega)
  rw [e1, e2, hl] at this
  cases this
/-! ### Two triangles that share an edge -/
abbrev Quad := Int × Int × Int × Int
def sd3 (t : Tri) : List Tri := [(t.1, t.2.1, t.2.2), (t.2.1, t.2.2, t.1), (t.2.2, t.1, t.2.1)]
def hit (x y : Tri) : Option Quad := if x.1 = y.2.1 ∧ x.2.1 = y.1 then some (x.1, y.2.2, x.2.1, x.2.2) else none
def hits (t u : Tri) : List Quad := (sd3 t).flatMap fun x => (sd3 u).filterMap (hit x)
/-- The places round two triangles that share just one edge. -/
def sharedF (t u : Tri) : Option Quad := match hits t u with | [q] => some q | _ => none
def conv4 (p q r s : Int × Int) : Bool := decide (orZ p q r = 1) && decide (orZ p q s = 1) && decide (orZ p r s = 1) && decide (orZ q r s = 1)
theorem conv4_iff {p q r s : Int × Int} : conv4 p q r s = true ↔ convP [p, q, r, s] := by
  unfold conv4
  simp only [Bool.and_eq_true, decide_eq_true_eq]
  constructor
  · rintro ⟨⟨⟨h1, h2⟩, h3⟩, h4⟩
    refine ⟨by simp, fun i k j hik hkj a b c ha hb hc => ?_⟩
    have hj : j < 4 := by have := (List.getElem?_eq_some_iff.1 hc).1; simpa using this
    have : (i = 0 ∧ k = 1 ∧ j = 2) ∨ (i = 0 ∧ k = 1 ∧ j = 3) ∨ (i = 0 ∧ k = 2 ∧ j = 3) ∨ (i = 1 ∧ k = 2 ∧ j = 3) := by omega
    rcases this with ⟨rfl, rfl, rfl⟩ | ⟨rfl, rfl, rfl⟩ | ⟨rfl, rfl, rfl⟩ | ⟨rfl, rfl, rfl⟩ <;> (simp at ha hb hc; subst ha hb hc; assumption)
  · intro h
    exact ⟨⟨⟨h.2 0 1 2 (by omega) (by omega) p q r rfl rfl rfl, h.2 0 1 3 (by omega) (by omega) p q s rfl rfl rfl⟩, h.2 0 2 3 (by omega) (by omega) p r s rfl rfl rfl⟩, h.2 1 2 3 (by omega) (by omega) q r s rfl rfl rfl⟩
/-- Four places from the least on. -/
def from4 (a b c d : Int) : List Int := if a ≤ b ∧ a ≤ c ∧ a ≤ d then [a, b, c, d] else if b ≤ c ∧ b ≤ d then [b, c, d, a] else if c ≤ d then [c, d, a, b] else [d, a, b, c]
def upM (a b : Int) : Int × Int := (min a b, max a b)
/-- Two triangles as one face. -/
def quadF (P S : List (Int × Int)) (t u : Tri) : Option (List Int) :=
  match sharedF t u with
  | none => none
  | some (a, b, c, d) => if upM a c ∈ S then none else if conv4 (ptQ P a) (ptQ P b) (ptQ P c) (ptQ P d) = true then some (from4 a b c d) else none
def quadAt (P : List (Int × Int)) (T : List Tri) (S : List (Int × Int)) (i k : Nat) : Option (List Int) :=
  match T[i]?, T[k]? with
  | some t, some u => quadF P S t u
  | _, _ => none
/-- All pairs, rising. -/
def prsM (P : List (Int × Int)) (T : List Tri) (S : List (Int × Int)) : List (Int × Int) :=
  (List.range T.length).flatMap fun i => ((List.range T.length).filter fun k => decide (i < k) && (quadAt P T S i k).isSome).map fun (k : Nat) => ((i : Int), (k : Int))
theorem prsM_mem {P : List (Int × Int)} {T : List Tri} {S : List (Int × Int)} {s : Int × Int} : s ∈ prsM P T S ↔ ∃ i k : Nat, s = ((i : Int), (k : Int)) ∧ i < k ∧ k < T.length ∧ (quadAt P T S i k).isSome = true := by
  unfold prsM
  simp only [List.mem_flatMap, List.mem_map, List.mem_filter, List.mem_range, Bool.and_eq_true, decide_eq_true_eq]
  constructor
  · rintro ⟨i, hi, k, ⟨hk, h1, h2⟩, rfl⟩; exact ⟨i, k, rfl, h1, hk, h2⟩
  · rintro ⟨i, k, rfl, h1, hk, h2⟩; exact ⟨i, by omega, k, ⟨hk, h1, h2⟩, rfl⟩
theorem flat_rise {α : Type} {lt : α → α → Bool} {f : Nat → List α} : ∀ {l : List Nat}, l.Pairwise (· < ·) → (∀ i, i ∈ l → Rise lt (f i)) → (∀ i j x y, i < j → x ∈ f i → y ∈ f j → lt x y = true) → Rise lt (l.flatMap f)
  | [], _, _, _ => by simp
  | i :: l, hl, h1, h2 => by
    rw [List.flatMap_cons]
    have hl' := List.pairwise_cons.1 hl
    refine List.pairwise_append.2 ⟨h1 i (by simp), flat_rise hl'.2 (fun j hj => h1 j (List.mem_cons_of_mem _ hj)) h2, fun x hx y hy => ?_⟩
    obtain ⟨j, hj, hy⟩ := List.mem_flatMap.1 hy
    exact h2 i j x y (hl'.1 j hj) hx hy
theorem prsM_rise (P : List (Int × Int)) (T : List Tri) (S : List (Int × Int)) : Rise ltS (prsM P T S) := by
  unfold prsM
  refine flat_rise List.pairwise_lt_range (fun i _ => ?_) fun i j x y hij hx hy => ?_
  · unfold Rise
    rw [List.pairwise_map]
    refine (List.Pairwise.filter _ List.pairwise_lt_range).imp fun {a b} h => ?_
    simp [ltS]; omega
  · obtain ⟨a, _, rfl⟩ := List.mem_map.1 hx
    obtain ⟨b, _, rfl⟩ := List.mem_map.1 hy
    simp [ltS]; omega
/-! ### What the program makes of them -/
/-- The program's pairs, triangle by triangle, edge by edge. -/
def prA (P : List (Int × Int)) (T : List Tri) (S : List (Int × Int)) (i : Nat) (x : Tri) : List (Int × Int) :=
  if (i : Int) < leftF (rowsT T) (x.2.1, x.1) ∧ (quadAt P T S i (leftF (rowsT T) (x.2.1, x.1)).toNat).isSome = true then [((i : Int), leftF (rowsT T) (x.2.1, x.1))] else []
def prI (P : List (Int × Int)) (T : List Tri) (S : List (Int × Int)) (i : Nat) (t : Tri) : List (Int × Int) := (sd3 t).flatMap (prA P T S i)
def prL (P : List (Int × Int)) (T : List Tri) (S : List (Int × Int)) (n : Nat) : List (Int × Int) := (List.range n).flatMap fun i => match T[i]? with | some t => prI P T S i t | none => []
theorem prL_snoc {P : List (Int × Int)} {T : List Tri} {S : List (Int × Int)} {i : Nat} {t : Tri} (h : T[i]? = some t) : prL P T S (i + 1) = prL P T S i ++ prI P T S i t := by
  unfold prL
  rw [List.range_succ, List.flatMap_append]
  simp [h]
theorem sd3_ed {t x : Tri} (h : x ∈ sd3 t) : (x.1, x.2.1) ∈ edT3 t := by
  simp [sd3] at h
  rcases h with rfl | rfl | rfl <;> simp [edT3]
theorem ed_sd3 {t : Tri} {s : Int × Int} (h : s ∈ edT3 t) : ∃ x, x ∈ sd3 t ∧ (x.1, x.2.1) = s := by
  simp [edT3] at h
  rcases h with rfl | rfl | rfl
  · exact ⟨_, by simp [sd3], rfl⟩
  · exact ⟨(t.2.1, t.2.2, t.1), by simp [sd3], rfl⟩
  · exact ⟨(t.2.2, t.1, t.2.1), by simp [sd3], rfl⟩
theorem hits_mem {t u : Tri} {q : Quad} : q ∈ hits t u ↔ ∃ x y, x ∈ sd3 t ∧ y ∈ sd3 u ∧ x.1 = y.2.1 ∧ x.2.1 = y.1 ∧ q = (x.1, y.2.2, x.2.1, x.2.2) := by
  unfold hits hit
  simp only [List.mem_flatMap, List.mem_filterMap]
  constructor
  · rintro ⟨x, hx, y, hy, e⟩
    split at e
    · rename_i c; cases e; exact ⟨x, y, hx, hy, c.1, c.2, rfl⟩
    · cases e
  · rintro ⟨x, y, hx, hy, c1, c2, rfl⟩
    exact ⟨x, hx, y, hy, by rw [if_pos ⟨c1, c2⟩]⟩
theorem sharedF_some {t u : Tri} {q : Quad} (h : sharedF t u = some q) : hits t u = [q] := by
  unfold sharedF at h
  split at h
  · cases h; assumption
  · cases h
theorem quadF_shared {P S : List (Int × Int)} {t u : Tri} (h : (quadF P S t u).isSome = true) : ∃ q, sharedF t u = some q := by
  unfold quadF at h
  cases hs : sharedF t u with
  | none => rw [hs] at h; simp at h
  | some q => exact ⟨q, rfl⟩
/-- Two sides of a triangle that both lie on another one make two. -/
theorem one_side {t u : Tri} {q : Quad} (h : sharedF t u = some q) {i j : Nat} {x y : Tri} (hij : i < j) (hx : (sd3 t)[i]? = some x) (hy : (sd3 t)[j]? = some y) (h1 : (x.2.1, x.1) ∈ edT3 u) (h2 : (y.2.1, y.1) ∈ edT3 u) : False := by
  have hh := sharedF_some h
  have key : ∀ x : Tri, (x.2.1, x.1) ∈ edT3 u → 1 ≤ ((sd3 u).filterMap (hit x)).length := by
    intro x hx
    obtain ⟨y, hy, e⟩ := ed_sd3 hx
    have : (x.1, y.2.2, x.2.1, x.2.2) ∈ (sd3 u).filterMap (hit x) := by
      refine List.mem_filterMap.2 ⟨y, hy, ?_⟩
      unfold hit
      simp at e
      rw [if_pos ⟨e.2.symm, e.1.symm⟩]
    exact List.length_pos_of_mem this
  have k1 := key x h1
  have k2 := key y h2
  have hl : (hits t u).length = 1 := by rw [hh]; rfl
  unfold hits at hl
  simp only [sd3, List.flatMap_cons, List.flatMap_nil, List.append_nil, List.length_append] at hl
  have hj : j < 3 := by have := (List.getElem?_eq_some_iff.1 hy).1; simpa [sd3] using this
  have : (i = 0 ∧ j = 1) ∨ (i = 0 ∧ j = 2) ∨ (i = 1 ∧ j = 2) := by omega
  rcases this with ⟨rfl, rfl⟩ | ⟨rfl, rfl⟩ | ⟨rfl, rfl⟩ <;> (simp [sd3] at hx hy; subst hx hy; simp only [sd3] at k1 k2; omega)
theorem rows_get {T : List Tri} {i : Nat} {f : List Int} (h : (rowsT T)[i]? = some f) : ∃ t, T[i]? = some t ∧ f = rowT t := by
  unfold rowsT at h
  rw [List.getElem?_map] at h
  cases ht : T[i]? with
  | none => rw [ht] at h; cases h
  | some t => rw [ht] at h; cases h; exact ⟨t, rfl, rfl⟩
theorem get_rows {T : List Tri} {i : Nat} {t : Tri} (h : T[i]? = some t) : (rowsT T)[i]? = some (rowT t) := by unfold rowsT; rw [List.getElem?_map, h]; rfl
/-- The triangle on an edge's left. -/
theorem left_tri {T : List Tri} {s : Int × Int} (h : 0 ≤ leftF (rowsT T) s) : ∃ (k : Nat) (u : Tri), leftF (rowsT T) s = k ∧ T[k]? = some u ∧ s ∈ edT3 u := by
  obtain ⟨k, hk⟩ := Int.eq_ofNat_of_zero_le h
  obtain ⟨f, hf, hs⟩ := leftF_get hk
  obtain ⟨u, hu, rfl⟩ := rows_get hf
  exact ⟨k, u, hk, hu, hs⟩
theorem left_at {T : List Tri} (hn : (edsM T).Nodup) {s : Int × Int} {k : Nat} {u : Tri} (hu : T[k]? = some u) (hs : s ∈ edT3 u) : leftF (rowsT T) s = k := leftF_at hn (get_rows hu) hs
theorem prA_mem {P : List (Int × Int)} {T : List Tri} {S : List (Int × Int)} {i : Nat} {x : Tri} {s : Int × Int} (h : s ∈ prA P T S i x) : ∃ (k : Nat) (u : Tri), s = ((i : Int), (k : Int)) ∧ i < k ∧ T[k]? = some u ∧ (x.2.1, x.1) ∈ edT3 u ∧ (quadAt P T S i k).isSome = true := by
  unfold prA at h
  split at h
  · rename_i c
    obtain ⟨k, u, h1, h2, h3⟩ := left_tri (T := T) (s := (x.2.1, x.1)) (by omega)
    rw [h1] at h c
    simp at h
    exact ⟨k, u, h, by omega, h2, h3, by simpa using c.2⟩
  · simp at h
theorem quadAt_at {P : List (Int × Int)} {T : List Tri} {S : List (Int × Int)} {i k : Nat} {t u : Tri} (ht : T[i]? = some t) (hu : T[k]? = some u) : quadAt P T S i k = quadF P S t u := by unfold quadAt; rw [ht, hu]
theorem prA_nod (P : List (Int × Int)) (T : List Tri) (S : List (Int × Int)) (i : Nat) (x : Tri) : (prA P T S i x).Nodup := by
  unfold prA; split <;> simp
theorem prA_disj {P : List (Int × Int)} {T : List Tri} {S : List (Int × Int)} {i : Nat} {t : Tri} (ht : T[i]? = some t) {a b : Nat} {x y : Tri} (hab : a < b) (hx : (sd3 t)[a]? = some x) (hy : (sd3 t)[b]? = some y) {s : Int × Int} (h1 : s ∈ prA P T S i x) (h2 : s ∈ prA P T S i y) : False := by
  obtain ⟨k, u, rfl, _, hu, e1, q1⟩ := prA_mem h1
  obtain ⟨k', u', e, _, hu', e2, _⟩ := prA_mem h2
  simp at e
  have : k = k' := by omega
  subst this
  rw [hu] at hu'; cases hu'
  rw [quadAt_at ht hu] at q1
  obtain ⟨q, hq⟩ := quadF_shared q1
  exact one_side hq hab hx hy e1 e2
theorem prI_nod {P : List (Int × Int)} {T : List Tri} {S : List (Int × Int)} {i : Nat} {t : Tri} (ht : T[i]? = some t) : (prI P T S i t).Nodup := by
  unfold prI sd3
  simp only [List.flatMap_cons, List.flatMap_nil, List.append_nil]
  refine List.nodup_append.2 ⟨prA_nod _ _ _ _ _, List.nodup_append.2 ⟨prA_nod _ _ _ _ _, prA_nod _ _ _ _ _, fun s h1 s' h2 e => ?_⟩, fun s h1 s' h2 e => ?_⟩
  · subst e; exact prA_disj ht (a := 1) (b := 2) (by omega) rfl rfl h1 h2
  · subst e
    rcases List.mem_append.1 h2 with r | r
    · exact prA_disj ht (a := 0) (b := 1) (by omega) rfl rfl h1 r
    · exact prA_disj ht (a := 0) (b := 2) (by omega) rfl rfl h1 r
theorem prI_mem {P : List (Int × Int)} {T : List Tri} {S : List (Int × Int)} (hn : (edsM T).Nodup) {i : Nat} {t : Tri} (ht : T[i]? = some t) {s : Int × Int} : s ∈ prI P T S i t ↔ ∃ k : Nat, s = ((i : Int), (k : Int)) ∧ i < k ∧ k < T.length ∧ (quadAt P T S i k).isSome = true := by
  unfold prI
  constructor
  · intro h
    obtain ⟨x, _, h⟩ := List.mem_flatMap.1 h
    obtain ⟨k, u, h1, h2, h3, _, h5⟩ := prA_mem h
    exact ⟨k, h1, h2, (List.getElem?_eq_some_iff.1 h3).1, h5⟩
  · rintro ⟨k, rfl, h2, h3, h5⟩
    have hu : T[k]? = some T[k] := List.getElem?_eq_getElem h3
    have h5' := h5
    rw [quadAt_at ht hu] at h5
    obtain ⟨q, hq⟩ := quadF_shared h5
    have hm : q ∈ hits t T[k] := by rw [sharedF_some hq]; simp
    obtain ⟨x, y, hx, hy, c1, c2, _⟩ := hits_mem.1 hm
    refine List.mem_flatMap.2 ⟨x, hx, ?_⟩
    have hl : leftF (rowsT T) (x.2.1, x.1) = k := by
      refine left_at hn hu ?_
      rw [c1, c2]; exact sd3_ed hy
    unfold prA
    rw [hl, if_pos ⟨by omega, by simpa using h5'⟩]
    simp
theorem prL_nod {P : List (Int × Int)} {T : List Tri} {S : List (Int × Int)} : ∀ n, (prL P T S n).Nodup
  | 0 => by simp [prL]
  | n + 1 => by
    cases ht : T[n]? with
    | none =>
      have : prL P T S (n + 1) = prL P T S n := by unfold prL; rw [List.range_succ, List.flatMap_append]; simp [ht]
      rw [this]; exact prL_nod n
    | some t =>
      rw [prL_snoc ht]
      refine List.nodup_append.2 ⟨prL_nod n, prI_nod ht, fun s h1 s' h2 e => ?_⟩
      subst e
      unfold prL at h1
      obtain ⟨i, hi, h1⟩ := List.mem_flatMap.1 h1
      rw [List.mem_range] at hi
      cases hti : T[i]? with
      | none => rw [hti] at h1; simp at h1
      | some t' =>
        rw [hti] at h1
        obtain ⟨x, _, h1⟩ := List.mem_flatMap.1 h1
        obtain ⟨x', _, h2⟩ := List.mem_flatMap.1 h2
        obtain ⟨k, _, e1, _⟩ := prA_mem h1
        obtain ⟨k', _, e2, _⟩ := prA_mem h2
        rw [e1] at e2
        simp at e2
        omega
theorem prL_srt {P : List (Int × Int)} {T : List Tri} {S : List (Int × Int)} (hn : (edsM T).Nodup) : srtS (prL P T S T.length) = prsM P T S :=
  srtB_eq stoS (prL_nod _) (prsM_rise P T S) fun s => by
    rw [prsM_mem]
    unfold prL
    constructor
    · intro h
      obtain ⟨i, hi, h⟩ := List.mem_flatMap.1 h
      rw [List.mem_range] at hi
      rw [List.getElem?_eq_getElem hi] at h
      obtain ⟨k, h1, h2, h3, h4⟩ := (prI_mem hn (List.getElem?_eq_getElem hi)).1 h
      exact ⟨i, k, h1, h2, h3, h4⟩
    · rintro ⟨i, k, h1, h2, h3, h4⟩
      have hi : i < T.length := by omega
      refine List.mem_flatMap.2 ⟨i, List.mem_range.2 hi, ?_⟩
      rw [List.getElem?_eq_getElem hi]
      exact (prI_mem hn (List.getElem?_eq_getElem hi)).2 ⟨k, h1, h2, h3, h4⟩
theorem prL_len (P : List (Int × Int)) (T : List Tri) (S : List (Int × Int)) : ∀ n, (prL P T S n).length ≤ 3 * n
  | 0 => by simp [prL]
  | n + 1 => by
    have ih := prL_len P T S n
    have hA : ∀ x, (prA P T S n x).length ≤ 1 := fun x => by unfold prA; split <;> simp
    cases ht : T[n]? with
    | none =>
      have : prL P T S (n + 1) = prL P T S n := by unfold prL; rw [List.range_succ, List.flatMap_append]; simp [ht]
      rw [this]; omega
    | some t =>
      rw [prL_snoc ht, List.length_append]
      have h1 := hA (t.1, t.2.1, t.2.2)
      have h2 := hA (t.2.1, t.2.2, t.1)
      have h3 := hA (t.2.2, t.1, t.2.1)
      unfold prI sd3
      simp only [List.flatMap_cons, List.flatMap_nil, List.append_nil, List.length_append]
      omega
end Go.Proofs.Ytcepchipgjpkhaa

/- Two triangles as one face: plain laws. No claim by itself. -/
namespace Go.Proofs.Ytcepchipgjpkhaa
open Go Go.AI
/-! ### The other way round -/
def hitN (x y : Tri) : Nat := if x.1 = y.2.1 ∧ x.2.1 = y.1 then 1 else 0
theorem hitN_sym (x y : Tri) : hitN y x = hitN x y := by
  unfold hitN
  by_cases h : x.1 = y.2.1 ∧ x.2.1 = y.1
  · rw [if_pos h, if_pos ⟨h.2.symm, h.1.symm⟩]
  · rw [if_neg h, if_neg fun q => h ⟨q.2.symm, q.1.symm⟩]
theorem hit_len (x : Tri) : ∀ l : List Tri, (l.filterMap (hit x)).length = (l.map (hitN x)).sum
  | [] => rfl
  | y :: l => by
    have ih := hit_len x l
    rw [List.filterMap_cons, List.map_cons, List.sum_cons]
    by_cases h : x.1 = y.2.1 ∧ x.2.1 = y.1
    · have e1 : hit x y = some (x.1, y.2.2, x.2.1, x.2.2) := if_pos h
      have e2 : hitN x y = 1 := if_pos h
      rw [e1, e2, List.length_cons, ih]; omega
    · have e1 : hit x y = none := if_neg h
      have e2 : hitN x y = 0 := if_neg h
      rw [e1, e2, ih]; omega
theorem hits_len (t u : Tri) : (hits u t).length = (hits t u).length := by
  unfold hits sd3
  simp only [List.flatMap_cons, List.flatMap_nil, List.append_nil, List.length_append, hit_len, List.map_cons, List.map_nil, List.sum_cons, List.sum_nil]
  simp only [hitN_sym (t.1, t.2.1, t.2.2), hitN_sym (t.2.1, t.2.2, t.1), hitN_sym (t.2.2, t.1, t.2.1)]
  omega
def rot2 (q : Quad) : Quad := (q.2.2.1, q.2.2.2, q.1, q.2.1)
theorem hits_rot {t u : Tri} {q : Quad} (h : q ∈ hits u t) : rot2 q ∈ hits t u := by
  obtain ⟨x, y, hx, hy, c1, c2, rfl⟩ := hits_mem.1 h
  refine hits_mem.2 ⟨y, x, hy, hx, c2.symm, c1.symm, ?_⟩
  unfold rot2
  simp only [c1, c2]
theorem sharedF_sym {t u : Tri} {q : Quad} (h : sharedF t u = some q) : sharedF u t = some (rot2 q) := by
  have hh := sharedF_some h
  have hl : (hits u t).length = 1 := by rw [hits_len t u, hh]; rfl
  cases hu : hits u t with
  | nil => rw [hu] at hl; cases hl
  | cons r l =>
    cases l with
    | cons _ _ => rw [hu] at hl; simp at hl
    | nil =>
      have hm := hits_rot (t := t) (u := u) (q := r) (by rw [hu]; simp)
      rw [hh] at hm
      simp at hm
      have : r = rot2 q := by rw [← hm]; rfl
      unfold sharedF
      rw [hu, this]
theorem upM_sym (a b : Int) : upM b a = upM a b := by unfold upM; rw [Int.min_comm, Int.max_comm]
theorem conv4_rot (p q r s : Int × Int) : conv4 q r s p = conv4 p q r s := by
  unfold conv4
  rw [orZ_rot p q r, orZ_rot p q s, orZ_rot p r s]
  cases decide (orZ p q r = 1) <;> cases decide (orZ p q s = 1) <;> cases decide (orZ p r s = 1) <;> cases decide (orZ q r s = 1) <;> rfl
theorem conv4_ne {P : List (Int × Int)} {a b c d : Int} (h : conv4 (ptQ P a) (ptQ P b) (ptQ P c) (ptQ P d) = true) : (a ≠ b ∧ a ≠ c ∧ a ≠ d) ∧ b ≠ c ∧ b ≠ d ∧ c ≠ d := by
  unfold conv4 at h
  simp only [Bool.and_eq_true, decide_eq_true_eq] at h
  obtain ⟨⟨⟨h1, h2⟩, h3⟩, h4⟩ := h
  have n1 := orT_ne (P := P) (a := a) (b := b) (c := c) (by unfold orT; rw [h1]; decide)
  have n2 := orT_ne (P := P) (a := a) (b := b) (c := d) (by unfold orT; rw [h2]; decide)
  have n3 := orT_ne (P := P) (a := a) (b := c) (c := d) (by unfold orT; rw [h3]; decide)
  exact ⟨⟨n1.1, n1.2.1, n2.2.1⟩, n1.2.2, n2.2.2, n3.2.2⟩
theorem from4_rot {a b c d : Int} (h : (a ≠ b ∧ a ≠ c ∧ a ≠ d) ∧ b ≠ c ∧ b ≠ d ∧ c ≠ d) : from4 c d a b = from4 a b c d := by
  obtain ⟨⟨h1, h2, h3⟩, h4, h5, h6⟩ := h
  unfold from4
  by_cases k1 : a ≤ b ∧ a ≤ c ∧ a ≤ d
  · rw [if_pos k1, if_neg (by omega), if_neg (by omega), if_pos (by omega)]
  · rw [if_neg k1]
    by_cases k2 : b ≤ c ∧ b ≤ d
    · rw [if_pos k2, if_neg (by omega), if_neg (by omega), if_neg (by omega)]
    · rw [if_neg k2]
      by_cases k3 : c ≤ d
      · rw [if_pos k3, if_pos (by omega)]
      · rw [if_neg k3, if_neg (by omega), if_pos (by omega)]
theorem quadF_sym (P S : List (Int × Int)) (t u : Tri) : quadF P S u t = quadF P S t u := by
  have key : ∀ {t u : Tri} {q : Quad}, sharedF t u = some q → quadF P S u t = quadF P S t u := by
    intro t u q h
    obtain ⟨a, b, c, d⟩ := q
    have k : sharedF u t = some (c, d, a, b) := sharedF_sym h
    unfold quadF
    rw [h, k]
    simp only
    rw [upM_sym a c]
    split
    · rfl
    · rw [show conv4 (ptQ P c) (ptQ P d) (ptQ P a) (ptQ P b) = conv4 (ptQ P a) (ptQ P b) (ptQ P c) (ptQ P d) from (conv4_rot (ptQ P b) (ptQ P c) (ptQ P d) (ptQ P a)).trans (conv4_rot (ptQ P a) (ptQ P b) (ptQ P c) (ptQ P d))]
      split
      · rename_i hc
        rw [from4_rot (conv4_ne hc)]
      · rfl
  cases h : sharedF t u with
  | some q => exact key h
  | none =>
    cases k : sharedF u t with
    | some q => exact (key k).symm
    | none => unfold quadF; rw [h, k]
theorem sd3_in {P : List (Int × Int)} {t x : Tri} (h : TriOk P t) (hx : x ∈ sd3 t) : (inN P.length x.1 ∧ inN P.length x.2.1 ∧ inN P.length x.2.2) ∧ areaZ (ptQ P x.1) (ptQ P x.2.1) (ptQ P x.2.2) = areaZ (ptQ P t.1) (ptQ P t.2.1) (ptQ P t.2.2) := by
  obtain ⟨⟨a, b, c⟩, _, _⟩ := h
  simp [sd3] at hx
  rcases hx with rfl | rfl | rfl
  · exact ⟨⟨a, b, c⟩, rfl⟩
  · exact ⟨⟨b, c, a⟩, areaZ_rot _ _ _⟩
  · exact ⟨⟨c, a, b⟩, (areaZ_rot _ _ _).trans (areaZ_rot _ _ _)⟩
def area4 (p q r s : Int × Int) : Int := areaZ p q r + areaZ p r s
theorem area4_rot (p q r s : Int × Int) : area4 q r s p = area4 p q r s := by
  unfold area4 areaZ
  rw [Int.mul_comm s.1 q.2, Int.mul_comm s.2 q.1, Int.mul_comm r.1 p.2, Int.mul_comm r.2 p.1]
  omega
theorem conv4_pos {p q r s : Int × Int} (h : conv4 p q r s = true) : 0 < area4 p q r s := by
  unfold conv4 at h
  simp only [Bool.and_eq_true, decide_eq_true_eq] at h
  obtain ⟨⟨⟨h1, _⟩, h3⟩, _⟩ := h
  have pos : ∀ {a b c : Int × Int}, orZ a b c = 1 → 0 < areaZ a b c := by
    intro a b c h
    unfold orZ at h
    split at h
    · exact Int.sign_eq_one_iff_pos.1 h
    · cases h
  have := pos h1
  have := pos h3
  unfold area4
  omega
/-- What a face of two triangles is. -/
structure QuadIs (P : List (Int × Int)) (t u : Tri) (a b c d : Int) : Prop where
  ins : inN P.length a ∧ inN P.length b ∧ inN P.length c ∧ inN P.length d
  least : a ≤ b ∧ a ≤ c ∧ a ≤ d
  conv : conv4 (ptQ P a) (ptQ P b) (ptQ P c) (ptQ P d) = true
  area : area4 (ptQ P a) (ptQ P b) (ptQ P c) (ptQ P d) = areaZ (ptQ P t.1) (ptQ P t.2.1) (ptQ P t.2.2) + areaZ (ptQ P u.1) (ptQ P u.2.1) (ptQ P u.2.2)
theorem quadF_is {P S : List (Int × Int)} {t u : Tri} {f : List Int} (ht : TriOk P t) (hu : TriOk P u) (h : quadF P S t u = some f) : ∃ a b c d, f = [a, b, c, d] ∧ QuadIs P t u a b c d := by
  unfold quadF at h
  cases hs : sharedF t u with
  | none => rw [hs] at h; cases h
  | some q =>
    obtain ⟨a, b, c, d⟩ := q
    rw [hs] at h
    simp only at h
    split at h
    · cases h
    · split at h
      · rename_i hc
        cases h
        have hm : (a, b, c, d) ∈ hits t u := by rw [sharedF_some hs]; simp
        obtain ⟨x, y, hx, hy, c1, c2, e⟩ := hits_mem.1 hm
        simp only [Prod.mk.injEq] at e
        obtain ⟨e1, e2, e3, e4⟩ := e
        obtain ⟨⟨x1, x2, x3⟩, ax⟩ := sd3_in ht hx
        obtain ⟨⟨y1, y2, y3⟩, ay⟩ := sd3_in hu hy
        have hx1 : x.1 = a := e1.symm
        have hx2 : x.2.1 = c := e3.symm
        have hx3 : x.2.2 = d := e4.symm
        have hy3 : y.2.2 = b := e2.symm
        have hy1 : y.1 = c := by rw [← c2]; exact hx2
        have hy2 : y.2.1 = a := by rw [← c1]; exact hx1
        rw [hx1] at x1
        rw [hx2] at x2
        rw [hx3] at x3
        rw [hy3] at y3
        have har : area4 (ptQ P a) (ptQ P b) (ptQ P c) (ptQ P d) = areaZ (ptQ P t.1) (ptQ P t.2.1) (ptQ P t.2.2) + areaZ (ptQ P u.1) (ptQ P u.2.1) (ptQ P u.2.2) := by
          rw [← ax, ← ay, hx1, hx2, hx3, hy1, hy2, hy3]
          unfold area4
          have k1 : areaZ (ptQ P c) (ptQ P a) (ptQ P b) = areaZ (ptQ P a) (ptQ P b) (ptQ P c) := (areaZ_rot (ptQ P b) (ptQ P c) (ptQ P a)).trans (areaZ_rot (ptQ P a) (ptQ P b) (ptQ P c))
          omega
        unfold from4
        split
        · rename_i k; exact ⟨a, b, c, d, rfl, ⟨⟨x1, y3, x2, x3⟩, k, hc, har⟩⟩
        · split
          · rename_i k1 k
            exact ⟨b, c, d, a, rfl, ⟨⟨y3, x2, x3, x1⟩, by omega, by rw [conv4_rot]; exact hc, by rw [area4_rot]; exact har⟩⟩
          · split
            · rename_i k1 k2 k
              exact ⟨c, d, a, b, rfl, ⟨⟨x2, x3, x1, y3⟩, by omega, by rw [conv4_rot, conv4_rot]; exact hc, by rw [area4_rot, area4_rot]; exact har⟩⟩
            · rename_i k1 k2 k
              exact ⟨d, a, b, c, rfl, ⟨⟨x3, x1, y3, x2⟩, by omega, by rw [conv4_rot, conv4_rot, conv4_rot]; exact hc, by rw [area4_rot, area4_rot, area4_rot]; exact har⟩⟩
      · cases h
theorem sharedF_self {P : List (Int × Int)} {t : Tri} (h : TriOk P t) : sharedF t t = none := by
  have hn := orT_ne (P := P) (a := t.1) (b := t.2.1) (c := t.2.2) (by rw [h.2.2]; decide)
  cases q : sharedF t t with
  | none => rfl
  | some r =>
    have hm : r ∈ hits t t := by rw [sharedF_some q]; simp
    obtain ⟨x, y, hx, hy, c1, c2, _⟩ := hits_mem.1 hm
    simp [sd3] at hx hy
    obtain ⟨n1, n2, n3⟩ := hn
    rcases hx with rfl | rfl | rfl <;> rcases hy with rfl | rfl | rfl <;> simp at c1 c2 <;> omega
open Classical in
/-- What Quad tells. -/
noncomputable def quadM (P : List (Int × Int)) (T : List Tri) (S : List (Int × Int)) (i k : Int) : Option (List Int) :=
  if MeshOk P T S ∧ inN T.length i ∧ inN T.length k then quadAt P T S i.toNat k.toNat else none
theorem quadM_sym (P : List (Int × Int)) (T : List Tri) (S : List (Int × Int)) (i k : Int) : quadM P T S k i = quadM P T S i k := by
  unfold quadM
  by_cases h : MeshOk P T S ∧ inN T.length i ∧ inN T.length k
  · rw [if_pos h, if_pos ⟨h.1, h.2.2, h.2.1⟩]
    unfold quadAt
    cases T[i.toNat]? <;> cases T[k.toNat]? <;> simp [quadF_sym P S]
  · rw [if_neg h, if_neg fun q => h ⟨q.1, q.2.2, q.2.1⟩]
theorem quadM_is {P : List (Int × Int)} {T : List Tri} {S : List (Int × Int)} {i k : Int} {f : List Int} (h : quadM P T S i k = some f) :
    (inN T.length i ∧ inN T.length k ∧ i ≠ k) ∧ ∃ t u a b c d, T[i.toNat]? = some t ∧ T[k.toNat]? = some u ∧ f = [a, b, c, d] ∧ QuadIs P t u a b c d := by
  unfold quadM at h
  split at h
  · rename_i c
    obtain ⟨ok, hi, hk⟩ := c
    unfold quadAt at h
    split at h
    · rename_i t u ht hu
      have tt := ok.tri t (List.mem_of_getElem? ht)
      have tu := ok.tri u (List.mem_of_getElem? hu)
      obtain ⟨a, b, c, d, e, q⟩ := quadF_is tt tu h
      refine ⟨⟨hi, hk, fun e => ?_⟩, t, u, a, b, c, d, ht, hu, e, q⟩
      subst e
      rw [ht] at hu
      cases hu
      unfold quadF at h
      rw [sharedF_self tt] at h
      cases h
    · cases h
  · cases h
/-! ### Neighbours -/
def besL (P : List (Int × Int)) (T : List Tri) (S : List (Int × Int)) (i : Int) : List Int := (prsM P T S).filterMap fun s => if i = s.1 then some s.2 else if i = s.2 then some s.1 else none
/-! ### As great, turned -/
theorem orZ_fit {a b c : Int × Int} (h : orZ a b c ≠ 0) : fitQ a ∧ fitQ b ∧ fitQ c := by
  unfold orZ at h
  split at h
  · assumption
  · exact absurd rfl h
end Go.Proofs.Ytcepchipgjpkhaa

/- Meshes turned, scaled, cut: plain laws. No claim by itself. -/
namespace Go.Proofs.Ytcepchipgjpkhaa
open Go Go.AI
theorem TriOk.fits {P : List (Int × Int)} {t : Tri} (h : TriOk P t) {x : Int} (hx : x ∈ rowT t) : inN P.length x ∧ fitQ (ptQ P x) := by
  have hf := orZ_fit (a := ptQ P t.1) (b := ptQ P t.2.1) (c := ptQ P t.2.2) (by have := h.2.2; unfold orT at this; rw [this]; decide)
  obtain ⟨⟨a, b, c⟩, _, _⟩ := h
  simp [rowT] at hx
  rcases hx with rfl | rfl | rfl
  · exact ⟨a, hf.1⟩
  · exact ⟨b, hf.2.1⟩
  · exact ⟨c, hf.2.2⟩
/-! ### Twice as great, turned by a right angle -/
def spin (p : Int × Int) : Int × Int := (IntKind.i64.wrap (-2 * p.2), IntKind.i64.wrap (2 * p.1))
/-! ### All edges as segments -/
def layM (S : List (Int × Int)) (L : List (Int × Int)) : List (Int × Int) := layU ltS S (L.map upE)
/-! ### Other places that turn alike -/
def scl (w : Int) (p : Int × Int) : Int × Int := (w * p.1, w * p.2)
/-! ### The fan -/
def fanB : List (Int × Int) := [(0, 0), (2, 0), (1, 2), (-1, 2), (-2, 0), (-1, -2), (1, -2)]
def fanT (n : Nat) : List Tri := (List.range (n - 2)).map fun (j : Nat) => ((0 : Int), (j : Int) + 1, (j : Int) + 2)
def fanS (n : Nat) : List (Int × Int) := layM [] (((List.range (n - 2)).map fun (j : Nat) => ((j : Int) + 1, (j : Int) + 2)) ++ [(0, 1), (0, (n : Int) - 1)])
def fanL (n : Nat) : List (Int × Int) := (List.range (n - 3)).map fun (j : Nat) => ((j : Int), (j : Int) + 1)
/-! ### Cut one way or the other -/
def cutT : List Tri := [(0, 1, 2), (0, 2, 3)]
def cutU : List Tri := [(0, 1, 3), (1, 2, 3)]
def cutS : List (Int × Int) := [(0, 1), (0, 3), (1, 2), (2, 3)]
def cutC : List (Int × Int) := [(0, 1), (0, 2), (0, 3), (1, 2), (2, 3)]
theorem cut_ok {a b c d : Int × Int} (h1 : orZ a b c = 1) (h2 : orZ a c d = 1) : MeshOk [a, b, c, d] cutT cutS ∧ MeshOk [a, b, c, d] cutT cutC := by
  have tri : ∀ t, t ∈ cutT → TriOk [a, b, c, d] t := by
    intro t ht
    simp [cutT] at ht
    rcases ht with rfl | rfl
    · exact ⟨(show inN 4 _ ∧ inN 4 _ ∧ inN 4 _ by decide), by decide, h1⟩
    · exact ⟨(show inN 4 _ ∧ inN 4 _ ∧ inN 4 _ by decide), by decide, h2⟩
  exact ⟨⟨tri, by decide, by decide, by decide, by decide, by decide, by decide⟩, ⟨tri, by decide, by decide, by decide, by decide, by decide, by decide⟩⟩
/-- The chapter's example. -/
def sqP : List (Int × Int) := [(0, 0), (4, 0), (4, 4), (0, 4)]
theorem sq_ok : MeshOk sqP cutT cutS := (cut_ok (by decide) (by decide)).1
theorem sq_prs : prsM sqP cutT cutS = [(0, 1)] := by decide +kernel
theorem sq_quad : quadM sqP cutT cutS 1 0 = some [0, 1, 2, 3] := by
  unfold quadM
  rw [if_pos ⟨sq_ok, by decide, by decide⟩]
  decide +kernel
theorem sq_self : quadM sqP cutT cutS 0 0 = none := by
  unfold quadM
  rw [if_pos ⟨sq_ok, by decide, by decide⟩]
  decide +kernel
theorem one_no : ¬ MeshOk [] [(0, 0, 0)] [] := fun h => by
  have := (h.tri (0, 0, 0) (by simp)).1.1.2
  simp at this
end Go.Proofs.Ytcepchipgjpkhaa

/- Places in rising lists. No claim by itself. -/
namespace Go.Proofs.Ytcepchipgjpkhaa
open Go Go.AI
/-- How many of a list lie ahead of a pair. -/
def rankS (l : List (Int × Int)) (s : Int × Int) : Nat := l.countP fun x => ltS x s
end Go.Proofs.Ytcepchipgjpkhaa
