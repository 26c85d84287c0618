/- Meshes in plain words: triangles, what may be, which two may be made one. No claim by itself. -/
import Derived.Test.YtcepchipgjpkhaaNA
import Derived.Test.YtcepchipgjpkhaaEH
namespace Go.Proofs.Ytcepchipgjpkhaa
open Go Go.AI
theorem zbq6 (a b c : Int × Int) : orZ a b c = 1 \/ orZ a b c = 0 \/ orZ a b c = -1 := by
 unfold orZ
 split
 ·rcases Int.lt_trichotomy (zx6 a b c) 0 with h | h | h
  ·exact .inr (.inr (Int.sign_eq_neg_one_of_neg h))
  ·rw [h]; exact .inr (.inl rfl)
  ·exact .inl (Int.sign_eq_one_of_pos h)
 ·exact .inr (.inl rfl)
theorem z07 (a b c : Int × Int) : zx6 b c a = zx6 a b c := by unfold zx6; omega
theorem za84 (a b c : Int × Int) : zx6 a c b = -zx6 a b c := by
 unfold zx6
 rw [Int.mul_comm c.1 b.2, Int.mul_comm c.2 b.1, Int.mul_comm a.1 c.2, Int.mul_comm a.2 c.1, Int.mul_comm b.1 a.2, Int.mul_comm b.2 a.1]
 omega
theorem z88 (a b c : Int × Int) : orZ b c a = orZ a b c := by
 unfold orZ
 rw [z07]
 by_cases h : z01 a /\ z01 b /\ z01 c
 ·rw [if_pos h, if_pos ⟨h.2.1, h.2.2, h.1⟩]
 ·rw [if_neg h, if_neg fun q => h ⟨q.2.2, q.1, q.2.1⟩]
theorem zbq7 (a b c : Int × Int) : orZ a c b = -orZ a b c := by
 unfold orZ
 rw [za84, Int.sign_neg]
 by_cases h : z01 a /\ z01 b /\ z01 c
 ·rw [if_pos h, if_pos ⟨h.1, h.2.2, h.2.1⟩]
 ·rw [if_neg h, if_neg fun q => h ⟨q.1, q.2.2, q.2.1⟩]; rfl
theorem zal8 (a b : Int × Int) : orZ a b b = 0 := by have := zbq7 a b b; omega
theorem zbf4 (a b : Int × Int) : orZ a a b = 0 := by rw [<- z88]; rw [<- z88]; exact zal8 b a
theorem zbf3 (a b : Int × Int) : orZ a b a = 0 := by rw [<- z88]; exact zal8 b a
abbrev Tri := Int × Int × Int
def ltT (a b : Tri) : Bool := decide (a.1 < b.1 \/ a.1 = b.1 /\ (a.2.1 < b.2.1 \/ a.2.1 = b.2.1 /\ a.2.2 < b.2.2))
theorem stoT : STO ltT where
 irr x := by simp [ltT]
 tr h1 h2 := by simp only [ltT, decide_eq_true_eq] at *; omega
 tri h1 h2 := by
  simp only [ltT, decide_eq_false_iff_not] at *
  exact Prod.ext (by omega) (Prod.ext (by omega) (by omega))
def inN (n : Nat) (x : Int) : Prop := 0 <= x /\ x < n
instance (n : Nat) (x : Int) : Decidable (inN n x) := by unfold inN; infer_instance
def orT (P : List (Int × Int)) (a b c : Int) : Int := orZ (ptQ P a) (ptQ P b) (ptQ P c)
def zx7 (P : List (Int × Int)) (t : Tri) : Prop := (inN P.length t.1 /\ inN P.length t.2.1 /\ inN P.length t.2.2) /\ (t.1 < t.2.1 /\ t.1 < t.2.2) /\ orT P t.1 t.2.1 t.2.2 = 1
instance (P : List (Int × Int)) (t : Tri) : Decidable (zx7 P t) := by unfold zx7; infer_instance
def rotM (a b c : Int) : Tri := if a <= b /\ a <= c then (a, b, c) else if b <= c /\ b <= a then (b, c, a) else (c, a, b)
def triF (P : List (Int × Int)) (a b c : Int) : Option Tri :=
 if inN P.length a /\ inN P.length b /\ inN P.length c then (if orT P a b c = 0 then none else some (if orT P a b c = -1 then rotM a c b else rotM a b c)) else none
theorem za11 {P : List (Int × Int)} {a b c : Int} (h : orT P a b c ≠ 0) : a ≠ b /\ a ≠ c /\ b ≠ c := by
 unfold orT at h
 refine ⟨fun e => h ?_, fun e => h ?_, fun e => h ?_⟩
 ·rw [e]; exact zbf4 _ _
 ·rw [e]; exact zbf3 _ _
 ·rw [e]; exact zal8 _ _
theorem zba5 {P : List (Int × Int)} {t : Tri} : triF P t.1 t.2.1 t.2.2 = some t ↔ zx7 P t := by
 obtain ⟨a, b, c⟩ := t
 unfold triF zx7
 simp only
 by_cases hi : inN P.length a /\ inN P.length b /\ inN P.length c
 ·rw [if_pos hi]
  by_cases h0 : orT P a b c = 0
  ·rw [if_pos h0]
   constructor
   ·intro h; cases h
   ·intro h; rw [h0] at h; exact absurd h.2.2 (by decide)
  ·rw [if_neg h0]
   obtain ⟨n1, n2, n3⟩ := za11 h0
   by_cases hm : orT P a b c = -1
   ·rw [if_pos hm]
    constructor
    ·intro h
     unfold rotM at h
     split at h
     ·simp at h; omega
     ·split at h
      ·simp at h; omega
      ·simp at h; omega
    ·intro h; rw [hm] at h; exact absurd h.2.2 (by decide)
   ·rw [if_neg hm]
    have h1 : orT P a b c = 1 := by
     rcases zbq6 (ptQ P a) (ptQ P b) (ptQ P c) with q | q | q
     ·exact q
     ·exact absurd q h0
     ·exact absurd q hm
    constructor
    ·intro h
     unfold rotM at h
     split at h
     ·rename_i q; exact ⟨hi, ⟨by omega, by omega⟩, h1⟩
     ·split at h
      ·simp at h; omega
      ·simp at h; omega
    ·intro h
     unfold rotM
     rw [if_pos ⟨by omega, by omega⟩]
 ·rw [if_neg hi]
  exact ⟨fun h => (by cases h), fun h => absurd h.1 hi⟩
def rowT (t : Tri) : List Int := [t.1, t.2.1, t.2.2]
def zj6 (T : List Tri) : List (List Int) := T.map rowT
def zp9 (t : Tri) : List (Int × Int) := [(t.1, t.2.1), (t.2.1, t.2.2), (t.2.2, t.1)]
theorem za76 (t : Tri) : zh7 (rowT t) = zp9 t := rfl
def zx2 (T : List Tri) : List (Int × Int) := allE (zj6 T)
theorem zax6 (T : List Tri) : zx2 T = T.flatMap zp9 := by
 unfold zx2 allE zj6
 rw [List.flatMap_map]
 rfl
theorem zt9 {T : List Tri} {i : Nat} {t : Tri} (h : T[i]? = some t) : zx2 (T.take (i + 1)) = zx2 (T.take i) ++ zp9 t := by
 rw [zax6, zax6, List.take_add_one, h]; simp
structure zi5 (P : List (Int × Int)) (T : List Tri) (S : List (Int × Int)) : Prop where
 tri : ∀ t, t ∈ T -> zx7 P t
 rise : Rise ltT T
 nod : (zx2 T).Nodup
 segU : ∀ s, s ∈ S -> s.1 < s.2
 segR : Rise ltS S
 segE : ∀ s, s ∈ S -> s ∈ zx2 T \/ rev s ∈ zx2 T
 rim : ∀ s, s ∈ zx2 T -> rev s ∈ zx2 T \/ upE s ∈ S
open Classical in
noncomputable def chkM (P : List (Int × Int)) (T : List Tri) (S : List (Int × Int)) : Int := if zi5 P T S then 0 else 2
theorem zay0 {P : List (Int × Int)} {T : List Tri} {S : List (Int × Int)} (h : zi5 P T S) : chkM P T S = 0 := by unfold chkM; rw [if_pos h]
theorem zag3 {P : List (Int × Int)} {T : List Tri} {S : List (Int × Int)} (h : ¬ zi5 P T S) : chkM P T S = 2 := by unfold chkM; rw [if_neg h]
theorem zap1 {α : Type} {lt : α -> α -> Bool} (h : STO lt) {l : List α} {i : Nat} {x y : α} (hr : Rise lt (l.take (i + 1))) (hx : l[i]? = some x) (hy : l[i + 1]? = some y) (hl : lt x y = true) : Rise lt (l.take (i + 2)) := by
 have e1 : l.take (i + 2) = l.take (i + 1) ++ [y] := by rw [List.take_add_one, hy]; rfl
 have e2 : l.take (i + 1) = l.take i ++ [x] := by rw [List.take_add_one, hx]; rfl
 rw [e1]
 refine List.pairwise_append.2 ⟨hr, by simp, fun a ha b hb => ?_⟩
 simp at hb
 subst hb
 rw [e2] at ha hr
 rcases List.mem_append.1 ha with q | q
 ·exact h.tr ((List.pairwise_append.1 hr).2.2 a q x (by simp)) hl
 ·simp at q; subst q; exact hl
theorem zbd1 {α : Type} {lt : α -> α -> Bool} {l : List α} {i : Nat} {x y : α} (hx : l[i]? = some x) (hy : l[i + 1]? = some y) (hl : lt x y = false) : ¬ Rise lt l := by
 intro h
 obtain ⟨h1, e1⟩ := List.getElem?_eq_some_iff.1 hx
 obtain ⟨h2, e2⟩ := List.getElem?_eq_some_iff.1 hy
 have := List.pairwise_iff_getElem.1 h i (i + 1) h1 h2 (by omega)
 rw [e1, e2, hl] at this
 cases this
abbrev Quad := Int × Int × Int × Int
def sd3 (t : Tri) : List Tri := [(t.1, t.2.1, t.2.2), (t.2.1, t.2.2, t.1), (t.2.2, t.1, t.2.1)]
def hit (x y : Tri) : Option Quad := if x.1 = y.2.1 /\ x.2.1 = y.1 then some (x.1, y.2.2, x.2.1, x.2.2) else none
def hits (t u : Tri) : List Quad := (sd3 t).flatMap fun x => (sd3 u).filterMap (hit x)
def zh4 (t u : Tri) : Option Quad := match hits t u with | [q] => some q | _ => none
def zai5 (p q r s : Int × Int) : Bool := decide (orZ p q r = 1) && decide (orZ p q s = 1) && decide (orZ p r s = 1) && decide (orZ q r s = 1)
theorem zag0 {p q r s : Int × Int} : zai5 p q r s = true ↔ zx4 [p, q, r, s] := by
 unfold zai5
 simp only [Bool.and_eq_true, decide_eq_true_eq]
 constructor
 ·rintro ⟨⟨⟨h1, h2⟩, h3⟩, h4⟩
  refine ⟨by simp, fun i k j hik hkj a b c ha hb hc => ?_⟩
  have hj : j < 4 := by have := (List.getElem?_eq_some_iff.1 hc).1; simpa using this
  have : (i = 0 /\ k = 1 /\ j = 2) \/ (i = 0 /\ k = 1 /\ j = 3) \/ (i = 0 /\ k = 2 /\ j = 3) \/ (i = 1 /\ k = 2 /\ j = 3) := by omega
  rcases this with ⟨rfl, rfl, rfl⟩ | ⟨rfl, rfl, rfl⟩ | ⟨rfl, rfl, rfl⟩ | ⟨rfl, rfl, rfl⟩ <;> (simp at ha hb hc; subst ha hb hc; assumption)
 ·intro h
  exact ⟨⟨⟨h.2 0 1 2 (by omega) (by omega) p q r rfl rfl rfl, h.2 0 1 3 (by omega) (by omega) p q s rfl rfl rfl⟩, h.2 0 2 3 (by omega) (by omega) p r s rfl rfl rfl⟩, h.2 1 2 3 (by omega) (by omega) q r s rfl rfl rfl⟩
def zar5 (a b c d : Int) : List Int := if a <= b /\ a <= c /\ a <= d then [a, b, c, d] else if b <= c /\ b <= d then [b, c, d, a] else if c <= d then [c, d, a, b] else [d, a, b, c]
def upM (a b : Int) : Int × Int := (min a b, max a b)
def zq5 (P S : List (Int × Int)) (t u : Tri) : Option (List Int) :=
 match zh4 t u with
 | none => none
 | some (a, b, c, d) => if upM a c ∈ S then none else if zai5 (ptQ P a) (ptQ P b) (ptQ P c) (ptQ P d) = true then some (zar5 a b c d) else none
def zy7 (P : List (Int × Int)) (T : List Tri) (S : List (Int × Int)) (i k : Nat) : Option (List Int) :=
 match T[i]?, T[k]? with
 | some t, some u => zq5 P S t u
 | _, _ => none
def zz0 (P : List (Int × Int)) (T : List Tri) (S : List (Int × Int)) : List (Int × Int) :=
 (List.range T.length).flatMap fun i => ((List.range T.length).filter fun k => decide (i < k) && (zy7 P T S i k).isSome).map fun (k : Nat) => ((i : Int), (k : Int))
theorem za08 {P : List (Int × Int)} {T : List Tri} {S : List (Int × Int)} {s : Int × Int} : s ∈ zz0 P T S ↔ ∃ i k : Nat, s = ((i : Int), (k : Int)) /\ i < k /\ k < T.length /\ (zy7 P T S i k).isSome = true := by
 unfold zz0
 simp only [List.mem_flatMap, List.mem_map, List.mem_filter, List.mem_range, Bool.and_eq_true, decide_eq_true_eq]
 constructor
 ·rintro ⟨i, hi, k, ⟨hk, h1, h2⟩, rfl⟩; exact ⟨i, k, rfl, h1, hk, h2⟩
 ·rintro ⟨i, k, rfl, h1, hk, h2⟩; exact ⟨i, by omega, k, ⟨hk, h1, h2⟩, rfl⟩
theorem zar9 {α : Type} {lt : α -> α -> Bool} {f : Nat -> List α} : ∀ {l : List Nat}, l.Pairwise (· < ·) -> (∀ i, i ∈ l -> Rise lt (f i)) -> (∀ i j x y, i < j -> x ∈ f i -> y ∈ f j -> lt x y = true) -> Rise lt (l.flatMap f)
 | [], _, _, _ => by simp
 | i :: l, hl, h1, h2 => by
  rw [List.flatMap_cons]
  have hl' := List.pairwise_cons.1 hl
  refine List.pairwise_append.2 ⟨h1 i (by simp), zar9 hl'.2 (fun j hj => h1 j (List.mem_cons_of_mem _ hj)) h2, fun x hx y hy => ?_⟩
  obtain ⟨j, hj, hy⟩ := List.mem_flatMap.1 hy
  exact h2 i j x y (hl'.1 j hj) hx hy
theorem zap6 (P : List (Int × Int)) (T : List Tri) (S : List (Int × Int)) : Rise ltS (zz0 P T S) := by
 unfold zz0
 refine zar9 List.pairwise_lt_range (fun i _ => ?_) fun i j x y hij hx hy => ?_
 ·unfold Rise
  rw [List.pairwise_map]
  refine (List.Pairwise.filter _ List.pairwise_lt_range).imp fun {a b} h => ?_
  simp [ltS]; omega
 ·obtain ⟨a, _, rfl⟩ := List.mem_map.1 hx
  obtain ⟨b, _, rfl⟩ := List.mem_map.1 hy
  simp [ltS]; omega
def prA (P : List (Int × Int)) (T : List Tri) (S : List (Int × Int)) (i : Nat) (x : Tri) : List (Int × Int) :=
 if (i : Int) < zl8 (zj6 T) (x.2.1, x.1) /\ (zy7 P T S i (zl8 (zj6 T) (x.2.1, x.1)).toNat).isSome = true then [((i : Int), zl8 (zj6 T) (x.2.1, x.1))] else []
def prI (P : List (Int × Int)) (T : List Tri) (S : List (Int × Int)) (i : Nat) (t : Tri) : List (Int × Int) := (sd3 t).flatMap (prA P T S i)
def prL (P : List (Int × Int)) (T : List Tri) (S : List (Int × Int)) (n : Nat) : List (Int × Int) := (List.range n).flatMap fun i => match T[i]? with | some t => prI P T S i t | none => []
theorem zal4 {P : List (Int × Int)} {T : List Tri} {S : List (Int × Int)} {i : Nat} {t : Tri} (h : T[i]? = some t) : prL P T S (i + 1) = prL P T S i ++ prI P T S i t := by
 unfold prL
 rw [List.range_succ, List.flatMap_append]
 simp [h]
theorem zcd1 {t x : Tri} (h : x ∈ sd3 t) : (x.1, x.2.1) ∈ zp9 t := by
 simp [sd3] at h
 rcases h with rfl | rfl | rfl <;> simp [zp9]
theorem zcg7 {t : Tri} {s : Int × Int} (h : s ∈ zp9 t) : ∃ x, x ∈ sd3 t /\ (x.1, x.2.1) = s := by
 simp [zp9] at h
 rcases h with rfl | rfl | rfl
 ·exact ⟨_, by simp [sd3], rfl⟩
 ·exact ⟨(t.2.1, t.2.2, t.1), by simp [sd3], rfl⟩
 ·exact ⟨(t.2.2, t.1, t.2.1), by simp [sd3], rfl⟩
theorem zab7 {t u : Tri} {q : Quad} : q ∈ hits t u ↔ ∃ x y, x ∈ sd3 t /\ y ∈ sd3 u /\ x.1 = y.2.1 /\ x.2.1 = y.1 /\ q = (x.1, y.2.2, x.2.1, x.2.2) := by
 unfold hits hit
 simp only [List.mem_flatMap, List.mem_filterMap]
 constructor
 ·rintro ⟨x, hx, y, hy, e⟩
  split at e
  ·rename_i c; cases e; exact ⟨x, y, hx, hy, c.1, c.2, rfl⟩
  ·cases e
 ·rintro ⟨x, y, hx, hy, c1, c2, rfl⟩
  exact ⟨x, hx, y, hy, by rw [if_pos ⟨c1, c2⟩]⟩
theorem zm2 {t u : Tri} {q : Quad} (h : zh4 t u = some q) : hits t u = [q] := by
 unfold zh4 at h
 split at h
 ·cases h; assumption
 ·cases h
theorem zaa1 {P S : List (Int × Int)} {t u : Tri} (h : (zq5 P S t u).isSome = true) : ∃ q, zh4 t u = some q := by
 unfold zq5 at h
 cases hs : zh4 t u with
 | none => rw [hs] at h; simp at h
 | some q => exact ⟨q, rfl⟩
theorem zbq9 {t u : Tri} {q : Quad} (h : zh4 t u = some q) {i j : Nat} {x y : Tri} (hij : i < j) (hx : (sd3 t)[i]? = some x) (hy : (sd3 t)[j]? = some y) (h1 : (x.2.1, x.1) ∈ zp9 u) (h2 : (y.2.1, y.1) ∈ zp9 u) : False := by
 have hh := zm2 h
 have key : ∀ x : Tri, (x.2.1, x.1) ∈ zp9 u -> 1 <= ((sd3 u).filterMap (hit x)).length := by
  intro x hx
  obtain ⟨y, hy, e⟩ := zcg7 hx
  have : (x.1, y.2.2, x.2.1, x.2.2) ∈ (sd3 u).filterMap (hit x) := by
   refine List.mem_filterMap.2 ⟨y, hy, ?_⟩
   unfold hit
   simp at e
   rw [if_pos ⟨e.2.symm, e.1.symm⟩]
  exact List.length_pos_of_mem this
 have k1 := key x h1
 have k2 := key y h2
 have hl : (hits t u).length = 1 := by rw [hh]; rfl
 unfold hits at hl
 simp only [sd3, List.flatMap_cons, List.flatMap_nil, List.append_nil, List.length_append] at hl
 have hj : j < 3 := by have := (List.getElem?_eq_some_iff.1 hy).1; simpa [sd3] using this
 have : (i = 0 /\ j = 1) \/ (i = 0 /\ j = 2) \/ (i = 1 /\ j = 2) := by omega
 rcases this with ⟨rfl, rfl⟩ | ⟨rfl, rfl⟩ | ⟨rfl, rfl⟩ <;> (simp [sd3] at hx hy; subst hx hy; simp only [sd3] at k1 k2; omega)
theorem zbp6 {T : List Tri} {i : Nat} {f : List Int} (h : (zj6 T)[i]? = some f) : ∃ t, T[i]? = some t /\ f = rowT t := by
 unfold zj6 at h
 rw [List.getElem?_map] at h
 cases ht : T[i]? with
 | none => rw [ht] at h; cases h
 | some t => rw [ht] at h; cases h; exact ⟨t, rfl, rfl⟩
theorem zbs7 {T : List Tri} {i : Nat} {t : Tri} (h : T[i]? = some t) : (zj6 T)[i]? = some (rowT t) := by unfold zj6; rw [List.getElem?_map, h]; rfl
theorem za18 {T : List Tri} {s : Int × Int} (h : 0 <= zl8 (zj6 T) s) : ∃ (k : Nat) (u : Tri), zl8 (zj6 T) s = k /\ T[k]? = some u /\ s ∈ zp9 u := by
 obtain ⟨k, hk⟩ := Int.eq_ofNat_of_zero_le h
 obtain ⟨f, hf, hs⟩ := zaq8 hk
 obtain ⟨u, hu, rfl⟩ := zbp6 hf
 exact ⟨k, u, hk, hu, hs⟩
theorem left_at {T : List Tri} (hn : (zx2 T).Nodup) {s : Int × Int} {k : Nat} {u : Tri} (hu : T[k]? = some u) (hs : s ∈ zp9 u) : zl8 (zj6 T) s = k := za19 hn (zbs7 hu) hs
theorem zad7 {P : List (Int × Int)} {T : List Tri} {S : List (Int × Int)} {i : Nat} {x : Tri} {s : Int × Int} (h : s ∈ prA P T S i x) : ∃ (k : Nat) (u : Tri), s = ((i : Int), (k : Int)) /\ i < k /\ T[k]? = some u /\ (x.2.1, x.1) ∈ zp9 u /\ (zy7 P T S i k).isSome = true := by
 unfold prA at h
 split at h
 ·rename_i c
  obtain ⟨k, u, h1, h2, h3⟩ := za18 (T := T) (s := (x.2.1, x.1)) (by omega)
  rw [h1] at h c
  simp at h
  exact ⟨k, u, h, by omega, h2, h3, by simpa using c.2⟩
 ·simp at h
theorem zy6 {P : List (Int × Int)} {T : List Tri} {S : List (Int × Int)} {i k : Nat} {t u : Tri} (ht : T[i]? = some t) (hu : T[k]? = some u) : zy7 P T S i k = zq5 P S t u := by unfold zy7; rw [ht, hu]
theorem zav6 (P : List (Int × Int)) (T : List Tri) (S : List (Int × Int)) (i : Nat) (x : Tri) : (prA P T S i x).Nodup := by
 unfold prA; split <;> simp
theorem zal6 {P : List (Int × Int)} {T : List Tri} {S : List (Int × Int)} {i : Nat} {t : Tri} (ht : T[i]? = some t) {a b : Nat} {x y : Tri} (hab : a < b) (hx : (sd3 t)[a]? = some x) (hy : (sd3 t)[b]? = some y) {s : Int × Int} (h1 : s ∈ prA P T S i x) (h2 : s ∈ prA P T S i y) : False := by
 obtain ⟨k, u, rfl, _, hu, e1, q1⟩ := zad7 h1
 obtain ⟨k', u', e, _, hu', e2, _⟩ := zad7 h2
 simp at e
 have : k = k' := by omega
 subst this
 rw [hu] at hu'; cases hu'
 rw [zy6 ht hu] at q1
 obtain ⟨q, hq⟩ := zaa1 q1
 exact zbq9 hq hab hx hy e1 e2
theorem zb33 {P : List (Int × Int)} {T : List Tri} {S : List (Int × Int)} {i : Nat} {t : Tri} (ht : T[i]? = some t) : (prI P T S i t).Nodup := by
 unfold prI sd3
 simp only [List.flatMap_cons, List.flatMap_nil, List.append_nil]
 refine List.nodup_append.2 ⟨zav6 _ _ _ _ _, List.nodup_append.2 ⟨zav6 _ _ _ _ _, zav6 _ _ _ _ _, fun s h1 s' h2 e => ?_⟩, fun s h1 s' h2 e => ?_⟩
 ·subst e; exact zal6 ht (a := 1) (b := 2) (by omega) rfl rfl h1 h2
 ·subst e
  rcases List.mem_append.1 h2 with r | r
  ·exact zal6 ht (a := 0) (b := 1) (by omega) rfl rfl h1 r
  ·exact zal6 ht (a := 0) (b := 2) (by omega) rfl rfl h1 r
theorem zbe7 {P : List (Int × Int)} {T : List Tri} {S : List (Int × Int)} (hn : (zx2 T).Nodup) {i : Nat} {t : Tri} (ht : T[i]? = some t) {s : Int × Int} : s ∈ prI P T S i t ↔ ∃ k : Nat, s = ((i : Int), (k : Int)) /\ i < k /\ k < T.length /\ (zy7 P T S i k).isSome = true := by
 unfold prI
 constructor
 ·intro h
  obtain ⟨x, _, h⟩ := List.mem_flatMap.1 h
  obtain ⟨k, u, h1, h2, h3, _, h5⟩ := zad7 h
  exact ⟨k, h1, h2, (List.getElem?_eq_some_iff.1 h3).1, h5⟩
 ·rintro ⟨k, rfl, h2, h3, h5⟩
  have hu : T[k]? = some T[k] := List.getElem?_eq_getElem h3
  have h5' := h5
  rw [zy6 ht hu] at h5
  obtain ⟨q, hq⟩ := zaa1 h5
  have hm : q ∈ hits t T[k] := by rw [zm2 hq]; simp
  obtain ⟨x, y, hx, hy, c1, c2, _⟩ := zab7.1 hm
  refine List.mem_flatMap.2 ⟨x, hx, ?_⟩
  have hl : zl8 (zj6 T) (x.2.1, x.1) = k := by
   refine left_at hn hu ?_
   rw [c1, c2]; exact zcd1 hy
  unfold prA
  rw [hl, if_pos ⟨by omega, by simpa using h5'⟩]
  simp
theorem zav5 {P : List (Int × Int)} {T : List Tri} {S : List (Int × Int)} : ∀ n, (prL P T S n).Nodup
 | 0 => by simp [prL]
 | n + 1 => by
  cases ht : T[n]? with
  | none =>
   have : prL P T S (n + 1) = prL P T S n := by unfold prL; rw [List.range_succ, List.flatMap_append]; simp [ht]
   rw [this]; exact zav5 n
  | some t =>
   rw [zal4 ht]
   refine List.nodup_append.2 ⟨zav5 n, zb33 ht, fun s h1 s' h2 e => ?_⟩
   subst e
   unfold prL at h1
   obtain ⟨i, hi, h1⟩ := List.mem_flatMap.1 h1
   rw [List.mem_range] at hi
   cases hti : T[i]? with
   | none => rw [hti] at h1; simp at h1
   | some t' =>
    rw [hti] at h1
    obtain ⟨x, _, h1⟩ := List.mem_flatMap.1 h1
    obtain ⟨x', _, h2⟩ := List.mem_flatMap.1 h2
    obtain ⟨k, _, e1, _⟩ := zad7 h1
    obtain ⟨k', _, e2, _⟩ := zad7 h2
    rw [e1] at e2
    simp at e2
    omega
theorem zbe6 {P : List (Int × Int)} {T : List Tri} {S : List (Int × Int)} (hn : (zx2 T).Nodup) : srtS (prL P T S T.length) = zz0 P T S :=
 zb12 stoS (zav5 _) (zap6 P T S) fun s => by
  rw [za08]
  unfold prL
  constructor
  ·intro h
   obtain ⟨i, hi, h⟩ := List.mem_flatMap.1 h
   rw [List.mem_range] at hi
   rw [List.getElem?_eq_getElem hi] at h
   obtain ⟨k, h1, h2, h3, h4⟩ := (zbe7 hn (List.getElem?_eq_getElem hi)).1 h
   exact ⟨i, k, h1, h2, h3, h4⟩
  ·rintro ⟨i, k, h1, h2, h3, h4⟩
   have hi : i < T.length := by omega
   refine List.mem_flatMap.2 ⟨i, List.mem_range.2 hi, ?_⟩
   rw [List.getElem?_eq_getElem hi]
   exact (zbe7 hn (List.getElem?_eq_getElem hi)).2 ⟨k, h1, h2, h3, h4⟩
theorem zal5 (P : List (Int × Int)) (T : List Tri) (S : List (Int × Int)) : ∀ n, (prL P T S n).length <= 3 * n
 | 0 => by simp [prL]
 | n + 1 => by
  have ih := zal5 P T S n
  have hA : ∀ x, (prA P T S n x).length <= 1 := fun x => by unfold prA; split <;> simp
  cases ht : T[n]? with
  | none =>
   have : prL P T S (n + 1) = prL P T S n := by unfold prL; rw [List.range_succ, List.flatMap_append]; simp [ht]
   rw [this]; omega
  | some t =>
   rw [zal4 ht, List.length_append]
   have h1 := hA (t.1, t.2.1, t.2.2)
   have h2 := hA (t.2.1, t.2.2, t.1)
   have h3 := hA (t.2.2, t.1, t.2.1)
   unfold prI sd3
   simp only [List.flatMap_cons, List.flatMap_nil, List.append_nil, List.length_append]
   omega
end Go.Proofs.Ytcepchipgjpkhaa
namespace Go.Proofs.Ytcepchipgjpkhaa
open Go Go.AI
def hitN (x y : Tri) : Nat := if x.1 = y.2.1 /\ x.2.1 = y.1 then 1 else 0
theorem zam4 (x y : Tri) : hitN y x = hitN x y := by
 unfold hitN
 by_cases h : x.1 = y.2.1 /\ x.2.1 = y.1
 ·rw [if_pos h, if_pos ⟨h.2.symm, h.1.symm⟩]
 ·rw [if_neg h, if_neg fun q => h ⟨q.2.symm, q.1.symm⟩]
theorem zbh6 (x : Tri) : ∀ l : List Tri, (l.filterMap (hit x)).length = (l.map (hitN x)).sum
 | [] => rfl
 | y :: l => by
  have ih := zbh6 x l
  rw [List.filterMap_cons, List.map_cons, List.sum_cons]
  by_cases h : x.1 = y.2.1 /\ x.2.1 = y.1
  ·have e1 : hit x y = some (x.1, y.2.2, x.2.1, x.2.2) := if_pos h
   have e2 : hitN x y = 1 := if_pos h
   rw [e1, e2, List.length_cons, ih]; omega
  ·have e1 : hit x y = none := if_neg h
   have e2 : hitN x y = 0 := if_neg h
   rw [e1, e2, ih]; omega
theorem zbs4 (t u : Tri) : (hits u t).length = (hits t u).length := by
 unfold hits sd3
 simp only [List.flatMap_cons, List.flatMap_nil, List.append_nil, List.length_append, zbh6, List.map_cons, List.map_nil, List.sum_cons, List.sum_nil]
 simp only [zam4 (t.1, t.2.1, t.2.2), zam4 (t.2.1, t.2.2, t.1), zam4 (t.2.2, t.1, t.2.1)]
 omega
def rot2 (q : Quad) : Quad := (q.2.2.1, q.2.2.2, q.1, q.2.1)
theorem zbs3 {t u : Tri} {q : Quad} (h : q ∈ hits u t) : rot2 q ∈ hits t u := by
 obtain ⟨x, y, hx, hy, c1, c2, rfl⟩ := zab7.1 h
 refine zab7.2 ⟨y, x, hy, hx, c2.symm, c1.symm, ?_⟩
 unfold rot2
 simp only [c1, c2]
theorem zav0 {t u : Tri} {q : Quad} (h : zh4 t u = some q) : zh4 u t = some (rot2 q) := by
 have hh := zm2 h
 have hl : (hits u t).length = 1 := by rw [zbs4 t u, hh]; rfl
 cases hu : hits u t with
 | nil => rw [hu] at hl; cases hl
 | cons r l =>
  cases l with
  | cons _ _ => rw [hu] at hl; simp at hl
  | nil =>
   have hm := zbs3 (t := t) (u := u) (q := r) (by rw [hu]; simp)
   rw [hh] at hm
   simp at hm
   have : r = rot2 q := by rw [<- hm]; rfl
   unfold zh4
   rw [hu, this]
theorem zb07 (a b : Int) : upM b a = upM a b := by unfold upM; rw [Int.min_comm, Int.max_comm]
theorem zas7 (p q r s : Int × Int) : zai5 q r s p = zai5 p q r s := by
 unfold zai5
 rw [z88 p q r, z88 p q s, z88 p r s]
 cases decide (orZ p q r = 1) <;> cases decide (orZ p q s = 1) <;> cases decide (orZ p r s = 1) <;> cases decide (orZ q r s = 1) <;> rfl
theorem zbu4 {P : List (Int × Int)} {a b c d : Int} (h : zai5 (ptQ P a) (ptQ P b) (ptQ P c) (ptQ P d) = true) : (a ≠ b /\ a ≠ c /\ a ≠ d) /\ b ≠ c /\ b ≠ d /\ c ≠ d := by
 unfold zai5 at h
 simp only [Bool.and_eq_true, decide_eq_true_eq] at h
 obtain ⟨⟨⟨h1, h2⟩, h3⟩, h4⟩ := h
 have n1 := za11 (P := P) (a := a) (b := b) (c := c) (by unfold orT; rw [h1]; decide)
 have n2 := za11 (P := P) (a := a) (b := b) (c := d) (by unfold orT; rw [h2]; decide)
 have n3 := za11 (P := P) (a := a) (b := c) (c := d) (by unfold orT; rw [h3]; decide)
 exact ⟨⟨n1.1, n1.2.1, n2.2.1⟩, n1.2.2, n2.2.2, n3.2.2⟩
theorem zbi4 {a b c d : Int} (h : (a ≠ b /\ a ≠ c /\ a ≠ d) /\ b ≠ c /\ b ≠ d /\ c ≠ d) : zar5 c d a b = zar5 a b c d := by
 obtain ⟨⟨h1, h2, h3⟩, h4, h5, h6⟩ := h
 unfold zar5
 by_cases k1 : a <= b /\ a <= c /\ a <= d
 ·rw [if_pos k1, if_neg (by omega), if_neg (by omega), if_pos (by omega)]
 ·rw [if_neg k1]
  by_cases k2 : b <= c /\ b <= d
  ·rw [if_pos k2, if_neg (by omega), if_neg (by omega), if_neg (by omega)]
  ·rw [if_neg k2]
   by_cases k3 : c <= d
   ·rw [if_pos k3, if_pos (by omega)]
   ·rw [if_neg k3, if_neg (by omega), if_pos (by omega)]
theorem zbe4 (P S : List (Int × Int)) (t u : Tri) : zq5 P S u t = zq5 P S t u := by
 have key : ∀ {t u : Tri} {q : Quad}, zh4 t u = some q -> zq5 P S u t = zq5 P S t u := by
  intro t u q h
  obtain ⟨a, b, c, d⟩ := q
  have k : zh4 u t = some (c, d, a, b) := zav0 h
  unfold zq5
  rw [h, k]
  simp only
  rw [zb07 a c]
  split
  ·rfl
  ·rw [show zai5 (ptQ P c) (ptQ P d) (ptQ P a) (ptQ P b) = zai5 (ptQ P a) (ptQ P b) (ptQ P c) (ptQ P d) from (zas7 (ptQ P b) (ptQ P c) (ptQ P d) (ptQ P a)).trans (zas7 (ptQ P a) (ptQ P b) (ptQ P c) (ptQ P d))]
   split
   ·rename_i hc
    rw [zbi4 (zbu4 hc)]
   ·rfl
 cases h : zh4 t u with
 | some q => exact key h
 | none =>
  cases k : zh4 u t with
  | some q => exact (key k).symm
  | none => unfold zq5; rw [h, k]
theorem zbx1 {P : List (Int × Int)} {t x : Tri} (h : zx7 P t) (hx : x ∈ sd3 t) : (inN P.length x.1 /\ inN P.length x.2.1 /\ inN P.length x.2.2) /\ zx6 (ptQ P x.1) (ptQ P x.2.1) (ptQ P x.2.2) = zx6 (ptQ P t.1) (ptQ P t.2.1) (ptQ P t.2.2) := by
 obtain ⟨⟨a, b, c⟩, _, _⟩ := h
 simp [sd3] at hx
 rcases hx with rfl | rfl | rfl
 ·exact ⟨⟨a, b, c⟩, rfl⟩
 ·exact ⟨⟨b, c, a⟩, z07 _ _ _⟩
 ·exact ⟨⟨c, a, b⟩, (z07 _ _ _).trans (z07 _ _ _)⟩
open Classical in
noncomputable def zm6 (P : List (Int × Int)) (T : List Tri) (S : List (Int × Int)) (i k : Int) : Option (List Int) :=
 if zi5 P T S /\ inN T.length i /\ inN T.length k then zy7 P T S i.toNat k.toNat else none
theorem zbe3 (P : List (Int × Int)) (T : List Tri) (S : List (Int × Int)) (i k : Int) : zm6 P T S k i = zm6 P T S i k := by
 unfold zm6
 by_cases h : zi5 P T S /\ inN T.length i /\ inN T.length k
 ·rw [if_pos h, if_pos ⟨h.1, h.2.2, h.2.1⟩]
  unfold zy7
  cases T[i.toNat]? <;> cases T[k.toNat]? <;> simp [zbe4 P S]
 ·rw [if_neg h, if_neg fun q => h ⟨q.1, q.2.2, q.2.1⟩]
end Go.Proofs.Ytcepchipgjpkhaa
namespace Go.Proofs.Ytcepchipgjpkhaa
open Go Go.AI
def cutT : List Tri := [(0, 1, 2), (0, 2, 3)]
def cutS : List (Int × Int) := [(0, 1), (0, 3), (1, 2), (2, 3)]
def cutC : List (Int × Int) := [(0, 1), (0, 2), (0, 3), (1, 2), (2, 3)]
theorem zcg9 {a b c d : Int × Int} (h1 : orZ a b c = 1) (h2 : orZ a c d = 1) : zi5 [a, b, c, d] cutT cutS /\ zi5 [a, b, c, d] cutT cutC := by
 have tri : ∀ t, t ∈ cutT -> zx7 [a, b, c, d] t := by
  intro t ht
  simp [cutT] at ht
  rcases ht with rfl | rfl
  ·exact ⟨(show inN 4 _ /\ inN 4 _ /\ inN 4 _ by decide), by decide, h1⟩
  ·exact ⟨(show inN 4 _ /\ inN 4 _ /\ inN 4 _ by decide), by decide, h2⟩
 exact ⟨⟨tri, by decide, by decide, by decide, by decide, by decide, by decide⟩, ⟨tri, by decide, by decide, by decide, by decide, by decide, by decide⟩⟩
def sqP : List (Int × Int) := [(0, 0), (4, 0), (4, 4), (0, 4)]
theorem zb14 : zi5 sqP cutT cutS := (zcg9 (by decide) (by decide)).1
theorem zbb3 : zz0 sqP cutT cutS = [(0, 1)] := by decide +kernel
theorem zb13 : zm6 sqP cutT cutS 1 0 = some [0, 1, 2, 3] := by
 unfold zm6
 rw [if_pos ⟨zb14, by decide, by decide⟩]
 decide +kernel
end Go.Proofs.Ytcepchipgjpkhaa
namespace Go.Proofs.Ytcepchipgjpkhaa
open Go Go.AI
theorem za62 {P S : List (Int × Int)} {T : List Tri} {x : Int × Int} (h : x ∈ zz0 P T S) : 0 <= x.1 /\ x.1 < x.2 /\ x.2 < T.length := by
 obtain ⟨i, k, rfl, h1, h2, _⟩ := za08.1 h
 simp only
 omega
end Go.Proofs.Ytcepchipgjpkhaa
