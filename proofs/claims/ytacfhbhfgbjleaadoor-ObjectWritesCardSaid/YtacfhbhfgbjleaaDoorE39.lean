/- Sorting by merging; whether a place stands twice: plain. No claim by itself. -/
import Derived.Test.YtacfhbhfgbjleaaDoorE37
namespace Go.AI
def lessP (a b : Int × Int) : Bool := decide (a.1 < b.1) || (decide (a.1 = b.1) && decide (a.2 < b.2))
def leP (a b : Int × Int) : Bool := !lessP b a
theorem leP_iff {a b : Int × Int} : leP a b = true ↔ a.1 < b.1 ∨ (a.1 = b.1 ∧ a.2 ≤ b.2) := by
  unfold leP lessP; simp only [Bool.not_eq_true', Bool.or_eq_false_iff, Bool.and_eq_false_iff, decide_eq_false_iff_not]; omega
theorem leP_trans (a b c : Int × Int) (h : leP a b = true) (k : leP b c = true) : leP a c = true := by rw [leP_iff] at *; omega
theorem leP_total (a b : Int × Int) : (leP a b || leP b a) = true := by rw [Bool.or_eq_true, leP_iff, leP_iff]; omega
theorem leP_anti {a b : Int × Int} (h : leP a b = true) (k : leP b a = true) : a = b := by
  rw [leP_iff] at *; exact Prod.ext (by omega) (by omega)
def ptAt (P : List (Int × Int)) (i : Int) : Int × Int := P[i.toNat]?.getD (0, 0)
def leI (P : List (Int × Int)) (a b : Int) : Bool := leP (ptAt P a) (ptAt P b)
def sortI (P : List (Int × Int)) : Nat → List Int → List Int
  | 0, l => l
  | f + 1, l => if l.length < 2 then l else List.merge (sortI P f (l.take (l.length / 2))) (sortI P f (l.drop (l.length / 2))) (leI P)
theorem sortI_perm (P : List (Int × Int)) : ∀ (f : Nat) (l : List Int), (sortI P f l).Perm l
  | 0, l => by simp [sortI]
  | f + 1, l => by
    unfold sortI; split
    · exact List.Perm.refl _
    · refine (List.merge_perm_append (leI P)).trans ?_
      have := (sortI_perm P f (l.take (l.length / 2))).append (sortI_perm P f (l.drop (l.length / 2)))
      rwa [List.take_append_drop] at this
theorem sortI_sorted (P : List (Int × Int)) : ∀ (f : Nat) (l : List Int), l.length ≤ f → (sortI P f l).Pairwise (fun a b => leI P a b = true)
  | 0, l, h => by
    have : l = [] := List.length_eq_zero_iff.1 (by omega)
    subst this; simp [sortI]
  | f + 1, l, h => by
    unfold sortI; split
    · match l with
      | [] => simp
      | [a] => simp
      | a :: b :: r => simp at *; omega
    · refine List.pairwise_merge (le := leI P) (fun a b c => leP_trans _ _ _) (fun a b => leP_total _ _) _ _ (sortI_sorted P f _ ?_) (sortI_sorted P f _ ?_)
      · simp; omega
      · simp; omega
def idxs (n : Nat) : List Int := (List.range n).map Int.ofNat
/-- The numbers of places, in the places' order. -/
def ordI (P : List (Int × Int)) : List Int := sortI P P.length (idxs P.length)
theorem ordI_perm (P : List (Int × Int)) : (ordI P).Perm (idxs P.length) := sortI_perm _ _ _
theorem ordI_mem {P : List (Int × Int)} {i : Int} (h : i ∈ ordI P) : 0 ≤ i ∧ i < P.length := by
  have := (ordI_perm P).mem_iff.1 h
  simp [idxs] at this
  obtain ⟨a, ha, rfl⟩ := this; omega
theorem ordI_len (P : List (Int × Int)) : (ordI P).length = P.length := by rw [(ordI_perm P).length_eq]; simp [idxs]
theorem map_pt (P : List (Int × Int)) : (idxs P.length).map (ptAt P) = P := by
  apply List.ext_getElem
  · simp [idxs]
  · intro i h1 h2
    simp [idxs, ptAt, List.getElem?_eq_getElem h2]
theorem ordI_map (P : List (Int × Int)) : ((ordI P).map (ptAt P)).Perm P := by
  have := (ordI_perm P).map (ptAt P); rwa [map_pt] at this
theorem ordI_sorted (P : List (Int × Int)) : ((ordI P).map (ptAt P)).Pairwise (fun a b => leP a b = true) := by
  rw [List.pairwise_map]; exact sortI_sorted P _ _ (by simp [idxs])
theorem sorted_nodup : ∀ (Q : List (Int × Int)), Q.Pairwise (fun a b => leP a b = true) → (∀ i : Nat, i + 1 < Q.length → Q[i]? ≠ Q[i + 1]?) → Q.Nodup
  | [], _, _ => by simp
  | [a], _, _ => by simp
  | a :: b :: r, h, k => by
    have h2 := List.pairwise_cons.1 h
    have ih := sorted_nodup (b :: r) h2.2 (fun i hi => by have := k (i + 1) (by simp at hi ⊢; omega); simpa using this)
    have hab : a ≠ b := fun q => by have := k 0 (by simp); simp [q] at this
    refine List.nodup_cons.2 ⟨fun hm => ?_, ih⟩
    rcases List.mem_cons.1 hm with q | q
    · exact hab q
    · have h3 := (List.pairwise_cons.1 h2.2).1 a q
      exact hab (leP_anti (h2.1 b (by simp)) h3)
/-- Two neighbours in order are alike, just if a place stands twice. -/
theorem adj_iff (P : List (Int × Int)) : (∃ i : Nat, i + 1 < P.length ∧ ((ordI P).map (ptAt P))[i]? = ((ordI P).map (ptAt P))[i + 1]?) ↔ ¬ P.Nodup := by
  have hl : ((ordI P).map (ptAt P)).length = P.length := by simp [ordI_len]
  rw [← (ordI_map P).nodup_iff]
  constructor
  · rintro ⟨i, hi, h⟩ hn
    rw [List.getElem?_eq_getElem (by omega), List.getElem?_eq_getElem (by omega), Option.some.injEq] at h
    have := List.pairwise_iff_getElem.1 hn i (i + 1) (by omega) (by omega) (by omega)
    exact this h
  · intro hn
    refine Classical.byContradiction fun hc => hn (sorted_nodup _ (ordI_sorted P) fun i hi hq => hc ⟨i, by omega, hq⟩)
end Go.AI
