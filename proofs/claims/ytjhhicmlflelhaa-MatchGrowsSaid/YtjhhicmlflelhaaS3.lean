/- Is it a graph: the program's own asking, by a closure. No claim by itself. -/
import Derived.Test.YtjhhicmlflelhaaS2
namespace Go.Proofs.Ytjhhicmlflelhaa
open Go Go.AI
theorem bad31 {FT : Nat → Option FnD} (h31 : FT 31 = some (.code A31)) {n : Int} {p : Nat} {x : Int × Int} {H : Heap} (hw : H.Wf) (hp : H.cellsAt p = some [.int .i64 n]) :
    Cp FT 31 [.agg (pairc x), .ptr p 0] H (fun r H' => r = .bool (badE n x) ∧ Ext H H') := by
  refine Cp_code A31 h31 rfl ?_
  have he := Ext.push hw (.cells (pairc x))
  have hp' := he.cells hp
  have hb : allOne (pairc x) = true := rfl
  have l1 : loadA (H.push (.cells (pairc x))) none (.ptr H.next 0) = some (.int .i64 x.1) := by simp [loadA_ptr, partA, pairc]
  have l2 : loadA (H.push (.cells (pairc x))) none (.ptr H.next 1) = some (.int .i64 x.2) := by simp [loadA_ptr, partA, pairc]
  have l3 : loadA (H.push (.cells (pairc x))) none (.ptr p 0) = some (.int .i64 n) := by rw [loadA_ptr, hp']; rfl
  have hc : AV.cells (.agg (pairc x)) = pairc x := rfl
  by_cases c1 : x.1 < 0
  · simp [A31, hc, hb, l1, l2, l3, c1, badE, he]
  by_cases c2 : n ≤ x.1
  · simp [A31, hc, hb, l1, l2, l3, c1, c2, badE, he]
  by_cases c3 : x.2 < 0
  · simp [A31, hc, hb, l1, l2, l3, c1, c2, c3, badE, he]
  by_cases c4 : n ≤ x.2
  · simp [A31, hc, hb, l1, l2, l3, c1, c2, c3, c4, badE, he]
  · simp [A31, hc, hb, l1, l2, l3, c1, c2, c3, c4, badE, he]
    by_cases c5 : x.1 = x.2 <;> simp [c5]
def hasT {α : Type} (t : α → Bool) (l : List α) : Bool := l.any t
theorem hasT_succ {α : Type} {t : α → Bool} {l : List α} {i : Nat} {x : α} (h : l[i]? = some x) : hasT t (l.take (i + 1)) = (hasT t (l.take i) || t x) := by
  unfold hasT; rw [List.take_add_one, h]; simp [List.any_append]
theorem hasT_of {α : Type} {t : α → Bool} {l : List α} {i : Nat} {x : α} (h : l[i]? = some x) (ht : t x = true) : hasT t l = true := List.any_eq_true.2 ⟨x, List.mem_of_getElem? h, ht⟩
theorem hasT_zero {α : Type} {t : α → Bool} {l : List α} : hasT t (l.take 0) = false := by simp [hasT]
theorem find37 {FT : Nat → Option FnD} (h37 : FT 37 = some (.code A37)) {v : AV} {l : List (Int × Int)} {H : Heap} {g : Nat} {cap : List AV} {t : Int × Int → Bool} (h : Pairs H v l) (hw : H.Wf) (hl : l.length ≤ 9223372036854775806)
    (hg : ∀ H1, Ext H H1 → ∀ x, Cp FT g (.agg (pairc x) :: cap) H1 (fun r H' => r = .bool (t x) ∧ Ext H1 H')) :
    Cp FT 37 [v, .fn g [] cap] H (fun r H' => (∃ k : Int, r = .int .i64 k ∧ (0 ≤ k ↔ hasT t l = true)) ∧ Ext H H') := by
  refine Cp_code A37 h37 rfl ?_
  simp [A37, h.len]
  refine Wp_loop (fun m τ H' => Ext H H' ∧ ∃ i : Nat, i ≤ l.length ∧ m = l.length - i ∧ Env.at τ 0 = v ∧ Env.at τ 1 = .fn g [] cap ∧ Env.at τ 7 = .int .i64 l.length ∧ Env.at τ 8 = .int .i64 i ∧ hasT t (l.take i) = false) ?_ l.length _ _ ⟨Ext.refl hw, 0, by simp, by simp, by simp, by simp, by simp, by simp, hasT_zero⟩
  rintro m τ H' ⟨he, i, hi, rfl, t0, t1, t7, t8, hall⟩
  simp only [Wp_seq, Wp_region]
  by_cases hc : i < l.length
  · obtain ⟨o, off, x, hx, hp, hl0, hl1, hl2⟩ := Pairs.idx (h.ext he) (k := .i64) (i := i) (by omega) (by omega)
    have hx' : l[i]? = some x := hx
    simp [hc, t0, t1, t7, t8, hp, hl0]
    refine (hg H' he x).mono ?_
    rintro r H2 ⟨rfl, he2⟩
    cases htx : t x with
    | true =>
      simp [hasT_of hx' htx, he.trans he2]
    | false =>
      simp [t0, t1, t7, t8]
      exact ⟨_, by omega, he.trans he2, i + 1, by omega, rfl, wrap64 (by omega) (by omega), by rw [hasT_succ hx', htx, hall]; rfl⟩
  · rw [List.take_of_length_le (by omega)] at hall
    simp [hc, t0, t1, t7, t8, he, hall]
theorem contains30 {FT : Nat → Option FnD} (h30 : FT 30 = some (.code A30)) (h37 : FT 37 = some (.code A37)) {v : AV} {l : List (Int × Int)} {H : Heap} {g : Nat} {cap : List AV} {t : Int × Int → Bool} (h : Pairs H v l) (hw : H.Wf) (hl : l.length ≤ 9223372036854775806)
    (hg : ∀ H1, Ext H H1 → ∀ x, Cp FT g (.agg (pairc x) :: cap) H1 (fun r H' => r = .bool (t x) ∧ Ext H1 H')) :
    Cp FT 30 [v, .fn g [] cap] H (fun r H' => r = .bool (hasT t l) ∧ Ext H H') := by
  refine Cp_code A30 h30 rfl ?_
  simp [A30]
  refine (find37 h37 h hw hl hg).mono ?_
  rintro r H' ⟨⟨k, rfl, hk⟩, he⟩
  simp [he]
  cases hh : hasT t l <;> simp [hh] at hk <;> simp [hk]
theorem right21 {FT : Nat → Option FnD} (h21 : FT 21 = some (.code A21)) (h30 : FT 30 = some (.code A30)) (h31 : FT 31 = some (.code A31)) (h37 : FT 37 = some (.code A37)) {n : Int} {v : AV} {l : List (Int × Int)} {H : Heap} (h : Pairs H v l) (hw : H.Wf) (hl : l.length ≤ 9223372036854775806) :
    Cp FT 21 [.int .i64 n, v] H (fun r H' => r = .bool (rightM n l) ∧ Ext H H') := by
  refine Cp_code A21 h21 rfl ?_
  have he := Ext.push hw (.cells [.int .i64 n])
  have l1 : loadA (H.push (.cells [.int .i64 n])) none (.ptr H.next 0) = some (.int .i64 n) := by simp [loadA_ptr, partA]
  by_cases c1 : n < 0
  · have : ¬ 0 ≤ n := by omega
    simp [A21, AV.cells, allOne, AV.one, l1, c1, he, rightM, this]
  by_cases c2 : 1000 < n
  · have : ¬ n ≤ 1000 := by omega
    simp [A21, AV.cells, allOne, AV.one, l1, c1, c2, he, rightM, this]
  · simp [A21, AV.cells, allOne, AV.one, l1, c1, c2]
    refine (contains30 h30 h37 (t := badE n) (h.ext he) he.wf hl fun H1 h1 x => bad31 h31 h1.wf (h1.cells (by simp))).mono ?_
    rintro r H' ⟨rfl, he'⟩
    have q1 : 0 ≤ n := by omega
    have q2 : n ≤ 1000 := by omega
    have : (l.all fun s => !badE n s) = !hasT (badE n) l := by simp [hasT, List.not_any_eq_all_not]
    simp [he.trans he', rightM, q1, q2, this]
end Go.Proofs.Ytjhhicmlflelhaa
