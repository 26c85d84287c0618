/- Matchings of given size, and bounds: pairs in a row, covers, graphs numbered otherwise. No claim by itself. -/
import Derived.Test.YtjhhicmlflelhaaMC
namespace Go.Proofs.Ytjhhicmlflelhaa.Gr
section
variable {n : Nat} {E : Nat → Nat → Prop} {m : Nat → Option Nat}
theorem add_pair (g : Gph n E) (hm : Mt E m) {x k : Nat} (hE : E x k) (f1 : m x = none) (f2 : m k = none) :
    Mt E (upd (upd m x (some k)) k (some x)) ∧ cnt n (upd (upd m x (some k)) k (some x)) = cnt n m + 2 ∧ ∀ i j, upd (upd m x (some k)) k (some x) i = some j → i = x ∨ i = k ∨ m i = some j := by
  have hne := g.ne hE
  have xn := g.lt hE
  have kn := g.lt (g.sym hE)
  have ux : upd (upd m x (some k)) k (some x) x = some k := by rw [upd_ne hne, upd_same]
  have uk : upd (upd m x (some k)) k (some x) k = some x := upd_same
  have uo : ∀ {i}, i ≠ x → i ≠ k → upd (upd m x (some k)) k (some x) i = m i := fun a b => by rw [upd_ne b, upd_ne a]
  refine ⟨⟨?_, ?_⟩, ?_, ?_⟩
  · intro i j e
    by_cases e1 : i = x
    · subst e1; rw [ux] at e; cases e; exact uk
    · by_cases e2 : i = k
      · subst e2; rw [uk] at e; cases e; exact ux
      · rw [uo e1 e2] at e
        have hs := hm.sym e
        have q1 : j ≠ x := fun q => by subst q; rw [f1] at hs; cases hs
        have q2 : j ≠ k := fun q => by subst q; rw [f2] at hs; cases hs
        rw [uo q1 q2]; exact hs
  · intro i j e
    by_cases e1 : i = x
    · subst e1; rw [ux] at e; cases e; exact hE
    · by_cases e2 : i = k
      · subst e2; rw [uk] at e; cases e; exact g.sym hE
      · rw [uo e1 e2] at e; exact hm.edge e
  · refine cnt_two kn xn (fun e => hne e.symm) f2 f1 fun i => ?_
    by_cases e1 : i = x
    · subst e1; rw [ux]; simp
    · by_cases e2 : i = k
      · subst e2; rw [uk]; simp
      · rw [uo e1 e2]; simp [e1, e2]
  · intro i j e
    by_cases e1 : i = x
    · exact .inl e1
    · by_cases e2 : i = k
      · exact .inr (.inl e2)
      · rw [uo e1 e2] at e; exact .inr (.inr e)
/-- A matching less one pair. -/
theorem less_pair (g : Gph n E) {E' : Nat → Nat → Prop} (hm : Mt E m) {x k : Nat} (hmx : m x = some k) (hE' : ∀ i j, E i j → i ≠ x → i ≠ k → E' i j) :
    ∃ m', Mt E' m' ∧ cnt n m = cnt n m' + 2 := by
  have hmk := hm.sym hmx
  have hE := hm.edge hmx
  have hne := g.ne hE
  have ux : upd (upd m x none) k none x = none := by rw [upd_ne hne, upd_same]
  have uk : upd (upd m x none) k none k = none := upd_same
  have uo : ∀ {i}, i ≠ x → i ≠ k → upd (upd m x none) k none i = m i := fun a b => by rw [upd_ne b, upd_ne a]
  refine ⟨upd (upd m x none) k none, ⟨?_, ?_⟩, cnt_two (g.lt (g.sym hE)) (g.lt hE) (fun e => hne e.symm) uk ux fun i => ?_⟩
  · intro i j e
    by_cases e1 : i = x
    · subst e1; rw [ux] at e; cases e
    · by_cases e2 : i = k
      · subst e2; rw [uk] at e; cases e
      · rw [uo e1 e2] at e
        have hs' := hm.sym e
        have q1 : j ≠ x := fun q => by subst q; rw [hmx] at hs'; cases hs'; exact e2 rfl
        have q2 : j ≠ k := fun q => by subst q; rw [hmk] at hs'; cases hs'; exact e1 rfl
        rw [uo q1 q2]; exact hs'
  · intro i j e
    by_cases e1 : i = x
    · subst e1; rw [ux] at e; cases e
    · by_cases e2 : i = k
      · subst e2; rw [uk] at e; cases e
      · rw [uo e1 e2] at e; exact hE' i j (hm.edge e) e1 e2
  · by_cases e1 : i = x
    · subst e1; rw [hmx]; simp
    · by_cases e2 : i = k
      · subst e2; rw [hmk]; simp
      · rw [uo e1 e2]; simp [e1, e2]
/-- Pairs in a row. -/
theorem pairs_mt (g : Gph n E) (p : Nat → Nat) {N : Nat} (inj : ∀ i j, i < N → j < N → p i = p j → i = j) (hE : ∀ i, 2 * i + 1 < N → E (p (2 * i)) (p (2 * i + 1))) :
    ∀ k, 2 * k ≤ N → ∃ m, Mt E m ∧ cnt n m = 2 * k ∧ ∀ i j, m i = some j → ∃ q, q < 2 * k ∧ i = p q := by
  intro k
  induction k with
  | zero => intro _; exact ⟨fun _ => none, mt_none, cnt_none fun _ _ => rfl, fun i j e => by cases e⟩
  | succ k ih =>
    intro hk
    obtain ⟨m, h1, h2, h3⟩ := ih (by omega)
    have fr : ∀ q, 2 * k ≤ q → q < N → m (p q) = none := by
      intro q hq hqN
      cases e : m (p q) with
      | none => rfl
      | some j =>
        obtain ⟨q', a, b⟩ := h3 _ _ e
        have := inj q q' hqN (by omega) b
        omega
    obtain ⟨a1, a2, a3⟩ := add_pair g h1 (hE k (by omega)) (fr (2 * k) (Nat.le_refl _) (by omega)) (fr (2 * k + 1) (by omega) (by omega))
    refine ⟨_, a1, by omega, fun i j e => ?_⟩
    rcases a3 i j e with q | q | q
    · exact ⟨2 * k, by omega, q⟩
    · exact ⟨2 * k + 1, by omega, q⟩
    · obtain ⟨q', a, b⟩ := h3 i j q
      exact ⟨q', by omega, b⟩
theorem cnt_le_n : cnt n m ≤ n := by
  unfold cnt
  have := List.length_filter_le (fun i => (m i).isSome) (List.range n)
  rwa [List.length_range] at this
/-- All edges have an end in a list: no more pairs than it is long. -/
theorem cover (hm : Mt E m) {C : List Nat} (hC : ∀ i j, E i j → i ∈ C ∨ j ∈ C) : cnt n m ≤ 2 * C.length := by
  have split : ∀ l : List Nat, (l.filter fun i => (m i).isSome).length = (l.filter fun i => (m i).isSome && decide (i ∈ C)).length + (l.filter fun i => (m i).isSome && !decide (i ∈ C)).length := by
    intro l
    induction l with
    | nil => rfl
    | cons a l ih =>
      cases h1 : (m a).isSome <;> by_cases h2 : a ∈ C <;> simp [h1, h2] <;> omega
  have a1 : ((List.range n).filter fun i => (m i).isSome && decide (i ∈ C)).length ≤ C.length :=
    nodup_len (List.Nodup.sublist List.filter_sublist List.nodup_range) fun x hx => by
      have := (List.mem_filter.1 hx).2
      simp only [Bool.and_eq_true, decide_eq_true_eq] at this
      exact this.2
  have a2 : (((List.range n).filter fun i => (m i).isSome && !decide (i ∈ C)).map fun i => (m i).getD 0).length ≤ C.length := by
    refine nodup_len ?_ fun x hx => ?_
    · rw [List.Nodup, List.pairwise_map]
      refine List.Pairwise.imp_of_mem ?_ (List.Nodup.sublist List.filter_sublist (List.nodup_range (n := n)))
      intro a b ha hb hab e
      have ha := (List.mem_filter.1 ha).2
      have hb := (List.mem_filter.1 hb).2
      simp only [Bool.and_eq_true, Option.isSome_iff_exists] at ha hb
      obtain ⟨⟨x, hx⟩, _⟩ := ha
      obtain ⟨⟨y, hy⟩, _⟩ := hb
      rw [hx, hy] at e
      simp only [Option.getD_some] at e
      subst e
      have h1 := hm.sym hx
      rw [hm.sym hy] at h1; cases h1
      exact hab rfl
    · obtain ⟨i, hi, rfl⟩ := List.mem_map.1 hx
      have hi := (List.mem_filter.1 hi).2
      simp only [Bool.and_eq_true, Option.isSome_iff_exists, Bool.not_eq_true', decide_eq_false_iff_not] at hi
      obtain ⟨⟨y, hy⟩, h2⟩ := hi
      rw [hy]
      rcases hC i y (hm.edge hy) with q | q
      · exact (h2 q).elim
      · exact q
  rw [List.length_map] at a2
  unfold cnt
  rw [split]; omega
/-- A graph numbered otherwise. -/
theorem transport {n' : Nat} {E' : Nat → Nat → Prop} (hm : Mt E m) (g : Gph n E) {f h : Nat → Nat} (fl : ∀ i, i < n → f i < n' ∧ h (f i) = i) (hl : ∀ i, i < n' → h i < n ∧ f (h i) = i) (hE : ∀ a b, E a b → E' (f a) (f b)) :
    ∃ m', Mt E' m' ∧ cnt n m ≤ cnt n' m' := by
  refine ⟨fun i => if i < n' then (m (h i)).map f else none, ⟨?_, ?_⟩, ?_⟩
  · intro i k e
    by_cases hi : i < n'
    · simp only [if_pos hi, Option.map_eq_some_iff] at e
      obtain ⟨a, ha, rfl⟩ := e
      have hb := hm.sym ha
      have hlt := g.lt (hm.edge hb)
      simp only [if_pos (fl a hlt).1, (fl a hlt).2, hb, Option.map_some, (hl i hi).2]
    · simp only [if_neg hi] at e; cases e
  · intro i k e
    by_cases hi : i < n'
    · simp only [if_pos hi, Option.map_eq_some_iff] at e
      obtain ⟨a, ha, rfl⟩ := e
      have := hE _ _ (hm.edge ha)
      rwa [(hl i hi).2] at this
    · simp only [if_neg hi] at e; cases e
  · unfold cnt
    have : (((List.range n).filter fun i => (m i).isSome).map f).length ≤ ((List.range n').filter fun i => (if i < n' then (m (h i)).map f else none).isSome).length := by
      refine nodup_len ?_ fun x hx => ?_
      · rw [List.Nodup, List.pairwise_map]
        refine List.Pairwise.imp_of_mem ?_ (List.Nodup.sublist List.filter_sublist (List.nodup_range (n := n)))
        intro a b ha hb hab e
        have ha := List.mem_range.1 (List.mem_filter.1 ha).1
        have hb := List.mem_range.1 (List.mem_filter.1 hb).1
        have := congrArg h e
        rw [(fl a ha).2, (fl b hb).2] at this
        exact hab this
      · obtain ⟨i, hi, rfl⟩ := List.mem_map.1 hx
        obtain ⟨h1, h2⟩ := List.mem_filter.1 hi
        have h1 := List.mem_range.1 h1
        refine List.mem_filter.2 ⟨List.mem_range.2 (fl i h1).1, ?_⟩
        simp only [if_pos (fl i h1).1, (fl i h1).2, Option.isSome_map]
        exact h2
    rwa [List.length_map] at this
end
end Go.Proofs.Ytjhhicmlflelhaa.Gr
