/- A word's number, as the document reads it. No claim by itself. -/
import Derived.Test.YtacfhbhfgbjleaaDoorDA
import Derived.Test.YtacfhbhfgbjleaaDoorC6
namespace Go.Proofs.YtacfhbhfgbjleaaDoor
open Go Go.AI
theorem NumR.up {H : Heap} {v : AV} {m : Bool} {ds : List Nat} (h : NumR H v m ds) : NumR H.up v m ds := ⟨h.dg, h.nm, h.len, h.at_⟩
theorem NumR.fl {H : Heap} {v : AV} {m : Bool} {ds : List Nat} {f : Nat} (h : NumR H v m ds) : NumR { H with floor := f } v m ds := ⟨h.dg, h.nm, h.len, h.at_⟩
theorem NumR.cells {H : Heap} {v : AV} {m : Bool} {ds : List Nat} (h : NumR H v m ds) : ∃ u, v = .agg [.bool m, u] ∧ allOne [AV.bool m, u] = true := by
  obtain ⟨_, _, _, u, rfl, _, hu⟩ := h
  exact ⟨u, rfl, by simp [allOne_of hu.one.1]⟩
section
variable {FT : Nat → Option FnD} {H : Heap}
end
/-! ### Plain facts of decimal digits -/
def okC (i b : Nat) : Bool := isDg b || (decide (i = 0) && decide (b = 45))
theorem digV_foldl (l : List Nat) (n : Nat) : l.foldl (fun n d => 10 * n + (d - 48)) n = 10 ^ l.length * n + digV l := by
  induction l generalizing n with
  | nil => simp [digV]
  | cons d l ih =>
    unfold digV
    simp only [List.foldl_cons, List.length_cons]
    rw [ih, ih (10 * 0 + (d - 48))]
    rw [Nat.pow_succ, Nat.mul_add, Nat.mul_zero, Nat.zero_add, Nat.mul_assoc, Nat.add_assoc]
theorem digV_append (a b : List Nat) : digV (a ++ b) = 10 ^ b.length * digV a + digV b := by
  rw [digV, List.foldl_append]; exact digV_foldl b _
theorem digV_cons (d : Nat) (l : List Nat) : digV (d :: l) = 10 ^ l.length * (d - 48) + digV l := by
  have := digV_append [d] l
  simpa [digV] using this
theorem digV_ge {d : Nat} {l : List Nat} (h : 48 < d) : 10 ^ l.length ≤ digV (d :: l) := by
  rw [digV_cons]
  have : 10 ^ l.length * 1 ≤ 10 ^ l.length * (d - 48) := Nat.mul_le_mul_left _ (by omega)
  omega
section
variable {FT : Nat → Option FnD} {H : Heap}
/-- A number stays when an object that holds a number is written. -/
theorem NumR.store {H H' : Heap} {o : Nat} {b b' : Bool} {w w' v : AV} {m : Bool} {ds : List Nat} (h : NumR H v m ds) (g : H.get o = some (.cells [.bool b, w])) (g' : H'.get o = some (.cells [.bool b', w'])) (hw : ∀ k n, w ≠ .int k n) (k : Fr [o] H H') : NumR H' v m ds := by
  obtain ⟨a1, a2, a3, u, a4, a5, hu⟩ := h
  refine ⟨a1, a2, a3, u, a4, a5, ?_⟩
  rcases hu with hu | ⟨q, off, lo, ex, cs, rfl, hc, hx⟩
  · exact .inl hu
  · by_cases hq : q = o
    · subst hq
      have hcs : cs = [.bool b, w] := by rw [cellsAt_get g] at hc; exact (Option.some.inj hc).symm
      subst hcs
      cases ds with
      | nil => exact .inr ⟨q, off, lo, ex, _, rfl, cellsAt_get g', fun i x hi => by simp at hi⟩
      | cons d ds =>
        exfalso
        have h0 := hx 0 d rfl
        have h1 := seg_one (x := .int .i64 (d : Int)) h0
        simp only [Nat.zero_mul, Nat.add_zero] at h1
        match off, h1 with
        | 0, h1 => simp at h1
        | 1, h1 => simp at h1; exact hw _ _ h1
        | n + 2, h1 => simp at h1
    · exact .inr ⟨q, off, lo, ex, cs, rfl, cellsAt_get (k.keep _ _ (by simp [hq]) (get_cellsAt hc)), hx⟩
def r36a : ACode := subAt [1,1] A62.body
def r36l : ACode := subAt [1,1,1,1,1] A62.body
def r36b : ACode := subAt [1,1,1,1,1,1,1] A62.body
def r36c : ACode := subAt [1,1,1,1,1,1,1,1] A62.body
def r36k : ACode := subAt [1,1,1,1] A62.body
structure Lp3 (d s : List Nat) (H : Heap) (n : Nat) (τ : Env) (H' : Heap) : Prop where
  hh : H' = H
  ri : ∃ i : Nat, i ≤ d.length ∧ n = d.length - i ∧ Env.at τ 0 = .str s ∧ Env.at τ 7 = .str d ∧ Env.at τ 10 = .int .i64 (digV (d.take i)) ∧ Env.at τ 11 = .int .i64 i
structure Lp2 (H : Heap) (d s : List Nat) (most : Int) (n : Nat) (τ : Env) (H' : Heap) : Prop where
  ex : Fr [H.next] (H.push (.cells [.bool false, .nils])) H'
  ri : ∃ (i : Nat) (u : AV) (ds : List Nat), i ≤ d.length ∧ i ≤ 30 ∧ n = d.length - i ∧ H'.get H.next = some (.cells [.bool false, u]) ∧ NumR H' (.agg [.bool false, u]) false ds ∧ dval ds = digV (d.take i) ∧ 
    Env.at τ 0 = .str s ∧ Env.at τ 1 = .int .i64 most ∧ Env.at τ 7 = .str d ∧ Env.at τ 8 = .ptr H.next 0 ∧ Env.at τ 9 = .int .i64 i
/-- All characters so far are such as a number may have. -/
def okTo (s : List Nat) (i : Nat) : Prop := ∀ j b, j < i → s[j]? = some b → okC j b = true
structure Lp1 (H : Heap) (s : List Nat) (most : Int) (n : Nat) (τ : Env) (H' : Heap) : Prop where
  hh : H' = H
  ri : ∃ i : Nat, i ≤ s.length ∧ n = s.length - i ∧ okTo s i ∧ Env.at τ 0 = .str s ∧ Env.at τ 1 = .int .i64 most ∧ Env.at τ 6 = .int .i64 i
end
end Go.Proofs.YtacfhbhfgbjleaaDoor
