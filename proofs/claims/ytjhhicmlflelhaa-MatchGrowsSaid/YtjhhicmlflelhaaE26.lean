/- A slice of truth values as an argument. No claim by itself. -/
import Derived.Test.YtjhhicmlflelhaaE25
namespace Go.AI
open Go.ChangeShapes Go.WideShapes Go.Deep
section
variable {H : Type} {enc : TypeId × Value → H} {P : Program} {w : World} {base : Nat} {held : Bool}
theorem arg_bools {t e : TypeId} {fuel : Nat} {a : Option Addr} {len cap : Nat} {x : DataW H × List MemPlace} (o : Nat) (ht : P.underlying t = some (.slice e)) (he : P.underlying e = some .bool) (hc : P.cellsOf e = 1)
    (h : DataW.trod enc P w base (fun _ => true) held fuel t [.slice a len cap] = some x) : ∃ xs av L, xs.length = len ∧ SlArg w o 1 boolc (.slice a len cap) xs av L ∧ Weighs x.1 len := by
  rcases open_bools ht he hc h with ⟨hcs, _⟩ | ⟨a, len, cap, B, hcs, _, hl, _, hxx, hcell⟩
  · simp at hcs; obtain ⟨rfl, rfl, rfl⟩ := hcs
    exact ⟨[], .nils, none, rfl, arg_nil, .inl rfl⟩
  · simp at hcs; obtain ⟨rfl, rfl, rfl⟩ := hcs
    have hlen : ((List.range len).map B).length = len := by simp
    have hfl : ((List.range len).map B).flatMap boolc = ((List.range len).map B).map (fun z => AV.bool z) := by
      generalize (List.range len).map B = l
      induction l with
      | nil => rfl
      | cons z l ih => simp [boolc, ih]
    obtain ⟨L, hL⟩ := arg_cells (w := w) (a := a) (len := len) (cap := cap) (e := 1) (o := o) (cs := ((List.range len).map B).flatMap boolc) hl (by omega) (by rw [hfl, List.length_map, hlen]; omega)
      (fun i hi => ⟨_, hcell i (by omega)⟩) (fun i y hy => by
        rw [hfl, List.getElem?_map] at hy
        cases hq : ((List.range len).map B)[i]? with
        | none => rw [hq] at hy; cases hy
        | some z =>
          rw [hq] at hy; simp at hy; subst hy
          have hi : i < len := by have := (List.getElem?_eq_some_iff.1 hq).1; rwa [hlen] at this
          have hz : B i = z := by simpa [hi] using hq
          refine ⟨_, hcell i (by omega), fun φ => ?_⟩
          rw [hz]; exact .bool _)
    exact ⟨(List.range len).map B, .slc o 0 len 1 len false, L, hlen, ⟨hL, .inr (by rw [hlen])⟩, .inr ⟨_, _, by rw [hxx]; rfl, by simp⟩⟩
end
end Go.AI
