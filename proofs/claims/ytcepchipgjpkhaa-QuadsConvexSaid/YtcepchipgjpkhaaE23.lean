/- Slices of items, read. No claim by itself. -/
import Derived.Test.YtcepchipgjpkhaaE22
namespace Go.AI
def Sl {α : Type} (e : Nat) (enc : α -> List AV) (H : Heap) (v : AV) (xs : List α) : Prop :=
 (v = .nils /\ xs = []) \/ ∃ o off lo ex cs, v = .slc o off xs.length e lo ex /\ H.cellsAt o = some cs /\ ∀ i x, xs[i]? = some x -> seg cs (off + i * e) e = some (enc x)
theorem Sl.len {α : Type} {e : Nat} {enc : α -> List AV} {H : Heap} {v : AV} {xs : List α} (h : Sl e enc H v xs) : lenA v = some (.int .i64 xs.length) := by
 rcases h with ⟨rfl, rfl⟩ | ⟨o, off, lo, ex, cs, rfl, _, _⟩ <;> rfl
theorem zb25 {cs : List AV} {off : Nat} {x : AV} (h : seg cs off 1 = some [x]) : cs[off]? = some x := by
 unfold seg at h
 cases hb : Nat.ble (off + 1) cs.length with
 | false => rw [hb] at h; cases h
 | true =>
  rw [hb] at h; simp only [cond_true, Option.some.injEq] at h
  have := congrArg (fun l => l[0]?) h
  simpa using this
theorem Sl.idx {α : Type} {e : Nat} {enc : α -> List AV} {H : Heap} {v : AV} {xs : List α} (h : Sl e enc H v xs) {k : IntKind} {i : Int} (h0 : 0 <= i) (h1 : i < xs.length) :
  ∃ p x, xs[i.toNat]? = some x /\ zd7 e v (.int k i) = some p /\ za9 H (some e) p = some (.agg (enc x)) /\ ∀ a, e = 1 -> enc x = [a] -> za9 H none p = some a := by
 rcases h with ⟨rfl, rfl⟩ | ⟨o, off, lo, ex, cs, rfl, hc, hx⟩
 ·simp at h1; omega
 ·have hl : i.toNat < xs.length := by omega
  have hg : xs[i.toNat]? = some xs[i.toNat] := List.getElem?_eq_getElem hl
  have hs := hx _ _ hg
  refine ⟨.ptr o (off + i.toNat * e), _, hg, by simp only [zf2, h0, h1, and_self, if_true], ?_, fun a he ha => ?_⟩
  ·simp [ze3, hc, ze2, hs]
  ·subst he
   rw [ha] at hs
   have := zb25 hs
   simpa [ze3, hc, ze2] using this
def zi7 (n : Int) : List AV := [.int .i64 n]
def za2 (p : Int × Int) : List AV := [.int .i64 p.1, .int .i64 p.2]
abbrev Ints := Sl 1 zi7
abbrev zh3 := Sl 2 za2
theorem Ints.idx {H : Heap} {v : AV} {xs : List Int} (h : Ints H v xs) {k : IntKind} {i : Int} (h0 : 0 <= i) (h1 : i < xs.length) :
  ∃ p x, xs[i.toNat]? = some x /\ zd7 1 v (.int k i) = some p /\ za9 H none p = some (.int .i64 x) := by
 obtain ⟨p, x, a, b, _, d⟩ := Sl.idx h (k := k) h0 h1; exact ⟨p, x, a, b, d _ rfl rfl⟩
end Go.AI
