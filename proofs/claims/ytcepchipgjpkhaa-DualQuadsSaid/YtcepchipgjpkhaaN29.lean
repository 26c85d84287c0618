/- The document's Lay: a segment among rising ones. No claim by itself. -/
import Derived.Test.YtcepchipgjpkhaaNF
namespace Go.Proofs.Ytcepchipgjpkhaa
open Go Go.AI
section
variable {H : Heap} {FT : Nat → Option FnD}
structure Ly1 (H Hb H' : Heap) (v v5 : AV) (l : List (Int × Int)) (s : Int × Int) (τ : Env) (k m : Nat) : Prop where
  ex : Ext H H'
  nx : Hb.next ≤ H'.next
  g3 : H'.get H.next = some (.cells (pairc s))
  mi : Mine 2 pairc Hb H' v5 (l.take k)
  lt : ∀ (j : Nat) (x : Int × Int), j < k → l[j]? = some x → ltS x s = true
  le : k ≤ l.length
  hm : m = l.length - k
  t : Tm τ [(0, v), (3, .ptr H.next 0), (5, v5), (6, .int .i64 k)]
theorem ltS_cases (x s : Int × Int) : (x.1 < s.1 ∧ ltS x s = true) ∨ (¬ x.1 < s.1 ∧ x.1 = s.1 ∧ x.2 < s.2 ∧ ltS x s = true) ∨ (¬ x.1 < s.1 ∧ x.1 = s.1 ∧ ¬ x.2 < s.2 ∧ ltS x s = false) ∨ (¬ x.1 < s.1 ∧ ¬ x.1 = s.1 ∧ ltS x s = false) := by
  simp only [ltS, decide_eq_true_eq, decide_eq_false_iff_not]
  omega
def k40m : ACode := subAt [1, 1] A40.body
def k40t : ACode := subAt [1, 1, 1] k40m
end
end Go.Proofs.Ytcepchipgjpkhaa
