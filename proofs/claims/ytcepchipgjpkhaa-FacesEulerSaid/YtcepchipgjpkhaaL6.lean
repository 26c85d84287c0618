/- Sides of edges: the statement FacesSides, walked. No claim by itself. -/
import Derived.Test.YtcepchipgjpkhaaL5
namespace Go.Proofs.Ytcepchipgjpkhaa
open Go Go.AI
section
variable {H : Heap} {FT : Nat → Option FnD}
def k6a : ACode := subAt [1, 1, 1, 1, 0, 1] A6.body
def k6b : ACode := subAt [1, 1, 1, 1, 1, 1, 1, 0, 1] A6.body
def k6c : ACode := subAt [1, 1, 1, 1, 1, 1, 1, 1, 1, 0, 1] A6.body
def k6i : ACode := subAt [0, 0, 1, 0, 0, 1] k6a
def k6j : ACode := subAt [0, 0, 1, 0, 0, 0, 1] k6c
def oneF (F : List (List Int)) (s : Int × Int) : Bool := decide (leftF F s < 0) || decide (leftF F (rev s) < 0)
structure Sd1 (H H' : Heap) (vF v5 : AV) (f : List Int) (i : Nat) (τ : Env) (k m : Nat) : Prop where
  ex : Ext H H'
  le : k ≤ f.length
  hm : m = f.length - k
  t : Tm τ [(1, vF), (5, v5), (7, .int .i64 i), (8, .int .i64 k)]
structure Sd2 (H H' : Heap) (vF v5 : AV) (F : List (List Int)) (τ : Env) (i m : Nat) : Prop where
  ex : Ext H H'
  le : i ≤ F.length
  hm : m = F.length - i
  t : Tm τ [(1, vF), (5, v5), (7, .int .i64 i)]
structure Sb1 (H H' : Heap) (vF v5 vE : AV) (F : List (List Int)) (E : List (Int × Int)) (τ : Env) (i m : Nat) : Prop where
  ex : Ext H H'
  le : i ≤ E.length
  hm : m = E.length - i
  t : Tm τ [(1, vF), (5, v5), (9, vE), (10, .int .i64 ((E.take i).filter (oneF F)).length), (11, .int .i64 i)]
structure Sj1 (H H' : Heap) (vF v5 x10 x14 : AV) (r : List Int) (i : Nat) (τ : Env) (k m : Nat) : Prop where
  ex : Ext H H'
  le : k ≤ r.length
  hm : m = r.length - k
  t : Tm τ [(1, vF), (5, v5), (10, x10), (14, x14), (15, .int .i64 i), (16, .int .i64 k)]
/-- How many places rows have together. -/
def totF (R : List (List Int)) : Nat := R.flatten.length
structure Sc1 (H H' : Heap) (vF v5 x10 : AV) (R : List (List Int)) (τ : Env) (i m : Nat) : Prop where
  ex : Ext H H'
  le : i ≤ R.length
  hm : m = R.length - i
  t : Tm τ [(1, vF), (5, v5), (10, x10), (14, .int .i64 (totF (R.take i))), (15, .int .i64 i)]
end
end Go.Proofs.Ytcepchipgjpkhaa
