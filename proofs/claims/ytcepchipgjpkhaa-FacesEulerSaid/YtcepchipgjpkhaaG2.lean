/- The document's answers on faces: edges, sides and counts, walked. No claim by itself. -/
import Derived.Test.YtcepchipgjpkhaaG1
import Derived.Test.YtcepchipgjpkhaaEG
import Derived.Test.YtcepchipgjpkhaaEH
namespace Go.Proofs.Ytcepchipgjpkhaa
open Go Go.AI
section
variable {FT : Nat → Option FnD} {H : Heap}
structure Fsz (F : List (List Int)) : Prop where
  row : ∀ f, f ∈ F → f.length ≤ 1000000000
  len : F.length ≤ 1000000000
  tot : F.flatten.length ≤ 1000000000
def kin27 : ACode := subAt [1, 1, 1, 1, 0, 1, 0, 0, 1, 0, 0, 1, 1] A27.body
structure Ei1 (H H' : Heap) (v3 : AV) (out : List (Int × Int)) (s : Int × Int) (o : Nat) (x4 x5 x6 : AV) (v8 : AV) (τ : Env) (k m : Nat) : Prop where
  ex : Ext H H'
  mine : Mine 2 pairc H H' v8 (out.take k)
  le : k ≤ out.length
  hm : m = out.length - k
  lt : ∀ (j : Nat) (x : Int × Int), j < k → out[j]? = some x → ltS x s = true
  t : Tm τ [(3, v3), (4, x4), (5, x5), (6, x6), (7, .ptr o 0), (8, v8), (9, .int .i64 k)]
structure Eq1 (H H' : Heap) (out : List (Int × Int)) (x4 x5 x6 v : AV) (τ : Env) : Prop where
  ex : Ext H H'
  row : Rw 2 pairc H' v out
  t : Tm τ [(3, v), (4, x4), (5, x5), (6, x6)]
structure Ed1 (H1 H' : Heap) (vL v3 : AV) (L : List (Int × Int)) (c : Int) (τ : Env) (i m : Nat) : Prop where
  ex : Ext H1 H'
  row : Rw 2 pairc H' v3 (layU ltS [] ((L.take i).map upE))
  le : i ≤ L.length
  hm : m = L.length - i
  z : c ≠ 0 → i = 0
  t : Tm τ [(3, v3), (4, .int .i64 c), (5, vL), (6, .int .i64 i)]
structure Ct1 (H1 H' : Heap) (vF vL : AV) (L : List (Int × Int)) (K : List Int) (τ : Env) (i m : Nat) : Prop where
  eq : H1 = H'
  le : i ≤ L.length
  hm : m = L.length - i
  t : Tm τ [(0, vF), (6, vL), (7, .int .i64 (firsts (K.take i)).length), (8, .int .i64 i)]
structure Ct2 (H1 H' : Heap) (vF vL : AV) (L : List (Int × Int)) (K : List Int) (x : Int) (n : Nat) (τ : Env) (i k m : Nat) : Prop where
  eq : H1 = H'
  le : k ≤ i
  hm : m = i - k
  t : Tm τ [(0, vF), (6, vL), (7, .int .i64 n), (8, .int .i64 i), (9, .bool (decide (x ∉ K.take k))), (10, .int .i64 k)]
end
end Go.Proofs.Ytcepchipgjpkhaa
