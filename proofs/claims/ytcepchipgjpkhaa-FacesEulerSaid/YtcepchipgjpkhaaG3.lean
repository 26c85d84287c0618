/- The document's rims of faces, walked. No claim by itself. -/
import Derived.Test.YtcepchipgjpkhaaG2
import Derived.Test.YtcepchipgjpkhaaEH
namespace Go.Proofs.Ytcepchipgjpkhaa
open Go Go.AI
section
variable {FT : Nat → Option FnD} {H : Heap}
/-! ### The rim edges -/
def k31a : ACode := subAt [1, 1, 1, 1, 1, 0, 1] A31.body
def k31b : ACode := subAt [1, 1, 1, 1, 1, 1, 0, 1] A31.body
def k31c : ACode := subAt [1, 1, 1, 1, 1, 1, 1, 1, 1, 0, 0, 0, 1, 0, 1] A31.body
def k31d : ACode := subAt [1, 1, 1, 1, 1, 1, 1, 1, 1, 0, 0, 0, 1, 1, 1, 1, 0] A31.body
def k31e : ACode := subAt [1, 1, 1, 1, 1, 1, 1, 1, 1, 0, 0, 0, 1, 1, 1, 1, 0, 0, 0, 1, 0, 1, 1, 1, 1, 1] A31.body
structure Ra1 (H H' : Heap) (vF vL v8 : AV) (L : List (Int × Int)) (τ : Env) (i m : Nat) : Prop where
  ex : Ext H H'
  mine : Mine 2 pairc H H' v8 ((L.take i).filter fun s => decide (rev s ∉ L))
  le : i ≤ L.length
  hm : m = L.length - i
  t : Tm τ [(1, vF), (7, vL), (8, v8), (9, .int .i64 i)]
structure Ra2 (H H' : Heap) (vF vL v8 : AV) (L : List (Int × Int)) (s : Int × Int) (τ : Env) (i k m : Nat) : Prop where
  eq : H = H'
  le : k ≤ L.length
  hm : m = L.length - k
  t : Tm τ [(1, vF), (7, vL), (8, v8), (9, .int .i64 i), (10, .bool (decide (rev s ∈ L.take k))), (11, .int .i64 k)]
structure Rqa (H H' : Heap) (vF v8 : AV) (M : List (Int × Int)) (τ : Env) : Prop where
  ex : Ext H H'
  mine : Mine 2 pairc H H' v8 M
  t : Tm τ [(1, vF), (8, v8)]
/-! ### No place twice -/
structure Rb1 (H H' : Heap) (v8 : AV) (M : List (Int × Int)) (τ : Env) (i m : Nat) : Prop where
  eq : H = H'
  le : i ≤ M.length
  hm : m = M.length - i
  nd : ((keys M).take i).Nodup
  t : Tm τ [(8, v8), (12, .int .i64 i)]
structure Rb2 (H H' : Heap) (v8 : AV) (M : List (Int × Int)) (x : Int) (τ : Env) (i k m : Nat) : Prop where
  eq : H = H'
  le : k ≤ i
  hm : m = i - k
  ok : ∀ d : Nat, d < k → (keys M)[d]? ≠ some x
  t : Tm τ [(8, v8), (12, .int .i64 i), (13, .int .i64 k)]
structure Rqb (H H' : Heap) (v8 : AV) (M : List (Int × Int)) (c : Sig) (τ : Env) : Prop where
  eq : H = H'
  or : (c = .next ∧ (keys M).Nodup ∧ Tm τ [(8, v8)]) ∨ (c = .ret ∧ ¬ (keys M).Nodup ∧ Tm τ [(4, .nils), (5, .int .i64 81)])
theorem keys_len (M : Nx) : (keys M).length = M.length := by unfold keys; simp
/-! ### Those that are left -/
/-- The edges that are not used. -/
def remU : List (Int × Int) → List Bool → Nx
  | s :: M, u :: U => if u = true then remU M U else s :: remU M U
  | _, _ => []
/-- The least one that is not used, up to a place. -/
def Best (M : List (Int × Int)) (U : List Bool) (j : Nat) (b : Int) : Prop :=
  (b = -1 ∧ ∀ i : Nat, i < j → U[i]? = some true) ∨ ∃ (k : Nat) (s : Int × Int), b = k ∧ k < j ∧ M[k]? = some s ∧ U[k]? = some false ∧ ∀ (i : Nat) (r : Int × Int), i < j → M[i]? = some r → U[i]? = some false → s.1 ≤ r.1
structure Rc1 (H H' : Heap) (v8 v15 : AV) (x14 : AV) (M : List (Int × Int)) (U : List Bool) (b : Int) (τ : Env) (j m : Nat) : Prop where
  eq : H = H'
  le : j ≤ M.length
  hm : m = M.length - j
  best : Best M U j b
  t : Tm τ [(8, v8), (14, x14), (15, v15), (16, .int .i64 b), (17, .int .i64 j)]
structure Rqc (H H' : Heap) (v8 v15 x14 : AV) (M : List (Int × Int)) (U : List Bool) (b : Int) (τ : Env) : Prop where
  eq : H = H'
  best : Best M U M.length b
  t : Tm τ [(8, v8), (14, x14), (15, v15), (16, .int .i64 b)]
/-- The next one on a way. -/
def Nxt (M : List (Int × Int)) (U : List Bool) (to : Int) (j : Nat) (b : Int) : Prop :=
  (b = -1 ∧ ∀ (i : Nat) (r : Int × Int), i < j → M[i]? = some r → U[i]? = some false → r.1 ≠ to) ∨ ∃ (k : Nat) (s : Int × Int), b = k ∧ k < j ∧ M[k]? = some s ∧ U[k]? = some false ∧ s.1 = to
structure Re1 (H H' : Heap) (v8 v15 v18 x14 : AV) (M : List (Int × Int)) (U : List Bool) (to b : Int) (τ : Env) (j m : Nat) : Prop where
  eq : H = H'
  le : j ≤ M.length
  hm : m = M.length - j
  nx : Nxt M U to j b
  t : Tm τ [(8, v8), (14, x14), (15, v15), (18, v18), (16, .int .i64 b), (19, .int .i64 to), (20, .int .i64 j)]
structure Rqe (H H' : Heap) (v8 v15 v18 x14 : AV) (M : List (Int × Int)) (U : List Bool) (to b : Int) (τ : Env) : Prop where
  eq : H = H'
  nx : Nxt M U to M.length b
  t : Tm τ [(8, v8), (14, x14), (15, v15), (18, v18), (16, .int .i64 b)]
/-- Where a way stands: at a place, or at its end. -/
def Way (M : List (Int × Int)) (U : List Bool) (b : Int) (ring R : List Int) (N : Nx) : Prop :=
  (b = -1 ∧ ring = R ∧ remU M U = N) ∨ ∃ (k : Nat) (s : Int × Int), b = k ∧ M[k]? = some s ∧ U[k]? = some false ∧ ring ++ (goes (remU M U) s.1).1 = R ∧ (goes (remU M U) s.1).2 = N
structure Rd1 (H H' : Heap) (v8 v15 v18 x14 : AV) (o15 : Nat) (M : List (Int × Int)) (U : List Bool) (ring R : List Int) (N : Nx) (b : Int) (τ : Env) (m : Nat) : Prop where
  fr : Fr [o15] H H'
  arr : Arr boolV H' v15 o15 U
  ul : U.length = M.length
  mine : Mine 1 i64c H H' v18 ring
  rl : ring.length + (remU M U).length ≤ M.length
  way : Way M U b ring R N
  hm : m = (remU M U).length
  t : Tm τ [(8, v8), (14, x14), (15, v15), (18, v18), (16, .int .i64 b)]
structure Rqd (H H' : Heap) (v8 v15 v18 x14 : AV) (o15 : Nat) (M : List (Int × Int)) (U : List Bool) (R : List Int) (N : Nx) (τ : Env) : Prop where
  fr : Fr [o15] H H'
  arr : Arr boolV H' v15 o15 U
  ul : U.length = M.length
  mine : Mine 1 i64c H H' v18 R
  rl : R.length ≤ M.length
  rem : remU M U = N
  t : Tm τ [(8, v8), (14, x14), (15, v15), (18, v18)]
structure Rm1 (Hb H' : Heap) (v8 v14 v15 : AV) (o15 : Nat) (M : List (Int × Int)) (U : List Bool) (out R : List (List Int)) (τ : Env) (m : Nat) : Prop where
  fr : Fr [o15] Hb H'
  arr : Arr boolV H' v15 o15 U
  ul : U.length = M.length
  rows : AI.Rows Hb H' v14 out
  rl : out.length + (remU M U).length ≤ M.length
  ok : out ++ ringsF (srtI (keys M)) (remU M U) = R
  hm : m = (remU M U).length
  t : Tm τ [(8, v8), (14, v14), (15, v15)]
def rimsR (n : Int) (F : List (List Int)) (H' : Heap) (r : AV) : Prop :=
  (chkF n F ≠ 0 ∧ r = .tup [.nils, .int .i64 (chkF n F)]) ∨ (chkF n F = 0 ∧ ¬ (keys (rimE (allE F))).Nodup ∧ r = .tup [.nils, .int .i64 81]) ∨ (chkF n F = 0 ∧ (keys (rimE (allE F))).Nodup ∧ ∃ v, r = .tup [v, .int .i64 0] ∧ Gd H' v (rimsF (allE F)))
end
end Go.Proofs.Ytcepchipgjpkhaa
