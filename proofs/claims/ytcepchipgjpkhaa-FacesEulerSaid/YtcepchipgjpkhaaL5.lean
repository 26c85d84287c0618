/- Faces in another order: the statement FacesOrder, walked. No claim by itself. -/
import Derived.Test.YtcepchipgjpkhaaL2
namespace Go.Proofs.Ytcepchipgjpkhaa
open Go Go.AI
section
variable {H : Heap} {FT : Nat → Option FnD}
def k5a : ACode := subAt [1, 1, 1, 1, 0, 1] A5.body
def k5b : ACode := subAt [1, 1, 1, 1, 1, 1, 1, 1, 1, 1, 1, 1, 1, 1, 0, 1] A5.body
def k5j : ACode := subAt [0, 0, 1, 0, 0, 1] k5b
def k5t : ACode := subAt [0, 0, 1, 0, 0, 1, 1, 1, 1] k5a
structure Or1 (H H' : Heap) (n : Int) (vF vB v10 : AV) (F G : List (List Int)) (k : Nat) (τ : Env) (i m : Nat) : Prop where
  ex : Ext H H'
  rows : AI.Rows H H' v10 G
  len : G.length = i
  rot : ∀ (j : Nat) (g : List Int), G[j]? = some g → ∃ a b, F[(j + k) % F.length]? = some (a ++ b) ∧ g = b ++ a
  le : i ≤ F.length
  hm : m = F.length - i
  t : Tm τ [(0, .int .i64 n), (1, vF), (3, vB), (9, .int .i64 k), (10, v10), (11, .int .i64 i)]
structure OrQ (H H' : Heap) (n : Int) (vF v10 : AV) (F G : List (List Int)) (k : Nat) (τ : Env) : Prop where
  ex : Ext H H'
  gd : Gd H' v10 G
  rot : FRot k F G
  t : Tm τ [(0, .int .i64 n), (1, vF), (9, .int .i64 k), (10, v10)]
structure OrT (H H' : Heap) (n : Int) (vF vB v10 : AV) (G : List (List Int)) (k i : Nat) (τ : Env) : Prop where
  ex : Ext H H'
  rows : AI.Rows H H' v10 G
  t : Tm τ [(0, .int .i64 n), (1, vF), (3, vB), (9, .int .i64 k), (10, v10), (11, .int .i64 i)]
structure Oj1 (H H' : Heap) (vF vp vq : AV) (P : List Int) (k i : Nat) (τ : Env) (j m : Nat) : Prop where
  eq : H = H'
  le : j ≤ P.length
  hm : m = P.length - j
  t : Tm τ [(1, vF), (9, .int .i64 k), (25, vp), (26, vq), (27, .int .i64 i), (28, .int .i64 j)]
structure Oi1 (H H' : Heap) (vF vp vq : AV) (P : List Int) (k : Nat) (τ : Env) (i m : Nat) : Prop where
  eq : H = H'
  le : i ≤ P.length
  hm : m = P.length - i
  t : Tm τ [(1, vF), (9, .int .i64 k), (25, vp), (26, vq), (27, .int .i64 i)]
/-- Two lists of parts say the same, the second one turned. -/
structure Alike (l k : Nat) (P Q : List Int) : Prop where
  len : Q.length = P.length
  lp : P = [] ∨ P.length = l
  eq : ∀ {i j : Nat} {x y z w : Int}, P[i]? = some x → P[j]? = some y → Q[(i + l - k) % l]? = some z → Q[(j + l - k) % l]? = some w → (x = y ↔ z = w)
theorem wrapU {n : Int} (h0 : 0 ≤ n) (h1 : n ≤ 9223372036854775807) : IntKind.wrap .u64 n = n := by
  unfold IntKind.wrap
  simp [IntKind.bits, IntKind.signed]
  omega
theorem wrapU_nn (n : Int) : 0 ≤ IntKind.wrap .u64 n := by
  unfold IntKind.wrap
  simp [IntKind.bits, IntKind.signed]
  omega
theorem turn_mod (t : Int) {l : Nat} (h : 0 < l) (hl : l ≤ 1000000000) : ∃ k : Nat, k < l ∧ IntKind.i64.wrap ((IntKind.u64.wrap t).tmod (IntKind.u64.wrap (l : Int))) = k := by
  rw [wrapU (n := (l : Int)) (by omega) (by omega), Int.tmod_eq_emod_of_nonneg (wrapU_nn t)]
  have h1 : 0 ≤ IntKind.u64.wrap t % (l : Int) := Int.emod_nonneg _ (by omega)
  have h2 : IntKind.u64.wrap t % (l : Int) < l := Int.emod_lt_of_pos _ (by omega)
  exact ⟨(IntKind.u64.wrap t % (l : Int)).toNat, by omega, by rw [wrap64 (by omega) (by omega)]; omega⟩
end
end Go.Proofs.Ytcepchipgjpkhaa
