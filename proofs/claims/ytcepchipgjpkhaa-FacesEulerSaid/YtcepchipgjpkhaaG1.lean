/- May faces be, and a mesh, as the document asks it. No claim by itself. -/
import Derived.Test.YtcepchipgjpkhaaF2
namespace Go.Proofs.Ytcepchipgjpkhaa
open Go Go.AI
section
variable {FT : Nat → Option FnD} {H : Heap}
theorem flat_edges (F : List (List Int)) : (F.flatMap edgesF).length = F.flatten.length := by
  induction F with
  | nil => rfl
  | cons f F ih => simp [edgesF_len, ih]
def dn (F : List (List Int)) (i : Nat) (f : List Int) (j : Nat) : List (Int × Int) := (F.take i).flatMap edgesF ++ (edgesF f).take j
structure A1 (H H' : Heap) (vF v : AV) (F : List (List Int)) (τ : Env) (i m : Nat) : Prop where
  bd : Bd 2 pairc H H' v ((F.take i).flatMap edgesF)
  le : i ≤ F.length
  hm : m = F.length - i
  t0 : Env.at τ 0 = vF
  t3 : Env.at τ 3 = v
  t4 : Env.at τ 4 = .int .i64 i
structure A2 (H H' : Heap) (vF v : AV) (F : List (List Int)) (f : List Int) (τ : Env) (i j m : Nat) : Prop where
  bd : Bd 2 pairc H H' v (dn F i f j)
  le : j ≤ f.length
  hm : m = f.length - j
  t0 : Env.at τ 0 = vF
  t3 : Env.at τ 3 = v
  t4 : Env.at τ 4 = .int .i64 i
  t5 : Env.at τ 5 = .int .i64 j
structure B1r (H H' : Heap) (n : Int) (vF : AV) (F : List (List Int)) (τ : Env) (i m : Nat) : Prop where
  eq : H = H'
  le : i ≤ F.length
  hm : m = F.length - i
  ok : fOkTo n F i
  t0 : Env.at τ 0 = .int .i64 n
  t1 : Env.at τ 1 = vF
  t5 : Env.at τ 5 = .int .i64 i
structure B2r (H H' : Heap) (n : Int) (vF : AV) (f : List Int) (τ : Env) (i j m : Nat) : Prop where
  eq : H = H'
  le : j ≤ f.length
  hm : m = f.length - j
  ok : inTo n f j
  t0 : Env.at τ 0 = .int .i64 n
  t1 : Env.at τ 1 = vF
  t5 : Env.at τ 5 = .int .i64 i
  t6 : Env.at τ 6 = .int .i64 j
structure B3r (H H' : Heap) (n : Int) (vF : AV) (f : List Int) (x : Int) (τ : Env) (i j c m : Nat) : Prop where
  eq : H = H'
  le : c ≤ j
  hm : m = j - c
  ok : ∀ d : Nat, d < c → f[d]? ≠ some x
  t0 : Env.at τ 0 = .int .i64 n
  t1 : Env.at τ 1 = vF
  t5 : Env.at τ 5 = .int .i64 i
  t6 : Env.at τ 6 = .int .i64 j
  t7 : Env.at τ 7 = .int .i64 c
def r25a : ACode := subAt [1,1,0] A25.body
def r25b : ACode := subAt [1,1,1,1] A25.body
structure Qr (H H' : Heap) (n : Int) (vF : AV) (F : List (List Int)) (τ : Env) : Prop where
  eq : H = H'
  ok : fOkTo n F F.length
  t1 : Env.at τ 1 = vF
structure C1r (H H' : Heap) (v : AV) (L : List (Int × Int)) (τ : Env) (i m : Nat) : Prop where
  eq : H = H'
  le : i ≤ L.length
  hm : m = L.length - i
  nd : (L.take i).Nodup
  t8 : Env.at τ 8 = v
  t9 : Env.at τ 9 = .int .i64 i
structure C2r (H H' : Heap) (v : AV) (L : List (Int × Int)) (x : Int × Int) (τ : Env) (i c m : Nat) : Prop where
  eq : H = H'
  le : c ≤ i
  hm : m = i - c
  ok : ∀ d : Nat, d < c → L[d]? ≠ some x
  t8 : Env.at τ 8 = v
  t9 : Env.at τ 9 = .int .i64 i
  t10 : Env.at τ 10 = .int .i64 c
end
end Go.Proofs.Ytcepchipgjpkhaa
