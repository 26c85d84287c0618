/- May faces be, and a mesh, as the document asks it. No claim by itself. -/
import Derived.Test.YtacfhbhfgbjleaaDoorFA
namespace Go.Proofs.YtacfhbhfgbjleaaDoor
open Go Go.AI
section
variable {FT : Nat → Option FnD} {H : Heap}
def dn (F : List (List Int)) (i : Nat) (f : List Int) (j : Nat) : List (Int × Int) := (F.take i).flatMap edgesF ++ (edgesF f).take j
structure A1 (H H' : Heap) (vF v : AV) (F : List (List Int)) (τ : Env) (i m : Nat) : Prop where
  bd : Bd 2 pairc H H' v ((F.take i).flatMap edgesF)
  le : i ≤ F.length
  hm : m = F.length - i
  t0 : Env.at τ 0 = vF
  t3 : Env.at τ 3 = v
  t4 : Env.at τ 4 = .int .i64 i
structure A2 (H H' : Heap) (vF v : AV) (F : List (List Int)) (f : List Int) (τ : Env) (i j m : Nat) : Prop where
  bd : Bd 2 pairc H H' v (dn F i f j)
  le : j ≤ f.length
  hm : m = f.length - j
  t0 : Env.at τ 0 = vF
  t3 : Env.at τ 3 = v
  t4 : Env.at τ 4 = .int .i64 i
  t5 : Env.at τ 5 = .int .i64 j
structure B1r (H H' : Heap) (n : Int) (vF : AV) (F : List (List Int)) (τ : Env) (i m : Nat) : Prop where
  eq : H = H'
  le : i ≤ F.length
  hm : m = F.length - i
  ok : fOkTo n F i
  t0 : Env.at τ 0 = .int .i64 n
  t1 : Env.at τ 1 = vF
  t5 : Env.at τ 5 = .int .i64 i
structure B2r (H H' : Heap) (n : Int) (vF : AV) (f : List Int) (τ : Env) (i j m : Nat) : Prop where
  eq : H = H'
  le : j ≤ f.length
  hm : m = f.length - j
  ok : inTo n f j
  t0 : Env.at τ 0 = .int .i64 n
  t1 : Env.at τ 1 = vF
  t5 : Env.at τ 5 = .int .i64 i
  t6 : Env.at τ 6 = .int .i64 j
structure B3r (H H' : Heap) (n : Int) (vF : AV) (f : List Int) (x : Int) (τ : Env) (i j c m : Nat) : Prop where
  eq : H = H'
  le : c ≤ j
  hm : m = j - c
  ok : ∀ d : Nat, d < c → f[d]? ≠ some x
  t0 : Env.at τ 0 = .int .i64 n
  t1 : Env.at τ 1 = vF
  t5 : Env.at τ 5 = .int .i64 i
  t6 : Env.at τ 6 = .int .i64 j
  t7 : Env.at τ 7 = .int .i64 c
def r25a : ACode := subAt [1,1,0] A25.body
def r25b : ACode := subAt [1,1,1,1] A25.body
structure Qr (H H' : Heap) (n : Int) (vF : AV) (F : List (List Int)) (τ : Env) : Prop where
  eq : H = H'
  ok : fOkTo n F F.length
  t1 : Env.at τ 1 = vF
structure C1r (H H' : Heap) (v : AV) (L : List (Int × Int)) (τ : Env) (i m : Nat) : Prop where
  eq : H = H'
  le : i ≤ L.length
  hm : m = L.length - i
  nd : (L.take i).Nodup
  t8 : Env.at τ 8 = v
  t9 : Env.at τ 9 = .int .i64 i
structure C2r (H H' : Heap) (v : AV) (L : List (Int × Int)) (x : Int × Int) (τ : Env) (i c m : Nat) : Prop where
  eq : H = H'
  le : c ≤ i
  hm : m = i - c
  ok : ∀ d : Nat, d < c → L[d]? ≠ some x
  t8 : Env.at τ 8 = v
  t9 : Env.at τ 9 = .int .i64 i
  t10 : Env.at τ 10 = .int .i64 c
def inSome (F : List (List Int)) (i : Int) : Prop := ∃ f, f ∈ F ∧ i ∈ f
instance (F : List (List Int)) (i : Int) : Decidable (inSome F i) := by unfold inSome; infer_instance
def inB (F : List (List Int)) (i : Int) : Bool := decide (inSome F i)
structure D1r (H H' : Heap) (P : List (Int × Int)) (F : List (List Int)) (ob : Nat) (vP vF : AV) (τ : Env) (i m : Nat) : Prop where
  ex : Ext H H'
  go : ∃ W, H'.get ob = some (.cells [vP, .int .i64 W, vF])
  le : i ≤ P.length
  hm : m = P.length - i
  us : ∀ a : Nat, a < i → inSome F a
  fit : fitTo P i
  nd : (P.take i).Nodup
  f4 : 0 < i → ∀ f, f ∈ F → f.length ≤ 4
  t1 : Env.at τ 1 = .ptr ob 0
  t4 : Env.at τ 4 = .int .i64 i
structure D2r (H H' : Heap) (F : List (List Int)) (ob : Nat) (τ : Env) (i k m : Nat) : Prop where
  eq : H = H'
  le : k ≤ F.length
  hm : m = F.length - k
  f4 : ∀ f, f ∈ F.take k → f.length ≤ 4
  t1 : Env.at τ 1 = .ptr ob 0
  t4 : Env.at τ 4 = .int .i64 i
  t5 : Env.at τ 5 = .bool (inB (F.take k) i)
  t6 : Env.at τ 6 = .int .i64 k
structure D3r (H H' : Heap) (F : List (List Int)) (f : List Int) (ob : Nat) (τ : Env) (i k j m : Nat) : Prop where
  eq : H = H'
  le : j ≤ f.length
  hm : m = f.length - j
  t1 : Env.at τ 1 = .ptr ob 0
  t4 : Env.at τ 4 = .int .i64 i
  t5 : Env.at τ 5 = .bool (inB (F.take k ++ [f.take j]) i)
  t6 : Env.at τ 6 = .int .i64 k
  t7 : Env.at τ 7 = .int .i64 j
structure D4r (H H' : Heap) (P : List (Int × Int)) (x : Int × Int) (ob : Nat) (τ : Env) (i c m : Nat) : Prop where
  eq : H = H'
  le : c ≤ i
  hm : m = i - c
  ok : ∀ d : Nat, d < c → P[d]? ≠ some x
  t1 : Env.at τ 1 = .ptr ob 0
  t4 : Env.at τ 4 = .int .i64 i
  t8 : Env.at τ 8 = .int .i64 c
def r14l : ACode := subAt [1,1,1,0] A14.body
def r14e : ACode := subAt [1,1,1,0,1,0,0,1,0,0,1,0] A14.body
end
end Go.Proofs.YtacfhbhfgbjleaaDoor

/- May a mesh be, as the document asks it: the whole. No claim by itself. -/
namespace Go.Proofs.YtacfhbhfgbjleaaDoor
open Go Go.AI
section
variable {FT : Nat → Option FnD} {H : Heap}
structure Qg (H H' : Heap) (P : List (Int × Int)) (F : List (List Int)) : Prop where
  ex : Ext H H'
  us : ∀ a : Nat, a < P.length → inSome F a
  fit : ∀ p, p ∈ P → fitP p
  nd : P.Nodup
  f4 : 0 < P.length → ∀ f, f ∈ F → f.length ≤ 4
abbrev H14 (FT : Nat → Option FnD) : Prop := FT 14 = some (.code A14) ∧ FT 25 = some (.code A25) ∧ FT 43 = some (.code A43) ∧ FT 26 = some (.code A26)
end
end Go.Proofs.YtacfhbhfgbjleaaDoor
