/- Faces of some places, and others of others: the statement FacesJoin, walked. No claim by itself. -/
import Derived.Test.YtcepchipgjpkhaaL7
namespace Go.Proofs.Ytcepchipgjpkhaa
open Go Go.AI
section
variable {H : Heap} {FT : Nat → Option FnD}
def k9a : ACode := subAt [1, 1, 1, 0, 1] A9.body
def k9b : ACode := subAt [1, 1, 1, 1, 1, 1, 1, 1, 1, 1, 1, 1, 0, 1] A9.body
def k9c : ACode := subAt [1, 1, 1, 1, 1, 1, 1, 1, 1, 1, 1, 1, 1, 0, 1] A9.body
def k9i : ACode := subAt [0, 0, 1, 0, 0, 1, 0, 1] k9a
structure Jn1 (H H' : Heap) (n : Int) (vF vG v7 v9 : AV) (g : List Int) (i : Nat) (τ : Env) (k m : Nat) : Prop where
  ex : Ext H H'
  mi : Mine 1 i64c H H' v9 ((g.take k).map (· + n))
  le : k ≤ g.length
  hm : m = g.length - k
  t : Tm τ [(0, .int .i64 n), (1, vF), (2, vG), (7, v7), (8, .int .i64 i), (9, v9), (10, .int .i64 k)]
structure JnQ (H H' : Heap) (n : Int) (vF vG v7 v9 : AV) (g : List Int) (i : Nat) (τ : Env) : Prop where
  ex : Ext H H'
  mi : Mine 1 i64c H H' v9 (g.map (· + n))
  t : Tm τ [(0, .int .i64 n), (1, vF), (2, vG), (7, v7), (8, .int .i64 i), (9, v9)]
structure Jn2 (H H' : Heap) (n : Int) (vF vG v7 : AV) (F G : List (List Int)) (τ : Env) (i m : Nat) : Prop where
  ex : Ext H H'
  rows : AI.Rows H H' v7 (F ++ shiftF n (G.take i))
  le : i ≤ G.length
  hm : m = G.length - i
  t : Tm τ [(0, .int .i64 n), (1, vF), (2, vG), (7, v7), (8, .int .i64 i)]
structure JnR (H H' : Heap) (n : Int) (vF vG v7 : AV) (F G : List (List Int)) (τ : Env) : Prop where
  ex : Ext H H'
  gd : Gd H' v7 (F ++ shiftF n G)
  t : Tm τ [(0, .int .i64 n), (1, vF), (2, vG), (7, v7)]
structure Jb1 (H H' : Heap) (vF vG vP vQ vR : AV) (P : List Int) (τ : Env) (i m : Nat) : Prop where
  eq : H = H'
  le : i ≤ P.length
  hm : m = P.length - i
  t : Tm τ [(1, vF), (2, vG), (20, vP), (21, vQ), (22, vR), (23, .int .i64 (topI (P.take i))), (24, .int .i64 i)]
structure Jc1 (H H' : Heap) (vF vG vQ vR : AV) (t : Int) (Q : List Int) (τ : Env) (i m : Nat) : Prop where
  eq : H = H'
  le : i ≤ Q.length
  hm : m = Q.length - i
  t : Tm τ [(1, vF), (2, vG), (21, vQ), (22, vR), (23, .int .i64 t), (25, .int .i64 i)]
theorem known_then (T : LawT FT) (hw : H.Wf) {K : AV → Heap → Prop} (hk : ∀ r H2, r = .bool true → K r H2) : Cp FT 18 [] H K := (known18 T hw).mono fun r H2 h => hk r H2 h.1
end
end Go.Proofs.Ytcepchipgjpkhaa
