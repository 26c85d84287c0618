/- The document's parts of faces, walked. No claim by itself. -/
import Derived.Test.YtcepchipgjpkhaaG3
namespace Go.Proofs.Ytcepchipgjpkhaa
open Go Go.AI
section
variable {FT : Nat → Option FnD} {H : Heap}
def k34a : ACode := subAt [1, 1, 1, 1, 0, 1] A34.body
def k34b : ACode := subAt [1, 1, 1, 1, 1, 0, 1] A34.body
def k34i : ACode := subAt [0, 0, 1, 0, 0, 1] k34b
def k34k : ACode := subAt [0, 0, 1, 0, 0, 1] k34i
def k34j : ACode := subAt [0, 0, 1, 0, 0, 1, 1, 1] k34k
def k34n : ACode := subAt [1, 1, 1, 1, 1, 1, 1, 1, 0, 1] A34.body
def k34m : ACode := subAt [1, 1, 1, 1, 1, 1, 1, 1, 1, 0, 1] A34.body
/-- Faces that stay while one row is written. -/
structure Sit (H Hb : Heap) (vF : AV) (F : List (List Int)) (o : Nat) : Prop where
  wf : H.Wf
  gd : Gd H vF F
  sz : Fsz F
  ex : Ext H Hb
  no : H.next ≤ o
theorem Sit.extAt {H Hb H' : Heap} {vF : AV} {F : List (List Int)} {o : Nat} (s : Sit H Hb vF F o) (f : Fr [o] Hb H') : Ext H H' :=
  ext_fr s.wf s.ex f (fun p hp => by simp at hp; rw [hp]; exact s.no)
/-- What one stretch of spreading comes to. -/
structure Spr (F : List (List Int)) (out out' : List Int) (P : Nat → Nat → Prop) : Prop where
  inv : MInv F out'
  keep : ∀ k, goodM F out k → goodM F out' k
  met : ∀ {i v}, P i v → goodM F out i → goodM F out' v
theorem Spr.start {F : List (List Int)} {out : List Int} (h : MInv F out) : Spr F out out (fun _ _ => False) := ⟨h, fun _ q => q, fun q => q.elim⟩
theorem Spr.then {F : List (List Int)} {a b c : List Int} {P Q R : Nat → Nat → Prop} (h : Spr F a b P) (k : Spr F b c Q) (hr : ∀ {i v}, R i v → P i v ∨ Q i v) : Spr F a c R :=
  ⟨k.inv, fun x q => k.keep x (h.keep x q), fun {i v} r q => (hr r).elim (fun p => k.keep v (h.met p q)) (fun p => k.met p (h.keep i q))⟩
structure Pj1 (Hb H' : Heap) (vF v4 x6 : AV) (F : List (List Int)) (o : Nat) (i k : Nat) (s : Int × Int) (out out' : List Int) (τ : Env) (j m : Nat) : Prop where
  fr : Fr [o] Hb H'
  arr : Arr intV H' v4 o out'
  spr : Spr F out out' (fun u v => u = i ∧ v < j ∧ ∃ g, F[v]? = some g ∧ rev s ∈ edgesF g)
  le : j ≤ F.length
  hm : m = F.length - j
  t : Tm τ [(0, vF), (4, v4), (6, x6), (7, .int .i64 i), (8, .int .i64 k), (9, .int .i64 s.2), (10, .int .i64 j)]
structure Pqj (Hb H' : Heap) (vF v4 x6 : AV) (F : List (List Int)) (o : Nat) (i k : Nat) (out out' : List Int) (P : Nat → Nat → Prop) (τ : Env) : Prop where
  fr : Fr [o] Hb H'
  arr : Arr intV H' v4 o out'
  spr : Spr F out out' P
  t : Tm τ [(0, vF), (4, v4), (6, x6), (7, .int .i64 i), (8, .int .i64 k)]
structure Pk1 (Hb H' : Heap) (vF v4 x6 : AV) (F : List (List Int)) (o : Nat) (i : Nat) (f out out' : List Int) (τ : Env) (k m : Nat) : Prop where
  fr : Fr [o] Hb H'
  arr : Arr intV H' v4 o out'
  spr : Spr F out out' (fun u v => u = i ∧ ∃ k' s g, k' < k ∧ (edgesF f)[k']? = some s ∧ F[v]? = some g ∧ rev s ∈ edgesF g)
  le : k ≤ f.length
  hm : m = f.length - k
  t : Tm τ [(0, vF), (4, v4), (6, x6), (7, .int .i64 i), (8, .int .i64 k)]
structure Pqk (Hb H' : Heap) (vF v4 x6 : AV) (F : List (List Int)) (o : Nat) (i : Nat) (out out' : List Int) (P : Nat → Nat → Prop) (τ : Env) : Prop where
  fr : Fr [o] Hb H'
  arr : Arr intV H' v4 o out'
  spr : Spr F out out' P
  t : Tm τ [(0, vF), (4, v4), (6, x6), (7, .int .i64 i)]
structure Pi1 (Hb H' : Heap) (vF v4 x6 : AV) (F : List (List Int)) (o : Nat) (out out' : List Int) (τ : Env) (i m : Nat) : Prop where
  fr : Fr [o] Hb H'
  arr : Arr intV H' v4 o out'
  spr : Spr F out out' (fun u v => u < i ∧ Adj F u v)
  le : i ≤ F.length
  hm : m = F.length - i
  t : Tm τ [(0, vF), (4, v4), (6, x6), (7, .int .i64 i)]
structure Pqi (Hb H' : Heap) (vF v4 x6 : AV) (F : List (List Int)) (o : Nat) (out out' : List Int) (τ : Env) : Prop where
  fr : Fr [o] Hb H'
  arr : Arr intV H' v4 o out'
  spr : Spr F out out' (Adj F)
  t : Tm τ [(0, vF), (4, v4), (6, x6)]
structure Pt1 (Hb H' : Heap) (vF v4 : AV) (F : List (List Int)) (o : Nat) (out : List Int) (τ : Env) (r m : Nat) : Prop where
  fr : Fr [o] Hb H'
  arr : Arr intV H' v4 o out
  inv : MInv F out
  bad : badN F out + r ≤ F.length ∨ badN F out = 0
  le : r ≤ F.length
  hm : m = F.length - r
  t : Tm τ [(0, vF), (4, v4), (6, .int .i64 r)]
structure Pqr (Hb H' : Heap) (vF v4 : AV) (F : List (List Int)) (o : Nat) (τ : Env) : Prop where
  fr : Fr [o] Hb H'
  arr : Arr intV H' v4 o ((List.range F.length).map fun i => (mn F i : Int))
  t : Tm τ [(0, vF), (4, v4)]
structure Pa1 (Hb H' : Heap) (vF v4 : AV) (F : List (List Int)) (o : Nat) (out : List Int) (τ : Env) (i m : Nat) : Prop where
  fr : Fr [o] Hb H'
  arr : Arr intV H' v4 o out
  ol : out.length = F.length
  ok : ∀ j : Nat, j < i → out[j]? = some (j : Int)
  le : i ≤ F.length
  hm : m = F.length - i
  t : Tm τ [(0, vF), (4, v4), (5, .int .i64 i)]
structure Pn1 (Hb H' : Heap) (vF v4 v11 : AV) (F : List (List Int)) (o p : Nat) (names : List Int) (τ : Env) (i m : Nat) : Prop where
  fr : Fr [o, p] Hb H'
  arr : Arr intV H' v4 o ((List.range F.length).map fun i => (mn F i : Int))
  nm : Arr intV H' v11 p names
  nl : names.length = F.length
  ok : ∀ j : Nat, j < i → mn F j = j → names[j]? = some (cntR F j : Int)
  le : i ≤ F.length
  hm : m = F.length - i
  t : Tm τ [(0, vF), (4, v4), (11, v11), (12, .int .i64 (cntR F i)), (13, .int .i64 i)]
structure Pqn (Hb H' : Heap) (vF v4 v11 : AV) (F : List (List Int)) (o p : Nat) (names : List Int) (τ : Env) : Prop where
  fr : Fr [o, p] Hb H'
  arr : Arr intV H' v4 o ((List.range F.length).map fun i => (mn F i : Int))
  nm : Arr intV H' v11 p names
  nl : names.length = F.length
  ok : ∀ j : Nat, j < F.length → mn F j = j → names[j]? = some (cntR F j : Int)
  t : Tm τ [(0, vF), (4, v4), (11, v11)]
/-- Faces that stay while two rows are written. -/
theorem Sit.gd2 {H Hb H' : Heap} {vF : AV} {F : List (List Int)} {o p : Nat} (s : Sit H Hb vF F o) (hp : H.next ≤ p) (f : Fr [o, p] Hb H') : Gd H' vF F ∧ Ext H H' := by
  have e := ext_fr s.wf s.ex f (fun q hq => by
    simp at hq
    rcases hq with r | r
    · rw [r]; exact s.no
    · rw [r]; exact hp)
  exact ⟨s.gd.ext e, e⟩
structure Pm1 (Hb H' : Heap) (vF v4 v11 : AV) (F : List (List Int)) (o p : Nat) (names out : List Int) (τ : Env) (i m : Nat) : Prop where
  fr : Fr [o, p] Hb H'
  arr : Arr intV H' v4 o out
  nm : Arr intV H' v11 p names
  ol : out.length = F.length
  lo : ∀ j : Nat, j < i → out[j]? = (partsF F)[j]?
  hi : ∀ j : Nat, i ≤ j → j < F.length → out[j]? = some (mn F j : Int)
  le : i ≤ F.length
  hm : m = F.length - i
  t : Tm τ [(0, vF), (4, v4), (11, v11), (14, .int .i64 i)]
end
end Go.Proofs.Ytcepchipgjpkhaa
