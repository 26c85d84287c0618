/- The document's predicates: numbers, differences, areas. No claim by itself. -/
import Derived.Test.YtcepchipgjpkhaaDD
import Derived.Test.YtcepchipgjpkhaaEG
import Derived.Test.YtcepchipgjpkhaaEH
namespace Go.Proofs.Ytcepchipgjpkhaa
open Go Go.AI
section
variable {FT : Nat → Option FnD} {H H' : Heap} {v : AV} {z : Int} {k : Nat}
/-- A number that the document reckons with, of at most k digits. -/
structure NumZ (H : Heap) (v : AV) (z : Int) (k : Nat) : Prop where
  ex : ∃ m ds, NumR H v m ds ∧ zval m ds = z ∧ ds.length ≤ k ∧ (m = true → ds ≠ [])
theorem NumZ.ext (h : NumZ H v z k) (e : Ext H H') : NumZ H' v z k := by
  obtain ⟨m, ds, a, b, c, d⟩ := h; exact ⟨m, ds, a.ext e, b, c, d⟩
theorem NumZ.up (h : NumZ H v z k) : NumZ H.up v z k := by
  obtain ⟨m, ds, a, b, c, d⟩ := h; exact ⟨m, ds, a.up, b, c, d⟩
theorem NumZ.fl {f : Nat} (h : NumZ H v z k) : NumZ { H with floor := f } v z k := by
  obtain ⟨m, ds, a, b, c, d⟩ := h; exact ⟨m, ds, a.fl, b, c, d⟩
theorem NumZ.cells (h : NumZ H v z k) : ∃ m u, v = .agg [.bool m, u] ∧ allOne [AV.bool m, u] = true := by
  obtain ⟨m, ds, a, _⟩ := h
  obtain ⟨u, h1, h2⟩ := a.cells
  exact ⟨m, u, h1, h2⟩
/-- The functions that reckon with the document's numbers, in a table. -/
structure NumT (FT : Nat → Option FnD) : Prop where
  h46 : FT 46 = some (.code A46)
  h47 : FT 47 = some (.code A47)
  h49 : FT 49 = some (.code A49)
  h50 : FT 50 = some (.code A50)
  h77 : FT 77 = some (.code A77)
  h78 : FT 78 = some (.code A78)
  h79 : FT 79 = some (.code A79)
  h80 : FT 80 = some (.code A80)
  h81 : FT 81 = some (.code A81)
  h82 : FT 82 = some (.code A82)
  h83 : FT 83 = some (.code A83)
  h90 : FT 90 = some (.code A90)
  h110 : FT 110 = some (.code A110)
  h111 : FT 111 = some (.code A111)
def fitQ (p : Int × Int) : Prop := (-4294967296 ≤ p.1 ∧ p.1 ≤ 4294967296) ∧ (-4294967296 ≤ p.2 ∧ p.2 ≤ 4294967296)
instance (p : Int × Int) : Decidable (fitQ p) := by unfold fitQ; infer_instance
def areaZ (a b c : Int × Int) : Int := (a.1 * b.2 - a.2 * b.1) + (b.1 * c.2 - b.2 * c.1) + (c.1 * a.2 - c.2 * a.1)
/-- A place's numbers have room. -/
structure Rm (p : Int × Int) : Prop where
  x0 : -9223372036854775807 ≤ p.1
  x1 : p.1 ≤ 9223372036854775807
  y0 : -9223372036854775807 ≤ p.2
  y1 : p.2 ≤ 9223372036854775807
end
end Go.Proofs.Ytcepchipgjpkhaa

/- The document's predicates: turns, convex figures. No claim by itself. -/
namespace Go.Proofs.Ytcepchipgjpkhaa
open Go Go.AI
section
variable {FT : Nat → Option FnD} {H H' : Heap}
/-- How three places turn; 0 if one of them is too far. -/
def orZ (a b c : Int × Int) : Int := if fitQ a ∧ fitQ b ∧ fitQ c then (areaZ a b c).sign else 0
def okTri (l : List (Int × Int)) (i k j : Nat) : Prop := ∀ a b c, l[i]? = some a → l[k]? = some b → l[j]? = some c → orZ a b c = 1
/-- Does each three of them turn left? -/
def convP (l : List (Int × Int)) : Prop := 3 ≤ l.length ∧ ∀ i k j, i < k → k < j → okTri l i k j
theorem okTri_len {l : List (Int × Int)} {i k j : Nat} (h : l.length ≤ j) : okTri l i k j := fun a b c _ _ q => by rw [List.getElem?_eq_none h] at q; cases q
def k48a : ACode := subAt [1, 0, 1] A48.body
def k48k : ACode := subAt [0, 0, 1, 0, 0, 1] k48a
def k48j : ACode := subAt [0, 0, 1, 0, 0, 1] k48k
structure Cj1 (H H' : Heap) (v : AV) (l : List (Int × Int)) (i k : Nat) (τ : Env) (j m : Nat) : Prop where
  ex : Ext H H'
  lo : k < j
  le : j ≤ l.length
  hm : m = l.length - j
  ok : ∀ x, k < x → x < j → okTri l i k x
  t : Tm τ [(0, v), (3, .int .i64 i), (4, .int .i64 k), (5, .int .i64 j)]
structure Ck1 (H H' : Heap) (v : AV) (l : List (Int × Int)) (i : Nat) (τ : Env) (k m : Nat) : Prop where
  ex : Ext H H'
  lo : i < k
  le : k ≤ l.length
  hm : m = l.length - k
  ok : ∀ x j, i < x → x < k → x < j → okTri l i x j
  t : Tm τ [(0, v), (3, .int .i64 i), (4, .int .i64 k)]
structure Ci1 (H H' : Heap) (v : AV) (l : List (Int × Int)) (τ : Env) (i m : Nat) : Prop where
  ex : Ext H H'
  le : i ≤ l.length
  hm : m = l.length - i
  ok : ∀ x k j, x < i → x < k → k < j → okTri l x k j
  t : Tm τ [(0, v), (3, .int .i64 i)]
end
end Go.Proofs.Ytcepchipgjpkhaa

/- Faces that are convex, as the document tells. No claim by itself. -/
namespace Go.Proofs.Ytcepchipgjpkhaa
open Go Go.AI
section
variable {FT : Nat → Option FnD} {H H' : Heap}
def ptQ (P : List (Int × Int)) (x : Int) : Int × Int := P.getD x.toNat (0, 0)
def inQ (P : List (Int × Int)) (f : List Int) : Prop := ∀ x, x ∈ f → 0 ≤ x ∧ x < P.length
/-- Is each face convex? -/
def convFs (P : List (Int × Int)) (F : List (List Int)) : Prop := ∀ f, f ∈ F → inQ P f ∧ convP (f.map (ptQ P))
def k38a : ACode := subAt [1, 0, 1] A38.body
def k38i : ACode := subAt [0, 0, 1, 0, 0, 1, 0, 1] k38a
structure Cf1 (H H' : Heap) (vP vF v6 : AV) (P : List (Int × Int)) (f : List Int) (i : Nat) (τ : Env) (k m : Nat) : Prop where
  ex : Ext H H'
  mi : Mine 2 pairc H H' v6 ((f.take k).map (ptQ P))
  ok : inQ P (f.take k)
  le : k ≤ f.length
  hm : m = f.length - k
  t : Tm τ [(0, vP), (1, vF), (5, .int .i64 i), (6, v6), (7, .int .i64 k)]
structure CfQ (H H' : Heap) (vP vF v6 : AV) (P : List (Int × Int)) (f : List Int) (i : Nat) (τ : Env) : Prop where
  ex : Ext H H'
  mi : Mine 2 pairc H H' v6 (f.map (ptQ P))
  ok : inQ P f
  t : Tm τ [(0, vP), (1, vF), (5, .int .i64 i), (6, v6)]
structure Cf2 (H H' : Heap) (vP vF : AV) (P : List (Int × Int)) (F : List (List Int)) (τ : Env) (i m : Nat) : Prop where
  ex : Ext H H'
  ok : convFs P (F.take i)
  le : i ≤ F.length
  hm : m = F.length - i
  t : Tm τ [(0, vP), (1, vF), (5, .int .i64 i)]
end
end Go.Proofs.Ytcepchipgjpkhaa
