/- The document's numbers by digits: trimmed, small ones, tenths, their texts. No claim by itself. -/
import Derived.Test.YtacfhbhfgbjleaaDoorTab
import Derived.Test.YtacfhbhfgbjleaaDoorED
namespace Go.Proofs.YtacfhbhfgbjleaaDoor
open Go Go.AI
def n64c (n : Nat) : List AV := [.int .i64 (n : Int)]
abbrev Nats := Sl 1 n64c
theorem Nats.idx {H : Heap} {v : AV} {xs : List Nat} (h : Nats H v xs) {k : IntKind} {i : Nat} (h1 : i < xs.length) :
    ∃ p x, xs[i]? = some x ∧ indexAddrV 1 v (.int k i) = some p ∧ loadA H none p = some (.int .i64 x) := by
  obtain ⟨p, x, a, b, _, d⟩ := Sl.idx h (k := k) (i := (i : Int)) (by omega) (by omega); exact ⟨p, x, by simpa using a, b, d _ rfl rfl⟩
theorem Ow.cap {α : Type} {e : Nat} {enc : α → List AV} {H : Heap} {v : AV} {xs : List α} (h : Ow e enc H v xs) : capOk v = true := by
  rcases h with ⟨rfl, _⟩ | ⟨o, rfl, _⟩
  · rfl
  · simp [capOk]
/-- A number by its digits, in memory. -/
structure NumR (H : Heap) (v : AV) (m : Bool) (ds : List Nat) : Prop where
  dg : Dg ds
  nm : Nm ds
  len : ds.length ≤ 100
  at_ : ∃ u, v = .agg [.bool m, u] ∧ capOk u = true ∧ Nats H u ds
theorem NumR.ext {H H' : Heap} {v : AV} {m : Bool} {ds : List Nat} (h : NumR H v m ds) (k : Ext H H') : NumR H' v m ds := by
  obtain ⟨a, b, c, u, d, e, f⟩ := h; exact ⟨a, b, c, u, d, e, f.ext k⟩
def rest52 : ACode := tailN 3 A52.body
section
variable {FT : Nat → Option FnD} {H : Heap}
def Tr37 (H H' : Heap) (v : AV) (m : Bool) (ds : List Nat) (r : AV) : Prop := ∃ u, r = .agg [.bool (m && !(trimD ds).isEmpty), u] ∧ capOk u = true ∧ Nats H' u (trimD ds) ∧ (∀ p, rowObj u = some p → rowObj v = some p) ∧ Ext H H'
end
end Go.Proofs.YtacfhbhfgbjleaaDoor

/- The document's numbers by digits: tenths, texts. No claim by itself. -/
namespace Go.Proofs.YtacfhbhfgbjleaaDoor
open Go Go.AI
section
variable {FT : Nat → Option FnD} {H : Heap}
def rest53 : ACode := tailN 4 A53.body
structure Inv38 (H H1 : Heap) (v : AV) (ds : List Nat) (m : Nat) (τ : Env) (H' : Heap) : Prop where
  ex : Ext H H'
  fl : H'.floor = H1.floor
  ri : ∃ (left : Nat) (qs : List Nat), m ≤ ds.length ∧ left < 10 ∧ qs.length = ds.length - m ∧ Dg qs ∧ 10 * dval qs + left = dval (ds.drop m) ∧ H'.get H.next = some (.cells ((List.replicate m 0 ++ qs).flatMap n64c)) ∧
    Env.at τ 0 = v ∧ Env.at τ 4 = .slc H.next 0 ds.length 1 ds.length true ∧ Env.at τ 5 = .int .i64 left ∧ Env.at τ 6 = .int .i64 ((m : Int) - 1)
def rest40 : ACode := tailN 5 A40.body
/-- The text of a number told by its sign and digits. -/
def txt (m : Bool) (ds : List Nat) : List Nat := if ds = [] then [48] else (if m = true then [45] else []) ++ decP 30 (dval ds)
structure Inv22 (H H0 : Heap) (m : Bool) (u0 : AV) (ds0 : List Nat) (k : Nat) (τ : Env) (H' : Heap) : Prop where
  ex : Ext H0 H'
  ri : ∃ (s : List Nat) (ds : List Nat) (v : AV), k = dval ds ∧ Nats H' v ds ∧ Dg ds ∧ Nm ds ∧ ds.length ≤ 100 ∧ decP 30 (dval ds0) = decP (30 - s.length) (dval ds) ++ s ∧ s.length ≤ 30 ∧ dval ds < 10 ^ (30 - s.length) ∧
    Env.at τ 1 = .ptr H.next 0 ∧ Env.at τ 3 = .str s ∧ Env.at τ 4 = v
theorem decP_zero (f : Nat) : decP f 0 = [] := by cases f <;> simp [decP]
end
end Go.Proofs.YtacfhbhfgbjleaaDoor

/- The document's numbers by digits: digits, sizes, signs. No claim by itself. -/
namespace Go.Proofs.YtacfhbhfgbjleaaDoor
open Go Go.AI
/-- The number told by a sign and digits. -/
def zval (m : Bool) (ds : List Nat) : Int := if m = true then -(dval ds : Int) else dval ds
section
variable {FT : Nat → Option FnD} {H : Heap}
structure Inv52 (H : Heap) (u v : AV) (a b : List Nat) (k : Nat) (τ : Env) (H' : Heap) : Prop where
  hh : H' = H
  kl : k ≤ a.length
  eq : a.drop k = b.drop k
  t0 : Env.at τ 0 = u
  t1 : Env.at τ 1 = v
  t5 : Env.at τ 5 = .int .i64 ((k : Int) - 1)
end
end Go.Proofs.YtacfhbhfgbjleaaDoor

/- The document's numbers by digits: products. No claim by itself. -/
namespace Go.Proofs.YtacfhbhfgbjleaaDoor
open Go Go.AI
section
variable {FT : Nat → Option FnD} {H : Heap}
/-- What stays through the product's loops. -/
structure Bas44 (H H0 H' : Heap) (o : Nat) (L : Nat) (u v : AV) (a b d : List Nat) (τ : Env) : Prop where
  ex : Ext H H'
  ex0 : Ext H0 H'
  dg : Dg d
  dl : d.length = L
  g : H'.get o = some (.cells (d.flatMap n64c))
  t2 : Env.at τ 2 = .ptr H.next 0
  t3 : Env.at τ 3 = .ptr (H.next + 1) 0
  t4 : Env.at τ 4 = .ptr (H.next + 2) 0
  t5 : Env.at τ 5 = .slc o 0 L 1 L true
structure Out44 (H H0 : Heap) (o L : Nat) (u v : AV) (a b : List Nat) (k : Nat) (τ : Env) (H' : Heap) : Prop where
  ri : ∃ (d : List Nat) (i : Nat), Bas44 H H0 H' o L u v a b d τ ∧ i ≤ a.length ∧ k = a.length - i ∧ (∀ j y, i + b.length ≤ j → d[j]? = some y → y = 0) ∧ dval d = dval (a.take i) * dval b ∧ Env.at τ 6 = .int .i64 i
structure In44 (H H0 : Heap) (o L : Nat) (u v : AV) (a b : List Nat) (i : Nat) (n : Nat) (τ : Env) (H' : Heap) : Prop where
  ri : ∃ (d : List Nat) (k c : Nat), Bas44 H H0 H' o L u v a b d τ ∧ k ≤ b.length + 1 ∧ n = b.length + 1 - k ∧ c < 65536 ∧ (k = b.length + 1 → c = 0) ∧ (k ≤ b.length → ∀ j y, i + b.length ≤ j → d[j]? = some y → y = 0) ∧
    (∀ j y, i + 1 + b.length ≤ j → d[j]? = some y → y = 0) ∧ dval d + 65536 ^ (i + k) * c = dval (a.take i) * dval b + 65536 ^ i * ((a[i]?.getD 0) * dval (b.take k)) ∧ Env.at τ 6 = .int .i64 i ∧ Env.at τ 7 = .int .i64 c ∧ Env.at τ 8 = .int .i64 k
def rest67 : ACode := subAt [1,1,1] A67.body
end
end Go.Proofs.YtacfhbhfgbjleaaDoor

/- The document's numbers by digits: sums, comparisons. No claim by itself. -/
namespace Go.Proofs.YtacfhbhfgbjleaaDoor
open Go Go.AI
section
variable {FT : Nat → Option FnD} {H : Heap}
structure Add45 (H H3 : Heap) (a b : List Nat) (n : Nat) (τ : Env) (H' : Heap) : Prop where
  ex : Ext H H'
  ex3 : Ext H3 H'
  ri : ∃ (ds : List Nat) (w : AV) (c i : Nat), Mine 1 n64c H3 H' w ds ∧ Dg ds ∧ ds.length = i ∧ c ≤ 1 ∧ i ≤ max a.length b.length + 1 ∧ n = max a.length b.length + 1 - i ∧ (i = max a.length b.length + 1 → c = 0) ∧
    dval ds + 65536 ^ i * c = dval (a.take i) + dval (b.take i) ∧
    Env.at τ 2 = .ptr H.next 0 ∧ Env.at τ 3 = .ptr (H.next + 1) 0 ∧ Env.at τ 4 = .ptr (H.next + 2) 0 ∧ Env.at τ 5 = w ∧ Env.at τ 6 = .int .i64 c ∧ Env.at τ 7 = .int .i64 i
structure Sub45 (H H3 : Heap) (o9 o10 : Nat) (a b : List Nat) (n : Nat) (τ : Env) (H' : Heap) : Prop where
  ex : Ext H H'
  ex3 : Ext H3 H'
  ri : ∃ (ds : List Nat) (w : AV) (c i : Nat), Mine 1 n64c H3 H' w ds ∧ Dg ds ∧ ds.length = i ∧ c ≤ 1 ∧ i ≤ a.length ∧ n = a.length - i ∧ dval (a.take i) + 65536 ^ i * c = dval ds + dval (b.take i) ∧
    Env.at τ 4 = .ptr (H.next + 2) 0 ∧ Env.at τ 5 = w ∧ Env.at τ 6 = .int .i64 c ∧ Env.at τ 9 = .ptr o9 0 ∧ Env.at τ 10 = .ptr o10 0 ∧ Env.at τ 11 = .int .i64 i
def Sum45 (H H' : Heap) (ma mb : Bool) (a b : List Nat) (r : AV) : Prop := ∃ m ds, NumR H' r m ds ∧ zval m ds = zval ma a + zval mb b ∧ (m = true → ds ≠ []) ∧ ds.length ≤ max a.length b.length + 1 ∧ Ext H H'
def rest68 : ACode := subAt [1,1,1,1,1,1,1] A68.body
def rest45a : ACode := subAt [1,1,1,0,1,0,1] A68.body
end
end Go.Proofs.YtacfhbhfgbjleaaDoor
