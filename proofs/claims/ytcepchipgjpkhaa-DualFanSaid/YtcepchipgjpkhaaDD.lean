/- The document's numbers by digits: trimmed, small ones, tenths, their texts. No claim by itself. -/
import Derived.Test.YtcepchipgjpkhaaTab
import Derived.Test.YtcepchipgjpkhaaED
namespace Go.Proofs.Ytcepchipgjpkhaa
open Go Go.AI
def n64c (n : Nat) : List AV := [.int .i64 (n : Int)]
abbrev Nats := Sl 1 n64c
theorem n64c_len (x : Nat) : (n64c x).length = 1 := rfl
theorem Nats.idx {H : Heap} {v : AV} {xs : List Nat} (h : Nats H v xs) {k : IntKind} {i : Nat} (h1 : i < xs.length) :
    ∃ p x, xs[i]? = some x ∧ indexAddrV 1 v (.int k i) = some p ∧ loadA H none p = some (.int .i64 x) := by
  obtain ⟨p, x, a, b, _, d⟩ := Sl.idx h (k := k) (i := (i : Int)) (by omega) (by omega); exact ⟨p, x, by simpa using a, b, d _ rfl rfl⟩
theorem Ow.cap {α : Type} {e : Nat} {enc : α → List AV} {H : Heap} {v : AV} {xs : List α} (h : Ow e enc H v xs) : capOk v = true := by
  rcases h with ⟨rfl, _⟩ | ⟨o, rfl, _⟩
  · rfl
  · simp [capOk]
/-- A number by its digits, in memory. -/
structure NumR (H : Heap) (v : AV) (m : Bool) (ds : List Nat) : Prop where
  dg : Dg ds
  nm : Nm ds
  len : ds.length ≤ 100
  at_ : ∃ u, v = .agg [.bool m, u] ∧ capOk u = true ∧ Nats H u ds
theorem NumR.ext {H H' : Heap} {v : AV} {m : Bool} {ds : List Nat} (h : NumR H v m ds) (k : Ext H H') : NumR H' v m ds := by
  obtain ⟨a, b, c, u, d, e, f⟩ := h; exact ⟨a, b, c, u, d, e, f.ext k⟩
theorem Mine.num {H0 H : Heap} {v : AV} {m : Bool} {ds : List Nat} (h : Mine 1 n64c H0 H v ds) (dg : Dg ds) (nm : Nm ds) (hl : ds.length ≤ 100) : NumR H (.agg [.bool m, v]) m ds := ⟨dg, nm, hl, v, rfl, Ow.cap h.ow, h.sl n64c_len⟩
def rest80 : ACode := tailN 3 A80.body
section
variable {FT : Nat → Option FnD} {H : Heap}
def Tr37 (H H' : Heap) (v : AV) (m : Bool) (ds : List Nat) (r : AV) : Prop := ∃ u, r = .agg [.bool (m && !(trimD ds).isEmpty), u] ∧ capOk u = true ∧ Nats H' u (trimD ds) ∧ (∀ p, rowObj u = some p → rowObj v = some p) ∧ Ext H H'
end
end Go.Proofs.Ytcepchipgjpkhaa

/- The document's numbers by digits: tenths, texts. No claim by itself. -/
namespace Go.Proofs.Ytcepchipgjpkhaa
open Go Go.AI
section
variable {FT : Nat → Option FnD} {H : Heap}
structure Inv38 (H H1 : Heap) (v : AV) (ds : List Nat) (m : Nat) (τ : Env) (H' : Heap) : Prop where
  ex : Ext H H'
  fl : H'.floor = H1.floor
  ri : ∃ (left : Nat) (qs : List Nat), m ≤ ds.length ∧ left < 10 ∧ qs.length = ds.length - m ∧ Dg qs ∧ 10 * dval qs + left = dval (ds.drop m) ∧ H'.get H.next = some (.cells ((List.replicate m 0 ++ qs).flatMap n64c)) ∧
    Env.at τ 0 = v ∧ Env.at τ 4 = .slc H.next 0 ds.length 1 ds.length true ∧ Env.at τ 5 = .int .i64 left ∧ Env.at τ 6 = .int .i64 ((m : Int) - 1)
/-- The text of a number told by its sign and digits. -/
def txt (m : Bool) (ds : List Nat) : List Nat := if ds = [] then [48] else (if m = true then [45] else []) ++ decP 30 (dval ds)
end
end Go.Proofs.Ytcepchipgjpkhaa

/- The document's numbers by digits: digits, sizes, signs. No claim by itself. -/
namespace Go.Proofs.Ytcepchipgjpkhaa
open Go Go.AI
/-- The number told by a sign and digits. -/
def zval (m : Bool) (ds : List Nat) : Int := if m = true then -(dval ds : Int) else dval ds
section
variable {FT : Nat → Option FnD} {H : Heap}
structure Inv52 (H : Heap) (u v : AV) (a b : List Nat) (k : Nat) (τ : Env) (H' : Heap) : Prop where
  hh : H' = H
  kl : k ≤ a.length
  eq : a.drop k = b.drop k
  t0 : Env.at τ 0 = u
  t1 : Env.at τ 1 = v
  t5 : Env.at τ 5 = .int .i64 ((k : Int) - 1)
end
end Go.Proofs.Ytcepchipgjpkhaa

/- The document's numbers by digits: products. No claim by itself. -/
namespace Go.Proofs.Ytcepchipgjpkhaa
open Go Go.AI
section
variable {FT : Nat → Option FnD} {H : Heap}
/-- What stays through the product's loops. -/
structure Bas44 (H H0 H' : Heap) (o : Nat) (L : Nat) (u v : AV) (a b d : List Nat) (τ : Env) : Prop where
  ex : Ext H H'
  ex0 : Ext H0 H'
  dg : Dg d
  dl : d.length = L
  g : H'.get o = some (.cells (d.flatMap n64c))
  t2 : Env.at τ 2 = .ptr H.next 0
  t3 : Env.at τ 3 = .ptr (H.next + 1) 0
  t4 : Env.at τ 4 = .ptr (H.next + 2) 0
  t5 : Env.at τ 5 = .slc o 0 L 1 L true
structure Out44 (H H0 : Heap) (o L : Nat) (u v : AV) (a b : List Nat) (k : Nat) (τ : Env) (H' : Heap) : Prop where
  ri : ∃ (d : List Nat) (i : Nat), Bas44 H H0 H' o L u v a b d τ ∧ i ≤ a.length ∧ k = a.length - i ∧ (∀ j y, i + b.length ≤ j → d[j]? = some y → y = 0) ∧ dval d = dval (a.take i) * dval b ∧ Env.at τ 6 = .int .i64 i
structure In44 (H H0 : Heap) (o L : Nat) (u v : AV) (a b : List Nat) (i : Nat) (n : Nat) (τ : Env) (H' : Heap) : Prop where
  ri : ∃ (d : List Nat) (k c : Nat), Bas44 H H0 H' o L u v a b d τ ∧ k ≤ b.length + 1 ∧ n = b.length + 1 - k ∧ c < 65536 ∧ (k = b.length + 1 → c = 0) ∧ (k ≤ b.length → ∀ j y, i + b.length ≤ j → d[j]? = some y → y = 0) ∧
    (∀ j y, i + 1 + b.length ≤ j → d[j]? = some y → y = 0) ∧ dval d + 65536 ^ (i + k) * c = dval (a.take i) * dval b + 65536 ^ i * ((a[i]?.getD 0) * dval (b.take k)) ∧ Env.at τ 6 = .int .i64 i ∧ Env.at τ 7 = .int .i64 c ∧ Env.at τ 8 = .int .i64 k
def rest111 : ACode := subAt [1,1,1] A111.body
end
end Go.Proofs.Ytcepchipgjpkhaa

/- The document's numbers by digits: sums, comparisons. No claim by itself. -/
namespace Go.Proofs.Ytcepchipgjpkhaa
open Go Go.AI
section
variable {FT : Nat → Option FnD} {H : Heap}
structure Add45 (H H3 : Heap) (a b : List Nat) (n : Nat) (τ : Env) (H' : Heap) : Prop where
  ex : Ext H H'
  ex3 : Ext H3 H'
  ri : ∃ (ds : List Nat) (w : AV) (c i : Nat), Mine 1 n64c H3 H' w ds ∧ Dg ds ∧ ds.length = i ∧ c ≤ 1 ∧ i ≤ max a.length b.length + 1 ∧ n = max a.length b.length + 1 - i ∧ (i = max a.length b.length + 1 → c = 0) ∧
    dval ds + 65536 ^ i * c = dval (a.take i) + dval (b.take i) ∧
    Env.at τ 2 = .ptr H.next 0 ∧ Env.at τ 3 = .ptr (H.next + 1) 0 ∧ Env.at τ 4 = .ptr (H.next + 2) 0 ∧ Env.at τ 5 = w ∧ Env.at τ 6 = .int .i64 c ∧ Env.at τ 7 = .int .i64 i
structure Sub45 (H H3 : Heap) (o9 o10 : Nat) (a b : List Nat) (n : Nat) (τ : Env) (H' : Heap) : Prop where
  ex : Ext H H'
  ex3 : Ext H3 H'
  ri : ∃ (ds : List Nat) (w : AV) (c i : Nat), Mine 1 n64c H3 H' w ds ∧ Dg ds ∧ ds.length = i ∧ c ≤ 1 ∧ i ≤ a.length ∧ n = a.length - i ∧ dval (a.take i) + 65536 ^ i * c = dval ds + dval (b.take i) ∧
    Env.at τ 4 = .ptr (H.next + 2) 0 ∧ Env.at τ 5 = w ∧ Env.at τ 6 = .int .i64 c ∧ Env.at τ 9 = .ptr o9 0 ∧ Env.at τ 10 = .ptr o10 0 ∧ Env.at τ 11 = .int .i64 i
def Sum45 (H H' : Heap) (ma mb : Bool) (a b : List Nat) (r : AV) : Prop := ∃ m ds, NumR H' r m ds ∧ zval m ds = zval ma a + zval mb b ∧ (m = true → ds ≠ []) ∧ ds.length ≤ max a.length b.length + 1 ∧ Ext H H'
def rest47 : ACode := subAt [1,1,1,1,1,1,1] A47.body
def rest45a : ACode := subAt [1,1,1,0,1,0,1] A47.body
end
end Go.Proofs.Ytcepchipgjpkhaa

/- Numbers against numbers, as the document reckons. No claim by itself. -/
namespace Go.Proofs.Ytcepchipgjpkhaa
open Go Go.AI
theorem NumR.up {H : Heap} {v : AV} {m : Bool} {ds : List Nat} (h : NumR H v m ds) : NumR H.up v m ds := ⟨h.dg, h.nm, h.len, h.at_⟩
theorem NumR.fl {H : Heap} {v : AV} {m : Bool} {ds : List Nat} {f : Nat} (h : NumR H v m ds) : NumR { H with floor := f } v m ds := ⟨h.dg, h.nm, h.len, h.at_⟩
theorem NumR.cells {H : Heap} {v : AV} {m : Bool} {ds : List Nat} (h : NumR H v m ds) : ∃ u, v = .agg [.bool m, u] ∧ allOne [AV.bool m, u] = true := by
  obtain ⟨_, _, _, u, rfl, _, hu⟩ := h
  exact ⟨u, rfl, by simp [allOne_of hu.one.1]⟩
section
variable {FT : Nat → Option FnD} {H : Heap}
end
end Go.Proofs.Ytcepchipgjpkhaa
