/- Is it a graph: both askings. No claim by itself. -/
import Derived.Test.YtcepchipgjpkhaaTab
import Derived.Test.YtcepchipgjpkhaaE24
namespace Go.Proofs.Ytcepchipgjpkhaa
open Go Go.AI
def badE (n : Int) (s : Int × Int) : Bool := decide (s.1 < 0) || decide (s.2 < 0) || decide (n <= s.1) || decide (n <= s.2) || decide (s.1 = s.2)
def zj2 (n : Int) (l : List (Int × Int)) : Bool := decide (0 <= n) && decide (n <= 1000) && l.all fun s => !badE n s
end Go.Proofs.Ytcepchipgjpkhaa
namespace Go.Proofs.Ytcepchipgjpkhaa
open Go Go.AI
theorem zcr5 {FT : Nat -> Option FnD} (h31 : FT 129 = some (.code A129)) {n : Int} {p : Nat} {x : Int × Int} {H : Heap} (hw : H.Wf) (hp : H.cellsAt p = some [.int .i64 n]) :
  Cp FT 129 [.agg (za2 x), .ptr p 0] H (fun r H' => r = .bool (badE n x) /\ Ext H H') := by
 refine zb1 A129 h31 rfl ?_
 have he := Ext.push hw (.cells (za2 x))
 have hp' := he.cells hp
 have hb : za5 (za2 x) = true := rfl
 have l1 : za9 (H.push (.cells (za2 x))) none (.ptr H.next 0) = some (.int .i64 x.1) := by simp [ze3, ze2, za2]
 have l2 : za9 (H.push (.cells (za2 x))) none (.ptr H.next 1) = some (.int .i64 x.2) := by simp [ze3, ze2, za2]
 have l3 : za9 (H.push (.cells (za2 x))) none (.ptr p 0) = some (.int .i64 n) := by rw [ze3, hp']; rfl
 have hc : AV.cells (.agg (za2 x)) = za2 x := rfl
 by_cases c1 : x.1 < 0
 ·simp [A129, hc, hb, l1, c1, badE, he]
 by_cases c2 : n <= x.1
 ·simp [A129, hc, hb, l1, l3, c1, c2, badE, he]
 by_cases c3 : x.2 < 0
 ·simp [A129, hc, hb, l1, l2, l3, c1, c2, c3, badE, he]
 by_cases c4 : n <= x.2
 ·simp [A129, hc, hb, l1, l2, l3, c1, c2, c3, c4, badE, he]
 ·simp [A129, hc, hb, l1, l2, l3, c1, c2, c3, c4, badE, he]
  by_cases c5 : x.1 = x.2 <;> simp [c5]
def z00 {α : Type} (t : α -> Bool) (l : List α) : Bool := l.any t
theorem zar3 {α : Type} {t : α -> Bool} {l : List α} {i : Nat} {x : α} (h : l[i]? = some x) : z00 t (l.take (i + 1)) = (z00 t (l.take i) || t x) := by
 unfold z00; rw [List.take_add_one, h]; simp [List.any_append]
theorem zbh9 {α : Type} {t : α -> Bool} {l : List α} {i : Nat} {x : α} (h : l[i]? = some x) (ht : t x = true) : z00 t l = true := List.any_eq_true.2 ⟨x, List.mem_of_getElem? h, ht⟩
theorem zar2 {α : Type} {t : α -> Bool} {l : List α} : z00 t (l.take 0) = false := by simp [z00]
theorem zcg3 {FT : Nat -> Option FnD} (h37 : FT 152 = some (.code A152)) {v : AV} {l : List (Int × Int)} {H : Heap} {g : Nat} {cap : List AV} {t : Int × Int -> Bool} (h : zh3 H v l) (hw : H.Wf) (hl : l.length <= 9223372036854775806)
  (hg : ∀ H1, Ext H H1 -> ∀ x, Cp FT g (.agg (za2 x) :: cap) H1 (fun r H' => r = .bool (t x) /\ Ext H1 H')) :
  Cp FT 152 [v, .fn g [] cap] H (fun r H' => (∃ k : Int, r = .int .i64 k /\ (0 <= k ↔ z00 t l = true)) /\ Ext H H') := by
 refine zb1 A152 h37 rfl ?_
 simp [A152, h.len]
 refine zb7 (fun m τ H' => Ext H H' /\ ∃ i : Nat, i <= l.length /\ m = l.length - i /\ Env.at τ 0 = v /\ Env.at τ 1 = .fn g [] cap /\ Env.at τ 7 = .int .i64 l.length /\ Env.at τ 8 = .int .i64 i /\ z00 t (l.take i) = false) ?_ l.length _ _ ⟨Ext.refl hw, 0, by simp, by simp, by simp, by simp, by simp, by simp, zar2⟩
 rintro m τ H' ⟨he, i, hi, rfl, t0, t1, t7, t8, hall⟩
 simp only [zi9, zd3]
 by_cases hc : i < l.length
 ·obtain ⟨o, off, x, hx, hp, hl0, hl1, hl2⟩ := zh3.idx (h.ext he) (k := .i64) (i := i) (by omega) (by omega)
  have hx' : l[i]? = some x := hx
  simp [hc, t0, t1, t7, t8, hp, hl0]
  refine (hg H' he x).mono ?_
  rintro r H2 ⟨rfl, he2⟩
  cases htx : t x with
  | true =>
   simp [zbh9 hx' htx, he.trans he2]
  | false =>
   simp [t0, t1, t7, t8]
   exact ⟨_, by omega, he.trans he2, i + 1, by omega, rfl, wrap64 (by omega) (by omega), by rw [zar3 hx', htx, hall]; rfl⟩
 ·rw [List.take_of_length_le (by omega)] at hall
  simp [hc, t0, t1, t7, t8, he, hall]
theorem za80 {FT : Nat -> Option FnD} (h30 : FT 128 = some (.code A128)) (h37 : FT 152 = some (.code A152)) {v : AV} {l : List (Int × Int)} {H : Heap} {g : Nat} {cap : List AV} {t : Int × Int -> Bool} (h : zh3 H v l) (hw : H.Wf) (hl : l.length <= 9223372036854775806)
  (hg : ∀ H1, Ext H H1 -> ∀ x, Cp FT g (.agg (za2 x) :: cap) H1 (fun r H' => r = .bool (t x) /\ Ext H1 H')) :
  Cp FT 128 [v, .fn g [] cap] H (fun r H' => r = .bool (z00 t l) /\ Ext H H') := by
 refine zb1 A128 h30 rfl ?_
 simp [A128]
 refine (zcg3 h37 h hw hl hg).mono ?_
 rintro r H' ⟨⟨k, rfl, hk⟩, he⟩
 simp [he]
 cases hh : z00 t l <;> simp [hh] at hk <;> simp [hk]
theorem zbd4 {FT : Nat -> Option FnD} (h21 : FT 97 = some (.code A97)) (h30 : FT 128 = some (.code A128)) (h31 : FT 129 = some (.code A129)) (h37 : FT 152 = some (.code A152)) {n : Int} {v : AV} {l : List (Int × Int)} {H : Heap} (h : zh3 H v l) (hw : H.Wf) (hl : l.length <= 9223372036854775806) :
  Cp FT 97 [.int .i64 n, v] H (fun r H' => r = .bool (zj2 n l) /\ Ext H H') := by
 refine zb1 A97 h21 rfl ?_
 have he := Ext.push hw (.cells [.int .i64 n])
 have l1 : za9 (H.push (.cells [.int .i64 n])) none (.ptr H.next 0) = some (.int .i64 n) := by simp [ze3, ze2]
 by_cases c1 : n < 0
 ·have : ¬ 0 <= n := by omega
  simp [A97, AV.cells, za5, AV.one, l1, c1, he, zj2, this]
 by_cases c2 : 1000 < n
 ·have : ¬ n <= 1000 := by omega
  simp [A97, AV.cells, za5, AV.one, l1, c1, c2, he, zj2, this]
 ·simp [A97, AV.cells, za5, AV.one, l1, c1, c2]
  refine (za80 h30 h37 (t := badE n) (h.ext he) he.wf hl fun H1 h1 x => zcr5 h31 h1.wf (h1.cells (by simp))).mono ?_
  rintro r H' ⟨rfl, he'⟩
  have q1 : 0 <= n := by omega
  have q2 : n <= 1000 := by omega
  have : (l.all fun s => !badE n s) = !z00 (badE n) l := by simp [z00, List.not_any_eq_all_not]
  simp [he.trans he', zj2, q1, q2, this]
end Go.Proofs.Ytcepchipgjpkhaa
namespace Go.Proofs.Ytcepchipgjpkhaa
open Go Go.AI
theorem zbj2 (x y : Int × Int) : zi8 .eql (.flat [.int, .int]) (.agg (za2 x)) (.agg (za2 y)) = some (.bool (decide (x = y))) := by
 obtain ⟨a, b⟩ := x
 obtain ⟨c, d⟩ := y
 have e : zi8 .eql (.flat [.int, .int]) (.agg (za2 (a, b))) (.agg (za2 (c, d))) = (match some (a == c) with | some true => (match some (b == d) with | some true => some true | some false => some false | none => none) | some false => some false | none => none : Option Bool).map .bool := rfl
 rw [e]
 cases h1 : (a == c) <;> cases h2 : (b == d) <;> simp_all
theorem zb54 {FT : Nat -> Option FnD} (h36 : FT 134 = some (.code A134)) {v : AV} {l : List (Int × Int)} {y : Int × Int} {H : Heap} (h : zh3 H v l) (hw : H.Wf) (hl : l.length <= 9223372036854775806) :
  Cp FT 134 [v, .agg (za2 y)] H (fun r H' => (∃ k : Int, r = .int .i64 k /\ (0 <= k ↔ z00 (fun x => decide (y = x)) l = true)) /\ Ext H H') := by
 refine zb1 A134 h36 rfl ?_
 have he := Ext.push hw (.cells (za2 y))
 have hb : za5 (za2 y) = true := rfl
 have hc0 : AV.cells (.agg (za2 y)) = za2 y := rfl
 have l1 : za9 (H.push (.cells (za2 y))) (some 2) (.ptr H.next 0) = some (.agg (za2 y)) := by rw [ze3, zk1]; rfl
 have h' := h.ext he
 simp [A134, hb, hc0, h.len]
 refine zb7 (fun m τ H' => H' = H.push (.cells (za2 y)) /\ ∃ i : Nat, i <= l.length /\ m = l.length - i /\ Env.at τ 0 = v /\ Env.at τ 3 = .ptr H.next 0 /\ Env.at τ 7 = .int .i64 l.length /\ Env.at τ 8 = .int .i64 i /\ z00 (fun x => decide (y = x)) (l.take i) = false) ?_ l.length _ _ ⟨rfl, 0, by simp, by simp, by simp, by simp, by simp, by simp, zar2⟩
 rintro m τ H' ⟨rfl, i, hi, rfl, t0, t3, t7, t8, hall⟩
 simp only [zi9, zd3]
 by_cases hc : i < l.length
 ·obtain ⟨o, off, x, hx, hp, hl0, hl1, hl2⟩ := zh3.idx h' (k := .i64) (i := i) (by omega) (by omega)
  have hx' : l[i]? = some x := hx
  have e0 := zbj2 y x
  by_cases htx : y = x
  ·have : z00 (fun x => decide (y = x)) l = true := zbh9 hx' (by simp [htx])
   have e1 : zi8 .eql (.flat [.int, .int]) (.agg (za2 y)) (.agg (za2 x)) = some (.bool true) := by rw [e0]; simp [htx]
   simp [hc, t0, t3, t7, t8, hp, hl0, l1, e1, this, he]
  ·simp [hc, t0, t3, t7, t8, hp, hl0, l1, e0, htx]
   exact ⟨_, by omega, i + 1, by omega, rfl, wrap64 (by omega) (by omega), by rw [zar3 hx', hall]; simp [htx]⟩
 ·rw [List.take_of_length_le (by omega)] at hall
  simp [hc, t3, t7, t8, hall, he]
theorem z98 {FT : Nat -> Option FnD} (h28 : FT 108 = some (.code A108)) (h36 : FT 134 = some (.code A134)) {v : AV} {l : List (Int × Int)} {y : Int × Int} {H : Heap} (h : zh3 H v l) (hw : H.Wf) (hl : l.length <= 9223372036854775806) :
  Cp FT 108 [v, .agg (za2 y)] H (fun r H' => r = .bool (z00 (fun x => decide (y = x)) l) /\ Ext H H') := by
 refine zb1 A108 h28 rfl ?_
 have he := Ext.push hw (.cells (za2 y))
 have hb : za5 (za2 y) = true := rfl
 have hc0 : AV.cells (.agg (za2 y)) = za2 y := rfl
 have l1 : za9 (H.push (.cells (za2 y))) (some 2) (.ptr H.next 0) = some (.agg (za2 y)) := by rw [ze3, zk1]; rfl
 simp [A108, hb, hc0, l1]
 refine (zb54 h36 (h.ext he) he.wf hl).mono ?_
 rintro r H' ⟨⟨k, rfl, hk⟩, he'⟩
 simp [he.trans he']
 cases hh : z00 (fun x => decide (y = x)) l <;> simp [hh] at hk <;> simp [hk]
def hasE (a b : Int) (x : Int × Int) : Bool := ((x.1 == a) && (x.2 == b)) || ((x.1 == b) && (x.2 == a))
end Go.Proofs.Ytcepchipgjpkhaa
