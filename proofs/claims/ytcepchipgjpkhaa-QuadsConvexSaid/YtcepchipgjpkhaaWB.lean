/- Slices repeated and cloned. No claim by itself. -/
import Derived.Test.YtcepchipgjpkhaaWA
namespace Go.Proofs.Ytcepchipgjpkhaa.Gr
open Go Go.AI
theorem zl2 {n : Int} (h0 : 0 <= n) (h1 : n < 18446744073709551616) : IntKind.wrap .u64 n = n := by
 unfold IntKind.wrap
 simp [IntKind.bits, IntKind.signed]
 omega
theorem zay5 {d : EqD} {n : Nat} (h : n < 4294967296) : zi8 .and d (.int .u64 (n : Int)) (.int .u64 4294967295) = some (.int .u64 (n : Int)) := by
 have e : (BitVec.ofInt 64 (n : Int) &&& BitVec.ofInt 64 4294967295).toNat = n := by
  rw [BitVec.toNat_and]
  simp only [BitVec.toNat_ofInt]
  have a : ((n : Int) % ((2 ^ 64 : Nat) : Int)).toNat = n := by omega
  rw [a]
  have b : ((4294967295 : Int) % ((2 ^ 64 : Nat) : Int)).toNat = 2 ^ 32 - 1 := by decide
  rw [b, Nat.and_two_pow_sub_one_eq_mod]
  omega
 simp only [zi8]
 rw [if_pos trivial]
 show some (AV.int .u64 (IntKind.u64.wrap ((BitVec.ofInt 64 (n : Int) &&& BitVec.ofInt 64 4294967295).toNat : Int))) = _
 rw [e, zl2 (by omega) (by omega)]
theorem zal0 {d : EqD} {n : Nat} (h : n < 4294967296) : zi8 .shr d (.int .u64 (n : Int)) (.int .u64 32) = some (.int .u64 0) := by
 simp only [zi8]
 rw [if_neg (by decide)]
 congr 2
 have : min (32 : Int).toNat IntKind.u64.bits = 32 := by decide
 rw [this, Int.fdiv_eq_ediv_of_nonneg _ (by decide)]
 exact Int.ediv_eq_zero_of_lt (by omega) (by omega)
section
variable {FT : Nat -> Option FnD} {H : Heap}
theorem zcp9 (h39 : FT 154 = some (.code A154)) {n : Nat} (hn : n <= 1000000) : Cp FT 154 [.int .u64 1, .int .u64 (n : Int)] H (fun r H' => r = .tup [.int .u64 0, .int .u64 (n : Int)] /\ H' = H) := by
 refine zb1 A154 h39 rfl ?_
 have w : IntKind.u64.wrap (n : Int) = n := zl2 (by omega) (by omega)
 have w0 : IntKind.u64.wrap 0 = 0 := by decide
 have a1 : ∀ {d}, zi8 .and d (.int .u64 1) (.int .u64 4294967295) = some (.int .u64 1) := zay5 (n := 1) (by decide)
 have s1 : ∀ {d}, zi8 .shr d (.int .u64 1) (.int .u64 32) = some (.int .u64 0) := zal0 (n := 1) (by decide)
 have s0 : ∀ {d}, zi8 .shr d (.int .u64 0) (.int .u64 32) = some (.int .u64 0) := zal0 (n := 0) (by decide)
 have a0 : ∀ {d}, zi8 .and d (.int .u64 0) (.int .u64 4294967295) = some (.int .u64 0) := zay5 (n := 0) (by decide)
 have an : ∀ {d}, zi8 .and d (.int .u64 (n : Int)) (.int .u64 4294967295) = some (.int .u64 (n : Int)) := zay5 (by omega)
 have sn : ∀ {d}, zi8 .shr d (.int .u64 (n : Int)) (.int .u64 32) = some (.int .u64 0) := zal0 (by omega)
 simp [A154, a1, s1, a0, s0, an, sn, w, w0]
theorem zcq0 (h33 : FT 131 = some (.code A131)) (h39 : FT 154 = some (.code A154)) {n : Nat} (hn : n <= 1000000) : Cp FT 131 [.int .u64 1, .int .u64 (n : Int)] H (fun r H' => r = .tup [.int .u64 0, .int .u64 (n : Int)] /\ H' = H) := by
 refine zb1 A131 h33 rfl ?_
 simp [A131]
 refine (zcp9 h39 hn).mono ?_
 rintro r H' ⟨rfl, rfl⟩
 simp
def zp8 (n k : Nat) : List AV := arr n fun i => if i < k then .int .i64 (-1) else .int .i64 0
theorem za27 {n : Nat} {x : AV} : (List.replicate n [x]).flatten = arr n fun _ => x := by
 rw [List.flatten_replicate_singleton]
 unfold arr
 rw [List.map_const', List.length_range]
theorem z03 {n k : Nat} : (zp8 n k).length = n := zn6
theorem zac0 {n k i : Nat} : (zp8 n k)[i]? = if i < n then some (if i < k then .int .i64 (-1) else .int .i64 0) else none := by
 by_cases h : i < n
 ·rw [if_pos h]; exact zp5 h
 ·rw [if_neg h, List.getElem?_eq_none]; rw [z03]; omega
theorem za32 {n k j : Nat} (h : k + j <= n) : setSeg (zp8 n k) k (List.replicate j (.int .i64 (-1))) = zp8 n (k + j) := by
 apply List.ext_getElem?
 intro i
 unfold setSeg
 rw [zac0, List.append_assoc, List.getElem?_append, List.length_take, z03, Nat.min_eq_left (by omega)]
 by_cases h1 : i < k
 ·rw [if_pos h1, List.getElem?_take, if_pos h1, zac0]; simp [h1, show i < n by omega, show i < k + j by omega]
 ·rw [if_neg h1, List.getElem?_append, List.length_replicate]
  by_cases h2 : i - k < j
  ·rw [if_pos h2, List.getElem?_replicate, if_pos h2]; simp [show i < n by omega, show i < k + j by omega]
  ·rw [if_neg h2, List.getElem?_drop, zac0, show k + j + (i - k - j) = i by omega]
   by_cases h3 : i < n
   ·rw [if_pos h3, if_pos h3, if_neg h1, if_neg (by omega)]
   ·rw [if_neg h3, if_neg h3]
theorem zbi8 {n k j : Nat} (h : j <= k) (hk : k <= n) : seg (zp8 n k) 0 j = some (List.replicate j (.int .i64 (-1))) := by
 have hb : Nat.ble (0 + j) (zp8 n k).length = true := Nat.ble_eq_true_of_le (by rw [z03]; omega)
 simp only [seg, hb, cond_true, List.drop_zero]
 congr 1
 apply List.ext_getElem?
 intro i
 rw [List.getElem?_take, List.getElem?_replicate, zac0]
 by_cases h1 : i < j
 ·rw [if_pos h1, if_pos h1, if_pos (by omega), if_pos (by omega)]
 ·rw [if_neg h1, if_neg h1]
theorem za88 {j : Nat} : za5 (List.replicate j (AV.int .i64 (-1))) = true := by
 simp [za5, AV.one]
theorem zbj7 {o2 n k lo lo' : Nat} {ex ex' : Bool} (hf : H.floor <= o2) (hg : H.get o2 = some (.cells (zp8 n k))) (h0 : 0 < k) (hk : k < n) : zaf8 1 H (.slc o2 k (n - k) 1 lo ex) (.slc o2 0 k 1 lo' ex') = some (.int .i64 (min k (n - k) : Nat), H.set o2 (.cells (zp8 n (k + min k (n - k))))) := by
 have hb : Nat.ble H.floor o2 = true := Nat.ble_eq_true_of_le hf
 have hm : Nat.min k (n - k) = min k (n - k) := rfl
 have hr : H.readSeg o2 0 (min k (n - k) * 1) = some (List.replicate (min k (n - k)) (.int .i64 (-1))) := by
  unfold Heap.readSeg
  rw [za3 hg, Nat.mul_one]
  exact zbi8 (by omega) (by omega)
 have hl : Nat.ble (k + min k (n - k)) n = true := Nat.ble_eq_true_of_le (by omega)
 have hz : Nat.beq (min k (n - k)) 0 = false := by
  rw [Tr.nbeq]; simp; omega
 simp only [zaf8, srcN, Nat.beq_refl, cond_true, hm, hr, Option.map_some, List.length_replicate, hz, cond_false, Heap.writeSeg, hb, za3 hg, z03, hl, za88, Bool.and_self, aInt]
 rw [za32 (by omega)]
theorem zbp9 (h23 : FT 99 = some (.code A99)) (h33 : FT 131 = some (.code A131)) (h39 : FT 154 = some (.code A154)) (hw : H.Wf) {o n : Nat} (hg : H.get o = some (.cells [.int .i64 (-1)])) (hn : n <= 1000000) :
  Cp FT 99 [.slc o 0 1 1 1 true, .int .i64 n] H (fun r H' => r = .slc H.next 0 n 1 n true /\ H'.get H.next = some (.cells (zi3 n fun _ => none)) /\ H'.next = H.next + 1 /\ Ext H H') := by
 refine zb1 A99 h23 rfl ?_
 have w : IntKind.u64.wrap (n : Int) = n := zl2 (by omega) (by omega)
 have w1 : IntKind.u64.wrap 1 = 1 := by decide
 simp [A99, w, w1]
 refine (zcq0 h33 h39 hn).mono ?_
 rintro r H' ⟨rfl, rfl⟩
 have w2 : IntKind.i64.wrap (n : Int) = n := wrap64 (by omega) (by omega)
 have n1 : ¬ (9223372036854775807 < (n : Int)) := by omega
 have hmk : zn4 H' 1 8 [.int .i64 0] (.int .i64 (n : Int)) (.int .i64 (n : Int)) = some (.slc H'.next 0 n 1 n true, H'.push (.cells (zp8 n 0))) := by
  simp only [zn4]
  rw [if_pos ⟨by omega, by omega, by omega, by omega⟩]
  simp only [Int.toNat_natCast, za27]
  rfl
 have ho : o < H'.next := Classical.byContradiction fun q => by
  have := hw.2 o (by omega); rw [this] at hg; cases hg
 have hfl : H'.floor <= H'.next := hw.1
 have hb : Nat.ble H'.floor H'.next = true := Nat.ble_eq_true_of_le hfl
 have g1 : (H'.push (.cells (zp8 n 0))).get H'.next = some (.cells (zp8 n 0)) := za6.trans (if_pos rfl)
 have go : (H'.push (.cells (zp8 n 0))).get o = some (.cells [.int .i64 (-1)]) := za6.trans ((if_neg (by omega)).trans hg)
 have hc1 : ∃ H2 k, zaf8 1 (H'.push (.cells (zp8 n 0))) (.slc H'.next 0 n 1 n true) (.slc o 0 1 1 1 true) = some (.int .i64 (k : Nat), H2) /\ H2.get H'.next = some (.cells (zp8 n k)) /\ (∀ o', o' ≠ H'.next -> H2.get o' = H'.get o') /\ H2.next = H'.next + 1 /\ H2.floor = H'.floor /\ k <= n /\ (0 < n -> 0 < k) := by
  cases n with
  | zero =>
   refine ⟨H'.push (.cells (zp8 0 0)), 0, ?_, g1, fun o' h => za6.trans (if_neg h), rfl, rfl, Nat.le_refl _, fun h => h⟩
   have hr : (H'.push (.cells (zp8 0 0))).readSeg o 0 (Nat.min 1 0 * 1) = some [] := by
    unfold Heap.readSeg
    rw [za3 go]; rfl
   simp only [zaf8, srcN, Nat.beq_refl, cond_true, hr, Option.map_some]
   rfl
  | succ n =>
   have hr : (H'.push (.cells (zp8 (n + 1) 0))).readSeg o 0 (1 * 1) = some [.int .i64 (-1)] := by
    unfold Heap.readSeg
    rw [za3 go]; rfl
   have hm : Nat.min 1 (n + 1) = 1 := Nat.min_eq_left (by omega)
   have hl : Nat.ble (0 + 1) (n + 1) = true := Nat.ble_eq_true_of_le (by omega)
   have hfb : Nat.ble (H'.push (.cells (zp8 (n + 1) 0))).floor H'.next = true := hb
   refine ⟨(H'.push (.cells (zp8 (n + 1) 0))).set H'.next (.cells (zp8 (n + 1) 1)), 1, ?_, za7.trans (if_pos rfl), fun o' h => za7.trans ((if_neg h).trans (za6.trans (if_neg h))), rfl, rfl, by omega, fun _ => by omega⟩
   simp only [zaf8, srcN, Nat.beq_refl, cond_true, hm, hr, Option.map_some, List.length_cons, List.length_nil, Heap.writeSeg, hfb, za3 g1, z03, hl, aInt]
   rw [show Nat.beq (0 + 1) 0 = false from rfl]
   have := za32 (n := n + 1) (k := 0) (j := 1) (by omega)
   simp only [List.replicate, Nat.zero_add] at this
   simp only [cond_false, this]
   rfl
 obtain ⟨H2, k, c1, c2, c3, c4, c5, c6, c7⟩ := hc1
 simp [w2, n1, hmk, c1]
 refine zb7 (fun f τ H3 => ∃ k : Nat, k <= n /\ (0 < n -> 0 < k) /\ f = n - k /\ H3.get H'.next = some (.cells (zp8 n k)) /\ (∀ o', o' ≠ H'.next -> H3.get o' = H'.get o') /\ H3.next = H'.next + 1 /\ H3.floor = H'.floor /\ Env.at τ 7 = .slc H'.next 0 n 1 n true /\ Env.at τ 8 = .int .i64 (k : Int)) ?_ (n - k) _ _ ⟨k, c6, c7, rfl, c2, c3, c4, c5, by simp, by simp⟩
 rintro f τ H3 ⟨k, k1, k2, rfl, k3, k4, k5, k6, t7, t8⟩
 simp only [zi9, zd3]
 by_cases hc : k < n
 ·have hcp := zbj7 (H := H3) (lo := n - k) (ex := true) (lo' := n) (ex' := true) (by rw [k6]; exact hfl) k3 (k2 (by omega)) hc
  have w3 : IntKind.i64.wrap ((k : Int) + ((min k (n - k) : Nat) : Int)) = ((k + min k (n - k) : Nat) : Int) := wrap64 (by omega) (by omega)
  have hkn : (k : Int) <= (n : Int) := by omega
  simp [t7, t8, hc, sliceA, zd8, zl1, hkn, hcp, w3]
  have := k2 (by omega)
  refine ⟨_, ?_, k + min k (n - k), by omega, fun _ => by omega, rfl, za7.trans (if_pos rfl), fun o' h => za7.trans ((if_neg h).trans (k4 o' h)), ?_⟩
  ·omega
  ·exact ⟨k5, k6, (Int.natCast_add _ _).symm⟩
 ·have : k = n := by omega
  subst this
  simp [t7, t8]
  refine ⟨?_, k5, k6, by omega, ?_, ?_⟩
  ·rw [k3]
   congr 2
   unfold zp8 zi3
   exact z06 fun i hi => by rw [if_pos hi]; rfl
  ·intro o' x hx
   have : o' ≠ H'.next := fun e => by
    have := hw.2 o' (by omega); rw [this] at hx; cases hx
   rw [k4 _ this]; exact hx
  ·refine ⟨by rw [k5, k6]; omega, fun o' ho' => ?_⟩
   rw [k5] at ho'
   rw [k4 _ (by omega)]; exact hw.2 o' (by omega)
end
end Go.Proofs.Ytcepchipgjpkhaa.Gr
namespace Go.Proofs.Ytcepchipgjpkhaa.Gr
open Go Go.AI
def frB (p x : AV) : Bool := match p with | .ptr p _ => (match x with | .slc o _ _ _ _ _ => !Nat.beq p o | _ => true) | _ => false
theorem zm8 {τ : Env} {d : Option Nat} {e b : Nat} {x y : Opd} {g : Option (Nat × Bool)} {q : Bool} {fr : List Nat} : zg1 τ ⟨d, .append e b x y, g, q, fr⟩ = fr.all fun t => frB (Env.at τ t) (ev τ x) := by
 unfold zg1
 congr 1
 funext t
 cases Env.at τ t with
 | ptr p o =>
  show (true && match (match ev τ x with | .slc o _ _ _ _ _ => some o | _ => none) with | some q => !(Nat.beq p q) | none => true) = frB (.ptr p o) (ev τ x)
  cases ev τ x <;> rfl
 | _ => rfl
@[simp] theorem zbv5 {FT : Nat -> Option FnD} {τ : Env} {H : Heap} {Q : Post} {dst : Option Nat} {sz b : Nat} {x y : Opd} {t : Nat} {fr : List Nat} {rest : List zb6} :
  Wo FT (⟨dst, .append sz b x y, none, false, t :: fr⟩ :: rest) τ H Q ↔ ((t :: fr).all fun t => frB (Env.at τ t) (ev τ x)) = true /\ opK FT dst rest τ Q (zc4 sz b H (ev τ x) (ev τ y)) := by
 by_cases h : ((t :: fr).all fun t => frB (Env.at τ t) (ev τ x)) = true
 ·rw [zbl8 (by intros; simp) (by rw [zm8]; exact h)]
  simp only [h, true_and]
  rfl
 ·constructor
  ·rintro ⟨n, τ', H', e, q⟩
   have hf : zg1 τ ⟨dst, .append sz b x y, none, false, t :: fr⟩ = false := by
    rw [zm8]; simpa using h
   simp only [zv3, ze5, cond_true, hf, cond_false] at e
   cases e
  ·exact fun q => (h q.1).elim
def Row (H : Heap) (v : AV) (r : List Nat) : Prop :=
 (v = .nils /\ r = []) \/ ∃ o, v = .slc o 0 r.length 1 r.length false /\ r ≠ [] /\ H.get o = some (.cells (r.map fun x : Nat => AV.int .i64 (x : Int)))
def rowObj : AV -> Option Nat
 | .slc o _ _ _ _ _ => some o
 | _ => none
structure RS (H1 H : Heap) (on n : Nat) (vals : Nat -> AV) (next : Nat -> List Nat) : Prop where
 wf : H.Wf
 fl : H.floor = H1.floor
 nx : H1.next <= H.next
 onl : on < H1.next /\ H1.floor <= on
 gon : H.get on = some (.cells (arr n vals))
 old : ∀ o, o < H1.next -> o ≠ on -> H.get o = H1.get o
 rows : ∀ i, i < n -> Row H (vals i) (next i)
 obj : ∀ i, i < n -> ∀ o, rowObj (vals i) = some o -> H1.next <= o /\ o < H.next
 dist : ∀ i j, i < n -> j < n -> i ≠ j -> ∀ o, rowObj (vals i) = some o -> rowObj (vals j) ≠ some o
theorem Row.one {H : Heap} {v : AV} {r : List Nat} (h : Row H v r) : v.one = true := by
 rcases h with ⟨rfl, _⟩ | ⟨o, rfl, _⟩ <;> rfl
theorem Row.keep {H H' : Heap} {v : AV} {r : List Nat} (h : Row H v r) (k : ∀ o, rowObj v = some o -> H'.get o = H.get o) : Row H' v r := by
 rcases h with h | ⟨o, rfl, h1, h2⟩
 ·exact .inl h
 ·exact .inr ⟨o, rfl, h1, by rw [k o rfl]; exact h2⟩
theorem RS.app {H1 H : Heap} {on n : Nat} {vals : Nat -> AV} {next : Nat -> List Nat} (h : RS H1 H on n vals next) {a x : Nat} (ha : a < n) (hl : (next a).length <= 1099511627776) :
  ∃ v' H2, zc4 1 8 (H.push (.cells [.int .i64 (x : Int)])) (vals a) (.slc H.next 0 1 1 1 true) = some (v', H2) /\ ∃ H3, zf6 H2 1 (.ptr on a) v' = some (zb8, H3) /\ ∃ vals', RS H1 H3 on n vals' (upd next a (next a ++ [x])) /\ H.next <= H3.next /\ ∀ o, o < H.next -> o ≠ on -> (∀ i, i < n -> rowObj (vals i) ≠ some o) -> H3.get o = H.get o /\ ∀ i, i < n -> rowObj (vals' i) ≠ some o := by
 have hsrc : srcA 1 (H.push (.cells [.int .i64 (x : Int)])) (.slc H.next 0 1 1 1 true) = some (1, [.int .i64 (x : Int)]) := by
  simp [srcA, Heap.readSeg, zk1, seg]
 have hone : za5 [AV.int .i64 (x : Int)] = true := rfl
 have hnx := h.nx
 have hon := h.onl
 have fin : ∀ H2 o2, H2.Wf -> H2.floor = H.floor -> H2.next = H.next + 2 -> o2 = H.next + 1 -> H2.get o2 = some (.cells ((next a ++ [x]).map fun x : Nat => AV.int .i64 (x : Int))) -> (∀ o, o < H.next -> (rowObj (vals a) ≠ some o) -> H2.get o = H.get o) ->
   ∃ H3, zf6 H2 1 (.ptr on a) (.slc o2 0 (next a ++ [x]).length 1 (next a ++ [x]).length false) = some (zb8, H3) /\ ∃ vals', RS H1 H3 on n vals' (upd next a (next a ++ [x])) /\ H.next <= H3.next /\ ∀ o, o < H.next -> o ≠ on -> (∀ i, i < n -> rowObj (vals i) ≠ some o) -> H3.get o = H.get o /\ ∀ i, i < n -> rowObj (vals' i) ≠ some o := by
  intro H2 o2 k1 k2 k3 k4 k5 k6
  have gon2 : H2.get on = some (.cells (arr n vals)) := by
   rw [k6 on (by omega) (fun e => by have := (h.obj a ha on e).1; omega)]; exact h.gon
  refine ⟨_, zo5 (by rw [k2, h.fl]; exact hon.2) gon2 (by rw [zn6]; exact ha) rfl, upd vals a (.slc o2 0 (next a ++ [x]).length 1 (next a ++ [x]).length false), ?_⟩
  rw [zag7 ha]
  have hg : ∀ o, o ≠ on -> (H2.set on (.cells (arr n (upd vals a (.slc o2 0 (next a ++ [x]).length 1 (next a ++ [x]).length false))))).get o = H2.get o := fun o q => za7.trans (if_neg q)
  refine ⟨?_, by show H.next <= H2.next; omega, fun o q1 q2 q3 => ⟨?_, fun i hi => ?_⟩⟩
  rotate_left
  ·rw [hg o q2, k6 o q1 (q3 a ha)]
  ·by_cases e : i = a
   ·subst e; rw [upd_same]
    intro q; cases q; omega
   ·rw [upd_ne e]; exact q3 i hi
  refine ⟨Wf.set k1 (by omega), by show H2.floor = _; rw [k2]; exact h.fl, by show H1.next <= H2.next; omega, hon, za7.trans (if_pos rfl), ?_, ?_, ?_, ?_⟩
  ·intro o h1 h2
   rw [hg o h2, k6 o (by omega) (fun e => by have := (h.obj a ha o e).1; omega)]
   exact h.old o h1 h2
  ·intro i hi
   by_cases e : i = a
   ·subst e
    rw [upd_same, upd_same]
    exact .inr ⟨o2, rfl, by simp, by rw [hg o2 (by omega)]; exact k5⟩
   ·rw [upd_ne e, upd_ne e]
    refine (h.rows i hi).keep fun o ho => ?_
    have := h.obj i hi o ho
    rw [hg o (by omega), k6 o this.2 (fun q => h.dist i a hi ha e o ho q)]
  ·intro i hi o ho
   by_cases e : i = a
   ·subst e; rw [upd_same] at ho; cases ho
    exact ⟨by omega, by show o2 < H2.next; omega⟩
   ·rw [upd_ne e] at ho
    have := h.obj i hi o ho
    exact ⟨this.1, by show o < H2.next; omega⟩
  ·intro i j hi hj hij o ho
   by_cases e1 : i = a
   ·subst e1
    rw [upd_same] at ho; cases ho
    rw [upd_ne (fun e => hij e.symm)]
    intro q; have := (h.obj j hj _ q).2; omega
   ·rw [upd_ne e1] at ho
    by_cases e2 : j = a
    ·subst e2; rw [upd_same]
     intro q; cases q
     have := (h.obj i hi _ ho).2; omega
    ·rw [upd_ne e2]; exact h.dist i j hi hj hij o ho
 rcases h.rows a ha with ⟨e1, e2⟩ | ⟨o, e1, e2, e3⟩
 ·have hap : zc4 1 8 (H.push (.cells [.int .i64 (x : Int)])) (vals a) (.slc H.next 0 1 1 1 true) = some (.slc (H.next + 1) 0 1 1 1 false, (H.push (.cells [.int .i64 (x : Int)])).push (.cells [.int .i64 (x : Int)])) := by
   rw [e1]; simp only [zc4, hsrc, hone, cond_true]; rfl
  refine ⟨_, _, hap, ?_⟩
  have := fin ((H.push (.cells [.int .i64 (x : Int)])).push (.cells [.int .i64 (x : Int)])) (H.next + 1) ((h.wf.push _).push _) rfl rfl rfl (by rw [e2]; exact za6.trans (if_pos rfl)) (fun o ho _ => (za6.trans (if_neg (by show ¬ o = H.next + 1; omega))).trans (za6.trans (if_neg (by omega))))
  rw [e2] at this
  rw [e2]; exact this
 ·have hob := h.obj a ha o (by rw [e1]; rfl)
  have gq : (H.push (.cells [.int .i64 (x : Int)])).get o = some (.cells ((next a).map fun x : Nat => AV.int .i64 (x : Int))) := (za6.trans (if_neg (by omega))).trans e3
  have hb : Nat.ble ((next a).length + 1) (next a).length = false := by
   cases hh : Nat.ble ((next a).length + 1) (next a).length with
   | false => rfl
   | true => have := Nat.le_of_ble_eq_true hh; omega
  have hbig : Nat.ble ((2 * ((next a).length + 1) + 1024) * 8) (2 ^ 48) = true := Nat.ble_eq_true_of_le (by omega)
  have hfl : Nat.ble (H.push (.cells [.int .i64 (x : Int)])).floor o = true := Nat.ble_eq_true_of_le (by show H.floor <= o; have := h.fl; omega)
  have hread : (H.push (.cells [.int .i64 (x : Int)])).readSeg o 0 ((next a).length * 1) = some ((next a).map fun x : Nat => AV.int .i64 (x : Int)) := by
   unfold Heap.readSeg
   rw [za3 gq]
   have hseg : Nat.ble (0 + (next a).length * 1) ((next a).map fun x : Nat => AV.int .i64 (x : Int)).length = true := Nat.ble_eq_true_of_le (by simp)
   simp only [Option.bind_some, seg, hseg, cond_true]
   rw [List.drop_zero, List.take_of_length_le (by simp)]
  have hap : zc4 1 8 (H.push (.cells [.int .i64 (x : Int)])) (vals a) (.slc H.next 0 1 1 1 true) = some (.slc (H.next + 1) 0 ((next a).length + 1) 1 ((next a).length + 1) false, ((H.push (.cells [.int .i64 (x : Int)])).set o .dead).push (.cells ((next a).map (fun x : Nat => AV.int .i64 (x : Int)) ++ [.int .i64 (x : Int)]))) := by
   rw [e1]
   simp only [zc4, hsrc, hone, cond_true, Nat.beq_refl, hb]
   rw [show Nat.beq 1 0 = false from rfl]
   simp only [cond_false, hbig, cond_true, hread, hfl]
   rfl
  refine ⟨_, _, hap, ?_⟩
  have hwf : (((H.push (.cells [.int .i64 (x : Int)])).set o .dead).push (.cells ((next a).map (fun x : Nat => AV.int .i64 (x : Int)) ++ [.int .i64 (x : Int)]))).Wf := (Wf.set (h.wf.push _) (by show o < H.next + 1; omega)).push _
  have := fin _ (H.next + 1) hwf rfl rfl rfl (by
   rw [List.map_append]
   exact za6.trans (if_pos rfl)) (fun o' ho' hne => (za6.trans (if_neg (by show ¬ o' = H.next + 1; omega))).trans ((za7.trans (if_neg (fun e => by subst e; exact hne (by rw [e1]; rfl)))).trans (za6.trans (if_neg (by omega)))))
  rw [List.length_append] at this
  exact this
theorem RS.fresh {H1 H : Heap} {on n : Nat} {vals : Nat -> AV} {next : Nat -> List Nat} (h : RS H1 H on n vals next) {x : zo4} : RS H1 (H.push x) on n vals next := by
 have hnx := h.nx
 have hon := h.onl
 refine ⟨h.wf.push x, h.fl, by show H1.next <= H.next + 1; omega, h.onl, (za6.trans (if_neg (by omega))).trans h.gon, fun o h1 h2 => (za6.trans (if_neg (by omega))).trans (h.old o h1 h2), ?_, ?_, h.dist⟩
 ·intro i hi
  exact (h.rows i hi).keep fun o ho => za6.trans (if_neg (by have := (h.obj i hi o ho).2; omega))
 ·intro i hi o ho
  have := h.obj i hi o ho
  exact ⟨this.1, by show o < H.next + 1; omega⟩
theorem RS.setAt {H1 H : Heap} {on n : Nat} {vals : Nat -> AV} {next : Nat -> List Nat} (h : RS H1 H on n vals next) {o : Nat} {y : zo4} (h1 : H1.next <= o) (h2 : o < H.next) (h3 : ∀ i, i < n -> rowObj (vals i) ≠ some o) : RS H1 (H.set o y) on n vals next := by
 have hon := h.onl
 refine ⟨Wf.set h.wf h2, h.fl, h.nx, h.onl, (za7.trans (if_neg (by omega))).trans h.gon, fun o' q1 q2 => (za7.trans (if_neg (by omega))).trans (h.old o' q1 q2), ?_, h.obj, h.dist⟩
 intro i hi
 exact (h.rows i hi).keep fun o' ho => za7.trans (if_neg (fun e => by subst e; exact h3 i hi ho))
@[simp high] theorem Wo_quiet_mk {FT : Nat -> Option FnD} {τ : Env} {H : Heap} {Q : Post} {dst : Option Nat} {sz b : Nat} {zero : List AV} {l c : Opd} {rest : List zb6} :
  Wo FT (⟨dst, .makeSlice sz b zero l c, none, true, []⟩ :: rest) τ H Q ↔ opK FT dst rest τ Q (zn4 H sz b zero (ev τ l) (ev τ c)) := by
 rw [zv2 (by intros; simp)]
 have : (zf0 true H fun H => zb2 (ev τ) H (.makeSlice sz b zero l c)) = zn4 H sz b zero (ev τ l) (ev τ c) := by
  rw [zm5]
  simp only [zaw0]
  unfold zn4
  split
  ·split
   ·cases (Nat.beq zero.length sz && za5 zero) <;> rfl
   ·rfl
  ·rfl
 rw [this]
@[simp high] theorem Wo_quiet_mkmap {FT : Nat -> Option FnD} {τ : Env} {H : Heap} {Q : Post} {dst : Option Nat} {rest : List zb6} :
  Wo FT (⟨dst, .makeMap none, none, true, []⟩ :: rest) τ H Q ↔ opK FT dst rest τ Q (some (.map H.next, H.push (.map []))) := by
 rw [zv2 (by intros; simp)]; rfl
@[simp high] theorem Wo_quiet_box {FT : Nat -> Option FnD} {τ : Env} {H : Heap} {Q : Post} {dst : Option Nat} {x : Opd} {rest : List zb6} :
  Wo FT (⟨dst, .box x, none, true, []⟩ :: rest) τ H Q ↔ opK FT dst rest τ Q (bif za5 (ev τ x).cells then some (.ptr H.next 0, H.push (.cells (ev τ x).cells)) else none) := by
 rw [zv2 (by intros; simp)]
 have : (zf0 true H fun H => zb2 (ev τ) H (.box x)) = (bif za5 (ev τ x).cells then some (.ptr H.next 0, H.push (.cells (ev τ x).cells)) else none) := by
  rw [zm5]
  simp only [zcl6]
  cases za5 (ev τ x).cells <;> rfl
 rw [this]
theorem zbg1 {H : Heap} {n b : Nat} {x : AV} (hx : x.one = true) (hb : n * b <= 2 ^ 48) (hn : n <= 1000000) : zn4 H 1 b [x] (.int .i64 (n : Int)) (.int .i64 (n : Int)) = some (.slc H.next 0 n 1 n true, H.push (.cells (arr n fun _ => x))) := by
 have hz : ((n : Int) * (b : Int)) <= 2 ^ 48 := by
  have : ((n * b : Nat) : Int) <= ((2 ^ 48 : Nat) : Int) := Int.ofNat_le.2 hb
  simpa using this
 simp only [zn4]
 rw [if_pos ⟨by omega, by omega, hz, by omega⟩]
 simp only [Int.toNat_natCast, za27, za5, List.all_cons, hx, List.all_nil]
 rfl
theorem zb67 {FT : Nat -> Option FnD} (h32 : FT 130 = some (.code A130)) {H : Heap} (hw : H.Wf) {o off n lo : Nat} {ex : Bool} {cs : List AV} {m : Nat -> Option Nat} (hg : H.get o = some (.cells cs)) (hs : seg cs off n = some (zi3 n m)) (hn : n <= 1000000) :
  Cp FT 130 [.slc o off n 1 lo ex] H (fun r H' => ∃ o' l' x', r = .slc o' 0 n 1 l' x' /\ H'.get o' = some (.cells (zi3 n m)) /\ H.next <= o' /\ o' < H'.next /\ Ext H H') := by
 refine zb1 A130 h32 rfl ?_
 have heq : zi8 .eql .slice (.slc o off n 1 lo ex) .nils = some (.bool false) := rfl
 have ho : o < H.next := Classical.byContradiction fun q => by
  have := hw.2 o (by omega); rw [this] at hg; cases hg
 have hread : (H.push (.cells [])).readSeg o off (n * 1) = some (zi3 n m) := by
  unfold Heap.readSeg
  rw [za3 ((za6.trans (if_neg (by omega))).trans hg), Nat.mul_one]; exact hs
 have hsrc : srcA 1 (H.push (.cells [])) (.slc o off n 1 lo ex) = some (n, zi3 n m) := by
  simp only [srcA, Nat.beq_refl, cond_true, hread, Option.map_some]
 have hone : za5 (zi3 n m) = true := by
  simp [za5, zi3, arr, AV.one]
 have hap : ∃ o' l' x' H', zc4 1 8 (H.push (.cells [])) (.slc H.next 0 0 1 0 true) (.slc o off n 1 lo ex) = some (.slc o' 0 n 1 l' x', H') /\ H'.get o' = some (.cells (zi3 n m)) /\ H.next <= o' /\ o' < H'.next /\ Ext H H' := by
  by_cases h0 : n = 0
  ·subst h0
   refine ⟨H.next, 0, true, _, ?_, za6.trans (if_pos rfl), Nat.le_refl _, Nat.lt_succ_self _, Ext.push hw _⟩
   simp only [zc4, hsrc, hone, cond_true, Nat.beq_refl]
   rfl
  ·have hb0 : Nat.beq n 0 = false := by rw [Tr.nbeq]; simp [h0]
   have hb1 : Nat.ble n 0 = false := by
    cases hh : Nat.ble n 0 with
    | false => rfl
    | true => have := Nat.le_of_ble_eq_true hh; omega
   have hbig : Nat.ble ((2 * n + 1024) * 8) (2 ^ 48) = true := Nat.ble_eq_true_of_le (by omega)
   have hr0 : (H.push (.cells [])).readSeg H.next 0 (0 * 1) = some [] := by
    unfold Heap.readSeg
    rw [za3 (za6.trans (if_pos rfl))]; rfl
   refine ⟨H.next + 1, n, false, (H.push (.cells [])).push (.cells (zi3 n m)), ?_, za6.trans (if_pos rfl), Nat.le_succ _, by show H.next + 1 < H.next + 1 + 1; omega, (Ext.push hw _).trans (Ext.push (hw.push _) _)⟩
   simp only [zc4, hsrc, hone, cond_true, Nat.beq_refl, hb0, cond_false, hb1, hbig, hr0, List.nil_append, Nat.zero_add]
   rfl
 obtain ⟨o', l', x', H', k1, k2, k3, k4, k5⟩ := hap
 simp [A130, heq, k1]
 exact ⟨o', ⟨l', by cases x' <;> simp⟩, k2, k3, k4, k5⟩
end Go.Proofs.Ytcepchipgjpkhaa.Gr
namespace Go.Proofs.Ytcepchipgjpkhaa.Gr
open Go Go.AI
def addE (next : Nat -> List Nat) (p : Nat × Nat) : Nat -> List Nat :=
 upd (upd next p.1 (next p.1 ++ [p.2])) p.2 (upd next p.1 (next p.1 ++ [p.2]) p.2 ++ [p.1])
def zv6 (l : List (Nat × Nat)) : Nat -> List Nat := l.foldl addE fun _ => []
def up2 (p : Nat × Nat) : Int × Int := ((p.1 : Int), (p.2 : Int))
theorem zbv2 {next : Nat -> List Nat} {p : Nat × Nat} {a b : Nat} : b ∈ addE next p a ↔ b ∈ next a \/ (a, b) = p \/ (b, a) = p := by
 obtain ⟨x, y⟩ := p
 unfold addE
 simp only [Prod.mk.injEq]
 by_cases e1 : a = y
 ·subst e1
  rw [upd_same]
  by_cases e2 : a = x
  ·subst e2; rw [upd_same]; simp
  ·rw [upd_ne e2]; simp [e2]
 ·rw [upd_ne e1]
  by_cases e2 : a = x
  ·subst e2; rw [upd_same]; simp [e1]
  ·rw [upd_ne e2]; simp [e1, e2]
theorem zar7 : ∀ {l : List (Nat × Nat)} {next : Nat -> List Nat} {a b : Nat}, b ∈ l.foldl addE next a ↔ b ∈ next a \/ (a, b) ∈ l \/ (b, a) ∈ l
 | [], next, a, b => by simp
 | p :: l, next, a, b => by
  rw [List.foldl_cons, zar7, zbv2]
  simp only [List.mem_cons]
  constructor
  ·rintro ((h | h | h) | h | h)
   ·exact .inl h
   ·exact .inr (.inl (.inl h))
   ·exact .inr (.inr (.inl h))
   ·exact .inr (.inl (.inr h))
   ·exact .inr (.inr (.inr h))
  ·rintro (h | (h | h) | (h | h))
   ·exact .inl (.inl h)
   ·exact .inl (.inr (.inl h))
   ·exact .inr (.inl h)
   ·exact .inl (.inr (.inr h))
   ·exact .inr (.inr h)
theorem zaj9 {l : List (Nat × Nat)} {a b : Nat} : b ∈ zv6 l a ↔ (a, b) ∈ l \/ (b, a) ∈ l := by
 unfold zv6; rw [zar7]; simp
theorem zbv3 {next : Nat -> List Nat} {p : Nat × Nat} {a : Nat} : (addE next p a).length <= (next a).length + 2 := by
 unfold addE
 by_cases e1 : a = p.2
 ·rw [e1, upd_same, List.length_append]
  by_cases e2 : p.2 = p.1
  ·rw [e2, upd_same]; simp
  ·rw [upd_ne e2]; simp
 ·rw [upd_ne e1]
  by_cases e2 : a = p.1
  ·rw [e2, upd_same]; simp
  ·rw [upd_ne e2]; omega
theorem zaf0 : ∀ {l : List (Nat × Nat)} {next : Nat -> List Nat} {a : Nat}, (l.foldl addE next a).length <= (next a).length + 2 * l.length
 | [], next, a => by simp
 | p :: l, next, a => by
  rw [List.foldl_cons]
  have h1 := zaf0 (l := l) (next := addE next p) (a := a)
  have h2 := zbv3 (next := next) (p := p) (a := a)
  simp only [List.length_cons]; omega
theorem za67 {l : List (Nat × Nat)} {a : Nat} : (zv6 l a).length <= 2 * l.length := by
 have := zaf0 (l := l) (next := fun _ => []) (a := a)
 simp only [List.length_nil, Nat.zero_add] at this
 exact this
def s00 : St := { par := fun _ => some 0, base := fun _ => 0, used := fun _ => false, q := [] }
theorem zci7 {FT : Nat -> Option FnD} {c : za0} {τ : Env} {H : Heap} {Q : Post} (h : ∀ H1, H1 = H -> Wp FT c τ H1 Q) : Wp FT c τ H Q := h H rfl
theorem za26 {p off : Nat} {v : AV} (h : rowObj v ≠ some p) : frB (.ptr p off) v = true := by
 cases v with
 | slc o a b c d e =>
  show (!Nat.beq p o) = true
  have : p ≠ o := fun q => h (by rw [q]; rfl)
  rw [Tr.nbeq]; simp [this]
 | _ => rfl
theorem zba6 {l : List (Nat × Nat)} {i : Nat} {p : Nat × Nat} (h : l[i]? = some p) : (l.take (i + 1)).foldl addE (fun _ => []) = addE ((l.take i).foldl addE fun _ => []) p := by
 rw [List.take_add_one, h, List.foldl_append]; rfl
@[simp] theorem zbi9 {e : Opd -> AV} {cs : List AV} {off o a b sz lo : Nat} {ex : Bool} {r : List (Nat × Nat × Opd)} : zj7 e cs off 1 (.slc o a b sz lo ex) r = if off + 1 <= cs.length then zh0 e (setSeg cs off [.slc o a b sz lo ex]) r else none := by
 simp [zj7]
@[simp] theorem allOne_map1 {o : Nat} {l : List AV} : za5 (.map o :: l) = za5 l := rfl
@[simp] theorem zbj0 {e : Opd -> AV} {cs : List AV} {off o : Nat} {r : List (Nat × Nat × Opd)} : zj7 e cs off 1 (.map o) r = if off + 1 <= cs.length then zh0 e (setSeg cs off [.map o]) r else none := by
 simp [zj7]
section
variable {FT : Nat -> Option FnD} {H : Heap}
set_option maxRecDepth 20000 in
theorem zb10 (h22 : FT 98 = some (.code A98)) (h32 : FT 130 = some (.code A130)) {n : Nat} {v : AV} {l : List (Nat × Nat)} {o off lo : Nat} {ex : Bool} {cs : List AV} {m : Nat -> Option Nat} (hw : H.Wf) (h : zh3 H v (l.map up2)) (hl : ∀ a b, (a, b) ∈ l -> a < n /\ b < n) (hg : H.get o = some (.cells cs)) (hs : seg cs off n = some (zi3 n m)) (hn : n <= 1000000) (hll : l.length <= 1000000) :
  Cp FT 98 [.int .i64 n, v, .slc o off n 1 lo ex] H (fun r H' => ∃ c S, r = .ptr c.f 0 /\ FS S H' H' n c m s00 [] /\ Nx S H' c.vn n (zv6 l) /\ Ext H H' /\ ∀ o, o < H.next -> S o) := by
 refine zb1 A98 h22 rfl ?_
 have k1 := zbg1 (H := H) (n := n) (b := 24) (x := .nils) rfl (by omega) hn
 simp [A98, k1]
 have hwa : (H.push (.cells (arr n fun _ => .nils))).Wf := hw.push _
 have ho : o < H.next := Classical.byContradiction fun q => by
  have := hw.2 o (by omega); rw [this] at hg; cases hg
 refine (zb67 h32 (H := { H.push (.cells (arr n fun _ => .nils)) with floor := (H.push (.cells (arr n fun _ => .nils))).next }) (o := o) (cs := cs) ⟨Nat.le_refl _, hwa.2⟩ ((za6.trans (if_neg (by omega))).trans hg) hs hn).mono ?_
 rintro r Hb ⟨om, lm, xm, rfl, g1, g2, g3, g4⟩
 have mkI : ∀ H : Heap, zn4 H 1 8 [.int .i64 0] (.int .i64 (n : Int)) (.int .i64 (n : Int)) = some (.slc H.next 0 n 1 n true, H.push (.cells (arr n fun _ => .int .i64 0))) := fun H => zbg1 rfl (by omega) hn
 have mkB : ∀ H : Heap, zn4 H 1 1 [.bool false] (.int .i64 (n : Int)) (.int .i64 (n : Int)) = some (.slc H.next 0 n 1 n true, H.push (.cells (arr n fun _ => .bool false))) := fun H => zbg1 rfl (by omega) hn
 simp [mkI, mkB, setSeg, h.len]
 refine zci7 ?_
 intro H1 hH1
 have g2' : H.next + 1 <= om := g2
 have kHb : ∀ o x, H.get o = some x -> Hb.get o = some x := by
  intro o x e
  have ho : o < H.next := Classical.byContradiction fun q => by
   have := hw.2 o (by omega); rw [this] at e; cases e
  exact g4.keep o x ((za6.trans (if_neg (by omega))).trans e)
 have onb : Hb.get H.next = some (.cells (arr n fun _ => .nils)) := g4.keep _ _ (za6.trans (if_pos rfl))
 have G : ∀ o, H1.get o = if o = Hb.next + 4 then some (.cells [.slc H.next 0 n 1 n true, .slc om 0 n 1 lm xm, .slc Hb.next 0 n 1 n true, .slc (Hb.next + 1) 0 n 1 n true, .slc (Hb.next + 2) 0 n 1 n true, .map (Hb.next + 3), .nils]) else if o = Hb.next + 3 then some (.map []) else if o = Hb.next + 2 then some (.cells (arr n fun _ => .bool false)) else if o = Hb.next + 1 then some (.cells (arr n fun _ => .int .i64 0)) else if o = Hb.next then some (.cells (arr n fun _ => .int .i64 0)) else Hb.get o := by
  intro o
  rw [hH1]
  refine za6.trans ?_
  refine ite_congr rfl (fun _ => rfl) fun _ => ?_
  refine za6.trans ?_
  refine ite_congr rfl (fun _ => rfl) fun _ => ?_
  refine za6.trans ?_
  refine ite_congr rfl (fun _ => rfl) fun _ => ?_
  refine za6.trans ?_
  refine ite_congr rfl (fun _ => rfl) fun _ => ?_
  refine za6.trans ?_
  exact ite_congr rfl (fun _ => rfl) fun _ => rfl
 have nx1 : H1.next = Hb.next + 5 := by rw [hH1]; rfl
 have fl1 : H1.floor = H.floor := by rw [hH1]; rfl
 have wfb : Hb.Wf := g4.wf
 have hwf := hw.1
 have wf1 : H1.Wf := by
  refine ⟨by rw [nx1, fl1]; omega, fun o hq => ?_⟩
  rw [nx1] at hq
  rw [G, if_neg (by omega), if_neg (by omega), if_neg (by omega), if_neg (by omega), if_neg (by omega)]
  exact wfb.2 o (by omega)
 have Gb : ∀ o, o < Hb.next -> H1.get o = Hb.get o := fun o q => by
  rw [G, if_neg (by omega), if_neg (by omega), if_neg (by omega), if_neg (by omega), if_neg (by omega)]
 have gf1 : H1.get (Hb.next + 4) = some (.cells [.slc H.next 0 n 1 n true, .slc om 0 n 1 lm xm, .slc Hb.next 0 n 1 n true, .slc (Hb.next + 1) 0 n 1 n true, .slc (Hb.next + 2) 0 n 1 n true, .map (Hb.next + 3), .nils]) := by rw [G, if_pos rfl]
 have onlt : H.next < Hb.next := by omega
 have rs1 : RS H1 H1 H.next n (fun _ => .nils) (fun _ => []) := ⟨wf1, rfl, Nat.le_refl _, ⟨by omega, by rw [fl1]; exact hwf⟩, (Gb _ onlt).trans onb, fun _ _ _ => rfl, fun _ _ => .inl ⟨rfl, rfl⟩, fun _ _ _ e => (by cases e), fun _ _ _ _ _ _ e => (by cases e)⟩
 have extOf : ∀ {H' vals next}, RS H1 H' H.next n vals next -> Ext H H' := by
  intro H' vals next rs
  have := rs.nx
  refine ⟨rs.fl.trans fl1, by omega, fun o x e => ?_, rs.wf⟩
  have ho : o < H.next := Classical.byContradiction fun q => by
   have := hw.2 o (by omega); rw [this] at e; cases e
  rw [rs.old o (by omega) (by omega), Gb o (by omega)]; exact kHb o x e
 refine zb7 (fun f τ H' => ∃ (i : Nat) (vals : Nat -> AV), i <= l.length /\ f = l.length - i /\ RS H1 H' H.next n vals ((l.take i).foldl addE fun _ => []) /\ Env.at τ 7 = .ptr (Hb.next + 4) 0 /\ Env.at τ 23 = v /\ Env.at τ 24 = .int .i64 (l.length : Int) /\ Env.at τ 25 = .int .i64 (i : Int)) ?_ l.length _ _ ⟨0, _, by omega, rfl, rs1, by simp, by simp, by simp, by simp⟩
 rintro f τ H2 ⟨i, vals, hi, rfl, rs, t7, t23, t24, t25⟩
 simp only [zi9, zd3]
 have hnx2 := rs.nx
 have hlen : ((l.map up2).length : Int) = (l.length : Int) := by rw [List.length_map]
 by_cases hc : i < l.length
 ·have w : IntKind.i64.wrap ((i : Int) + 1) = ((i + 1 : Nat) : Int) := wrap64 (by omega) (by omega)
  have hP : zh3 H2 v (l.map up2) := h.ext (extOf rs)
  obtain ⟨po, poff, x, hx, hp, hld, _⟩ := zh3.idx hP (k := .i64) (i := i) (by omega) (by rw [hlen]; omega)
  have hget : l[i]? = some l[i] := List.getElem?_eq_getElem hc
  rw [Int.toNat_natCast, List.getElem?_map, hget] at hx
  simp only [Option.map_some, Option.some.injEq] at hx
  have ts := zba6 hget
  have hmem := List.getElem_mem hc
  generalize l[i] = p at hget hx hmem ts
  obtain ⟨a, b⟩ := p
  subst hx
  obtain ⟨ha, hb⟩ := hl a b hmem
  have len0 : ∀ a, ((l.take i).foldl addE (fun _ => []) a).length <= 2 * i := fun a => by
   have := zaf0 (l := l.take i) (next := fun _ => []) (a := a)
   simp only [List.length_nil, Nat.zero_add, List.length_take] at this
   omega
  generalize (l.take i).foldl addE (fun _ => []) = next0 at rs ts len0
  have rsp := rs.fresh (x := .cells [.int .i64 0, .int .i64 0])
  have hso : ∀ j, j < n -> rowObj (vals j) ≠ some H2.next := fun j hj e => by have := (rs.obj j hj _ e).2; omega
  have rss := rsp.setAt (o := H2.next) (y := .cells [.int .i64 (a : Int), .int .i64 (b : Int)]) hnx2 (by show H2.next < H2.next + 1; omega) hso
  have hfl2 : Nat.ble H2.floor H2.next = true := Nat.ble_eq_true_of_le rs.wf.1
  have hst : zf6 (H2.push (.cells [.int .i64 0, .int .i64 0])) 2 (.ptr H2.next 0) (.agg (za2 (up2 (a, b)))) = some (zb8, (H2.push (.cells [.int .i64 0, .int .i64 0])).set H2.next (.cells [.int .i64 (a : Int), .int .i64 (b : Int)])) := by
   have hf : Nat.ble (H2.push (.cells [.int .i64 0, .int .i64 0])).floor H2.next = true := hfl2
   simp only [ze4, zbk3, za2, up2, Heap.writeSeg, hf, zk1]
   rfl
  have gs : ((H2.push (.cells [.int .i64 0, .int .i64 0])).set H2.next (.cells [.int .i64 (a : Int), .int .i64 (b : Int)])).get H2.next = some (.cells [.int .i64 (a : Int), .int .i64 (b : Int)]) := za7.trans (if_pos rfl)
  have nxs : ((H2.push (.cells [.int .i64 0, .int .i64 0])).set H2.next (.cells [.int .i64 (a : Int), .int .i64 (b : Int)])).next = H2.next + 1 := rfl
  generalize (H2.push (.cells [.int .i64 0, .int .i64 0])).set H2.next (.cells [.int .i64 (a : Int), .int .i64 (b : Int)]) = Hs at hst gs rss nxs
  have fld : ∀ {H' vals next}, RS H1 H' H.next n vals next -> za9 H' none (.ptr (Hb.next + 4) 0) = some (.slc H.next 0 n 1 n true) := fun rs => za1 ((rs.old _ (by omega) (by omega)).trans gf1) rfl
  have rowl : ∀ {H' vals next j}, RS H1 H' H.next n vals next -> j < n -> za9 H' none (.ptr H.next j) = some (vals j) := fun rs hj => za1 rs.gon (zp5 hj)
  have frf : ∀ {H' vals next j}, RS H1 H' H.next n vals next -> j < n -> frB (.ptr (Hb.next + 4) 0) (vals j) = true := fun rs hj => za26 fun e => by have := (rs.obj _ hj _ e).1; omega
  obtain ⟨v1, Ha1, ap1, H3, st1, vals1, rs3, nx3, kp3⟩ := rss.app (a := a) (x := b) ha (by have := len0 a; omega)
  have lenb : (upd next0 a (next0 a ++ [b]) b).length <= 1099511627776 := by
   by_cases e : b = a
   ·rw [e, upd_same, List.length_append]; have := len0 a; simp; omega
   ·rw [upd_ne e]; have := len0 b; omega
  obtain ⟨k3, k3'⟩ := kp3 H2.next (by omega) (by omega) hso
  have gs3 : H3.get H2.next = some (.cells [.int .i64 (a : Int), .int .i64 (b : Int)]) := k3.trans gs
  obtain ⟨v2, Ha2, ap2, H4, st2, vals2, rs4, nx4, _⟩ := rs3.app (a := b) (x := a) hb lenb
  have fs1 : ∀ off, frB (.ptr H2.next off) (vals a) = true := fun off => za26 (hso a ha)
  have fs2 : ∀ off, frB (.ptr H2.next off) (vals1 b) = true := fun off => za26 (k3' b hb)
  have w0 : za9 Hs none (.ptr H2.next 0) = some (.int .i64 (a : Int)) := za1 gs rfl
  have w1 : za9 Hs none (.ptr H2.next 1) = some (.int .i64 (b : Int)) := za1 gs rfl
  have w2 : za9 H3 none (.ptr H2.next 0) = some (.int .i64 (a : Int)) := za1 gs3 rfl
  have w3 : za9 H3 none (.ptr H2.next 1) = some (.int .i64 (b : Int)) := za1 gs3 rfl
  simp [t7, t23, t24, t25, hc, hp, hld, hst, fld rss, fld rs3, w0, w1, w2, w3, ha, hb, rowl rss ha, rowl rs3 hb, frf rss ha, frf rs3 hb, fs1, fs2, ap1, st1, ap2, st2, w]
  refine ⟨_, ?_, i + 1, by omega, rfl, ⟨vals2, ?_⟩, by simp⟩
  ·omega
  ·rw [ts]; exact rs4
 ·have : i = l.length := by omega
  subst this
  rw [List.take_length] at rs
  simp [t7, t23, t24, t25]
  refine ⟨{ f := Hb.next + 4, om := om, op := Hb.next, ob := Hb.next + 1, ou := Hb.next + 2, ok := Hb.next + 3, lm := lm, lp := n, lb := n, lu := n, xm := xm, xp := true, xb := true, xu := true, vn := .slc H.next 0 n 1 n true }, rfl, fun o => o < H.next \/ o = H.next \/ ∃ i, i < n /\ rowObj (vals i) = some o, ?_, ?_, extOf rs, fun o ho => .inl ho⟩
  ·have old : ∀ o, o < H1.next -> o ≠ H.next -> H2.get o = H1.get o := rs.old
   have nS : ∀ o, H.next < o -> o < H1.next -> ¬ (o < H.next \/ o = H.next \/ ∃ i, i < n /\ rowObj (vals i) = some o) := by
    rintro o h1 h2 (q | q | ⟨i, q1, q2⟩)
    ·omega
    ·omega
    ·have := (rs.obj i q1 o q2).1; omega
   have hflo : H2.floor <= H.next := by rw [rs.fl, fl1]; exact hwf
   refine ⟨rs.wf, rfl, fun o ho => ⟨rfl, ?_⟩, ?_, ?_, rfl, ⟨.nils, ?_, .inl ⟨rfl, rfl⟩⟩, ?_, ?_, ?_, ?_, ?_⟩
   ·rcases ho with q | q | ⟨i, q1, q2⟩
    ·omega
    ·omega
    ·exact (rs.obj i q1 o q2).2
   ·simp [FC.own]; omega
   ·intro o ho
    simp [FC.own] at ho
    refine ⟨by omega, by omega, nS o (by omega) (by omega)⟩
   ·exact (old _ (by show Hb.next + 4 < H1.next; omega) (by show Hb.next + 4 ≠ H.next; omega)).trans gf1
   ·exact (old _ (by show om < H1.next; omega) (by show om ≠ H.next; omega)).trans ((Gb _ g3).trans g1)
   ·refine (old _ (by show Hb.next < H1.next; omega) (by show Hb.next ≠ H.next; omega)).trans ?_
    show H1.get (Hb.next) = _
    rw [G, if_neg (by omega), if_neg (by omega), if_neg (by omega), if_neg (by omega), if_pos rfl]; rfl
   ·refine (old _ (by show Hb.next + 1 < H1.next; omega) (by show Hb.next + 1 ≠ H.next; omega)).trans ?_
    show H1.get (Hb.next + 1) = _
    rw [G, if_neg (by omega), if_neg (by omega), if_neg (by omega), if_pos rfl]; rfl
   ·refine (old _ (by show Hb.next + 2 < H1.next; omega) (by show Hb.next + 2 ≠ H.next; omega)).trans ?_
    show H1.get (Hb.next + 2) = _
    rw [G, if_neg (by omega), if_neg (by omega), if_pos rfl]; rfl
   ·refine (old _ (by show Hb.next + 3 < H1.next; omega) (by show Hb.next + 3 ≠ H.next; omega)).trans ?_
    show H1.get (Hb.next + 3) = _
    rw [G, if_neg (by omega), if_pos rfl]; rfl
  ·refine ⟨H.next, n, true, vals, rfl, .inr (.inl rfl), rs.gon, fun i hi => ?_⟩
   rcases rs.rows i hi with q | ⟨o, q1, q2, q3⟩
   ·exact .inl q
   ·refine .inr ⟨o, 0, _, _, _, q1, .inr (.inr ⟨i, hi, by rw [q1]; rfl⟩), q3, fun j x hx => ?_⟩
    have hx : (l.foldl addE (fun _ => []) i)[j]? = some x := hx
    rw [Nat.zero_add, List.getElem?_map, hx]; rfl
end
end Go.Proofs.Ytcepchipgjpkhaa.Gr
