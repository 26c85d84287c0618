/- The program's predicates: products of two words. No claim by itself. -/
import Derived.Test.YtcepchipgjpkhaaNA
import Derived.Test.YtcepchipgjpkhaaEH
import Derived.Test.YtcepchipgjpkhaaX
namespace Go.Proofs.Ytcepchipgjpkhaa
open Go Go.AI
section
variable {FT : Nat -> Option FnD} {H H' : Heap}
theorem zl2 {n : Int} (h0 : 0 <= n) (h1 : n < 18446744073709551616) : IntKind.wrap .u64 n = n := by
 unfold IntKind.wrap
 simp [IntKind.bits, IntKind.signed]
 omega
theorem za95 (n : Nat) : IntKind.wrap .u64 (n : Int) = ((n % 18446744073709551616 : Nat) : Int) := by
 unfold IntKind.wrap
 simp [IntKind.bits, IntKind.signed]
theorem zay5 {a : Nat} (ha : a < 18446744073709551616) : ∃ x : Nat, zi8 .and (.prim .int) (.int .u64 (a : Int)) (.int .u64 4294967295) = some (.int .u64 (x : Int)) /\ x = a % 4294967296 := by
 refine ⟨a % 4294967296, ?_, rfl⟩
 have h1 : (BitVec.ofInt 64 (a : Int) &&& BitVec.ofInt 64 4294967295).toNat = a % 4294967296 := by
  rw [BitVec.toNat_and]
  have h2 : (BitVec.ofInt 64 (a : Int)).toNat = a := by simp; omega
  have h3 : (BitVec.ofInt 64 4294967295).toNat = 2 ^ 32 - 1 := by decide
  rw [h2, h3, Nat.and_two_pow_sub_one_eq_mod]
 show (if IntKind.u64 = IntKind.u64 then some (AV.int .u64 (IntKind.u64.wrap ((BitVec.ofInt 64 (a : Int) &&& BitVec.ofInt 64 4294967295).toNat : Int))) else none) = _
 rw [if_pos rfl, h1, za95, Nat.mod_eq_of_lt (Nat.lt_trans (Nat.mod_lt _ (by omega)) (by omega))]
theorem zal0 (a : Nat) : ∃ x : Nat, zi8 .shr (.prim .int) (.int .u64 (a : Int)) (.int .u64 32) = some (.int .u64 (x : Int)) /\ x = a / 4294967296 := by
 refine ⟨a / 4294967296, ?_, rfl⟩
 show (if (32 : Int) < 0 then none else some (AV.int .u64 ((a : Int).fdiv (2 ^ (min (32 : Int).toNat IntKind.u64.bits))))) = _
 rw [if_neg (by omega), Int.fdiv_eq_ediv_of_nonneg _ (by decide)]
 rfl
theorem zau9 (h162 : FT 162 = some (.code A162)) {n : Int} (h0 : -9223372036854775807 <= n) (h1 : n <= 9223372036854775807) :
  Cp FT 162 [.int .i64 n] H (fun r H' => r = .int .u64 (n.natAbs : Nat) /\ H' = H) := by
 refine zb1 A162 h162 rfl ?_
 have w1 : IntKind.i64.wrap (0 - n) = -n := by rw [wrap64 (by omega) (by omega)]; omega
 have hn : unA .neg (.int .i64 n) = some (.int .i64 (-n)) := by
  show some (AV.int .i64 (IntKind.i64.wrap (0 - n))) = _
  rw [w1]
 have hm : maxA true (.int .i64 n) [.int .i64 (-n)] = some (.int .i64 (n.natAbs : Nat)) := by
  simp [maxA]
  split <;> omega
 have w2 : IntKind.u64.wrap ((n.natAbs : Nat) : Int) = (n.natAbs : Nat) := zl2 (by omega) (by omega)
 generalize n.natAbs = k at *
 simp [A162, hn, hm, w2]
theorem zce7 (h154 : FT 154 = some (.code A154)) {a b : Nat} (ha : a < 18446744073709551616) (hb : b < 18446744073709551616) :
  Cp FT 154 [.int .u64 a, .int .u64 b] H (fun r H' => (∃ hi lo : Nat, r = .tup [.int .u64 hi, .int .u64 lo] /\ hi < 18446744073709551616 /\ lo < 18446744073709551616 /\ hi * 18446744073709551616 + lo = a * b) /\ H' = H) := by
 refine zb1 A154 h154 rfl ?_
 obtain ⟨x0, a1, ex0⟩ := zay5 ha
 obtain ⟨x1, a2, ex1⟩ := zal0 a
 obtain ⟨y0, a3, ey0⟩ := zay5 hb
 obtain ⟨y1, a4, ey1⟩ := zal0 b
 have bx0 : x0 <= 4294967295 := by omega
 have bx1 : x1 <= 4294967295 := by omega
 have by0 : y0 <= 4294967295 := by omega
 have by1 : y1 <= 4294967295 := by omega
 have b00 := Nat.mul_le_mul bx0 by0
 have b10 := Nat.mul_le_mul bx1 by0
 have b01 := Nat.mul_le_mul bx0 by1
 have b11 := Nat.mul_le_mul bx1 by1
 have eab : a * b = x1 * y1 * 18446744073709551616 + (x1 * y0 + x0 * y1) * 4294967296 + x0 * y0 := by
  have e1 : a = x1 * 4294967296 + x0 := by omega
  have e2 : b = y1 * 4294967296 + y0 := by omega
  rw [e1, e2]
  simp only [Nat.add_mul, Nat.mul_add]
  have h1 : x1 * 4294967296 * (y1 * 4294967296) = x1 * y1 * 18446744073709551616 := by
   rw [Nat.mul_assoc, Nat.mul_left_comm 4294967296, <- Nat.mul_assoc]
  have h2 : x1 * 4294967296 * y0 = x1 * y0 * 4294967296 := Nat.mul_right_comm _ _ _
  have h3 : x0 * (y1 * 4294967296) = x0 * y1 * 4294967296 := (Nat.mul_assoc _ _ _).symm
  rw [h1, h2, h3]; omega
 obtain ⟨p00, m00⟩ : ∃ p, x0 * y0 = p := ⟨_, rfl⟩
 obtain ⟨p10, m10⟩ : ∃ p, x1 * y0 = p := ⟨_, rfl⟩
 obtain ⟨p01, m01⟩ : ∃ p, x0 * y1 = p := ⟨_, rfl⟩
 obtain ⟨p11, m11⟩ : ∃ p, x1 * y1 = p := ⟨_, rfl⟩
 obtain ⟨pab, mab⟩ : ∃ p, a * b = p := ⟨_, rfl⟩
 rw [m00, m10, m01, m11, mab] at eab
 rw [m00] at b00; rw [m10] at b10; rw [m01] at b01; rw [m11] at b11
 have c00 : (x0 : Int) * (y0 : Int) = (p00 : Int) := by rw [<- m00]; simp
 have c10 : (x1 : Int) * (y0 : Int) = (p10 : Int) := by rw [<- m10]; simp
 have c01 : (x0 : Int) * (y1 : Int) = (p01 : Int) := by rw [<- m01]; simp
 have c11 : (x1 : Int) * (y1 : Int) = (p11 : Int) := by rw [<- m11]; simp
 have cab : (a : Int) * (b : Int) = (pab : Int) := by rw [<- mab]; simp
 have w00 : IntKind.u64.wrap (p00 : Int) = p00 := zl2 (by omega) (by omega)
 have w10 : IntKind.u64.wrap (p10 : Int) = p10 := zl2 (by omega) (by omega)
 have w01 : IntKind.u64.wrap (p01 : Int) = p01 := zl2 (by omega) (by omega)
 have w11 : IntKind.u64.wrap (p11 : Int) = p11 := zl2 (by omega) (by omega)
 obtain ⟨s0, d0, es0⟩ := zal0 p00
 obtain ⟨t, ht⟩ : ∃ t : Nat, t = p10 + s0 := ⟨_, rfl⟩
 have wt : IntKind.u64.wrap ((p10 : Int) + (s0 : Int)) = (t : Int) := by rw [zl2 (by omega) (by omega)]; omega
 obtain ⟨w1, d1, ew1⟩ := zay5 (a := t) (by omega)
 obtain ⟨w2, d2, ew2⟩ := zal0 t
 obtain ⟨q, hq⟩ : ∃ q : Nat, q = w1 + p01 := ⟨_, rfl⟩
 have wq : IntKind.u64.wrap ((w1 : Int) + (p01 : Int)) = (q : Int) := by rw [zl2 (by omega) (by omega)]; omega
 obtain ⟨s1, d3, es1⟩ := zal0 q
 obtain ⟨h, hh⟩ : ∃ h : Nat, h = p11 + w2 := ⟨_, rfl⟩
 have wh : IntKind.u64.wrap ((p11 : Int) + (w2 : Int)) = (h : Int) := by rw [zl2 (by omega) (by omega)]; omega
 obtain ⟨hi, hhi⟩ : ∃ hi : Nat, hi = h + s1 := ⟨_, rfl⟩
 have whi : IntKind.u64.wrap ((h : Int) + (s1 : Int)) = (hi : Int) := by rw [zl2 (by omega) (by omega)]; omega
 obtain ⟨lo, hlo⟩ : ∃ lo : Nat, lo = pab % 18446744073709551616 := ⟨_, rfl⟩
 have wlo : IntKind.u64.wrap (pab : Int) = (lo : Int) := by rw [za95, hlo]
 rw [mab]
 simp [A154, a1, a2, a3, a4, c00, c10, c01, c11, cab, w00, w10, w01, w11, d0, wt, d1, d2, wq, d3, wh, whi, wlo]
 exact ⟨hi, lo, ⟨rfl, rfl⟩, by omega, by omega, by omega⟩
end
end Go.Proofs.Ytcepchipgjpkhaa
namespace Go.Proofs.Ytcepchipgjpkhaa
open Go Go.AI
section
variable {FT : Nat -> Option FnD} {H H' : Heap}
structure Lm where
 a : Nat
 b : Nat
 c : Nat
 d : Nat
structure Lm.Ok (l : Lm) : Prop where
 a : l.a < 18446744073709551616
 b : l.b < 18446744073709551616
 c : l.c < 18446744073709551616
 d : l.d < 18446744073709551616
noncomputable def Lm.val (l : Lm) : Nat := Classical.choose (⟨_, rfl⟩ : ∃ n : Nat, n = l.a + l.b * 18446744073709551616 + l.c * 340282366920938463463374607431768211456 + l.d * 6277101735386680763835789423207666416102355444464034512896)
theorem Lm.val_eq (l : Lm) : l.val = l.a + l.b * 18446744073709551616 + l.c * 340282366920938463463374607431768211456 + l.d * 6277101735386680763835789423207666416102355444464034512896 := Classical.choose_spec (⟨_, rfl⟩ : ∃ n : Nat, n = l.a + l.b * 18446744073709551616 + l.c * 340282366920938463463374607431768211456 + l.d * 6277101735386680763835789423207666416102355444464034512896)
def Lm.cells (l : Lm) : List AV := [.int .u64 (l.a : Int), .int .u64 (l.b : Int), .int .u64 (l.c : Int), .int .u64 (l.d : Int)]
theorem zb58 (l : Lm) : zi8 .eql (.flat [.int, .int, .int, .int]) (.agg l.cells) (.agg [.int .u64 0, .int .u64 0, .int .u64 0, .int .u64 0]) = some (.bool (decide (l.val = 0))) := by
 have e : zi8 .eql (.flat [.int, .int, .int, .int]) (.agg l.cells) (.agg [.int .u64 0, .int .u64 0, .int .u64 0, .int .u64 0]) =
   (match some ((l.a : Int) == 0) with | some true => (match some ((l.b : Int) == 0) with | some true => (match some ((l.c : Int) == 0) with | some true => (match some ((l.d : Int) == 0) with | some true => some true | some false => some false | none => none) | some false => some false | none => none) | some false => some false | none => none) | some false => some false | none => none).map AV.bool := rfl
 rw [e]
 simp only [Lm.val_eq]
 have k : ∀ n : Nat, ((n : Int) == 0) = decide (n = 0) := fun n => by
  by_cases h : n = 0
  ·subst h; rfl
  ·rw [beq_eq_false_iff_ne.2 (by omega), decide_eq_false h]
 rw [k, k, k, k]
 by_cases h1 : l.a = 0
 ·by_cases h2 : l.b = 0
  ·by_cases h3 : l.c = 0
   ·by_cases h4 : l.d = 0
    ·rw [decide_eq_true h1, decide_eq_true h2, decide_eq_true h3, decide_eq_true h4, decide_eq_true (by omega)]; rfl
    ·rw [decide_eq_true h1, decide_eq_true h2, decide_eq_true h3, decide_eq_false h4, decide_eq_false (by omega)]; rfl
   ·rw [decide_eq_true h1, decide_eq_true h2, decide_eq_false h3, decide_eq_false (p := _ = 0) (by omega : ¬ l.a + l.b * 18446744073709551616 + l.c * 340282366920938463463374607431768211456 + l.d * 6277101735386680763835789423207666416102355444464034512896 = 0)]; rfl
  ·rw [decide_eq_true h1, decide_eq_false h2, decide_eq_false (p := _ = 0) (by omega : ¬ l.a + l.b * 18446744073709551616 + l.c * 340282366920938463463374607431768211456 + l.d * 6277101735386680763835789423207666416102355444464034512896 = 0)]; rfl
 ·rw [decide_eq_false h1, decide_eq_false (p := _ = 0) (by omega : ¬ l.a + l.b * 18446744073709551616 + l.c * 340282366920938463463374607431768211456 + l.d * 6277101735386680763835789423207666416102355444464034512896 = 0)]; rfl
theorem zb42 (h168 : FT 168 = some (.code A168)) (hw : H.Wf) {l : Lm} : Cp FT 168 [.agg l.cells] H (fun r H' => r = .bool (decide (l.val = 0)) /\ Ext H H') := by
 refine zb1 A168 h168 rfl ?_
 obtain ⟨g0, e0⟩ := za4 hw (.cells l.cells)
 have l0 : za9 (H.push (.cells l.cells)) (some 4) (.ptr H.next 0) = some (.agg l.cells) := zc0 g0 rfl
 have hc : l.cells = [.int .u64 (l.a : Int), .int .u64 (l.b : Int), .int .u64 (l.c : Int), .int .u64 (l.d : Int)] := rfl
 have hp : H.push (.cells [.int .u64 (l.a : Int), .int .u64 (l.b : Int), .int .u64 (l.c : Int), .int .u64 (l.d : Int)]) = H.push (.cells l.cells) := rfl
 rw [hc]
 have hq := zb58 l
 simp [A168, hp, l0, hq]
 exact e0
theorem zbx7 (h170 : FT 170 = some (.code A170)) {a : Int} : Cp FT 170 [.int .u64 a] H (fun r H' => r = .bool false /\ H' = H) := by
 refine zb1 A170 h170 rfl ?_
 simp [A170]
theorem zb66 (h169 : FT 169 = some (.code A169)) (h170 : FT 170 = some (.code A170)) {a b : Int} : Cp FT 169 [.int .u64 a, .int .u64 b] H (fun r H' => r = .int .i64 (a - b).sign /\ H' = H) := by
 refine zb1 A169 h169 rfl ?_
 simp [A169]
 refine (zbx7 h170).mono ?_
 rintro _ _ ⟨rfl, rfl⟩
 simp
 refine (zbx7 h170).mono ?_
 rintro _ _ ⟨rfl, rfl⟩
 by_cases c : a < b
 ·have : (a - b).sign = -1 := Int.sign_eq_neg_one_of_neg (by omega)
  simp [c, this]
 ·by_cases d : b < a
  ·have : (a - b).sign = 1 := Int.sign_eq_one_of_pos (by omega)
   simp [c, d, this]
  ·have e : a = b := by omega
   subst e
   simp
noncomputable def Lm.zval (m : Bool) (l : Lm) : Int := if m = true then -(l.val : Int) else l.val
theorem zbc0 (h166 : FT 166 = some (.code A166)) (h168 : FT 168 = some (.code A168)) (hw : H.Wf) {m : Bool} {l : Lm} (_hm : m = true -> l.val ≠ 0) : Cp FT 166 [.agg (.bool m :: l.cells)] H (fun r H' => r = .int .i64 (Lm.zval m l).sign /\ Ext H H') := by
 refine zb1 A166 h166 rfl ?_
 obtain ⟨g0, e0⟩ := za4 hw (.cells (.bool m :: l.cells))
 have hc : l.cells = [.int .u64 (l.a : Int), .int .u64 (l.b : Int), .int .u64 (l.c : Int), .int .u64 (l.d : Int)] := rfl
 have hp : H.push (.cells [.bool m, .int .u64 (l.a : Int), .int .u64 (l.b : Int), .int .u64 (l.c : Int), .int .u64 (l.d : Int)]) = H.push (.cells (.bool m :: l.cells)) := rfl
 have l0 : za9 (H.push (.cells (.bool m :: l.cells))) (some 4) (.ptr H.next 1) = some (.agg l.cells) := by
  rw [ze3, za3 g0]; rfl
 simp only [hc]
 simp [A166, hp, l0]
 refine (zb42 h168 e0.wf).mono ?_
 rintro _ H1 ⟨rfl, e1⟩
 have l1 : za9 H1 none (.ptr H.next 0) = some (.bool m) := za1 (e1.keep _ _ g0) rfl
 by_cases z : l.val = 0
 ·have : (Lm.zval m l).sign = 0 := by unfold Lm.zval; rw [z]; simp
  simp [z, this]
  exact e0.trans e1
 ·cases m with
  | true =>
   have : (Lm.zval true l).sign = -1 := Int.sign_eq_neg_one_of_neg (by unfold Lm.zval; simp; omega)
   simp [z, l1, this]
   exact e0.trans e1
  | false =>
   have : (Lm.zval false l).sign = 1 := Int.sign_eq_one_of_pos (by unfold Lm.zval; simp; omega)
   simp [z, l1, this]
   exact e0.trans e1
def Lm.at (l : Lm) : Nat -> Nat
 | 0 => l.a
 | 1 => l.b
 | 2 => l.c
 | _ => l.d
theorem Lm.load {o : Nat} {l : Lm} (g : H.get o = some (.cells l.cells)) {i : Nat} (hi : i < 4) : za9 H none (.ptr o i) = some (.int .u64 (l.at i : Int)) := by
 have ci : i = 0 \/ i = 1 \/ i = 2 \/ i = 3 := by omega
 rcases ci with rfl | rfl | rfl | rfl <;> exact za1 g rfl
theorem Lm.diff {l k : Lm} (hl : l.Ok) (hk : k.Ok) {n : Nat} (hn : n < 4) (he : ∀ i, n < i -> i < 4 -> l.at i = k.at i) (hd : l.at n ≠ k.at n) : ((l.at n : Int) - (k.at n : Int)).sign = ((l.val : Int) - (k.val : Int)).sign := by
 obtain ⟨la, lb, lc, ld⟩ := hl
 obtain ⟨ka, kb, kc, kd⟩ := hk
 have key : (l.at n < k.at n ↔ l.val < k.val) := by
  simp only [Lm.val_eq]
  have ci : n = 0 \/ n = 1 \/ n = 2 \/ n = 3 := by omega
  rcases ci with rfl | rfl | rfl | rfl
  ·have h1 : l.b = k.b := he 1 (by omega) (by omega)
   have h2 : l.c = k.c := he 2 (by omega) (by omega)
   have h3 : l.d = k.d := he 3 (by omega) (by omega)
   show l.a < k.a ↔ _
   omega
  ·have h2 : l.c = k.c := he 2 (by omega) (by omega)
   have h3 : l.d = k.d := he 3 (by omega) (by omega)
   have hd : l.b ≠ k.b := hd
   show l.b < k.b ↔ _
   omega
  ·have h3 : l.d = k.d := he 3 (by omega) (by omega)
   have hd : l.c ≠ k.c := hd
   show l.c < k.c ↔ _
   omega
  ·have hd : l.d ≠ k.d := hd
   show l.d < k.d ↔ _
   omega
 have hv : l.val ≠ k.val := by
  simp only [Lm.val_eq]
  have ci : n = 0 \/ n = 1 \/ n = 2 \/ n = 3 := by omega
  rcases ci with rfl | rfl | rfl | rfl
  ·have h1 : l.b = k.b := he 1 (by omega) (by omega)
   have h2 : l.c = k.c := he 2 (by omega) (by omega)
   have h3 : l.d = k.d := he 3 (by omega) (by omega)
   have hd : l.a ≠ k.a := hd
   omega
  ·have h2 : l.c = k.c := he 2 (by omega) (by omega)
   have h3 : l.d = k.d := he 3 (by omega) (by omega)
   have hd : l.b ≠ k.b := hd
   omega
  ·have h3 : l.d = k.d := he 3 (by omega) (by omega)
   have hd : l.c ≠ k.c := hd
   omega
  ·have hd : l.d ≠ k.d := hd
   omega
 by_cases c : l.at n < k.at n
 ·rw [Int.sign_eq_neg_one_of_neg (by omega), Int.sign_eq_neg_one_of_neg (by have := key.1 c; omega)]
 ·have : ¬ l.val < k.val := fun h => c (key.2 h)
  rw [Int.sign_eq_one_of_pos (by omega), Int.sign_eq_one_of_pos (by omega)]
structure Sz1 (H H' : Heap) (o : Nat) (l k : Lm) (τ : Env) (n : Nat) : Prop where
 eq : H = H'
 le : n <= 4
 ok : ∀ i, n <= i -> i < 4 -> l.at i = k.at i
 t : Tm τ [(2, .ptr o 0), (3, .ptr (o + 1) 0), (5, .int .i64 ((n : Int) - 1))]
theorem zb21 (h167 : FT 167 = some (.code A167)) (h169 : FT 169 = some (.code A169)) (h170 : FT 170 = some (.code A170)) (hw : H.Wf) {l k : Lm} (hl : l.Ok) (hk : k.Ok) : Cp FT 167 [.agg l.cells, .agg k.cells] H (fun r H' => r = .int .i64 ((l.val : Int) - (k.val : Int)).sign /\ Ext H H') := by
 refine zb1 A167 h167 rfl ?_
 obtain ⟨g0, e0⟩ := za4 hw (.cells l.cells)
 obtain ⟨g1, e1⟩ := za4 e0.wf (.cells k.cells)
 have e01 := e0.trans e1
 have g0' := e1.keep _ _ g0
 have o1 : za5 l.cells = true := rfl
 have o2 : za5 k.cells = true := rfl
 simp [A167, o1, o2]
 generalize hH1 : (H.push (.cells l.cells)).push (.cells k.cells) = H1 at *
 have g1' : H1.get (H.next + 1) = some (.cells k.cells) := g1
 refine zb7 (fun m τ H' => Sz1 H1 H' H.next l k τ m) ?_ 4 _ _ ⟨rfl, by omega, fun i a b => by omega, by simp⟩
 rintro n τ _ ⟨rfl, hn, ok, t⟩
 simp at t
 obtain ⟨t2, t3, t5⟩ := t
 by_cases q : 1 <= n
 ·obtain ⟨i, rfl⟩ : ∃ i, n = i + 1 := ⟨n - 1, by omega⟩
  have hc : (((i + 1 : Nat) : Int) - 1) = (i : Int) := by omega
  rw [hc] at t5
  have w : IntKind.i64.wrap ((i : Int) - 1) = (i : Int) - 1 := wrap64 (by omega) (by omega)
  have l0 := Lm.load g0' (i := i) (by omega)
  have l1 := Lm.load g1' (i := i) (by omega)
  have x0 : zw9 4 1 (.ptr H.next 0) (.int .i64 (i : Int)) = some (.ptr H.next i) := zar1 (by omega)
  have x1 : zw9 4 1 (.ptr (H.next + 1) 0) (.int .i64 (i : Int)) = some (.ptr (H.next + 1) i) := zar1 (by omega)
  by_cases e : l.at i = k.at i
  ·simp [t2, t3, t5, l0, l1, x0, x1, e, w]
   refine ⟨i, by omega, rfl, by omega, fun j a b => ?_, by simp [t2, t3]⟩
   by_cases z : j = i
   ·subst z; exact e
   ·exact ok j (by omega) b
  ·have he := Lm.diff hl hk (n := i) (by omega) (fun j a b => ok j (by omega) b) e
   have e2 : ¬ (l.at i : Int) = (k.at i : Int) := by omega
   simp [t2, t3, t5, l0, l1, x0, x1, e2]
   refine (zb66 h169 h170).mono ?_
   rintro _ _ ⟨rfl, rfl⟩
   simp [he]
   exact e01
 ·have hn0 : n = 0 := by omega
  subst hn0
  have hv : l.val = k.val := by
   have h0 : l.a = k.a := ok 0 (by omega) (by omega)
   have h1 : l.b = k.b := ok 1 (by omega) (by omega)
   have h2 : l.c = k.c := ok 2 (by omega) (by omega)
   have h3 : l.d = k.d := ok 3 (by omega) (by omega)
   rw [Lm.val_eq, Lm.val_eq, h0, h1, h2, h3]
  simp at t5
  simp [t5, hv]
  exact e01
end
end Go.Proofs.Ytcepchipgjpkhaa
namespace Go.Proofs.Ytcepchipgjpkhaa
open Go Go.AI
section
variable {FT : Nat -> Option FnD} {H H' : Heap}
structure z10 (FT : Nat -> Option FnD) : Prop where
 h67 : FT 67 = some (.code A67)
 h88 : FT 88 = some (.code A88)
 h96 : FT 96 = some (.code A96)
 h113 : FT 113 = some (.code A113)
 h126 : FT 126 = some (.code A126)
 h127 : FT 127 = some (.code A127)
 h150 : FT 150 = some (.code A150)
 h151 : FT 151 = some (.code A151)
 h154 : FT 154 = some (.code A154)
 h162 : FT 162 = some (.code A162)
 h163 : FT 163 = some (.code A163)
 h164 : FT 164 = some (.code A164)
 h166 : FT 166 = some (.code A166)
 h167 : FT 167 = some (.code A167)
 h168 : FT 168 = some (.code A168)
 h169 : FT 169 = some (.code A169)
 h170 : FT 170 = some (.code A170)
theorem zcd5 {f : Nat} {args : List AV} {K : AV -> Heap -> Prop} {x : AV} (hw : H.Wf) (h : Cp FT f args H.up (fun r H' => r = x /\ Ext H.up H')) (kk : ∀ H', Ext H H' -> K x H') :
  Cp FT f args { t := H.t, next := H.next, floor := H.next } (zat3 H.floor K) := by
 refine h.quiet ?_
 rintro r H2 ⟨rfl, e2⟩
 exact kk _ (e2.back hw)
theorem zy4 (x : Int) : (x < 0 /\ x.sign = -1) \/ (x = 0 /\ x.sign = 0) \/ (0 < x /\ x.sign = 1) := by
 rcases Int.lt_trichotomy x 0 with h | h | h
 ·exact .inl ⟨h, Int.sign_eq_neg_one_of_neg h⟩
 ·exact .inr (.inl ⟨h, by rw [h]; rfl⟩)
 ·exact .inr (.inr ⟨h, Int.sign_eq_one_of_pos h⟩)
theorem sgn1 {x y : Int} (h : x.sign ≠ y.sign \/ x.sign = 0) : (if x.sign < y.sign then (-1 : Int) else if y.sign < x.sign then 1 else 0) = (x - y).sign := by
 have a := zy4 x
 have b := zy4 y
 have c := zy4 (x - y)
 split
 ·omega
 ·split <;> omega
theorem sgn2 {x y : Int} (h : x.sign = y.sign) (h0 : x.sign ≠ 0) : x.sign * ((x.natAbs : Int) - (y.natAbs : Int)).sign = (x - y).sign := by
 have a := zy4 x
 have b := zy4 y
 have c := zy4 (x - y)
 have d := zy4 ((x.natAbs : Int) - (y.natAbs : Int))
 rcases a with ⟨a1, a2⟩ | ⟨a1, a2⟩ | ⟨a1, a2⟩
 ·rw [a2]; omega
 ·exact absurd a2 h0
 ·rw [a2]; omega
theorem Lm.abs (m : Bool) (l : Lm) : (Lm.zval m l).natAbs = l.val := by unfold Lm.zval; cases m <;> simp
theorem zb23 (x : Int) : -1 <= x.sign /\ x.sign <= 1 := by have := zy4 x; omega
theorem zch3 (T : z10 FT) (hw : H.Wf) {m n : Bool} {l k : Lm} (hl : l.Ok) (hk : k.Ok) (hm : m = true -> l.val ≠ 0) (hn : n = true -> k.val ≠ 0) :
  Cp FT 164 [.agg (.bool m :: l.cells), .agg (.bool n :: k.cells)] H (fun r H' => r = .int .i64 (Lm.zval m l - Lm.zval n k).sign /\ Ext H H') := by
 refine zb1 A164 T.h164 rfl ?_
 obtain ⟨g0, e0⟩ := za4 hw (.cells (.bool m :: l.cells))
 obtain ⟨g1, e1⟩ := za4 e0.wf (.cells (.bool n :: k.cells))
 have e01 := e0.trans e1
 have g0' := e1.keep _ _ g0
 have o1 : za5 (.bool m :: l.cells) = true := rfl
 have o2 : za5 (.bool n :: k.cells) = true := rfl
 simp [A164, o1, o2]
 generalize hH1 : (H.push (.cells (.bool m :: l.cells))).push (.cells (.bool n :: k.cells)) = H1 at *
 have g1' : H1.get (H.next + 1) = some (.cells (.bool n :: k.cells)) := g1
 have ld : ∀ {H2 : Heap}, Ext H1 H2 -> za9 H2 (some 5) (.ptr H.next 0) = some (.agg (.bool m :: l.cells)) /\ za9 H2 (some 5) (.ptr (H.next + 1) 0) = some (.agg (.bool n :: k.cells)) /\ za9 H2 (some 4) (.ptr H.next 1) = some (.agg l.cells) /\ za9 H2 (some 4) (.ptr (H.next + 1) 1) = some (.agg k.cells) := fun e =>
  ⟨zc0 (e.keep _ _ g0') rfl, zc0 (e.keep _ _ g1') rfl, by rw [ze3, za3 (e.keep _ _ g0')]; rfl, by rw [ze3, za3 (e.keep _ _ g1')]; rfl⟩
 obtain ⟨l0, l1, l2, l3⟩ := ld (Ext.refl e01.wf)
 simp [l0]
 refine zcd5 e01.wf (zbc0 T.h166 T.h168 e01.wf.up hm) ?_
 intro H2 x2
 obtain ⟨l0, l1, l2, l3⟩ := ld x2
 simp [l1]
 refine (zbc0 T.h166 T.h168 x2.wf hn).mono ?_
 rintro _ H3 ⟨rfl, y3⟩
 have x3 := x2.trans y3
 obtain ⟨l0, l1, l2, l3⟩ := ld x3
 have hx := Lm.abs m l
 have hy := Lm.abs n k
 generalize Lm.zval m l = x at *
 generalize Lm.zval n k = y at *
 by_cases c : x.sign = y.sign
 ·by_cases d : x.sign = 0
  ·have s1 := sgn1 (x := x) (y := y) (.inr d)
   have d' : y.sign = 0 := by omega
   simp [d, d']
   refine (zk8 T.h88 T.h113).mono ?_
   rintro _ _ ⟨rfl, rfl⟩
   rw [d, d'] at s1
   simp at s1
   simp [<- s1]
   exact e01.trans x3
  ·have d' : ¬ y.sign = 0 := by omega
   have s2 := sgn2 c d
   simp [c, d', l2, l3]
   refine (zb21 T.h167 T.h169 T.h170 x3.wf hl hk).mono ?_
   rintro _ H4 ⟨rfl, y4⟩
   rw [<- hx, <- hy]
   have r1 := zb23 (x - y)
   have wm : IntKind.i64.wrap (y.sign * ((x.natAbs : Int) - (y.natAbs : Int)).sign) = (x - y).sign := by rw [<- c, s2]; exact wrap64 (by omega) (by omega)
   simp [wm]
   exact e01.trans (x3.trans y4)
 ·have s1 := sgn1 (x := x) (y := y) (.inl c)
  simp [c]
  refine (zk8 T.h88 T.h113).mono ?_
  rintro _ _ ⟨rfl, rfl⟩
  simp [s1]
  exact e01.trans x3
theorem or64 {a b : Nat} (ha : a < 18446744073709551616) (hb : b < 18446744073709551616) : ∃ x : Nat, zi8 .or (.prim .int) (.int .u64 (a : Int)) (.int .u64 (b : Int)) = some (.int .u64 (x : Int)) /\ (x = 0 ↔ a = 0 /\ b = 0) := by
 refine ⟨a ||| b, ?_, Nat.or_eq_zero_iff⟩
 have h1 : (BitVec.ofInt 64 (a : Int) ||| BitVec.ofInt 64 (b : Int)).toNat = a ||| b := by
  rw [BitVec.toNat_or]
  have h2 : (BitVec.ofInt 64 (a : Int)).toNat = a := by simp; omega
  have h3 : (BitVec.ofInt 64 (b : Int)).toNat = b := by simp; omega
  rw [h2, h3]
 have h4 : a ||| b < 2 ^ 64 := Nat.or_lt_two_pow (by omega) (by omega)
 show (if IntKind.u64 = IntKind.u64 then some (AV.int .u64 (IntKind.u64.wrap ((BitVec.ofInt 64 (a : Int) ||| BitVec.ofInt 64 (b : Int)).toNat : Int))) else none) = _
 rw [if_pos rfl, h1, za95, Nat.mod_eq_of_lt (by omega)]
structure zci8 (r : AV) (z : Int) : Prop where
 ex : ∃ m l, r = .agg (.bool m :: Lm.cells l) /\ l.Ok /\ (m = true -> l.val ≠ 0) /\ Lm.zval m l = z
theorem zaj6 (T : z10 FT) (hw : H.Wf) {a b : Int} (ha : a.natAbs <= 9223372036854775807) (hb : b.natAbs <= 9223372036854775807) :
  Cp FT 163 [.int .i64 a, .int .i64 b] H (fun r H' => zci8 r (a * b) /\ Ext H H') := by
 refine zb1 A163 T.h163 rfl ?_
 obtain ⟨g0, e0⟩ := za4 hw (.cells [.bool false, .int .u64 0, .int .u64 0, .int .u64 0, .int .u64 0])
 simp [A163]
 generalize hH1 : H.push (.cells [.bool false, .int .u64 0, .int .u64 0, .int .u64 0, .int .u64 0]) = H1 at *
 refine (zau9 T.h162 (n := a) (by omega) (by omega)).mono ?_
 rintro _ H1 ⟨rfl, rfl⟩
 simp
 refine (zau9 T.h162 (n := b) (by omega) (by omega)).mono ?_
 rintro _ H1 ⟨rfl, rfl⟩
 have hab := Int.natAbs_mul a b
 generalize hx : a.natAbs = x at *
 generalize hy : b.natAbs = y at *
 simp
 refine (zce7 T.h154 (a := x) (b := y) (by omega) (by omega)).mono ?_
 rintro _ H1 ⟨⟨hi, lo, rfl, h1, h2, h3⟩, rfl⟩
 obtain ⟨o, ho, oz⟩ := or64 h1 h2
 have hv : (Lm.mk lo hi 0 0).val = x * y := by rw [Lm.val_eq]; simp only; omega
 have hz : o = 0 ↔ x * y = 0 := by rw [oz]; omega
 have fin : ∀ mm : Bool, a * b = (if mm = true then -((x * y : Nat) : Int) else ((x * y : Nat) : Int)) ->
   ∃ H', zf6 H1 5 (.ptr H.next 0) (.agg [.bool (mm && decide (¬ o = 0)), .int .u64 (lo : Int), .int .u64 (hi : Int), .int .u64 0, .int .u64 0]) = some (zb8, H') /\ H'.cellsAt H.next = some [.bool (mm && decide (¬ o = 0)), .int .u64 (lo : Int), .int .u64 (hi : Int), .int .u64 0, .int .u64 0] /\ zci8 (.agg [.bool (mm && decide (¬ o = 0)), .int .u64 (lo : Int), .int .u64 (hi : Int), .int .u64 0, .int .u64 0]) (a * b) /\ Ext H H' := fun mm hmm => by
  obtain ⟨H', s, g, f⟩ := ze0 (n := 5) (x := .agg [.bool (mm && decide (¬ o = 0)), .int .u64 (lo : Int), .int .u64 (hi : Int), .int .u64 0, .int .u64 0]) e0.wf rfl rfl (by rw [e0.floor]; exact hw.1) g0 rfl rfl
  refine ⟨H', s, za3 g, ⟨mm && decide (¬ o = 0), ⟨lo, hi, 0, 0⟩, rfl, ⟨h2, h1, by simp, by simp⟩, fun q => ?_, ?_⟩, zp3 hw e0 f (fun p hp => by simp at hp; omega)⟩
  ·simp at q; rw [hv]; intro r; exact q.2 (hz.2 r)
  ·unfold Lm.zval
   rw [hv, hmm]
   by_cases c : o = 0
   ·have := hz.1 c
    rw [this]; cases mm <;> simp
   ·cases mm <;> simp [c]
 have sg : ∀ {ca cb : Bool}, decide (a < 0) = ca -> decide (b < 0) = cb -> a * b = (if (!(ca == cb)) = true then -((x * y : Nat) : Int) else ((x * y : Nat) : Int)) := fun {ca cb} pa pb => by
  have pa' : a = if ca = true then -(x : Int) else x := by
   cases ca <;> simp at pa ⊢ <;> omega
  have pb' : b = if cb = true then -(y : Int) else y := by
   cases cb <;> simp at pb ⊢ <;> omega
  rw [pa', pb']
  cases ca <;> cases cb <;> simp [Int.mul_neg, Int.neg_mul]
 generalize pa : decide (a < 0) = ca at *
 generalize pb : decide (b < 0) = cb at *
 obtain ⟨H2, st, ct, wz, ex⟩ := fin _ (sg rfl rfl)
 have hne : ((o : Int) != 0) = decide (¬ o = 0) := by
  by_cases c : o = 0
  ·subst c; rfl
  ·have : (o : Int) ≠ 0 := by omega
   simp [c]
 generalize (!(ca == cb)) = mm at *
 have fv : ∀ (e : Opd -> AV) (c0 : AV), zj7 e [c0, .int .u64 0, .int .u64 0, .int .u64 0, .int .u64 0] 1 4 (.agg [.int .u64 (lo : Int), .int .u64 (hi : Int), .int .u64 0, .int .u64 0]) [] = some [c0, .int .u64 (lo : Int), .int .u64 (hi : Int), .int .u64 0, .int .u64 0] := fun e c0 => rfl
 cases mm with
 | true =>
  simp at st ct wz
  simp [ho, hne, fv, st, zb5, ze1, ct, ze2, seg, zg8]
  exact ⟨wz, ex⟩
 | false =>
  simp at st ct wz
  simp [fv, st, zb5, ze1, ct, ze2, seg, zg8]
  exact ⟨wz, ex⟩
theorem zbt7 (T : z10 FT) (hw : H.Wf) {a b c d : Int} (ha : a.natAbs <= 9223372036854775807) (hb : b.natAbs <= 9223372036854775807) (hc : c.natAbs <= 9223372036854775807) (hd : d.natAbs <= 9223372036854775807) :
  Cp FT 151 [.int .i64 a, .int .i64 b, .int .i64 c, .int .i64 d] H (fun r H' => r = .int .i64 (a * b - c * d).sign /\ Ext H H') := by
 refine zb1 A151 T.h151 rfl ?_
 simp [A151]
 refine (zaj6 T hw ha hb).mono ?_
 rintro r1 H1 ⟨⟨m, l, rfl, lo, lm, lz⟩, e1⟩
 simp
 refine (zaj6 T e1.wf hc hd).mono ?_
 rintro r2 H2 ⟨⟨n, k, rfl, ko, km, kz⟩, e2⟩
 have e12 := e1.trans e2
 obtain ⟨g0, p0⟩ := za4 e12.wf (.cells [.bool false, .int .u64 0, .int .u64 0, .int .u64 0, .int .u64 0])
 obtain ⟨g1, p1⟩ := za4 p0.wf (.cells [.bool false, .int .u64 0, .int .u64 0, .int .u64 0, .int .u64 0])
 have e3 := (e12.trans p0).trans p1
 have g0' := p1.keep _ _ g0
 have hn2 := e12.next
 simp [-ze4]
 generalize hH3 : (H2.push (.cells [.bool false, .int .u64 0, .int .u64 0, .int .u64 0, .int .u64 0])).push (.cells [.bool false, .int .u64 0, .int .u64 0, .int .u64 0, .int .u64 0]) = H3 at *
 have g1' : H3.get (H2.next + 1) = some (.cells [.bool false, .int .u64 0, .int .u64 0, .int .u64 0, .int .u64 0]) := g1
 have fl : H3.floor <= H2.next := by rw [e3.floor]; have := hw.1; omega
 obtain ⟨H4, s4, g4, f4⟩ := ze0 (n := 5) (x := .agg (.bool m :: l.cells)) (xs := .bool m :: l.cells) e3.wf rfl rfl fl g0' rfl rfl
 have g14 := f4.keep _ _ (by simp) g1'
 obtain ⟨H5, s5, g5, f5⟩ := ze0 (n := 5) (x := .agg (.bool n :: k.cells)) (xs := .bool n :: k.cells) f4.wf rfl rfl (by rw [f4.floor]; omega) g14 rfl rfl
 have g45 := f5.keep _ _ (by simp) g4
 have e4 : Ext H H4 := zp3 hw e3 f4 (fun p hp => by simp at hp; omega)
 have e5 : Ext H H5 := zp3 hw e4 f5 (fun p hp => by simp at hp; omega)
 have l4 : za9 H5 (some 5) (.ptr H2.next 0) = some (.agg (.bool m :: l.cells)) := zc0 g45 rfl
 have l5 : za9 H5 (some 5) (.ptr (H2.next + 1) 0) = some (.agg (.bool n :: k.cells)) := zc0 g5 rfl
 have s4' : zf6 H3 5 (.ptr H2.next 0) (.agg (.bool m :: l.cells)) = some (zb8, H4) := s4
 have s5' : zf6 H4 5 (.ptr (H2.next + 1) 0) (.agg (.bool n :: k.cells)) = some (zb8, H5) := s5
 simp [-ze4, s4', s5', l4, l5]
 refine (zch3 T e5.wf lo ko lm km).mono ?_
 rintro _ H6 ⟨rfl, e6⟩
 rw [lz, kz]
 simp
 exact e5.trans e6
end
end Go.Proofs.Ytcepchipgjpkhaa
namespace Go.Proofs.Ytcepchipgjpkhaa
open Go Go.AI
section
variable {FT : Nat -> Option FnD} {H H' : Heap}
def zy3 (l : List Int) : Prop := ∀ x, x ∈ l -> x.natAbs < 1073741824
instance (l : List Int) : Decidable (zy3 l) := by unfold zy3; infer_instance
structure Sm7 (H H' : Heap) (v : AV) (l : List Int) (τ : Env) (i m : Nat) : Prop where
 eq : H = H'
 le : i <= l.length
 hm : m = l.length - i
 ok : zy3 (l.take i)
 t : Tm τ [(5, v), (6, .int .i64 l.length), (7, .int .i64 i)]
theorem zbo9 (T : z10 FT) {v : AV} {l : List Int} (hv : Ints H v l) (hl : l.length <= 1000000000) (hb : ∀ x, x ∈ l -> x.natAbs <= 9223372036854775807) :
  Cp FT 150 [v] H (fun r H' => r = .bool (decide (zy3 l)) /\ H' = H) := by
 refine zb1 A150 T.h150 rfl ?_
 simp [A150, hv.len]
 refine zb7 (fun m τ H' => ∃ i, Sm7 H H' v l τ i m) ?_ l.length _ _ ⟨0, ⟨rfl, by omega, by omega, by simp [zy3], by simp⟩⟩
 rintro m τ _ ⟨i, ⟨rfl, hi, rfl, ok, t⟩⟩
 simp at t
 obtain ⟨t5, t6, t7⟩ := t
 by_cases q : i < l.length
 ·have w : IntKind.i64.wrap ((i : Int) + 1) = (i : Int) + 1 := wrap64 (by omega) (by omega)
  obtain ⟨p, x, a1, a2, a3⟩ := Ints.idx hv (k := .i64) (i := (i : Int)) (by omega) (by omega)
  rw [Int.toNat_natCast] at a1
  have hm := List.mem_of_getElem? a1
  have hx := hb x hm
  simp [q, t5, t6, t7, a2, a3]
  refine (zau9 T.h162 (n := x) (by omega) (by omega)).mono ?_
  rintro _ H1 ⟨rfl, rfl⟩
  have sn : zy3 l -> x.natAbs < 1073741824 := fun h => h x hm
  have st : x.natAbs < 1073741824 -> zy3 (l.take (i + 1)) := fun h y hy => by
   rw [List.take_add_one, a1] at hy
   rcases List.mem_append.1 hy with z | z
   ·exact ok y z
   ·simp at z; subst z; exact h
  generalize x.natAbs = k at *
  by_cases c : (1073741824 : Int) <= k
  ·have hn : ¬ zy3 l := fun h => by have := sn h; omega
   simp [c, hn]
  ·simp [c, t7, w]
   exact ⟨_, by omega, i + 1, ⟨rfl, by omega, rfl, st (by omega), by simp [t5, t6]⟩⟩
 ·have hil : i = l.length := by omega
  subst hil
  rw [List.take_length] at ok
  simp [t6, t7, ok]
theorem zbl6 (a b c : Int × Int) : (b.1 - a.1) * (c.2 - a.2) - (b.2 - a.2) * (c.1 - a.1) = zx6 a b c := by
 unfold zx6
 simp only [Int.sub_mul, Int.mul_sub]
 have h1 := Int.mul_comm a.1 b.2
 have h2 := Int.mul_comm a.1 c.2
 have h3 := Int.mul_comm a.2 b.1
 have h4 := Int.mul_comm a.2 c.1
 have h5 := Int.mul_comm a.1 a.2
 have h6 := Int.mul_comm b.2 c.1
 have h7 := Int.mul_comm b.1 c.2
 omega
theorem zbf2 (T : z10 FT) (hw : H.Wf) {a b c : Int × Int} (fa : z01 a) (fb : z01 b) (fc : z01 c) : Cp FT 127 [.agg (za2 a), .agg (za2 b), .agg (za2 c)] H (fun r H' => r = .int .i64 (zx6 a b c).sign /\ Ext H H') := by
 refine zb1 A127 T.h127 rfl ?_
 obtain ⟨g0, e0⟩ := za4 hw (.cells (za2 a))
 obtain ⟨g1, e1⟩ := za4 e0.wf (.cells (za2 b))
 obtain ⟨g2, e2⟩ := za4 e1.wf (.cells (za2 c))
 have e03 := (e0.trans e1).trans e2
 have g0' := e2.keep _ _ (e1.keep _ _ g0)
 have g1' := e2.keep _ _ g1
 have hp : ((H.push (.cells [.int .i64 a.1, .int .i64 a.2])).push (.cells [.int .i64 b.1, .int .i64 b.2])).push (.cells [.int .i64 c.1, .int .i64 c.2]) = ((H.push (.cells (za2 a))).push (.cells (za2 b))).push (.cells (za2 c)) := rfl
 have hpa : za2 a = [.int .i64 a.1, .int .i64 a.2] := rfl
 have hpb : za2 b = [.int .i64 b.1, .int .i64 b.2] := rfl
 have hpc : za2 c = [.int .i64 c.1, .int .i64 c.2] := rfl
 rw [<- zbl6]
 obtain ⟨⟨fa1, fa2⟩, fa3, fa4⟩ := fa
 obtain ⟨⟨fb1, fb2⟩, fb3, fb4⟩ := fb
 obtain ⟨⟨fc1, fc2⟩, fc3, fc4⟩ := fc
 have w1 : IntKind.i64.wrap (b.1 - a.1) = b.1 - a.1 := wrap64 (by omega) (by omega)
 have w2 : IntKind.i64.wrap (c.2 - a.2) = c.2 - a.2 := wrap64 (by omega) (by omega)
 have w3 : IntKind.i64.wrap (b.2 - a.2) = b.2 - a.2 := wrap64 (by omega) (by omega)
 have w4 : IntKind.i64.wrap (c.1 - a.1) = c.1 - a.1 := wrap64 (by omega) (by omega)
 simp only [hpa, hpb, hpc]
 simp [A127, hp]
 generalize hH1 : ((H.push (.cells (za2 a))).push (.cells (za2 b))).push (.cells (za2 c)) = H1 at *
 have g1'' : H1.get (H.next + 1) = some (.cells (za2 b)) := g1'
 have g2'' : H1.get (H.next + 2) = some (.cells (za2 c)) := g2
 have l0 : za9 H1 none (.ptr H.next 0) = some (.int .i64 a.1) := za1 g0' rfl
 have l1 : za9 H1 none (.ptr H.next 1) = some (.int .i64 a.2) := za1 g0' rfl
 have l2 : za9 H1 none (.ptr (H.next + 1) 0) = some (.int .i64 b.1) := za1 g1'' rfl
 have l3 : za9 H1 none (.ptr (H.next + 1) 1) = some (.int .i64 b.2) := za1 g1'' rfl
 have l4 : za9 H1 none (.ptr (H.next + 2) 0) = some (.int .i64 c.1) := za1 g2'' rfl
 have l5 : za9 H1 none (.ptr (H.next + 2) 1) = some (.int .i64 c.2) := za1 g2'' rfl
 generalize hP : b.1 - a.1 = P at *
 generalize hQ : c.2 - a.2 = Q at *
 generalize hR : b.2 - a.2 = R at *
 generalize hS : c.1 - a.1 = S at *
 simp [l0, l1, l2, l3, l4, l5, w1, w2, w3, w4, hP, hQ, hR, hS]
 have hpu : H1.push (.cells (setSeg [.int .i64 P, .int .i64 Q, .int .i64 R, .int .i64 0] 3 [.int .i64 S])) = H1.push (.cells ([P, Q, R, S].flatMap zi7)) := rfl
 rw [hpu]
 have e4 := Ext.push e03.wf (.cells ([P, Q, R, S].flatMap zi7))
 have g4 := (za4 e03.wf (.cells ([P, Q, R, S].flatMap zi7))).1
 have hl4 : Ints (H1.push (.cells ([P, Q, R, S].flatMap zi7))) (.slc H1.next 0 4 1 4 true) [P, Q, R, S] := (zi1 (e := 1) (xs := [P, Q, R, S]) zc9 g4).sl zc9
 generalize H1.push (.cells ([P, Q, R, S].flatMap zi7)) = H2 at *
 have bnd : ∀ x, x ∈ [P, Q, R, S] -> x.natAbs <= 9223372036854775807 := fun x hx => by simp at hx; omega
 refine (zbo9 T hl4 (by simp) bnd).mono ?_
 rintro _ H3 ⟨rfl, rfl⟩
 by_cases c1 : zy3 [P, Q, R, S]
 ·have hp1 := c1 P (by simp)
  have hq1 := c1 Q (by simp)
  have hr1 := c1 R (by simp)
  have hs1 := c1 S (by simp)
  have k1 : (P * Q).natAbs <= 1152921504606846976 := by rw [Int.natAbs_mul]; exact Nat.le_trans (Nat.mul_le_mul (Nat.le_of_lt hp1) (Nat.le_of_lt hq1)) (by decide)
  have k2 : (R * S).natAbs <= 1152921504606846976 := by rw [Int.natAbs_mul]; exact Nat.le_trans (Nat.mul_le_mul (Nat.le_of_lt hr1) (Nat.le_of_lt hs1)) (by decide)
  have v1 : IntKind.i64.wrap (P * Q) = P * Q := wrap64 (by omega) (by omega)
  have v2 : IntKind.i64.wrap (R * S) = R * S := wrap64 (by omega) (by omega)
  have v3 : IntKind.i64.wrap (P * Q - R * S) = P * Q - R * S := wrap64 (by omega) (by omega)
  obtain ⟨n, hn⟩ : ∃ n, P * Q - R * S = n := ⟨_, rfl⟩
  have v4 : IntKind.i64.wrap (P * Q - R * S) = n := by rw [v3, hn]
  rw [hn]
  simp [c1, v1, v2, v4]
  have sg := zy4 n
  by_cases d1 : 0 < n
  ·have : n.sign = 1 := by omega
   simp [d1, this]
   exact e03.trans e4
  ·by_cases d2 : n < 0
   ·have : n.sign = -1 := by omega
    simp [d1, d2, this]
    exact e03.trans e4
   ·have : n.sign = 0 := by omega
    simp [d1, d2, this]
    exact e03.trans e4
 ·simp [c1]
  refine (zbt7 T e4.wf (bnd P (by simp)) (bnd Q (by simp)) (bnd R (by simp)) (bnd S (by simp))).mono ?_
  rintro _ H4 ⟨rfl, e5⟩
  simp
  exact e03.trans (e4.trans e5)
end
end Go.Proofs.Ytcepchipgjpkhaa
namespace Go.Proofs.Ytcepchipgjpkhaa
open Go Go.AI
section
variable {FT : Nat -> Option FnD} {H H' : Heap}
def zbs9 (P : List (Int × Int)) (i : Nat) : Prop := ∀ p, p ∈ P.take i -> fitP p
instance (p : Int × Int) : Decidable (fitP p) := by unfold fitP; infer_instance
def allFit (P : List (Int × Int)) : Bool := decide (∀ p, p ∈ P -> fitP p)
theorem z08 {P : List (Int × Int)} {p : Int × Int} (h : p ∈ P) (hb : ¬ fitP p) : allFit P = false := by
 unfold allFit; exact decide_eq_false fun q => hb (q p h)
structure Ft (H H' : Heap) (v : AV) (P : List (Int × Int)) (τ : Env) (i m : Nat) : Prop where
 ex : Ext H H'
 le : i <= P.length
 hm : m = P.length - i
 ok : zbs9 P i
 t5 : Env.at τ 5 = v
 t6 : Env.at τ 6 = .int .i64 P.length
 t7 : Env.at τ 7 = .int .i64 i
theorem zcg2 (h126 : FT 126 = some (.code A126)) {v : AV} {P : List (Int × Int)} (h : zh3 H v P) (hl : P.length <= 1000000000) (hw : H.Wf) :
  Cp FT 126 [v] H (fun r H' => r = .bool (allFit P) /\ Ext H H') := by
 refine zb1 A126 h126 rfl ?_
 simp [A126, h.len]
 refine zb7 (fun m τ H' => ∃ i, Ft H H' v P τ i m) ?_ P.length _ _ ⟨0, ⟨Ext.refl hw, by omega, by omega, by simp [zbs9], by simp, by simp, by simp⟩⟩
 rintro m τ H1 ⟨i, ⟨ex, hi, rfl, hok, t5, t6, t7⟩⟩
 simp only [zi9, zd3]
 by_cases c : i < P.length
 ·obtain ⟨p, x, a1, a2, a3, _⟩ := Sl.idx (h.ext ex) (k := .i64) (i := (i : Int)) (by omega) (by omega)
  rw [Int.toNat_natCast] at a1
  have hm := List.mem_of_getElem? a1
  obtain ⟨H2, st, g2, e2, n2⟩ := zd4 ex.wf (z := [.int .i64 0, .int .i64 0]) (n := 2) (x := .agg (za2 x)) (cs := za2 x) rfl rfl rfl rfl
  have lx : za9 H2 none (.ptr H1.next 0) = some (.int .i64 x.1) := za1 g2 rfl
  have ly : za9 H2 none (.ptr H1.next 1) = some (.int .i64 x.2) := za1 g2 rfl
  by_cases c1 : x.1 < -4294967296
  ·have hb := z08 hm (fun q => by have := q.1; omega)
   simp [c, t5, t6, t7, a2, a3, st, lx, c1, hb]
   exact ex.trans e2
  by_cases c2 : 4294967296 < x.1
  ·have hb := z08 hm (fun q => by have := q.1; omega)
   simp [c, t5, t6, t7, a2, a3, st, lx, c1, c2, hb]
   exact ex.trans e2
  by_cases c3 : x.2 < -4294967296
  ·have hb := z08 hm (fun q => by have := q.2; omega)
   simp [c, t5, t6, t7, a2, a3, st, lx, ly, c1, c2, c3, hb]
   exact ex.trans e2
  by_cases c4 : 4294967296 < x.2
  ·have hb := z08 hm (fun q => by have := q.2; omega)
   simp [c, t5, t6, t7, a2, a3, st, lx, ly, c1, c2, c3, c4, hb]
   exact ex.trans e2
  have w : IntKind.i64.wrap ((i : Int) + 1) = ((i + 1 : Nat) : Int) := wrap64 (by omega) (by omega)
  have hok1 : zbs9 P (i + 1) := by
   intro q hq
   rw [List.take_add_one, a1] at hq
   rcases List.mem_append.1 hq with r | r
   ·exact hok q r
   ·simp at r; subst r; exact ⟨by omega, by omega⟩
  simp [c, t5, t6, t7, a2, a3, st, lx, ly, c1, c2, c3, c4, w]
  exact ⟨_, by omega, i + 1, ⟨ex.trans e2, by omega, rfl, hok1, by simp [t5], by simp [t6], by simp⟩⟩
 ·have hil : i = P.length := by omega
  subst hil
  have hall : allFit P = true := by unfold allFit; refine decide_eq_true ?_; unfold zbs9 at hok; rwa [List.take_length] at hok
  simp [t6, t7, hall]
  exact ex
theorem zal7 (T : z10 FT) (hw : H.Wf) {a b c : Int × Int} : Cp FT 96 [.agg (za2 a), .agg (za2 b), .agg (za2 c)] H (fun r H' => r = .int .i64 (orZ a b c) /\ Ext H H') := by
 refine zb1 A96 T.h96 rfl ?_
 obtain ⟨g0, e0⟩ := za4 hw (.cells (za2 a))
 obtain ⟨g1, e1⟩ := za4 e0.wf (.cells (za2 b))
 obtain ⟨g2, e2⟩ := za4 e1.wf (.cells (za2 c))
 have e03 := (e0.trans e1).trans e2
 have g0' := e2.keep _ _ (e1.keep _ _ g0)
 have g1' := e2.keep _ _ g1
 have oa : za5 (za2 a) = true := rfl
 have ob : za5 (za2 b) = true := rfl
 have oc : za5 (za2 c) = true := rfl
 simp [A96, oa, ob, oc]
 generalize hH1 : ((H.push (.cells (za2 a))).push (.cells (za2 b))).push (.cells (za2 c)) = H1 at *
 have g1'' : H1.get (H.next + 1) = some (.cells (za2 b)) := g1'
 have g2'' : H1.get (H.next + 2) = some (.cells (za2 c)) := g2
 have ld : ∀ {H2 : Heap}, Ext H1 H2 -> za9 H2 (some 2) (.ptr H.next 0) = some (.agg (za2 a)) /\ za9 H2 (some 2) (.ptr (H.next + 1) 0) = some (.agg (za2 b)) /\ za9 H2 (some 2) (.ptr (H.next + 2) 0) = some (.agg (za2 c)) := fun e =>
  ⟨zc0 (e.keep _ _ g0') rfl, zc0 (e.keep _ _ g1'') rfl, zc0 (e.keep _ _ g2'') rfl⟩
 obtain ⟨l0, l1, l2⟩ := ld (Ext.refl e03.wf)
 have f1 : ∀ (e : Opd -> AV) (r : List (Nat × Nat × Opd)), zj7 e [.int .i64 0, .int .i64 0, .int .i64 0, .int .i64 0, .int .i64 0, .int .i64 0] 0 2 (.agg (za2 a)) r = zh0 e [.int .i64 a.1, .int .i64 a.2, .int .i64 0, .int .i64 0, .int .i64 0, .int .i64 0] r := fun _ _ => rfl
 have f2 : ∀ (e : Opd -> AV) (r : List (Nat × Nat × Opd)), zj7 e [.int .i64 a.1, .int .i64 a.2, .int .i64 0, .int .i64 0, .int .i64 0, .int .i64 0] 2 2 (.agg (za2 b)) r = zh0 e [.int .i64 a.1, .int .i64 a.2, .int .i64 b.1, .int .i64 b.2, .int .i64 0, .int .i64 0] r := fun _ _ => rfl
 have f3 : ∀ (e : Opd -> AV) (r : List (Nat × Nat × Opd)), zj7 e [.int .i64 a.1, .int .i64 a.2, .int .i64 b.1, .int .i64 b.2, .int .i64 0, .int .i64 0] 4 2 (.agg (za2 c)) r = zh0 e [.int .i64 a.1, .int .i64 a.2, .int .i64 b.1, .int .i64 b.2, .int .i64 c.1, .int .i64 c.2] r := fun _ _ => rfl
 have hpu : H1.push (.cells [.int .i64 a.1, .int .i64 a.2, .int .i64 b.1, .int .i64 b.2, .int .i64 c.1, .int .i64 c.2]) = H1.push (.cells ([a, b, c].flatMap za2)) := rfl
 have e4 := Ext.push e03.wf (.cells ([a, b, c].flatMap za2))
 have g4 := (za4 e03.wf (.cells ([a, b, c].flatMap za2))).1
 have hl4 : zh3 (H1.push (.cells ([a, b, c].flatMap za2))) (.slc H1.next 0 3 2 3 true) [a, b, c] := (zi1 (e := 2) (xs := [a, b, c]) zc6 g4).sl zc6
 simp [l0, l1, l2, f1, f2, f3]
 rw [hpu]
 generalize H1.push (.cells ([a, b, c].flatMap za2)) = H2 at *
 refine (zcg2 T.h126 hl4 (by simp) e4.wf).mono ?_
 rintro _ H3 ⟨rfl, e5⟩
 obtain ⟨l0, l1, l2⟩ := ld (e4.trans e5)
 have hall : allFit [a, b, c] = decide (z01 a /\ z01 b /\ z01 c) := by
  unfold allFit
  rw [decide_eq_decide]
  constructor
  ·intro h; exact ⟨h a (by simp), h b (by simp), h c (by simp)⟩
  ·rintro ⟨h1, h2, h3⟩ p hp
   simp at hp
   rcases hp with rfl | rfl | rfl
   ·exact h1
   ·exact h2
   ·exact h3
 rw [hall]
 by_cases q : z01 a /\ z01 b /\ z01 c
 ·have ho : orZ a b c = (zx6 a b c).sign := by unfold orZ; rw [if_pos q]
  rw [decide_eq_true q, ho]
  simp [l0, l1, l2]
  refine (zbf2 T e5.wf q.1 q.2.1 q.2.2).mono ?_
  rintro _ H4 ⟨rfl, e6⟩
  simp
  exact e03.trans ((e4.trans e5).trans e6)
 ·have ho : orZ a b c = 0 := by unfold orZ; rw [if_neg q]
  rw [decide_eq_false q, ho]
  simp
  exact e03.trans (e4.trans e5)
end
end Go.Proofs.Ytcepchipgjpkhaa
namespace Go.Proofs.Ytcepchipgjpkhaa
open Go Go.AI
section
variable {FT : Nat -> Option FnD} {H H' : Heap}
def k67a : za0 := zf3 [1, 0, 1] A67.body
def k67k : za0 := zf3 [0, 0, 1, 1, 0, 0, 1, 1] k67a
def k67j : za0 := zf3 [0, 0, 1, 1, 0, 0, 1, 1] k67k
theorem zch9 : A67.body = putAt [1, 0, 1] A67.body k67a := rfl
theorem zb70 : k67a = putAt [0, 0, 1, 1, 0, 0, 1, 1] k67a k67k := rfl
theorem zb69 : k67k = putAt [0, 0, 1, 1, 0, 0, 1, 1] k67k k67j := rfl
structure Qj1 (H H' : Heap) (v : AV) (l : List (Int × Int)) (i k : Nat) (τ : Env) (j m : Nat) : Prop where
 ex : Ext H H'
 le : j <= k
 hm : m = k - j
 ok : ∀ x, x < j -> zaa9 l x k i
 t : Tm τ [(0, v), (3, .int .i64 i), (4, .int .i64 k), (7, .int .i64 l.length), (8, .int .i64 i), (11, .int .i64 i), (12, .int .i64 k), (15, .int .i64 k), (16, .int .i64 j)]
theorem zbu3 (T : z10 FT) (hw : H.Wf) {v : AV} {l : List (Int × Int)} {i k : Nat} (hv : zh3 H v l) (hl : l.length <= 1000000000) (hik : k < i) (hi : i < l.length) {τ0 : Env}
  (u : Tm τ0 [(0, v), (3, .int .i64 i), (4, .int .i64 k), (7, .int .i64 l.length), (8, .int .i64 i), (11, .int .i64 i), (12, .int .i64 k), (15, .int .i64 k), (16, .int .i64 0)]) :
  Wp FT k67j τ0 H (fun c τ H' => (c = .next /\ Ext H H' /\ (∀ j, j < k -> zaa9 l j k i) /\ Tm τ [(0, v), (3, .int .i64 i), (7, .int .i64 l.length), (8, .int .i64 i), (11, .int .i64 i), (12, .int .i64 k)]) \/ (c = .ret /\ Ext H H' /\ ¬ zx4 l /\ Tm τ [(2, .bool false)])) := by
 simp at u
 obtain ⟨u0, u3, u4, u7, u8, u11, u12, u15, u16⟩ := u
 simp [k67j, k67k, k67a, zf3, A67]
 refine zb7 (fun m τ H' => ∃ j, Qj1 H H' v l i k τ j m) ?_ k _ _ ⟨0, ⟨Ext.refl hw, by omega, rfl, fun x a => by omega, by simp [u0, u3, u4, u7, u8, u11, u12, u15, u16]⟩⟩
 rintro m τ H1 ⟨j, ⟨e1, hj, rfl, ok, t⟩⟩
 simp at t
 obtain ⟨t0, t3, t4, t7, t8, t11, t12, t15, t16⟩ := t
 have hv1 := hv.ext e1
 by_cases q : j < k
 ·have w : IntKind.i64.wrap ((j : Int) + 1) = (j : Int) + 1 := wrap64 (by omega) (by omega)
  obtain ⟨p1, a, a1, a2, a3, _⟩ := Sl.idx hv1 (k := .i64) (i := (j : Int)) (by omega) (by omega)
  obtain ⟨p2, b, b1, b2, b3, _⟩ := Sl.idx hv1 (k := .i64) (i := (k : Int)) (by omega) (by omega)
  obtain ⟨p3, c, c1, c2, c3, _⟩ := Sl.idx hv1 (k := .i64) (i := (i : Int)) (by omega) (by omega)
  rw [Int.toNat_natCast] at a1 b1 c1
  simp [q, t0, t3, t4, t15, t16, a2, a3, b2, b3, c2, c3]
  refine (zal7 T e1.wf).mono ?_
  rintro _ H2 ⟨rfl, e2⟩
  by_cases z : orZ a b c = 1
  ·simp [z, t16, w]
   exact ⟨_, by omega, j + 1, ⟨e1.trans e2, by omega, rfl, fun x x1 => by
    by_cases e : x = j
    ·subst e; intro a' b' c' q1 q2 q3; rw [a1] at q1; rw [b1] at q2; rw [c1] at q3; cases q1; cases q2; cases q3; exact z
    ·exact ok x (by omega), by simp [t0, t3, t4, t7, t8, t11, t12, t15]⟩⟩
  ·simp [z]
   exact ⟨e1.trans e2, fun h => z (h.2 j k i q hik a b c a1 b1 c1)⟩
 ·have hjk : j = k := by omega
  subst hjk
  simp [t15, t16]
  exact ⟨e1, ok, by simp [t0, t3, t7, t8, t11, t12]⟩
structure Qk1 (H H' : Heap) (v : AV) (l : List (Int × Int)) (i : Nat) (τ : Env) (k m : Nat) : Prop where
 ex : Ext H H'
 le : k <= i
 hm : m = i - k
 ok : ∀ x y, x < y -> y < k -> zaa9 l x y i
 t : Tm τ [(0, v), (3, .int .i64 i), (7, .int .i64 l.length), (8, .int .i64 i), (11, .int .i64 i), (12, .int .i64 k)]
theorem zbu2 (T : z10 FT) (hw : H.Wf) {v : AV} {l : List (Int × Int)} {i : Nat} (hv : zh3 H v l) (hl : l.length <= 1000000000) (hi : i < l.length) {τ0 : Env}
  (u : Tm τ0 [(0, v), (3, .int .i64 i), (7, .int .i64 l.length), (8, .int .i64 i), (11, .int .i64 i), (12, .int .i64 0)]) :
  Wp FT k67k τ0 H (fun c τ H' => (c = .next /\ Ext H H' /\ (∀ j k, j < k -> k < i -> zaa9 l j k i) /\ Tm τ [(0, v), (7, .int .i64 l.length), (8, .int .i64 i)]) \/ (c = .ret /\ Ext H H' /\ ¬ zx4 l /\ Tm τ [(2, .bool false)])) := by
 simp at u
 obtain ⟨u0, u3, u7, u8, u11, u12⟩ := u
 rw [zb69]
 generalize hkj : k67j = kj
 simp [k67k, k67a, zf3, putAt, A67]
 refine zb7 (fun m τ H' => ∃ k, Qk1 H H' v l i τ k m) ?_ i _ _ ⟨0, ⟨Ext.refl hw, by omega, rfl, fun x y a b => by omega, by simp [u0, u3, u7, u8, u11, u12]⟩⟩
 rintro m τ H1 ⟨k, ⟨e1, hk, rfl, ok, t⟩⟩
 simp at t
 obtain ⟨t0, t3, t7, t8, t11, t12⟩ := t
 have hv1 := hv.ext e1
 by_cases q : k < i
 ·have w : IntKind.i64.wrap ((k : Int) + 1) = (k : Int) + 1 := wrap64 (by omega) (by omega)
  simp [q, t11, t12]
  rw [<- hkj]
  refine (zbu3 T e1.wf hv1 hl q hi (by simp [t0, t3, t7, t8, t11, t12])).mono ?_
  rintro c τ2 H2 (⟨rfl, e2, h, t⟩ | ⟨rfl, e2, h, t⟩)
  ·simp at t
   obtain ⟨t0, t3, t7, t8, t11, t12⟩ := t
   simp [t12, w]
   exact ⟨_, by omega, k + 1, ⟨e1.trans e2, by omega, rfl, fun x y x1 x2 => by
    by_cases e : y = k
    ·subst e; exact h x x1
    ·exact ok x y x1 (by omega), by simp [t0, t3, t7, t8, t11]⟩⟩
  ·simp at t
   simp [t]
   exact ⟨e1.trans e2, h⟩
 ·have hki : k = i := by omega
  subst hki
  simp [t11, t12]
  exact ⟨e1, ok, by simp [t0, t7, t8]⟩
structure Qi1 (H H' : Heap) (v : AV) (l : List (Int × Int)) (τ : Env) (i m : Nat) : Prop where
 ex : Ext H H'
 le : i <= l.length
 hm : m = l.length - i
 ok : ∀ x y z, x < y -> y < z -> z < i -> zaa9 l x y z
 t : Tm τ [(0, v), (7, .int .i64 l.length), (8, .int .i64 i)]
open Classical in
theorem za38 (T : z10 FT) (hw : H.Wf) {v : AV} {l : List (Int × Int)} (hv : zh3 H v l) (hl : l.length <= 1000000000) :
  Cp FT 67 [v] H (fun r H' => r = .bool (decide (zx4 l)) /\ Ext H H') := by
 refine zb1 A67 T.h67 rfl ?_
 rw [zch9, zb70]
 generalize hkk : k67k = kk
 simp [k67a, zf3, putAt, A67, hv.len]
 refine zb7 (fun m τ H' => ∃ i, Qi1 H H' v l τ i m) ?_ l.length _ _ ⟨0, ⟨Ext.refl hw, by omega, by omega, fun x y z a b c => by omega, by simp⟩⟩
 rintro m τ H1 ⟨i, ⟨e1, hi, rfl, ok, t⟩⟩
 simp at t
 obtain ⟨t0, t7, t8⟩ := t
 have hv1 := hv.ext e1
 by_cases q : i < l.length
 ·have w : IntKind.i64.wrap ((i : Int) + 1) = (i : Int) + 1 := wrap64 (by omega) (by omega)
  simp [q, t7, t8]
  rw [<- hkk]
  refine (zbu2 T e1.wf hv1 hl q (by simp [t0, t7, t8])).mono ?_
  rintro c τ2 H2 (⟨rfl, e2, h, t⟩ | ⟨rfl, e2, h, t⟩)
  ·simp at t
   obtain ⟨t0, t7, t8⟩ := t
   simp [t8, w]
   exact ⟨_, by omega, i + 1, ⟨e1.trans e2, by omega, rfl, fun x y z x1 x2 x3 => by
    by_cases e : z = i
    ·subst e; exact h x y x1 x2
    ·exact ok x y z x1 x2 (by omega), by simp [t0, t7]⟩⟩
  ·simp at t
   simp [t, h]
   exact e1.trans e2
 ·have hc : zx4 l ↔ 3 <= l.length := ⟨fun h => h.1, fun h => ⟨h, fun x y z x1 x2 => by
   by_cases e : z < i
   ·exact ok x y z x1 x2 e
   ·exact zz2 (by omega)⟩⟩
  by_cases z : 3 <= l.length
  ·have z' : (2 : Int) < l.length := by omega
   simp [q, t0, t7, t8, hv1.len, z', hc, z]
   exact e1
  ·have z' : ¬ (2 : Int) < l.length := by omega
   simp [q, t0, t7, t8, hv1.len, z', hc, z]
   exact e1
end
end Go.Proofs.Ytcepchipgjpkhaa
