/- The statement DualFan, at the table. No claim by itself. -/
import Derived.Test.YtcepchipgjpkhaaN30
import Derived.Test.YtcepchipgjpkhaaNF
namespace Go.Proofs.Ytcepchipgjpkhaa
open Go Go.AI
section
variable {H : Heap} {FT : Nat → Option FnD}
theorem fan16 (L : LawM FT) (h40 : FT 40 = some (.code A40)) (h16 : FT 16 = some (.code A16)) (hw : H.Wf) {n w : Int} (w0 : 0 ≤ w) (w1 : w ≤ 255) : Cp FT 16 [.int .i64 n, .int .u8 w] H (fun r _ => r = .bool true) := by
  refine Cp_code A16 h16 rfl ?_
  rw [body16]
  obtain ⟨q, hq, e5⟩ := mod5 n
  have ww : IntKind.i64.wrap w = w := wrap64 (by omega) (by omega)
  have w10 : IntKind.i64.wrap (10 + w) = 10 + w := wrap64 (by omega) (by omega)
  have wq : IntKind.i64.wrap (q : Int) = q := wrap64 (by omega) (by omega)
  have w3 : IntKind.i64.wrap (3 + (q : Int)) = 3 + q := wrap64 (by omega) (by omega)
  have v1 : IntKind.i64.wrap (2 * (10 + w)) = 2 * (10 + w) := wrap64 (by omega) (by omega)
  have v2 : IntKind.i64.wrap (-2 * (10 + w)) = -2 * (10 + w) := wrap64 (by omega) (by omega)
  have v3 : unA .neg (.int .i64 (10 + w)) = some (.int .i64 (-(10 + w))) := by
    show some (AV.int .i64 (IntKind.i64.wrap (0 - (10 + w)))) = _
    rw [wrap64 (by omega) (by omega), Int.zero_sub]
  have hk := @fan_b H FT L h40 hw
  generalize k16a = k at hk ⊢
  obtain ⟨g1, e1⟩ := push_new hw (.cells ((fanP (10 + w)).flatMap pairc))
  have r1 := rw_lits (xs := fanP (10 + w)) pairc_len g1
  obtain ⟨vP, sl, rP, oP⟩ := r1.take pairc_len (k := min (q + 3) 6 + 1) (by show _ ≤ 7; omega)
  have hsl : sliceA 2 (.slc H.next 0 7 2 7 true) none (some (.int .i64 ((min (q + 3) 6 + 1 : Nat) : Int))) none = some vP := sl
  have hm : maxA false (.int .i64 (3 + (q : Int))) [.int .i64 6] = some (.int .i64 ((min (q + 3) 6 : Nat) : Int)) := by
    simp [maxA]
    split <;> omega
  have hk1 : IntKind.i64.wrap (((min (q + 3) 6 : Nat) : Int) + 1) = ((min (q + 3) 6 + 1 : Nat) : Int) := wrap64 (by omega) (by omega)
  have hn4 : 4 ≤ min (q + 3) 6 + 1 := by omega
  have hn7 : min (q + 3) 6 + 1 ≤ 7 := by omega
  obtain ⟨o1, o2⟩ := rP.one
  have hoP : rowObj vP = some H.next := oP
  generalize hH1 : H.push (.cells ((fanP (10 + w)).flatMap pairc)) = H1 at *
  have hH1' : H.push (AObj.cells [AV.int IntKind.i64 0, AV.int IntKind.i64 0, AV.int IntKind.i64 (2 * (10 + w)), AV.int IntKind.i64 0, AV.int IntKind.i64 (10 + w), AV.int IntKind.i64 (2 * (10 + w)), AV.int IntKind.i64 (-(10 + w)), AV.int IntKind.i64 (2 * (10 + w)), AV.int IntKind.i64 (-2 * (10 + w)), AV.int IntKind.i64 0, AV.int IntKind.i64 (-(10 + w)), AV.int IntKind.i64 (-2 * (10 + w)), AV.int IntKind.i64 (10 + w), AV.int IntKind.i64 (-2 * (10 + w))]) = H1 := hH1
  have hnx : H1.next = H.next + 1 := by rw [← hH1]; rfl
  obtain ⟨H2, sH, gH, eH, nH⟩ := store_new e1.wf (z := [.nils, .nils, .nils]) (n := 3) (x := .agg [vP, .nils, .nils]) (cs := [vP, .nils, .nils]) rfl rfl rfl (by simp [allOne, o1]; rfl)
  generalize min (q + 3) 6 = m at *
  push_cast at hk1 hsl
  rw [fanP_eq, ← List.map_take] at rP
  have hk2 := fun τ u => hk (Hb := H2) (e1.trans eH) (o8 := H1.next) (n := m + 1) (vP := vP) (w := 10 + w) (by omega) (by omega) hn4 hn7 (by omega) gH (rP.ext eH) (fun p hp => by rw [hoP] at hp; cases hp; omega) (τ0 := τ) u
  have oo : allOne [vP] = true := by simp [allOne, o1]
  simp [-storeA_ptr, oo, A16, putAt, e5, ww, w10, wq, w3, v1, v2, v3, setSeg, hm, hH1', hk1, hsl, o2, fillA, sH]
  exact hk2 _ (by simp)
end
theorem law_fan {H : Heap} (hw : H.Wf) {n w : Int} (_ : -9223372036854775808 ≤ n ∧ n ≤ 9223372036854775807) (hw2 : 0 ≤ w ∧ w ≤ 255) :
    Cp FM 16 [.int .i64 n, .int .u8 w] H (fun r _ => r = .bool true) := fan16 lawM rfl rfl hw hw2.1 hw2.2
end Go.Proofs.Ytcepchipgjpkhaa
