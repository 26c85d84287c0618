/- Whatever DualCut is given, it returns true, and its arguments read as they did. No conditions. -/
import Derived.Test.YtcepchipgjpkhaaRows
import Derived.Test.YtcepchipgjpkhaaL14
import Derived.Test.YtcepchipgjpkhaaEH
import Derived.WalkKit
import Derived.ProofKit
import Derived.OpenShut
import Derived.ShutString
import Derived.ChangeOld
import Derived.Below
import Derived.Carry
import Derived.SizedLaws
namespace Go.Proofs.Ytcepchipgjpkhaa.dualCut
open Go Go.AI Go.ChangeShapes Go.WideShapes Go.ChangeAt Go.RowKit
set_option linter.unusedVariables false
theorem own : ownKnob Try.prog.godebug = none := by kernel_rfl
theorem laidOut : laidOutB Try.prog = true := by kernel_rfl
set_option maxRecDepth 100000 in
theorem lifted (os : Os) (started : os.Started) (H : Type) (enc : TypeId × Value → H) :
    ReturnsInHanded {} Try.checked os 14 .any (Rows.dualCutSpec.pre6 enc Try.prog Try.f14 Rows.dualCutRow.domain false) (Rows.dualCutSpec.post enc Try.prog Try.f14 false true false false) := by
  refine returnsInHanded_of_change_sized (C := Try.checked) own started (by kernel_rfl) Try.func14
    (ChangeSpec.witness6 (enc := enc) (C := Try.checked) false ⟨#[], #[.agg #[.int .i64 0, .int .i64 0], .agg #[.int .i64 0, .int .i64 0], .agg #[.int .i64 0, .int .i64 0], .agg #[.int .i64 0, .int .i64 0]], []⟩ 8 (by kernel_rfl) (by kernel_rfl) (by kernel_rfl) (by kernel_rfl)) ?_
  intro W base args ds gs before hval0 hW hcnd hsz0 _
  have hval : ∀ (j : Nat) t v, Try.f14.params[j]? = some t → args[j]? = some v → Value.okWide Try.prog W .any base t v := hval0
  have hW' := hW
  obtain ⟨p, q, hA0, hV, rfl, hfz, hnd⟩ := hW
  have hA : DataW.TrodAll enc Try.prog W 0 (fun _ => true) true Try.f14.params.toList args.toList ds p := hA0
  rw [Try.params14] at hA hval
  obtain ⟨v0, vs0, d0, ds0, p0, q0, hargs, rfl, rfl, h0, r0⟩ := trodAll_cons hA
  obtain ⟨v1, vs1, d1, ds1, p1, q1, rfl, rfl, rfl, h1, r1⟩ := trodAll_cons r0
  obtain ⟨v2, vs2, d2, ds2, p2, q2, rfl, rfl, rfl, h2, r2⟩ := trodAll_cons r1
  obtain ⟨v3, vs3, d3, ds3, p3, q3, rfl, rfl, rfl, h3, r3⟩ := trodAll_cons r2
  obtain ⟨rfl, rfl, rfl⟩ := trodAll_nil r3
  obtain rfl : args = #[v0, v1, v2, v3] := by cases args; simp_all
  obtain ⟨rfl, rfl⟩ := trodVars_none hV
  obtain ⟨cs0, rfl, hcs0⟩ := okWide_struct Try.underlying60 (hval 0 60 v0 rfl rfl)
  have k0 := h0
  have lt0 : ∀ x ∈ p0, x.block < W.heap.size := by obtain ⟨m, hm⟩ := k0; exact DataW.trod_lt m _ _ _ hm
  obtain ⟨x0, s0⟩ : ∃ x : Int × Int, PArg W (0) (.agg cs0) (.agg (pairc x)) [] [] (fun _ => (-9223372036854775808 ≤ x.1 ∧ x.1 ≤ 9223372036854775807) ∧ (-9223372036854775808 ≤ x.2 ∧ x.2 ≤ 9223372036854775807)) := by
    obtain ⟨fuel, hf⟩ := h0
    obtain ⟨a, b, e, s⟩ := par_point (0) Try.underlying60 (by kernel_rfl) rfl rfl (by kernel_rfl) (by kernel_rfl) Try.underlying3 Try.underlying3 hf
    have e2 : cs0 = #[.int .i64 a, .int .i64 b] := by cases cs0; simp [Value.cells] at e; simp [e]
    exact ⟨(a, b), by rw [e2]; exact s⟩
  obtain ⟨cs1, rfl, hcs1⟩ := okWide_struct Try.underlying60 (hval 1 60 v1 rfl rfl)
  have k1 := h1
  have lt1 : ∀ x ∈ p1, x.block < W.heap.size := by obtain ⟨m, hm⟩ := k1; exact DataW.trod_lt m _ _ _ hm
  obtain ⟨x1, s1⟩ : ∃ x : Int × Int, PArg W (0) (.agg cs1) (.agg (pairc x)) [] [] (fun _ => (-9223372036854775808 ≤ x.1 ∧ x.1 ≤ 9223372036854775807) ∧ (-9223372036854775808 ≤ x.2 ∧ x.2 ≤ 9223372036854775807)) := by
    obtain ⟨fuel, hf⟩ := h1
    obtain ⟨a, b, e, s⟩ := par_point (0) Try.underlying60 (by kernel_rfl) rfl rfl (by kernel_rfl) (by kernel_rfl) Try.underlying3 Try.underlying3 hf
    have e2 : cs1 = #[.int .i64 a, .int .i64 b] := by cases cs1; simp [Value.cells] at e; simp [e]
    exact ⟨(a, b), by rw [e2]; exact s⟩
  obtain ⟨cs2, rfl, hcs2⟩ := okWide_struct Try.underlying60 (hval 2 60 v2 rfl rfl)
  have k2 := h2
  have lt2 : ∀ x ∈ p2, x.block < W.heap.size := by obtain ⟨m, hm⟩ := k2; exact DataW.trod_lt m _ _ _ hm
  obtain ⟨x2, s2⟩ : ∃ x : Int × Int, PArg W (0) (.agg cs2) (.agg (pairc x)) [] [] (fun _ => (-9223372036854775808 ≤ x.1 ∧ x.1 ≤ 9223372036854775807) ∧ (-9223372036854775808 ≤ x.2 ∧ x.2 ≤ 9223372036854775807)) := by
    obtain ⟨fuel, hf⟩ := h2
    obtain ⟨a, b, e, s⟩ := par_point (0) Try.underlying60 (by kernel_rfl) rfl rfl (by kernel_rfl) (by kernel_rfl) Try.underlying3 Try.underlying3 hf
    have e2 : cs2 = #[.int .i64 a, .int .i64 b] := by cases cs2; simp [Value.cells] at e; simp [e]
    exact ⟨(a, b), by rw [e2]; exact s⟩
  obtain ⟨cs3, rfl, hcs3⟩ := okWide_struct Try.underlying60 (hval 3 60 v3 rfl rfl)
  have k3 := h3
  have lt3 : ∀ x ∈ p3, x.block < W.heap.size := by obtain ⟨m, hm⟩ := k3; exact DataW.trod_lt m _ _ _ hm
  obtain ⟨x3, s3⟩ : ∃ x : Int × Int, PArg W (0) (.agg cs3) (.agg (pairc x)) [] [] (fun _ => (-9223372036854775808 ≤ x.1 ∧ x.1 ≤ 9223372036854775807) ∧ (-9223372036854775808 ≤ x.2 ∧ x.2 ≤ 9223372036854775807)) := by
    obtain ⟨fuel, hf⟩ := h3
    obtain ⟨a, b, e, s⟩ := par_point (0) Try.underlying60 (by kernel_rfl) rfl rfl (by kernel_rfl) (by kernel_rfl) Try.underlying3 Try.underlying3 hf
    have e2 : cs3 = #[.int .i64 a, .int .i64 b] := by cases cs3; simp [Value.cells] at e; simp [e]
    exact ⟨(a, b), by rw [e2]; exact s⟩
  clear hA0 hval0 hsz0
  refine (law_told4 (f := 14) FM_ok (PArgs.cons s0 (PArgs.cons s1 (PArgs.cons s2 (PArgs.cons s3 PArgs.nil)))) fun H hw hq => ?_).mono fun e W' ⟨he, bel⟩ => ?_
  · obtain ⟨q0, q1, q2, q3, _⟩ := hq
    exact law_cut hw q0 q1 q2 q3
  subst he
  exact ⟨_, rfl, _, _, _, [], _, [], hW', trodAll_mk1 (shut_bool Try.underlying4 _), (trodAll_cons_mk (Below.trod laidOut (by kernel_rfl) (of_decide_eq_true (by kernel_rfl)) k0 bel lt0) (trodAll_cons_mk (Below.trod laidOut (by kernel_rfl) (of_decide_eq_true (by kernel_rfl)) k1 bel lt1) (trodAll_cons_mk (Below.trod laidOut (by kernel_rfl) (of_decide_eq_true (by kernel_rfl)) k2 bel lt2) (trodAll_cons_mk (Below.trod laidOut (by kernel_rfl) (of_decide_eq_true (by kernel_rfl)) k3 bel lt3) trodAll_mk0)))), rfl, bel.frame _, fun h => by cases h⟩
theorem over : Rows.dualCutRow.holds Try.pinned (OpenSpec.ofChange Rows.dualCutSpec) :=
  OpenClaim.holds_of_wide 14 Try.f14 rfl rfl rfl rfl rfl rfl rfl ⟨rfl, rfl, rfl, rfl, rfl⟩ rfl rfl rfl rfl rfl (by kernel_rfl) Try.func14 (by kernel_rfl)
    (of_decide_eq_true (by kernel_rfl)) (by unfold Func.isWrapper; first | (rw [if_pos (by decide +kernel)]; kernel_rfl) | (rw [if_neg (by decide +kernel)]; exact ⟨rfl, rfl⟩))
    (fun os started H enc _ => lifted os started H enc)
theorem proved : Rows.DualCutSaid := over
#print axioms proved
end Go.Proofs.Ytcepchipgjpkhaa.dualCut
namespace Go.Proofs.Ytcepchipgjpkhaa
theorem dualCut_holds : Rows.DualCutSaid := dualCut.proved
end Go.Proofs.Ytcepchipgjpkhaa
