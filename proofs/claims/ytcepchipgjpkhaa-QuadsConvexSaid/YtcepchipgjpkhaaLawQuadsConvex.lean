/- Whatever QuadsConvex is given, it returns true, and its arguments read as they did. No conditions. -/
import Derived.Test.YtcepchipgjpkhaaRows
import Derived.Test.YtcepchipgjpkhaaL20
import Derived.Test.YtcepchipgjpkhaaEH
import Derived.WalkKit
import Derived.ProofKit
import Derived.OpenShut
import Derived.ShutString
import Derived.ChangeOld
import Derived.Below
import Derived.Carry
import Derived.SizedLaws
namespace Go.Proofs.Ytcepchipgjpkhaa.quadsConvex
open Go Go.AI Go.ChangeShapes Go.WideShapes Go.ChangeAt Go.RowKit
set_option linter.unusedVariables false
theorem own : ownKnob Try.prog.godebug = none := by kernel_rfl
theorem laidOut : laidOutB Try.prog = true := by kernel_rfl
set_option maxRecDepth 100000 in
theorem lifted (os : Os) (started : os.Started) (H : Type) (enc : TypeId × Value -> H) :
  ReturnsInHanded {} Try.checked os 10 .any (Rows.quadsConvexSpec.pre6 enc Try.prog Try.f10 Rows.quadsConvexRow.domain false) (Rows.quadsConvexSpec.post enc Try.prog Try.f10 false true false false) := by
 refine returnsInHanded_of_change_sized (C := Try.checked) own started (by kernel_rfl) Try.func10
  (ChangeSpec.witness6 (enc := enc) (C := Try.checked) false ⟨#[], #[.slice none 0 0, .slice none 0 0], []⟩ 8 (by kernel_rfl) (by kernel_rfl) (by kernel_rfl) (by kernel_rfl)) ?_
 intro W base args ds gs before hval0 hW hcnd hsz0 _
 have hval : ∀ (j : Nat) t v, Try.f10.params[j]? = some t -> args[j]? = some v -> Value.okWide Try.prog W .any base t v := hval0
 have hW' := hW
 obtain ⟨p, q, hA0, hV, rfl, hfz, hnd⟩ := hW
 have hA : DataW.TrodAll enc Try.prog W 0 (fun _ => true) true Try.f10.params.toList args.toList ds p := hA0
 rw [Try.params10] at hA hval
 obtain ⟨v0, vs0, d0, ds0, p0, q0, hargs, rfl, rfl, h0, r0⟩ := trodAll_cons hA
 obtain ⟨v1, vs1, d1, ds1, p1, q1, rfl, rfl, rfl, h1, r1⟩ := trodAll_cons r0
 obtain ⟨rfl, rfl, rfl⟩ := trodAll_nil r1
 obtain rfl : args = #[v0, v1] := by cases args; simp_all
 obtain ⟨rfl, rfl⟩ := trodVars_none hV
 obtain ⟨a0, len0, cap0, rfl⟩ := okWide_slice Try.underlying54 (hval 0 54 v0 rfl rfl)
 have k0 := h0
 have lt0 : ∀ x ∈ p0, x.block < W.heap.size := by obtain ⟨m, hm⟩ := k0; exact DataW.trod_lt m _ _ _ hm
 obtain ⟨x0, av0, c0, L0, s0⟩ : ∃ (x : List (Int × Int)) (av : AV) (css : List (List AV)) (Ls : List (Option AI.Loc)), PArg W (0) (.slice a0 len0 cap0) av css Ls (fun H => Rw 2 za2 H av x) := by
  obtain ⟨fuel, hf⟩ := h0
  obtain ⟨v, x, av, css, Ls, e, s⟩ := zbf0 (0) Try.underlying54 Try.underlying60 (by kernel_rfl) rfl rfl (by kernel_rfl) (by kernel_rfl) Try.underlying3 Try.underlying3 hf
  cases e
  exact ⟨x, av, css, Ls, s⟩
 obtain ⟨a1, len1, cap1, rfl⟩ := okWide_slice Try.underlying22 (hval 1 22 v1 rfl rfl)
 have k1 := h1
 have lt1 : ∀ x ∈ p1, x.block < W.heap.size := by obtain ⟨m, hm⟩ := k1; exact DataW.trod_lt m _ _ _ hm
 obtain ⟨x1, av1, c1, L1, s1⟩ : ∃ (x : List (List Int)) (av : AV) (css : List (List AV)) (Ls : List (Option AI.Loc)), PArg W (0 + c0.length) (.slice a1 len1 cap1) av css Ls (fun H => Gd H av x) := by
  obtain ⟨fuel, hf⟩ := h1
  obtain ⟨v, x, av, css, Ls, e, s⟩ := zbq3 (0 + c0.length) Try.underlying22 Try.underlying42 Try.underlying3 (by kernel_rfl) (by kernel_rfl) hf
  cases e
  exact ⟨x, av, css, Ls, s⟩
 clear hA0 hval0 hsz0
 refine (zbh0 (f := 10) zcs5 (zah3.cons s0 (zah3.cons s1 zah3.nil)) fun H hw hq => ?_).mono fun e W' ⟨he, bel⟩ => ?_
 ·obtain ⟨q0, q1, _⟩ := hq
  exact zbh2 hw q0 q1
 subst he
 exact ⟨_, rfl, _, _, _, [], _, [], hW', trodAll_mk1 (shut_bool Try.underlying4 _), (trodAll_cons_mk (Below.trod laidOut (by kernel_rfl) (of_decide_eq_true (by kernel_rfl)) k0 bel lt0) (trodAll_cons_mk (Below.trod laidOut (by kernel_rfl) (of_decide_eq_true (by kernel_rfl)) k1 bel lt1) trodAll_mk0)), rfl, bel.frame _, fun h => by cases h⟩
theorem over : Rows.quadsConvexRow.holds Try.pinned (OpenSpec.ofChange Rows.quadsConvexSpec) :=
 OpenClaim.holds_of_wide 10 Try.f10 rfl rfl rfl rfl rfl rfl rfl ⟨rfl, rfl, rfl, rfl, rfl⟩ rfl rfl rfl rfl rfl (by kernel_rfl) Try.func10 (by kernel_rfl)
  (of_decide_eq_true (by kernel_rfl)) (by unfold Func.isWrapper; first | (rw [if_pos (by decide +kernel)]; kernel_rfl) | (rw [if_neg (by decide +kernel)]; exact ⟨rfl, rfl⟩))
  (fun os started H enc _ => lifted os started H enc)
theorem proved : Rows.QuadsConvexSaid := over
#print axioms proved
end Go.Proofs.Ytcepchipgjpkhaa.quadsConvex
namespace Go.Proofs.Ytcepchipgjpkhaa
theorem quadsConvex_holds : Rows.QuadsConvexSaid := quadsConvex.proved
end Go.Proofs.Ytcepchipgjpkhaa
