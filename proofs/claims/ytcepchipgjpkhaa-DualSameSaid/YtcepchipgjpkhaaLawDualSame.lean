/- Whatever DualSame is given, it returns true, and its arguments read as they did. No conditions. -/
import Derived.Test.YtcepchipgjpkhaaRows
import Derived.Test.YtcepchipgjpkhaaL15
import Derived.Test.YtcepchipgjpkhaaEH
import Derived.WalkKit
import Derived.ProofKit
import Derived.OpenShut
import Derived.ShutString
import Derived.ChangeOld
import Derived.Below
import Derived.Carry
import Derived.SizedLaws
namespace Go.Proofs.Ytcepchipgjpkhaa.dualSame
open Go Go.AI Go.ChangeShapes Go.WideShapes Go.ChangeAt Go.RowKit
set_option linter.unusedVariables false
theorem own : ownKnob Try.prog.godebug = none := by kernel_rfl
theorem laidOut : laidOutB Try.prog = true := by kernel_rfl
set_option maxRecDepth 100000 in
theorem lifted (os : Os) (started : os.Started) (H : Type) (enc : TypeId × Value → H) :
    ReturnsInHanded {} Try.checked os 15 .any (Rows.dualSameSpec.pre6 enc Try.prog Try.f15 Rows.dualSameRow.domain false) (Rows.dualSameSpec.post enc Try.prog Try.f15 false true false false) := by
  refine returnsInHanded_of_change_sized (C := Try.checked) own started (by kernel_rfl) Try.func15
    (ChangeSpec.witness6 (enc := enc) (C := Try.checked) false ⟨#[], #[.agg #[.slice none 0 0, .slice none 0 0, .slice none 0 0]], []⟩ 8 (by kernel_rfl) (by kernel_rfl) (by kernel_rfl) (by kernel_rfl)) ?_
  intro W base args ds gs before hval0 hW hcnd hsz0 _
  have hval : ∀ (j : Nat) t v, Try.f15.params[j]? = some t → args[j]? = some v → Value.okWide Try.prog W .any base t v := hval0
  have hW' := hW
  obtain ⟨p, q, hA0, hV, rfl, hfz, hnd⟩ := hW
  have hA : DataW.TrodAll enc Try.prog W 0 (fun _ => true) true Try.f15.params.toList args.toList ds p := hA0
  rw [Try.params15] at hA hval
  obtain ⟨v0, vs0, d0, ds0, p0, q0, hargs, rfl, rfl, h0, r0⟩ := trodAll_cons hA
  obtain ⟨rfl, rfl, rfl⟩ := trodAll_nil r0
  obtain rfl : args = #[v0] := by cases args; simp_all
  obtain ⟨rfl, rfl⟩ := trodVars_none hV
  obtain ⟨cs0, rfl, hcs0⟩ := okWide_struct Try.underlying58 (hval 0 58 v0 rfl rfl)
  have k0 := h0
  have lt0 : ∀ x ∈ p0, x.block < W.heap.size := by obtain ⟨m, hm⟩ := k0; exact DataW.trod_lt m _ _ _ hm
  obtain ⟨av0, c0, L0, x0, y0, z0, s0⟩ : ∃ (av : AV) (css : List (List AV)) (Ls : List (Option AI.Loc)) (Pt : List (Int × Int)) (T : List (Int × Int × Int)) (S : List (Int × Int)), PArg W (0) (.agg cs0) av css Ls (fun H => Msh H av Pt T S) := by
    obtain ⟨fuel, hf⟩ := h0
    obtain ⟨a, b, c, av, css, Ls, Pt, T, S, e, s⟩ := par_mesh (0) Try.underlying58 (by kernel_rfl) rfl rfl rfl (by kernel_rfl) (by kernel_rfl) (by kernel_rfl) (fun o n v y h => par_pairs o Try.underlying54 Try.underlying60 (by kernel_rfl) rfl rfl (by kernel_rfl) (by kernel_rfl) Try.underlying3 Try.underlying3 h) (fun o n v y h => par_tris o Try.underlying56 Try.underlying63 (by kernel_rfl) rfl rfl rfl (by kernel_rfl) (by kernel_rfl) (by kernel_rfl) Try.underlying3 Try.underlying3 Try.underlying3 h) (fun o n v y h => par_pairs o Try.underlying28 Try.underlying49 (by kernel_rfl) rfl rfl (by kernel_rfl) (by kernel_rfl) Try.underlying3 Try.underlying3 h) hf
    have e2 : cs0 = #[a, b, c] := by cases cs0; simp [Value.cells] at e; simp [e]
    exact ⟨av, css, Ls, Pt, T, S, by rw [e2]; exact s⟩
  clear hA0 hval0 hsz0
  refine (law_told4 (f := 15) FM_ok (PArgs.cons s0 PArgs.nil) fun H hw hq => ?_).mono fun e W' ⟨he, bel⟩ => ?_
  · obtain ⟨q0, _⟩ := hq
    exact law_dsame hw q0
  subst he
  exact ⟨_, rfl, _, _, _, [], _, [], hW', trodAll_mk1 (shut_bool Try.underlying4 _), (trodAll_cons_mk (Below.trod laidOut (by kernel_rfl) (of_decide_eq_true (by kernel_rfl)) k0 bel lt0) trodAll_mk0), rfl, bel.frame _, fun h => by cases h⟩
theorem over : Rows.dualSameRow.holds Try.pinned (OpenSpec.ofChange Rows.dualSameSpec) :=
  OpenClaim.holds_of_wide 15 Try.f15 rfl rfl rfl rfl rfl rfl rfl ⟨rfl, rfl, rfl, rfl, rfl⟩ rfl rfl rfl rfl rfl (by kernel_rfl) Try.func15 (by kernel_rfl)
    (of_decide_eq_true (by kernel_rfl)) (by unfold Func.isWrapper; first | (rw [if_pos (by decide +kernel)]; kernel_rfl) | (rw [if_neg (by decide +kernel)]; exact ⟨rfl, rfl⟩))
    (fun os started H enc _ => lifted os started H enc)
theorem proved : Rows.DualSameSaid := over
#print axioms proved
end Go.Proofs.Ytcepchipgjpkhaa.dualSame
namespace Go.Proofs.Ytcepchipgjpkhaa
theorem dualSame_holds : Rows.DualSameSaid := dualSame.proved
end Go.Proofs.Ytcepchipgjpkhaa
