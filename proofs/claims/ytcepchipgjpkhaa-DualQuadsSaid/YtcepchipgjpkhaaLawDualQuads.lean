/- Whatever DualQuads is given, it returns true, and its arguments read as they did. No conditions. -/
import Derived.Test.YtcepchipgjpkhaaRows
import Derived.Test.YtcepchipgjpkhaaL12
import Derived.Test.YtcepchipgjpkhaaEH
import Derived.WalkKit
import Derived.ProofKit
import Derived.OpenShut
import Derived.ShutString
import Derived.ChangeOld
import Derived.Below
import Derived.Carry
import Derived.SizedLaws
namespace Go.Proofs.Ytcepchipgjpkhaa.dualQuads
open Go Go.AI Go.ChangeShapes Go.WideShapes Go.ChangeAt Go.RowKit
set_option linter.unusedVariables false
theorem own : ownKnob Try.prog.godebug = none := by kernel_rfl
theorem laidOut : laidOutB Try.prog = true := by kernel_rfl
set_option maxRecDepth 100000 in
theorem lifted (os : Os) (started : os.Started) (H : Type) (enc : TypeId × Value → H) :
    ReturnsInHanded {} Try.checked os 12 .any (Rows.dualQuadsSpec.pre6 enc Try.prog Try.f12 Rows.dualQuadsRow.domain false) (Rows.dualQuadsSpec.post enc Try.prog Try.f12 false true false false) := by
  refine returnsInHanded_of_change_sized (C := Try.checked) own started (by kernel_rfl) Try.func12
    (ChangeSpec.witness6 (enc := enc) (C := Try.checked) false ⟨#[], #[.agg #[.slice none 0 0, .slice none 0 0, .slice none 0 0], .int .i64 0, .int .i64 0], []⟩ 8 (by kernel_rfl) (by kernel_rfl) (by kernel_rfl) (by kernel_rfl)) ?_
  intro W base args ds gs before hval0 hW hcnd hsz0 _
  have hval : ∀ (j : Nat) t v, Try.f12.params[j]? = some t → args[j]? = some v → Value.okWide Try.prog W .any base t v := hval0
  have hW' := hW
  obtain ⟨p, q, hA0, hV, rfl, hfz, hnd⟩ := hW
  have hA : DataW.TrodAll enc Try.prog W 0 (fun _ => true) true Try.f12.params.toList args.toList ds p := hA0
  rw [Try.params12] at hA hval
  obtain ⟨v0, vs0, d0, ds0, p0, q0, hargs, rfl, rfl, h0, r0⟩ := trodAll_cons hA
  obtain ⟨v1, vs1, d1, ds1, p1, q1, rfl, rfl, rfl, h1, r1⟩ := trodAll_cons r0
  obtain ⟨v2, vs2, d2, ds2, p2, q2, rfl, rfl, rfl, h2, r2⟩ := trodAll_cons r1
  obtain ⟨rfl, rfl, rfl⟩ := trodAll_nil r2
  obtain rfl : args = #[v0, v1, v2] := by cases args; simp_all
  obtain ⟨rfl, rfl⟩ := trodVars_none hV
  obtain ⟨cs0, rfl, hcs0⟩ := okWide_struct Try.underlying58 (hval 0 58 v0 rfl rfl)
  have k0 := h0
  have lt0 : ∀ x ∈ p0, x.block < W.heap.size := by obtain ⟨m, hm⟩ := k0; exact DataW.trod_lt m _ _ _ hm
  obtain ⟨av0, c0, L0, x0, y0, z0, s0⟩ : ∃ (av : AV) (css : List (List AV)) (Ls : List (Option AI.Loc)) (Pt : List (Int × Int)) (T : List (Int × Int × Int)) (S : List (Int × Int)), PArg W (0) (.agg cs0) av css Ls (fun H => Msh H av Pt T S) := by
    obtain ⟨fuel, hf⟩ := h0
    obtain ⟨a, b, c, av, css, Ls, Pt, T, S, e, s⟩ := par_mesh (0) Try.underlying58 (by kernel_rfl) rfl rfl rfl (by kernel_rfl) (by kernel_rfl) (by kernel_rfl) (fun o n v y h => par_pairs o Try.underlying54 Try.underlying60 (by kernel_rfl) rfl rfl (by kernel_rfl) (by kernel_rfl) Try.underlying3 Try.underlying3 h) (fun o n v y h => par_tris o Try.underlying56 Try.underlying63 (by kernel_rfl) rfl rfl rfl (by kernel_rfl) (by kernel_rfl) (by kernel_rfl) Try.underlying3 Try.underlying3 Try.underlying3 h) (fun o n v y h => par_pairs o Try.underlying28 Try.underlying49 (by kernel_rfl) rfl rfl (by kernel_rfl) (by kernel_rfl) Try.underlying3 Try.underlying3 h) hf
    have e2 : cs0 = #[a, b, c] := by cases cs0; simp [Value.cells] at e; simp [e]
    exact ⟨av, css, Ls, Pt, T, S, by rw [e2]; exact s⟩
  obtain ⟨n1, rfl, rfl, rfl, w1⟩ := open_int Try.underlying3 (hval 1 3 v1 rfl rfl) h1
  have b1 := w1
  simp [Lit.wf, IntKind.min, IntKind.max, IntKind.signed, IntKind.bits] at b1
  obtain ⟨n2, rfl, rfl, rfl, w2⟩ := open_int Try.underlying3 (hval 2 3 v2 rfl rfl) h2
  have b2 := w2
  simp [Lit.wf, IntKind.min, IntKind.max, IntKind.signed, IntKind.bits] at b2
  clear hA0 hval0 hsz0
  refine (law_told4 (f := 12) FM_ok (PArgs.cons s0 (PArgs.cons (PArg.int b1) (PArgs.cons (PArg.int b2) PArgs.nil))) fun H hw hq => ?_).mono fun e W' ⟨he, bel⟩ => ?_
  · obtain ⟨q0, q1, q2, _⟩ := hq
    exact law_quads hw q0 q1 q2
  subst he
  exact ⟨_, rfl, _, _, _, [], _, [], hW', trodAll_mk1 (shut_bool Try.underlying4 _), (trodAll_cons_mk (Below.trod laidOut (by kernel_rfl) (of_decide_eq_true (by kernel_rfl)) k0 bel lt0) (trodAll_cons_mk (shut_int Try.underlying3 w1) (trodAll_cons_mk (shut_int Try.underlying3 w2) trodAll_mk0))), rfl, bel.frame _, fun h => by cases h⟩
theorem over : Rows.dualQuadsRow.holds Try.pinned (OpenSpec.ofChange Rows.dualQuadsSpec) :=
  OpenClaim.holds_of_wide 12 Try.f12 rfl rfl rfl rfl rfl rfl rfl ⟨rfl, rfl, rfl, rfl, rfl⟩ rfl rfl rfl rfl rfl (by kernel_rfl) Try.func12 (by kernel_rfl)
    (of_decide_eq_true (by kernel_rfl)) (by unfold Func.isWrapper; first | (rw [if_pos (by decide +kernel)]; kernel_rfl) | (rw [if_neg (by decide +kernel)]; exact ⟨rfl, rfl⟩))
    (fun os started H enc _ => lifted os started H enc)
theorem proved : Rows.DualQuadsSaid := over
#print axioms proved
end Go.Proofs.Ytcepchipgjpkhaa.dualQuads
namespace Go.Proofs.Ytcepchipgjpkhaa
theorem dualQuads_holds : Rows.DualQuadsSaid := dualQuads.proved
end Go.Proofs.Ytcepchipgjpkhaa
