/- Whatever number, edges and truth values MatchGrows is given, it returns true, and they read as they did. No conditions. -/
import Derived.Test.YtjhhicmlflelhaaRows
import Derived.Test.YtjhhicmlflelhaaX8
import Derived.Test.YtjhhicmlflelhaaE26
import Derived.WalkKit
import Derived.ProofKit
import Derived.OpenShut
import Derived.ShutString
import Derived.ChangeOld
import Derived.Below
import Derived.Carry
import Derived.SizedLaws
namespace Go.Proofs.Ytjhhicmlflelhaa.matchGrows
open Go Go.AI Go.ChangeShapes Go.WideShapes Go.ChangeAt Go.RowKit
set_option linter.unusedVariables false
theorem own : ownKnob Try.prog.godebug = none := by kernel_rfl
theorem laidOut : laidOutB Try.prog = true := by kernel_rfl
theorem sl_of {α : Type} {e : Nat} {en : α → List AV} (hn : ∀ x, (en x).length = e) {w : World} {o : Nat} {v : Value} {xs : List α} {av : AV} {L : Option AI.Loc} {H : Heap} (h : SlArg w o e en v xs av L) (hg : H.get o = some (.cells (xs.flatMap en))) : Sl e en H av xs := by
  rcases h.2 with ⟨rfl, rfl⟩ | rfl
  · exact .inl ⟨rfl, rfl⟩
  · exact Sl.ofCells hn hg
theorem walk {w : World} {n0 : Int} {v1 : Value} {l1 : List (Int × Int)} {a1 : AV} {L1 : Option AI.Loc} {v2 : Value} {l2 : List Bool} {a2 : AV} {L2 : Option AI.Loc} (h1 : SlArg w 0 2 pairc v1 l1 a1 L1) (h2 : SlArg w 1 1 boolc v2 l2 a2 L2) (b1 : l1.length ≤ 9223372036854775806) (b2 : l2.length ≤ 9223372036854775806) :
    Calls Try.prog 8 #[.int .i64 n0, v1, v2] w fun e w' => e = .returned (.bool true) ∧ Below w.heap.size w w' := by
  let css : List (List AV) := [l2.flatMap boolc, l1.flatMap pairc]
  have g1 : (heapR css).get 0 = some (.cells (l1.flatMap pairc)) := by rw [heapR_get]; rfl
  have g2 : (heapR css).get 1 = some (.cells (l2.flatMap boolc)) := by rw [heapR_get]; rfl
  have hc := Gr.grows8 (n := n0) (sl_of (e := 2) (en := pairc) (fun _ => rfl) h1 g1) (sl_of (e := 1) (en := boolc) (fun _ => rfl) h2 g2) (heapR_wf css) b1 b2
  refine (law_told FK_ok (Ls := [L1, L2]) (avs := [.int .i64 n0, v1, v2]) hc rfl ?_ rfl ?_).mono ?_
  · exact .cons (.int _ _) (.cons (h1.1.rel _ rfl) (.cons (h2.1.rel _ rfl) (.nil)))
  · intro o L ho cs hcs
    match o, ho, hcs with
    | 0, ho, hcs =>
      simp at ho; simp [css] at hcs; subst hcs
      exact h1.1.mem _ ho
    | 1, ho, hcs =>
      simp at ho; simp [css] at hcs; subst hcs
      exact h2.1.mem _ ho
    | o + 2, ho, hcs => simp at ho
  · rintro e w' ⟨r, rfl, hv, hb⟩
    cases hv
    exact ⟨rfl, hb⟩
set_option maxRecDepth 100000 in
theorem lifted (os : Os) (started : os.Started) (H : Type) (enc : TypeId × Value → H) :
    ReturnsInHanded {} Try.checked os 8 .any (Rows.matchGrowsSpec.pre6 enc Try.prog Try.f8 Rows.matchGrowsRow.domain false) (Rows.matchGrowsSpec.post enc Try.prog Try.f8 false true false false) := by
  refine returnsInHanded_of_change_sized (C := Try.checked) own started (by kernel_rfl) Try.func8
    (ChangeSpec.witness6 (enc := enc) (C := Try.checked) false ⟨#[], #[.int .i64 0, .slice none 0 0, .slice none 0 0], []⟩ 8 (by kernel_rfl) (by kernel_rfl) (by kernel_rfl) (by kernel_rfl)) ?_
  intro W base args ds gs before hval0 hW hcnd hsz0 _
  have hsz : (DataW.weightsEach Try.prog (Try.f8.params.toList ++ Rows.matchGrowsSpec.plain.varTypes Try.prog) (ds ++ gs)).all (· ≤ reachBytes) = true := hsz0
  have hval : ∀ (j : Nat) t v, Try.f8.params[j]? = some t → args[j]? = some v → Value.okWide Try.prog W .any base t v := hval0
  have hW' := hW
  obtain ⟨p, q, hA0, hV, rfl, hfz, hnd⟩ := hW
  have hA : DataW.TrodAll enc Try.prog W 0 (fun _ => true) true Try.f8.params.toList args.toList ds p := hA0
  rw [Try.params8] at hA hval hsz
  obtain ⟨v0, vs0, d0, ds0, p0, q0, hargs, rfl, rfl, h0, r0⟩ := trodAll_cons hA
  obtain ⟨v1, vs1, d1, ds1, p1, q1, rfl, rfl, rfl, h1, r1⟩ := trodAll_cons r0
  obtain ⟨v2, vs2, d2, ds2, p2, q2, rfl, rfl, rfl, h2, r2⟩ := trodAll_cons r1
  obtain ⟨rfl, rfl, rfl⟩ := trodAll_nil r2
  obtain rfl : args = #[v0, v1, v2] := by cases args; simp_all
  obtain ⟨rfl, rfl⟩ := trodVars_none hV
  obtain ⟨a0, rfl, rfl, rfl, w0⟩ := open_int Try.underlying3 (hval 0 3 v0 rfl rfl) h0
  obtain ⟨a1, len1, cap1, rfl⟩ := okWide_slice Try.underlying22 (hval 1 22 v1 rfl rfl)
  have k1 := h1
  have lt1 : ∀ x ∈ p1, x.block < W.heap.size := by obtain ⟨m, hm⟩ := k1; exact DataW.trod_lt m _ _ _ hm
  obtain ⟨a2, len2, cap2, rfl⟩ := okWide_slice Try.underlying40 (hval 2 40 v2 rfl rfl)
  have k2 := h2
  have lt2 : ∀ x ∈ p2, x.block < W.heap.size := by obtain ⟨m, hm⟩ := k2; exact DataW.trod_lt m _ _ _ hm
  obtain ⟨l1, av1, L1, hl1, s1, g1⟩ : ∃ xs av L, xs.length = len1 ∧ SlArg W 0 2 pairc (.slice a1 len1 cap1) xs av L ∧ Weighs d1 len1 := by
    obtain ⟨fuel, hf⟩ := h1
    exact arg_pairs 0 Try.underlying22 Try.underlying34 (by kernel_rfl) rfl rfl (by kernel_rfl) (by kernel_rfl) Try.underlying3 Try.underlying3 hf
  obtain ⟨l2, av2, L2, hl2, s2, g2⟩ : ∃ xs av L, xs.length = len2 ∧ SlArg W 1 1 boolc (.slice a2 len2 cap2) xs av L ∧ Weighs d2 len2 := by
    obtain ⟨fuel, hf⟩ := h2
    exact arg_bools 1 Try.underlying40 Try.underlying4 (by kernel_rfl) hf
  have b1 := g1.le hsz (j := 1) (t := 22) rfl rfl Try.underlying22 (by rw [show Try.prog.bytesOf 34 = 16 from by kernel_rfl]; omega)
  have b2 := g2.le hsz (j := 2) (t := 40) rfl rfl Try.underlying40 (by rw [show Try.prog.bytesOf 4 = 1 from by kernel_rfl]; omega)
  clear hA0 hval0 hsz0 hsz
  refine (walk (n0 := a0) s1 s2 (by omega) (by omega)).mono fun e W' ⟨he, bel⟩ => ?_
  subst he
  exact ⟨_, rfl, _, _, _, [], _, [], hW', trodAll_mk1 (shut_bool Try.underlying4 _), (trodAll_cons_mk (shut_int Try.underlying3 w0) (trodAll_cons_mk (Below.trod laidOut (by kernel_rfl) (of_decide_eq_true (by kernel_rfl)) k1 bel lt1) (trodAll_cons_mk (Below.trod laidOut (by kernel_rfl) (of_decide_eq_true (by kernel_rfl)) k2 bel lt2) trodAll_mk0))), rfl, bel.frame _, fun h => by cases h⟩
theorem over : Rows.matchGrowsRow.holds Try.pinned (OpenSpec.ofChange Rows.matchGrowsSpec) :=
  OpenClaim.holds_of_wide 8 Try.f8 rfl rfl rfl rfl rfl rfl rfl ⟨rfl, rfl, rfl, rfl, rfl⟩ rfl rfl rfl rfl rfl (by kernel_rfl) Try.func8 (by kernel_rfl)
    (of_decide_eq_true (by kernel_rfl)) (by unfold Func.isWrapper; first | (rw [if_pos (by decide +kernel)]; kernel_rfl) | (rw [if_neg (by decide +kernel)]; exact ⟨rfl, rfl⟩))
    (fun os started H enc _ => lifted os started H enc)
theorem proved : Rows.MatchGrowsSaid := over
#print axioms proved
end Go.Proofs.Ytjhhicmlflelhaa.matchGrows
namespace Go.Proofs.Ytjhhicmlflelhaa
theorem matchGrows_holds : Rows.MatchGrowsSaid := matchGrows.proved
end Go.Proofs.Ytjhhicmlflelhaa
