/- Whatever number, edges and three more numbers MatchSame is given, it returns true, and they read as they did. No conditions. -/
import Derived.Test.YtjhhicmlflelhaaRows
import Derived.Test.YtjhhicmlflelhaaX5
import Derived.Test.YtjhhicmlflelhaaE25
import Derived.WalkKit
import Derived.ProofKit
import Derived.OpenShut
import Derived.ShutString
import Derived.ChangeOld
import Derived.Below
import Derived.Carry
import Derived.SizedLaws
namespace Go.Proofs.Ytjhhicmlflelhaa.matchSame
open Go Go.AI Go.ChangeShapes Go.WideShapes Go.ChangeAt Go.RowKit
set_option linter.unusedVariables false
theorem own : ownKnob Try.prog.godebug = none := by kernel_rfl
theorem laidOut : laidOutB Try.prog = true := by kernel_rfl
theorem sl_of {α : Type} {e : Nat} {en : α → List AV} (hn : ∀ x, (en x).length = e) {w : World} {o : Nat} {v : Value} {xs : List α} {av : AV} {L : Option AI.Loc} {H : Heap} (h : SlArg w o e en v xs av L) (hg : H.get o = some (.cells (xs.flatMap en))) : Sl e en H av xs := by
  rcases h.2 with ⟨rfl, rfl⟩ | rfl
  · exact .inl ⟨rfl, rfl⟩
  · exact Sl.ofCells hn hg
theorem sw_of {α : Type} {e : Nat} {en : α → List AV} (hn : ∀ x, (en x).length = e) {w : World} {o : Nat} {v : Value} {xs : List α} {av : AV} {L : Option AI.Loc} {H : Heap} (h : SlArg w o e en v xs av L) (hg : H.get o = some (.cells (xs.flatMap en))) : Gr.Sw e en H av xs := by
  rcases h.2 with ⟨rfl, rfl⟩ | rfl
  · exact .inl ⟨rfl, rfl⟩
  · refine .inr ⟨o, 0, _, _, rfl, ?_⟩
    unfold Heap.readSeg
    rw [Gr.cellsAt_get hg]
    exact Gr.seg_all (Gr.flat_len hn xs)
theorem walk {w : World} {n0 n2 n3 n4 : Int} {v1 : Value} {l1 : List (Int × Int)} {a1 : AV} {L1 : Option AI.Loc} (h1 : SlArg w 0 2 pairc v1 l1 a1 L1) (b1 : l1.length ≤ 9223372036854775806) :
    Calls Try.prog 5 #[.int .i64 n0, v1, .int .i64 n2, .int .i64 n3, .int .i64 n4] w fun e w' => e = .returned (.bool true) ∧ Below w.heap.size w w' := by
  let css : List (List AV) := [l1.flatMap pairc]
  have g1 : (heapR css).get 0 = some (.cells (l1.flatMap pairc)) := by rw [heapR_get]; rfl
  have hc := Gr.same5 (n := n0) (by_ := n2) (a := n3) (b := n4) (heapR_wf css) (sl_of (e := 2) (en := pairc) (fun _ => rfl) h1 g1) (sw_of (e := 2) (en := pairc) (fun _ => rfl) h1 g1) b1
  refine (law_told FK_ok (Ls := [L1]) (avs := [.int .i64 n0, v1, .int .i64 n2, .int .i64 n3, .int .i64 n4]) hc rfl ?_ rfl ?_).mono ?_
  · exact .cons (.int _ _) (.cons (h1.1.rel _ rfl) (.cons (.int _ _) (.cons (.int _ _) (.cons (.int _ _) (.nil)))))
  · intro o L ho cs hcs
    match o, ho, hcs with
    | 0, ho, hcs =>
      simp at ho; simp [css] at hcs; subst hcs
      exact h1.1.mem _ ho
    | o + 1, ho, hcs => simp at ho
  · rintro e w' ⟨r, rfl, hv, hb⟩
    cases hv
    exact ⟨rfl, hb⟩
set_option maxRecDepth 100000 in
theorem lifted (os : Os) (started : os.Started) (H : Type) (enc : TypeId × Value → H) :
    ReturnsInHanded {} Try.checked os 5 .any (Rows.matchSameSpec.pre6 enc Try.prog Try.f5 Rows.matchSameRow.domain false) (Rows.matchSameSpec.post enc Try.prog Try.f5 false true false false) := by
  refine returnsInHanded_of_change_sized (C := Try.checked) own started (by kernel_rfl) Try.func5
    (ChangeSpec.witness6 (enc := enc) (C := Try.checked) false ⟨#[], #[.int .i64 0, .slice none 0 0, .int .i64 0, .int .i64 0, .int .i64 0], []⟩ 8 (by kernel_rfl) (by kernel_rfl) (by kernel_rfl) (by kernel_rfl)) ?_
  intro W base args ds gs before hval0 hW hcnd hsz0 _
  have hsz : (DataW.weightsEach Try.prog (Try.f5.params.toList ++ Rows.matchSameSpec.plain.varTypes Try.prog) (ds ++ gs)).all (· ≤ reachBytes) = true := hsz0
  have hval : ∀ (j : Nat) t v, Try.f5.params[j]? = some t → args[j]? = some v → Value.okWide Try.prog W .any base t v := hval0
  have hW' := hW
  obtain ⟨p, q, hA0, hV, rfl, hfz, hnd⟩ := hW
  have hA : DataW.TrodAll enc Try.prog W 0 (fun _ => true) true Try.f5.params.toList args.toList ds p := hA0
  rw [Try.params5] at hA hval hsz
  obtain ⟨v0, vs0, d0, ds0, p0, q0, hargs, rfl, rfl, h0, r0⟩ := trodAll_cons hA
  obtain ⟨v1, vs1, d1, ds1, p1, q1, rfl, rfl, rfl, h1, r1⟩ := trodAll_cons r0
  obtain ⟨v2, vs2, d2, ds2, p2, q2, rfl, rfl, rfl, h2, r2⟩ := trodAll_cons r1
  obtain ⟨v3, vs3, d3, ds3, p3, q3, rfl, rfl, rfl, h3, r3⟩ := trodAll_cons r2
  obtain ⟨v4, vs4, d4, ds4, p4, q4, rfl, rfl, rfl, h4, r4⟩ := trodAll_cons r3
  obtain ⟨rfl, rfl, rfl⟩ := trodAll_nil r4
  obtain rfl : args = #[v0, v1, v2, v3, v4] := by cases args; simp_all
  obtain ⟨rfl, rfl⟩ := trodVars_none hV
  obtain ⟨a0, rfl, rfl, rfl, w0⟩ := open_int Try.underlying3 (hval 0 3 v0 rfl rfl) h0
  obtain ⟨a1, len1, cap1, rfl⟩ := okWide_slice Try.underlying22 (hval 1 22 v1 rfl rfl)
  have k1 := h1
  have lt1 : ∀ x ∈ p1, x.block < W.heap.size := by obtain ⟨m, hm⟩ := k1; exact DataW.trod_lt m _ _ _ hm
  obtain ⟨a2, rfl, rfl, rfl, w2⟩ := open_int Try.underlying3 (hval 2 3 v2 rfl rfl) h2
  obtain ⟨a3, rfl, rfl, rfl, w3⟩ := open_int Try.underlying3 (hval 3 3 v3 rfl rfl) h3
  obtain ⟨a4, rfl, rfl, rfl, w4⟩ := open_int Try.underlying3 (hval 4 3 v4 rfl rfl) h4
  obtain ⟨l1, av1, L1, hl1, s1, g1⟩ : ∃ xs av L, xs.length = len1 ∧ SlArg W 0 2 pairc (.slice a1 len1 cap1) xs av L ∧ Weighs d1 len1 := by
    obtain ⟨fuel, hf⟩ := h1
    exact arg_pairs 0 Try.underlying22 Try.underlying34 (by kernel_rfl) rfl rfl (by kernel_rfl) (by kernel_rfl) Try.underlying3 Try.underlying3 hf
  have b1 := g1.le hsz (j := 1) (t := 22) rfl rfl Try.underlying22 (by rw [show Try.prog.bytesOf 34 = 16 from by kernel_rfl]; omega)
  clear hA0 hval0 hsz0 hsz
  refine (walk (n0 := a0) (n2 := a2) (n3 := a3) (n4 := a4) s1 (by omega)).mono fun e W' ⟨he, bel⟩ => ?_
  subst he
  exact ⟨_, rfl, _, _, _, [], _, [], hW', trodAll_mk1 (shut_bool Try.underlying4 _), (trodAll_cons_mk (shut_int Try.underlying3 w0) (trodAll_cons_mk (Below.trod laidOut (by kernel_rfl) (of_decide_eq_true (by kernel_rfl)) k1 bel lt1) (trodAll_cons_mk (shut_int Try.underlying3 w2) (trodAll_cons_mk (shut_int Try.underlying3 w3) (trodAll_cons_mk (shut_int Try.underlying3 w4) trodAll_mk0))))), rfl, bel.frame _, fun h => by cases h⟩
theorem over : Rows.matchSameRow.holds Try.pinned (OpenSpec.ofChange Rows.matchSameSpec) :=
  OpenClaim.holds_of_wide 5 Try.f5 rfl rfl rfl rfl rfl rfl rfl ⟨rfl, rfl, rfl, rfl, rfl⟩ rfl rfl rfl rfl rfl (by kernel_rfl) Try.func5 (by kernel_rfl)
    (of_decide_eq_true (by kernel_rfl)) (by unfold Func.isWrapper; first | (rw [if_pos (by decide +kernel)]; kernel_rfl) | (rw [if_neg (by decide +kernel)]; exact ⟨rfl, rfl⟩))
    (fun os started H enc _ => lifted os started H enc)
theorem proved : Rows.MatchSameSaid := over
#print axioms proved
end Go.Proofs.Ytjhhicmlflelhaa.matchSame
namespace Go.Proofs.Ytjhhicmlflelhaa
theorem matchSame_holds : Rows.MatchSameSaid := matchSame.proved
end Go.Proofs.Ytjhhicmlflelhaa
