/- Whatever input, place and number InputRanges is given, it returns true, and the input reads as it did. Conditions: the row's own, that the library's tables of powers of ten and of bits hold what their text lays. -/
import Derived.Test.YtmgaaieofdjfdaaDoorCards
import Derived.Test.YtmgaaieofdjfdaaDoorTie
import Derived.SevenTiedAt
import Derived.Test.YtmgaaieofdjfdaaDoorRows
import Derived.Test.YtmgaaieofdjfdaaDoorL7
import Derived.Test.YtmgaaieofdjfdaaDoorE35
import Derived.WalkKit
import Derived.ProofKit
import Derived.OpenShut
import Derived.ShutString
import Derived.ChangeOld
import Derived.Below
import Derived.Carry
import Derived.SizedLaws
import Derived.Deep.DeepHandedRow
import Derived.Deep.DeepWitnessRowRef
import Derived.Lib.LaidIn
namespace Go.Proofs.YtmgaaieofdjfdaaDoor.inputRanges
open Go Go.AI Go.ChangeShapes Go.WideShapes Go.ChangeAt Go.RowKit Go.Lib Go.Deep
set_option linter.unusedVariables false
theorem own : ownKnob Tryd.prog.godebug = none := by kernel_rfl
theorem laidOut : laidOutB Tryd.prog = true := by kernel_rfl
theorem walk {w : World} {v00 v01 v02 : Value} {l00 l01 l02 : List (Int × Int)} {a00 a01 a02 : AV} {L00 L01 L02 : Option AI.Loc} {n1 : Int} {n2 : Int} (h00 : SlArg w 0 2 pairc v00 l00 a00 L00) (h01 : SlArg w 1 2 pairc v01 l01 a01 L01) (h02 : SlArg w 2 2 pairc v02 l02 a02 L02) (b1 : -9223372036854775808 ≤ n1 ∧ n1 ≤ 9223372036854775807) (b2 : 0 ≤ n2 ∧ n2 ≤ 65535) (hg : GT w) :
    Calls Tryd.prog 7 #[.agg #[v00, v01, v02], .int .i64 n1, .int .u16 n2] w fun e w' => e = .returned (.bool true) ∧ Below w.heap.size w w' := by
  let css : List (List AV) := [l02.flatMap pairc, l01.flatMap pairc, l00.flatMap pairc]
  have g0 : (heapR css).get 0 = some (.cells (l00.flatMap pairc)) := by rw [heapR_get]; rfl
  have g1 : (heapR css).get 1 = some (.cells (l01.flatMap pairc)) := by rw [heapR_get]; rfl
  have g2 : (heapR css).get 2 = some (.cells (l02.flatMap pairc)) := by rw [heapR_get]; rfl
  have hc := ranges7 (heapR_wf css) ⟨⟨h00.sl (e := 2) (en := pairc) pairc_len g0, h01.sl (e := 2) (en := pairc) pairc_len g1, h02.sl (e := 2) (en := pairc) pairc_len g2⟩, h00.sw (e := 2) (en := pairc) pairc_len g0, h01.sw (e := 2) (en := pairc) pairc_len g1, h02.sw (e := 2) (en := pairc) pairc_len g2⟩ b1 b2
  refine (law_told FK_ok (Ls := [L00, L01, L02]) (avs := [.agg #[v00, v01, v02], .int .i64 n1, .int .u16 n2]) hc rfl ?_ rfl ?_ (fun w' hk => tab_keep hg hk)).mono ?_
  · exact .cons (.agg _ _ (.cons (h00.1.rel _ rfl) (.cons (h01.1.rel _ rfl) (.cons (h02.1.rel _ rfl) .nil)))) (.cons (.int _ _) (.cons (.int _ _) (.nil)))
  · intro o L ho cs hcs
    match o, ho, hcs with
    | 0, ho, hcs =>
      simp at ho; simp [css] at hcs; subst hcs
      exact h00.1.mem _ ho
    | 1, ho, hcs =>
      simp at ho; simp [css] at hcs; subst hcs
      exact h01.1.mem _ ho
    | 2, ho, hcs =>
      simp at ho; simp [css] at hcs; subst hcs
      exact h02.1.mem _ ho
    | o + 3, ho, hcs => simp at ho
  · rintro e w' ⟨r, rfl, hv, hb⟩
    cases hv
    exact ⟨rfl, hb⟩
/-- The witness: the settled world, the tables laid. -/
noncomputable def laidWorld (os : Os) : World :=
  let w0 := World.holding Tryd.prog os ⟨#[], #[], []⟩
  let put (h : Array Obj) (g : Nat) (cs : Array Value) : Array Obj := h.modify g fun
    | .cells _ t frozen => .cells cs t frozen
    | o => o
  let h0 := put (w0.heap) 0 (Lib.pow10Tab.map fun z => Value.int .u64 z).toArray
  let h1 := put (h0) 1 (([0, 1, 28, 2, 29, 14, 24, 3, 30, 22, 20, 15, 25, 17, 4, 8, 31, 27, 13, 23, 21, 19, 16, 7, 26, 12, 18, 6, 11, 5, 10, 9] : List Int).map fun z => Value.int .u8 z).toArray
  let h2 := put (h1) 2 (([0, 1, 56, 2, 57, 49, 28, 3, 61, 58, 42, 50, 38, 29, 17, 4, 62, 47, 59, 36, 45, 43, 51, 22, 53, 39, 33, 30, 24, 18, 12, 5, 63, 55, 48, 27, 60, 41, 37, 16, 46, 35, 44, 21, 52, 32, 23, 11, 54, 26, 40, 15, 34, 20, 31, 10, 25, 14, 19, 9, 13, 8, 7, 6] : List Int).map fun z => Value.int .u8 z).toArray
  { w0 with heap := h2 }
theorem laid_met (os : Os) (args : Array Value) : laidMet Tryd.prog Rows.inputRangesRow.laid ((laidWorld os).forCall (fun _ _ => 0) ⟨#[], args, []⟩).memory :=
  (LaidIn.of_run [1, 2, 0] 8 (by kernel_rfl) (by kernel_rfl) (by kernel_rfl) (by kernel_rfl)).met
theorem witness_row (os : Os) {H : Type} (enc : TypeId × Value → H) :
    (OpenSpec.ofChange Rows.inputRangesSpec).preRow enc Tryd.prog Tryd.f7 Rows.inputRangesRow.domain false Rows.inputRangesRow.laid ((laidWorld os).forCall (fun _ _ => 0) ⟨#[], #[.agg #[.slice none 0 0, .slice none 0 0, .slice none 0 0], .int .i64 0, .int .u16 0], []⟩).memory #[.agg #[.slice none 0 0, .slice none 0 0, .slice none 0 0], .int .i64 0, .int .u16 0] := by
  have hw : (DataW.whole enc Tryd.prog ((laidWorld os).forCall (fun _ _ => 0) ⟨#[], #[.agg #[.slice none 0 0, .slice none 0 0, .slice none 0 0], .int .i64 0, .int .u16 0], []⟩).memory Tryd.f7.params.toList (OpenSpec.ofChange Rows.inputRangesSpec).vars false (#[.agg #[.slice none 0 0, .slice none 0 0, .slice none 0 0], .int .i64 0, .int .u16 0] : Array Value).toList 8).map (fun x => (x.1, x.2.1)) =
      some ([.agg [.nil, .nil, .nil], .lit (.int .i64 0), .lit (.int .u16 0)], []) := by kernel_rfl
  obtain ⟨⟨x1, x2, x3⟩, hx, hx1⟩ := Option.map_eq_some_iff.1 hw
  simp only [Prod.mk.injEq] at hx1
  obtain ⟨rfl, rfl⟩ := hx1
  exact OpenSpec.preRow_of_cond 8 hx (by kernel_rfl) (fun k hk => by cases hk) (by kernel_rfl) (laid_met os _)
theorem tab_in : ("internal/strconv.uint64pow10", Lib.tabData .u64 Lib.pow10Tab) ∈ Rows.inputRangesRow.laid := .tail _ (.tail _ (.head _))
set_option maxRecDepth 100000 in
theorem lifted (os : Os) (started : os.Started) (H : Type) (enc : TypeId × Value → H) (F : Stop.Interp) :
    ReturnsInHanded {} Tryd.checked os 7 .any ((OpenSpec.ofChange Rows.inputRangesSpec).preRow enc Tryd.prog Tryd.f7 Rows.inputRangesRow.domain false Rows.inputRangesRow.laid) (((OpenSpec.ofChange Rows.inputRangesSpec).at F).post enc Tryd.prog Tryd.f7 false true false false) := by
  refine returnsInHanded_of_row (C := Tryd.checked) (s := (OpenSpec.ofChange Rows.inputRangesSpec)) own started (by kernel_rfl) Tryd.func7
    (witness_row_atRef (enc := enc) (C := Tryd.checked) false (laidWorld os) #[.agg #[.slice none 0 0, .slice none 0 0, .slice none 0 0], .int .i64 0, .int .u16 0] rfl (by kernel_rfl) (by kernel_rfl) (by kernel_rfl) (witness_row os enc)) ?_
  intro W base args ds gs before hval0 hW _ _ _ hL _ _
  have hval : ∀ (j : Nat) t v, Tryd.f7.params[j]? = some t → args[j]? = some v → Value.okWide Tryd.prog W .any base t v := hval0
  have hW' := hW
  obtain ⟨p, q, hA0, hV, rfl, hfz, hnd⟩ := hW
  have hA : DataW.TrodAll enc Tryd.prog W 0 (fun _ => true) true Tryd.f7.params.toList args.toList ds p := hA0
  rw [Tryd.params7] at hA hval
  obtain ⟨v0, vs0, d0, ds0, p0, q0, hargs, rfl, rfl, h0, r0⟩ := trodAll_cons hA
  obtain ⟨v1, vs1, d1, ds1, p1, q1, rfl, rfl, rfl, h1, r1⟩ := trodAll_cons r0
  obtain ⟨v2, vs2, d2, ds2, p2, q2, rfl, rfl, rfl, h2, r2⟩ := trodAll_cons r1
  obtain ⟨rfl, rfl, rfl⟩ := trodAll_nil r2
  obtain rfl : args = #[v0, v1, v2] := by cases args; simp_all
  obtain ⟨rfl, rfl⟩ := trodVars_none hV
  obtain ⟨cs0, rfl, hcs0⟩ := okWide_struct Tryd.underlying25 (hval 0 25 v0 rfl rfl)
  have k0 := h0
  have lt0 : ∀ x ∈ p0, x.block < W.heap.size := by obtain ⟨m, hm⟩ := k0; exact DataW.trod_lt m _ _ _ hm
  obtain ⟨n1, rfl, rfl, rfl, w1⟩ := open_int Tryd.underlying3 (hval 1 3 v1 rfl rfl) h1
  have b1 := w1
  simp [Lit.wf, IntKind.min, IntKind.max, IntKind.signed, IntKind.bits] at b1
  obtain ⟨n2, rfl, rfl, rfl, w2⟩ := open_int Tryd.underlying54 (hval 2 54 v2 rfl rfl) h2
  have b2 := w2
  simp [Lit.wf, IntKind.min, IntKind.max, IntKind.signed, IntKind.bits] at b2
  obtain ⟨v00, v01, v02, hcs0', s0⟩ : ∃ x y z, cs0 = #[x, y, z] ∧ (∃ xs av L, SlArg W 0 2 pairc x xs av L) ∧ (∃ xs av L, SlArg W 1 2 pairc y xs av L) ∧ (∃ xs av L, SlArg W 2 2 pairc z xs av L) := by
    obtain ⟨fuel, hf⟩ := h0
    obtain ⟨x, y, z, n, y0, y1, y2, hcs, t0, t1, t2⟩ := arg_three Tryd.underlying25 (by kernel_rfl) rfl rfl rfl (by kernel_rfl) (by kernel_rfl) (by kernel_rfl) hf
    obtain ⟨u0, xs0, av0, M0, hu0, g0⟩ := arg_pairs2 0 Tryd.underlying22 Tryd.underlying43 (by kernel_rfl) rfl rfl (by kernel_rfl) (by kernel_rfl) Tryd.underlying3 Tryd.underlying3 t0
    cases hu0
    obtain ⟨u1, xs1, av1, M1, hu1, g1⟩ := arg_pairs2 1 Tryd.underlying23 Tryd.underlying62 (by kernel_rfl) rfl rfl (by kernel_rfl) (by kernel_rfl) Tryd.underlying3 Tryd.underlying3 t1
    cases hu1
    obtain ⟨u2, xs2, av2, M2, hu2, g2⟩ := arg_pairs2 2 Tryd.underlying23 Tryd.underlying62 (by kernel_rfl) rfl rfl (by kernel_rfl) (by kernel_rfl) Tryd.underlying3 Tryd.underlying3 t2
    cases hu2
    exact ⟨_, _, _, by cases cs0; simp [Value.cells] at hcs; simp [hcs], ⟨_, _, _, g0⟩, ⟨_, _, _, g1⟩, ⟨_, _, _, g2⟩⟩
  subst hcs0'
  obtain ⟨⟨l00, av00, L00, s00⟩, ⟨l01, av01, L01, s01⟩, ⟨l02, av02, L02, s02⟩⟩ := s0
  have htab : GT W := tab_of_laid (g := 0) (l := Rows.inputRangesRow.laid) (by kernel_rfl) (by kernel_rfl) Tryd.underlying123 Tryd.underlying116 (by kernel_rfl) (by kernel_rfl) hL tab_in
  clear hA0 hval0
  refine (walk s00 s01 s02 b1 b2 htab).mono fun e W' ⟨he, bel⟩ => ?_
  subst he
  exact ⟨_, rfl, _, _, _, [], _, [], hW', trodAll_mk1 (shut_bool Tryd.underlying4 _), (trodAll_cons_mk (Below.trod laidOut (by kernel_rfl) (of_decide_eq_true (by kernel_rfl)) k0 bel lt0) (trodAll_cons_mk (shut_int Tryd.underlying3 w1) (trodAll_cons_mk (shut_int Tryd.underlying54 w2) trodAll_mk0))), rfl, bel.frame _, fun h => by cases h⟩
theorem over : Rows.inputRangesRow.holds Tryd.pinned (OpenSpec.ofChange Rows.inputRangesSpec) :=
  OpenClaim.holds_of_cond 7 Tryd.f7 rfl rfl rfl rfl rfl rfl rfl ⟨rfl, rfl, rfl, rfl, rfl⟩ rfl rfl rfl rfl rfl (by kernel_rfl) Tryd.func7 (by kernel_rfl)
    (of_decide_eq_true (by kernel_rfl)) (by unfold Func.isWrapper; first | (rw [if_pos (by decide +kernel)]; kernel_rfl) | (rw [if_neg (by decide +kernel)]; exact ⟨rfl, rfl⟩))
    (fun os started H enc _ F0 => by rw [OpenClaim.pre_eq_preRow]; exact lifted os started H enc F0)
theorem proved : Rows.InputRangesCardSaid :=
  Claim7.holds_tied_plain_at .later [] [.data, .data, .data] true (true, "e86dc45ab692fe26e8c59c4a2e2a1909586c93f9f2b9432505f8f03472d3d46b") false
    over (fun _ h => by cases h) (by kernel_rfl) (fun _ h => by cases h) inputRanges_row_tie rfl ⟨rfl, rfl⟩ (by kernel_rfl) rfl
    (fun f fn hf hfn => by
      obtain rfl : f = 7 := Option.some.inj ((show Tryd.prog.funcNamed "parquet/parquetlaw05.InputRanges" = some 7 by kernel_rfl).symm.trans hf) |>.symm
      obtain rfl : fn = Tryd.f7 := (Option.some.inj (Tryd.func7.symm.trans hfn)).symm
      exact ⟨by kernel_rfl, fun j t ht => by
        rw [Tryd.params7] at ht
        rcases j with _ | _ | _ | j
        · obtain rfl : t = 25 := by simpa using ht.symm
          exact (show Tryd.prog.wantsStandIn 25 = false by kernel_rfl)
        · obtain rfl : t = 3 := by simpa using ht.symm
          exact (show Tryd.prog.wantsStandIn 3 = false by kernel_rfl)
        · obtain rfl : t = 54 := by simpa using ht.symm
          exact (show Tryd.prog.wantsStandIn 54 = false by kernel_rfl)
        · simp at ht⟩)
    (by kernel_rfl)
#print axioms proved
end Go.Proofs.YtmgaaieofdjfdaaDoor.inputRanges
namespace Go.Proofs.YtmgaaieofdjfdaaDoor
theorem inputRanges_holds : Rows.InputRangesCardSaid := inputRanges.proved
end Go.Proofs.YtmgaaieofdjfdaaDoor
