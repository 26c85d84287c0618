/- Whatever input and bytes InputLoose is given, it returns true, and both read as they did. Conditions: the row's own, that the library's tables of powers of ten and of bits hold what their text lays. -/
import Derived.Test.YtmgaaieofdjfdaaDoorCards
import Derived.Test.YtmgaaieofdjfdaaDoorTie
import Derived.SevenTiedAt
import Derived.Test.YtmgaaieofdjfdaaDoorRows
import Derived.Test.YtmgaaieofdjfdaaDoorL8
import Derived.Test.YtmgaaieofdjfdaaDoorE35
import Derived.WalkKit
import Derived.ProofKit
import Derived.OpenShut
import Derived.ShutString
import Derived.ChangeOld
import Derived.Below
import Derived.Carry
import Derived.SizedLaws
import Derived.Deep.DeepHandedRow
import Derived.Deep.DeepWitnessRowRef
import Derived.Lib.LaidIn
namespace Go.Proofs.YtmgaaieofdjfdaaDoor.inputLoose
open Go Go.AI Go.ChangeShapes Go.WideShapes Go.ChangeAt Go.RowKit Go.Lib Go.Deep
set_option linter.unusedVariables false
theorem own : ownKnob Tryd.prog.godebug = none := by kernel_rfl
theorem laidOut : laidOutB Tryd.prog = true := by kernel_rfl
theorem walk {w : World} {v00 v01 v02 : Value} {l00 l01 l02 : List (Int × Int)} {a00 a01 a02 : AV} {L00 L01 L02 : Option AI.Loc} {v1 : Value} {l1 : List Nat} {a1 : AV} {L1 : Option AI.Loc} (h00 : SlArg w 0 2 pairc v00 l00 a00 L00) (h01 : SlArg w 1 2 pairc v01 l01 a01 L01) (h02 : SlArg w 2 2 pairc v02 l02 a02 L02) (h1 : SlArg w 3 1 bytc v1 l1 a1 L1) (b1 : ∀ b, b ∈ l1 → b < 256) (hg : GT w) :
    Calls Tryd.prog 8 #[.agg #[v00, v01, v02], v1] w fun e w' => e = .returned (.bool true) ∧ Below w.heap.size w w' := by
  let css : List (List AV) := [l1.flatMap bytc, l02.flatMap pairc, l01.flatMap pairc, l00.flatMap pairc]
  have g0 : (heapR css).get 0 = some (.cells (l00.flatMap pairc)) := by rw [heapR_get]; rfl
  have g1 : (heapR css).get 1 = some (.cells (l01.flatMap pairc)) := by rw [heapR_get]; rfl
  have g2 : (heapR css).get 2 = some (.cells (l02.flatMap pairc)) := by rw [heapR_get]; rfl
  have g3 : (heapR css).get 3 = some (.cells (l1.flatMap bytc)) := by rw [heapR_get]; rfl
  have hc := loose8 (heapR_wf css) ⟨⟨h00.sl (e := 2) (en := pairc) pairc_len g0, h01.sl (e := 2) (en := pairc) pairc_len g1, h02.sl (e := 2) (en := pairc) pairc_len g2⟩, h00.sw (e := 2) (en := pairc) pairc_len g0, h01.sw (e := 2) (en := pairc) pairc_len g1, h02.sw (e := 2) (en := pairc) pairc_len g2⟩ (h1.bytes g3 b1).1 (h1.bytes g3 b1).2
  refine (law_told FK_ok (Ls := [L00, L01, L02, L1]) (avs := [.agg #[v00, v01, v02], v1]) hc rfl ?_ rfl ?_ (fun w' hk => tab_keep hg hk)).mono ?_
  · exact .cons (.agg _ _ (.cons (h00.1.rel _ rfl) (.cons (h01.1.rel _ rfl) (.cons (h02.1.rel _ rfl) .nil)))) (.cons (h1.1.rel _ rfl) (.nil))
  · intro o L ho cs hcs
    match o, ho, hcs with
    | 0, ho, hcs =>
      simp at ho; simp [css] at hcs; subst hcs
      exact h00.1.mem _ ho
    | 1, ho, hcs =>
      simp at ho; simp [css] at hcs; subst hcs
      exact h01.1.mem _ ho
    | 2, ho, hcs =>
      simp at ho; simp [css] at hcs; subst hcs
      exact h02.1.mem _ ho
    | 3, ho, hcs =>
      simp at ho; simp [css] at hcs; subst hcs
      exact h1.1.mem _ ho
    | o + 4, ho, hcs => simp at ho
  · rintro e w' ⟨r, rfl, hv, hb⟩
    cases hv
    exact ⟨rfl, hb⟩
/-- The witness: the settled world, the tables laid. -/
noncomputable def laidWorld (os : Os) : World :=
  let w0 := World.holding Tryd.prog os ⟨#[], #[], []⟩
  let put (h : Array Obj) (g : Nat) (cs : Array Value) : Array Obj := h.modify g fun
    | .cells _ t frozen => .cells cs t frozen
    | o => o
  let h0 := put (w0.heap) 0 (Lib.pow10Tab.map fun z => Value.int .u64 z).toArray
  let h1 := put (h0) 1 (([0, 1, 28, 2, 29, 14, 24, 3, 30, 22, 20, 15, 25, 17, 4, 8, 31, 27, 13, 23, 21, 19, 16, 7, 26, 12, 18, 6, 11, 5, 10, 9] : List Int).map fun z => Value.int .u8 z).toArray
  let h2 := put (h1) 2 (([0, 1, 56, 2, 57, 49, 28, 3, 61, 58, 42, 50, 38, 29, 17, 4, 62, 47, 59, 36, 45, 43, 51, 22, 53, 39, 33, 30, 24, 18, 12, 5, 63, 55, 48, 27, 60, 41, 37, 16, 46, 35, 44, 21, 52, 32, 23, 11, 54, 26, 40, 15, 34, 20, 31, 10, 25, 14, 19, 9, 13, 8, 7, 6] : List Int).map fun z => Value.int .u8 z).toArray
  { w0 with heap := h2 }
theorem laid_met (os : Os) (args : Array Value) : laidMet Tryd.prog Rows.inputLooseRow.laid ((laidWorld os).forCall (fun _ _ => 0) ⟨#[], args, []⟩).memory :=
  (LaidIn.of_run [1, 2, 0] 8 (by kernel_rfl) (by kernel_rfl) (by kernel_rfl) (by kernel_rfl)).met
theorem witness_row (os : Os) {H : Type} (enc : TypeId × Value → H) :
    (OpenSpec.ofChange Rows.inputLooseSpec).preRow enc Tryd.prog Tryd.f8 Rows.inputLooseRow.domain false Rows.inputLooseRow.laid ((laidWorld os).forCall (fun _ _ => 0) ⟨#[], #[.agg #[.slice none 0 0, .slice none 0 0, .slice none 0 0], .slice none 0 0], []⟩).memory #[.agg #[.slice none 0 0, .slice none 0 0, .slice none 0 0], .slice none 0 0] := by
  have hw : (DataW.whole enc Tryd.prog ((laidWorld os).forCall (fun _ _ => 0) ⟨#[], #[.agg #[.slice none 0 0, .slice none 0 0, .slice none 0 0], .slice none 0 0], []⟩).memory Tryd.f8.params.toList (OpenSpec.ofChange Rows.inputLooseSpec).vars false (#[.agg #[.slice none 0 0, .slice none 0 0, .slice none 0 0], .slice none 0 0] : Array Value).toList 8).map (fun x => (x.1, x.2.1)) =
      some ([.agg [.nil, .nil, .nil], .nil], []) := by kernel_rfl
  obtain ⟨⟨x1, x2, x3⟩, hx, hx1⟩ := Option.map_eq_some_iff.1 hw
  simp only [Prod.mk.injEq] at hx1
  obtain ⟨rfl, rfl⟩ := hx1
  exact OpenSpec.preRow_of_cond 8 hx (by kernel_rfl) (fun k hk => by cases hk) (by kernel_rfl) (laid_met os _)
theorem tab_in : ("internal/strconv.uint64pow10", Lib.tabData .u64 Lib.pow10Tab) ∈ Rows.inputLooseRow.laid := .tail _ (.tail _ (.head _))
set_option maxRecDepth 100000 in
theorem lifted (os : Os) (started : os.Started) (H : Type) (enc : TypeId × Value → H) (F : Stop.Interp) :
    ReturnsInHanded {} Tryd.checked os 8 .any ((OpenSpec.ofChange Rows.inputLooseSpec).preRow enc Tryd.prog Tryd.f8 Rows.inputLooseRow.domain false Rows.inputLooseRow.laid) (((OpenSpec.ofChange Rows.inputLooseSpec).at F).post enc Tryd.prog Tryd.f8 false true false false) := by
  refine returnsInHanded_of_row (C := Tryd.checked) (s := (OpenSpec.ofChange Rows.inputLooseSpec)) own started (by kernel_rfl) Tryd.func8
    (witness_row_atRef (enc := enc) (C := Tryd.checked) false (laidWorld os) #[.agg #[.slice none 0 0, .slice none 0 0, .slice none 0 0], .slice none 0 0] rfl (by kernel_rfl) (by kernel_rfl) (by kernel_rfl) (witness_row os enc)) ?_
  intro W base args ds gs before hval0 hW _ _ _ hL _ _
  have hval : ∀ (j : Nat) t v, Tryd.f8.params[j]? = some t → args[j]? = some v → Value.okWide Tryd.prog W .any base t v := hval0
  have hW' := hW
  obtain ⟨p, q, hA0, hV, rfl, hfz, hnd⟩ := hW
  have hA : DataW.TrodAll enc Tryd.prog W 0 (fun _ => true) true Tryd.f8.params.toList args.toList ds p := hA0
  rw [Tryd.params8] at hA hval
  obtain ⟨v0, vs0, d0, ds0, p0, q0, hargs, rfl, rfl, h0, r0⟩ := trodAll_cons hA
  obtain ⟨v1, vs1, d1, ds1, p1, q1, rfl, rfl, rfl, h1, r1⟩ := trodAll_cons r0
  obtain ⟨rfl, rfl, rfl⟩ := trodAll_nil r1
  obtain rfl : args = #[v0, v1] := by cases args; simp_all
  obtain ⟨rfl, rfl⟩ := trodVars_none hV
  obtain ⟨cs0, rfl, hcs0⟩ := okWide_struct Tryd.underlying25 (hval 0 25 v0 rfl rfl)
  have k0 := h0
  have lt0 : ∀ x ∈ p0, x.block < W.heap.size := by obtain ⟨m, hm⟩ := k0; exact DataW.trod_lt m _ _ _ hm
  obtain ⟨a1, len1, cap1, rfl⟩ := okWide_slice Tryd.underlying37 (hval 1 37 v1 rfl rfl)
  have k1 := h1
  have lt1 : ∀ x ∈ p1, x.block < W.heap.size := by obtain ⟨m, hm⟩ := k1; exact DataW.trod_lt m _ _ _ hm
  obtain ⟨v00, v01, v02, hcs0', s0⟩ : ∃ x y z, cs0 = #[x, y, z] ∧ (∃ xs av L, SlArg W 0 2 pairc x xs av L) ∧ (∃ xs av L, SlArg W 1 2 pairc y xs av L) ∧ (∃ xs av L, SlArg W 2 2 pairc z xs av L) := by
    obtain ⟨fuel, hf⟩ := h0
    obtain ⟨x, y, z, n, y0, y1, y2, hcs, t0, t1, t2⟩ := arg_three Tryd.underlying25 (by kernel_rfl) rfl rfl rfl (by kernel_rfl) (by kernel_rfl) (by kernel_rfl) hf
    obtain ⟨u0, xs0, av0, M0, hu0, g0⟩ := arg_pairs2 0 Tryd.underlying22 Tryd.underlying43 (by kernel_rfl) rfl rfl (by kernel_rfl) (by kernel_rfl) Tryd.underlying3 Tryd.underlying3 t0
    cases hu0
    obtain ⟨u1, xs1, av1, M1, hu1, g1⟩ := arg_pairs2 1 Tryd.underlying23 Tryd.underlying62 (by kernel_rfl) rfl rfl (by kernel_rfl) (by kernel_rfl) Tryd.underlying3 Tryd.underlying3 t1
    cases hu1
    obtain ⟨u2, xs2, av2, M2, hu2, g2⟩ := arg_pairs2 2 Tryd.underlying23 Tryd.underlying62 (by kernel_rfl) rfl rfl (by kernel_rfl) (by kernel_rfl) Tryd.underlying3 Tryd.underlying3 t2
    cases hu2
    exact ⟨_, _, _, by cases cs0; simp [Value.cells] at hcs; simp [hcs], ⟨_, _, _, g0⟩, ⟨_, _, _, g1⟩, ⟨_, _, _, g2⟩⟩
  subst hcs0'
  obtain ⟨⟨l00, av00, L00, s00⟩, ⟨l01, av01, L01, s01⟩, ⟨l02, av02, L02, s02⟩⟩ := s0
  obtain ⟨l1, av1, L1, hl1, hb1, s1⟩ : ∃ xs av L, xs.length = len1 ∧ (∀ b, b ∈ xs → b < 256) ∧ SlArg W 3 1 bytc (.slice a1 len1 cap1) xs av L := by
    obtain ⟨fuel, hf⟩ := h1
    exact arg_bytes 3 Tryd.underlying37 Tryd.underlying5 (by kernel_rfl) hf
  have htab : GT W := tab_of_laid (g := 0) (l := Rows.inputLooseRow.laid) (by kernel_rfl) (by kernel_rfl) Tryd.underlying123 Tryd.underlying116 (by kernel_rfl) (by kernel_rfl) hL tab_in
  clear hA0 hval0
  refine (walk s00 s01 s02 s1 hb1 htab).mono fun e W' ⟨he, bel⟩ => ?_
  subst he
  exact ⟨_, rfl, _, _, _, [], _, [], hW', trodAll_mk1 (shut_bool Tryd.underlying4 _), (trodAll_cons_mk (Below.trod laidOut (by kernel_rfl) (of_decide_eq_true (by kernel_rfl)) k0 bel lt0) (trodAll_cons_mk (Below.trod laidOut (by kernel_rfl) (of_decide_eq_true (by kernel_rfl)) k1 bel lt1) trodAll_mk0)), rfl, bel.frame _, fun h => by cases h⟩
theorem over : Rows.inputLooseRow.holds Tryd.pinned (OpenSpec.ofChange Rows.inputLooseSpec) :=
  OpenClaim.holds_of_cond 8 Tryd.f8 rfl rfl rfl rfl rfl rfl rfl ⟨rfl, rfl, rfl, rfl, rfl⟩ rfl rfl rfl rfl rfl (by kernel_rfl) Tryd.func8 (by kernel_rfl)
    (of_decide_eq_true (by kernel_rfl)) (by unfold Func.isWrapper; first | (rw [if_pos (by decide +kernel)]; kernel_rfl) | (rw [if_neg (by decide +kernel)]; exact ⟨rfl, rfl⟩))
    (fun os started H enc _ F0 => by rw [OpenClaim.pre_eq_preRow]; exact lifted os started H enc F0)
theorem proved : Rows.InputLooseCardSaid :=
  Claim7.holds_tied_plain_at .later [] [.data, .data, .data] true (true, "e86dc45ab692fe26e8c59c4a2e2a1909586c93f9f2b9432505f8f03472d3d46b") false
    over (fun _ h => by cases h) (by kernel_rfl) (fun _ h => by cases h) inputLoose_row_tie rfl ⟨rfl, rfl⟩ (by kernel_rfl) rfl
    (fun f fn hf hfn => by
      obtain rfl : f = 8 := Option.some.inj ((show Tryd.prog.funcNamed "parquet/parquetlaw05.InputLoose" = some 8 by kernel_rfl).symm.trans hf) |>.symm
      obtain rfl : fn = Tryd.f8 := (Option.some.inj (Tryd.func8.symm.trans hfn)).symm
      exact ⟨by kernel_rfl, fun j t ht => by
        rw [Tryd.params8] at ht
        rcases j with _ | _ | j
        · obtain rfl : t = 25 := by simpa using ht.symm
          exact (show Tryd.prog.wantsStandIn 25 = false by kernel_rfl)
        · obtain rfl : t = 37 := by simpa using ht.symm
          exact (show Tryd.prog.wantsStandIn 37 = false by kernel_rfl)
        · simp at ht⟩)
    (by kernel_rfl)
#print axioms proved
end Go.Proofs.YtmgaaieofdjfdaaDoor.inputLoose
namespace Go.Proofs.YtmgaaieofdjfdaaDoor
theorem inputLoose_holds : Rows.InputLooseCardSaid := inputLoose.proved
end Go.Proofs.YtmgaaieofdjfdaaDoor
