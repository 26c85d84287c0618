/- Whatever mesh, number and word ObjectCut is given, it returns true, and the mesh reads as it did. Conditions: the row's own, that the library's tables of powers of ten and of bits hold what their text lays. -/
import Derived.Test.YtacfhbhfgbjleaaDoorCards
import Derived.Test.YtacfhbhfgbjleaaDoorTie
import Derived.SevenTiedAt
import Derived.Test.YtacfhbhfgbjleaaDoorRows
import Derived.Test.YtacfhbhfgbjleaaDoorL6
import Derived.Test.YtacfhbhfgbjleaaDoorEE
import Derived.WalkKit
import Derived.ProofKit
import Derived.OpenShut
import Derived.ShutString
import Derived.ChangeOld
import Derived.Below
import Derived.Carry
import Derived.SizedLaws
import Derived.Deep.DeepHandedRow
import Derived.Deep.DeepWitnessRowRef
import Derived.Lib.LaidIn
namespace Go.Proofs.YtacfhbhfgbjleaaDoor.objectCut
open Go Go.AI Go.ChangeShapes Go.WideShapes Go.ChangeAt Go.RowKit Go.Lib Go.Deep
set_option linter.unusedVariables false
theorem own : ownKnob Tryd.prog.godebug = none := by kernel_rfl
theorem laidOut : laidOutB Tryd.prog = true := by kernel_rfl
theorem walk {w : World} {v0 u0 : Value} {l0 : List (Int × Int)} {a0 d0 : AV} {L0 : Option AI.Loc} {F0 : List (List Int)} {c0 : List (List AV)} {M0 : List (Option AI.Loc)} {n0 : Int} {n1 : Int} {n2 : Int} (h0 : SlArg w 0 2 pairc v0 l0 a0 L0) (g0 : GdArg w 1 u0 F0 d0 c0 M0) (b0 : -9223372036854775808 ≤ n0 ∧ n0 ≤ 9223372036854775807) (b1 : -9223372036854775808 ≤ n1 ∧ n1 ≤ 9223372036854775807) (b2 : 0 ≤ n2 ∧ n2 ≤ 255) (hg : GT w) :
    Calls Tryd.prog 6 #[.agg #[v0, .int .i64 n0, u0], .int .i64 n1, .int .u8 n2] w fun e w' => e = .returned (.bool true) ∧ Below w.heap.size w w' := by
  let css : List (List AV) := l0.flatMap pairc :: c0
  let Ls : List (Option AI.Loc) := L0 :: M0
  have g0' : (heapR css.reverse).get 0 = some (.cells (l0.flatMap pairc)) := by rw [heapF_get]; rfl
  have sh : ∀ k : Nat, 1 + k = k + 1 := fun k => by omega
  have hg0 : ∀ k : Nat, (fun o : Nat => (Ls[o]?).join) (1 + k) = (M0[k]?).join := fun k => by rw [sh k]; rfl
  have hk0 : ∀ (k : Nat) (cs : List AV), c0[k]? = some cs → (heapR css.reverse).get (1 + k) = some (.cells cs) := fun k cs h => by
    have e : css[1 + k]? = c0[k]? := by rw [sh k]; rfl
    rw [heapF_get, e, h]; rfl
  have hc := cut6 (heapR_wf css.reverse) (W := n0) ⟨h0.rw pairc_len g0', g0.gd _ hk0⟩ b1 b2
  refine (law_told2 FK_ok (css := css) (Ls := Ls) (avs := [.agg #[v0, .int .i64 n0, u0], .int .i64 n1, .int .u8 n2]) hc rfl ?_ (by simp [css, Ls, g0.ln]) ?_ (fun w' hk => tab_keep hg hk)).mono ?_
  · exact .cons (.agg _ _ (.cons (h0.1.rel _ rfl) (.cons (.int _ _) (.cons (g0.rel _ hg0) .nil)))) (.cons (.int _ _) (.cons (.int _ _) (.nil)))
  · intro o L ho cs hcs
    match o, ho, hcs with
    | 0, ho, hcs =>
      simp [Ls] at ho; simp [css] at hcs; subst hcs
      have q := h0.1.mem _ ho
      exact ⟨q.1, q.2.1 _, q.2.2⟩
    | o + 1, ho, hcs =>
      have ho' : M0[o]? = some (some L) := ho
      have hcs' : c0[o]? = some cs := hcs
      have q := g0.mem o L ho' cs hcs'
      exact ⟨q.1, q.2.1 _ hg0, q.2.2⟩
  · rintro e w' ⟨r, rfl, hv, hb⟩
    cases hv
    exact ⟨rfl, hb⟩
/-- The witness: the settled world, the tables laid. -/
noncomputable def laidWorld (os : Os) : World :=
  let w0 := World.holding Tryd.prog os ⟨#[], #[], []⟩
  let put (h : Array Obj) (g : Nat) (cs : Array Value) : Array Obj := h.modify g fun
    | .cells _ t frozen => .cells cs t frozen
    | o => o
  let h0 := put (w0.heap) 0 (Lib.pow10Tab.map fun z => Value.int .u64 z).toArray
  let h1 := put (h0) 1 (([0, 1, 28, 2, 29, 14, 24, 3, 30, 22, 20, 15, 25, 17, 4, 8, 31, 27, 13, 23, 21, 19, 16, 7, 26, 12, 18, 6, 11, 5, 10, 9] : List Int).map fun z => Value.int .u8 z).toArray
  let h2 := put (h1) 2 (([0, 1, 56, 2, 57, 49, 28, 3, 61, 58, 42, 50, 38, 29, 17, 4, 62, 47, 59, 36, 45, 43, 51, 22, 53, 39, 33, 30, 24, 18, 12, 5, 63, 55, 48, 27, 60, 41, 37, 16, 46, 35, 44, 21, 52, 32, 23, 11, 54, 26, 40, 15, 34, 20, 31, 10, 25, 14, 19, 9, 13, 8, 7, 6] : List Int).map fun z => Value.int .u8 z).toArray
  { w0 with heap := h2 }
theorem laid_met (os : Os) (args : Array Value) : laidMet Tryd.prog Rows.objectCutRow.laid ((laidWorld os).forCall (fun _ _ => 0) ⟨#[], args, []⟩).memory :=
  (LaidIn.of_run [1, 2, 0] 8 (by kernel_rfl) (by kernel_rfl) (by kernel_rfl) (by kernel_rfl)).met
theorem witness_row (os : Os) {H : Type} (enc : TypeId × Value → H) :
    (OpenSpec.ofChange Rows.objectCutSpec).preRow enc Tryd.prog Tryd.f6 Rows.objectCutRow.domain false Rows.objectCutRow.laid ((laidWorld os).forCall (fun _ _ => 0) ⟨#[], #[.agg #[.slice none 0 0, .int .i64 0, .slice none 0 0], .int .i64 0, .int .u8 0], []⟩).memory #[.agg #[.slice none 0 0, .int .i64 0, .slice none 0 0], .int .i64 0, .int .u8 0] := by
  have hw : (DataW.whole enc Tryd.prog ((laidWorld os).forCall (fun _ _ => 0) ⟨#[], #[.agg #[.slice none 0 0, .int .i64 0, .slice none 0 0], .int .i64 0, .int .u8 0], []⟩).memory Tryd.f6.params.toList (OpenSpec.ofChange Rows.objectCutSpec).vars false (#[.agg #[.slice none 0 0, .int .i64 0, .slice none 0 0], .int .i64 0, .int .u8 0] : Array Value).toList 8).map (fun x => (x.1, x.2.1)) =
      some ([.agg [.nil, .lit (.int .i64 0), .nil], .lit (.int .i64 0), .lit (.int .u8 0)], []) := by kernel_rfl
  obtain ⟨⟨x1, x2, x3⟩, hx, hx1⟩ := Option.map_eq_some_iff.1 hw
  simp only [Prod.mk.injEq] at hx1
  obtain ⟨rfl, rfl⟩ := hx1
  exact OpenSpec.preRow_of_cond 8 hx (by kernel_rfl) (fun k hk => by cases hk) (by kernel_rfl) (laid_met os _)
theorem tab_in : ("internal/strconv.uint64pow10", Lib.tabData .u64 Lib.pow10Tab) ∈ Rows.objectCutRow.laid := .tail _ (.tail _ (.head _))
set_option maxRecDepth 100000 in
theorem lifted (os : Os) (started : os.Started) (H : Type) (enc : TypeId × Value → H) (F : Stop.Interp) :
    ReturnsInHanded {} Tryd.checked os 6 .any ((OpenSpec.ofChange Rows.objectCutSpec).preRow enc Tryd.prog Tryd.f6 Rows.objectCutRow.domain false Rows.objectCutRow.laid) (((OpenSpec.ofChange Rows.objectCutSpec).at F).post enc Tryd.prog Tryd.f6 false true false false) := by
  refine returnsInHanded_of_row (C := Tryd.checked) (s := (OpenSpec.ofChange Rows.objectCutSpec)) own started (by kernel_rfl) Tryd.func6
    (witness_row_atRef (enc := enc) (C := Tryd.checked) false (laidWorld os) #[.agg #[.slice none 0 0, .int .i64 0, .slice none 0 0], .int .i64 0, .int .u8 0] rfl (by kernel_rfl) (by kernel_rfl) (by kernel_rfl) (witness_row os enc)) ?_
  intro W base args ds gs before hval0 hW _ _ _ hL _ _
  have hval : ∀ (j : Nat) t v, Tryd.f6.params[j]? = some t → args[j]? = some v → Value.okWide Tryd.prog W .any base t v := hval0
  have hW' := hW
  obtain ⟨p, q, hA0, hV, rfl, hfz, hnd⟩ := hW
  have hA : DataW.TrodAll enc Tryd.prog W 0 (fun _ => true) true Tryd.f6.params.toList args.toList ds p := hA0
  rw [Tryd.params6] at hA hval
  obtain ⟨v0, vs0, d0, ds0, p0, q0, hargs, rfl, rfl, h0, r0⟩ := trodAll_cons hA
  obtain ⟨v1, vs1, d1, ds1, p1, q1, rfl, rfl, rfl, h1, r1⟩ := trodAll_cons r0
  obtain ⟨v2, vs2, d2, ds2, p2, q2, rfl, rfl, rfl, h2, r2⟩ := trodAll_cons r1
  obtain ⟨rfl, rfl, rfl⟩ := trodAll_nil r2
  obtain rfl : args = #[v0, v1, v2] := by cases args; simp_all
  obtain ⟨rfl, rfl⟩ := trodVars_none hV
  obtain ⟨cs0, rfl, hcs0⟩ := okWide_struct Tryd.underlying25 (hval 0 25 v0 rfl rfl)
  have k0 := h0
  have lt0 : ∀ x ∈ p0, x.block < W.heap.size := by obtain ⟨m, hm⟩ := k0; exact DataW.trod_lt m _ _ _ hm
  obtain ⟨n1, rfl, rfl, rfl, w1⟩ := open_int Tryd.underlying3 (hval 1 3 v1 rfl rfl) h1
  have b1 := w1
  simp [Lit.wf, IntKind.min, IntKind.max, IntKind.signed, IntKind.bits] at b1
  obtain ⟨n2, rfl, rfl, rfl, w2⟩ := open_int Tryd.underlying5 (hval 2 5 v2 rfl rfl) h2
  have b2 := w2
  simp [Lit.wf, IntKind.min, IntKind.max, IntKind.signed, IntKind.bits] at b2
  obtain ⟨v0, u0, n0, hcs0', b0, s0, t0⟩ : ∃ x y n, cs0 = #[x, .int .i64 n, y] ∧ (-9223372036854775808 ≤ n ∧ n ≤ 9223372036854775807) ∧ (∃ xs av L, SlArg W 0 2 pairc x xs av L) ∧ (∃ F av css Ls, GdArg W 1 y F av css Ls) := by
    obtain ⟨fuel, hf⟩ := h0
    obtain ⟨x, z, y, n, y0, y1, y2, hcs, t0, t1, t2⟩ := arg_three Tryd.underlying25 (by kernel_rfl) rfl rfl rfl (by kernel_rfl) (by kernel_rfl) (by kernel_rfl) hf
    obtain ⟨q0, xs0, av0, M0, hu0, e0⟩ := arg_pairs2 0 Tryd.underlying22 Tryd.underlying42 (by kernel_rfl) rfl rfl (by kernel_rfl) (by kernel_rfl) Tryd.underlying3 Tryd.underlying3 t0
    cases hu0
    obtain ⟨q2, F2, av2, c2, M2, hu2, e2⟩ := arg_grid 1 Tryd.underlying23 Tryd.underlying53 Tryd.underlying3 (by kernel_rfl) (by kernel_rfl) t2
    cases hu2
    obtain ⟨m, hm1, _, wm⟩ := DataW.trod_int Tryd.underlying3 t1
    cases hm1
    have bm := wm
    simp [Lit.wf, IntKind.min, IntKind.max, IntKind.signed, IntKind.bits] at bm
    exact ⟨_, _, m, by cases cs0; simp [Value.cells] at hcs; simp [hcs], bm, ⟨_, _, _, e0⟩, ⟨_, _, _, _, e2⟩⟩
  subst hcs0'
  obtain ⟨l0, av0, L0, s0⟩ := s0
  obtain ⟨F0, dv0, c0, M0, t0⟩ := t0
  have htab : GT W := tab_of_laid (g := 0) (l := Rows.objectCutRow.laid) (by kernel_rfl) (by kernel_rfl) Tryd.underlying144 Tryd.underlying134 (by kernel_rfl) (by kernel_rfl) hL tab_in
  clear hA0 hval0
  refine (walk s0 t0 b0 b1 b2 htab).mono fun e W' ⟨he, bel⟩ => ?_
  subst he
  exact ⟨_, rfl, _, _, _, [], _, [], hW', trodAll_mk1 (shut_bool Tryd.underlying4 _), (trodAll_cons_mk (Below.trod laidOut (by kernel_rfl) (of_decide_eq_true (by kernel_rfl)) k0 bel lt0) (trodAll_cons_mk (shut_int Tryd.underlying3 w1) (trodAll_cons_mk (shut_int Tryd.underlying5 w2) trodAll_mk0))), rfl, bel.frame _, fun h => by cases h⟩
theorem over : Rows.objectCutRow.holds Tryd.pinned (OpenSpec.ofChange Rows.objectCutSpec) :=
  OpenClaim.holds_of_cond 6 Tryd.f6 rfl rfl rfl rfl rfl rfl rfl ⟨rfl, rfl, rfl, rfl, rfl⟩ rfl rfl rfl rfl rfl (by kernel_rfl) Tryd.func6 (by kernel_rfl)
    (of_decide_eq_true (by kernel_rfl)) (by unfold Func.isWrapper; first | (rw [if_pos (by decide +kernel)]; kernel_rfl) | (rw [if_neg (by decide +kernel)]; exact ⟨rfl, rfl⟩))
    (fun os started H enc _ F0 => by rw [OpenClaim.pre_eq_preRow]; exact lifted os started H enc F0)
theorem proved : Rows.ObjectCutCardSaid :=
  Claim7.holds_tied_plain_at .later [] [.data, .data, .data] true (true, "dea333a2a0c3cb04504fe6e769885c75c5c3d59fe04764b4698f637688c0926c") false
    over (fun _ h => by cases h) (by kernel_rfl) (fun _ h => by cases h) objectCut_row_tie rfl ⟨rfl, rfl⟩ (by kernel_rfl) rfl
    (fun f fn hf hfn => by
      obtain rfl : f = 6 := Option.some.inj ((show Tryd.prog.funcNamed "parquet/parquetlaw21.ObjectCut" = some 6 by kernel_rfl).symm.trans hf) |>.symm
      obtain rfl : fn = Tryd.f6 := (Option.some.inj (Tryd.func6.symm.trans hfn)).symm
      exact ⟨by kernel_rfl, fun j t ht => by
        rw [Tryd.params6] at ht
        rcases j with _ | _ | _ | j
        · obtain rfl : t = 25 := by simpa using ht.symm
          exact (show Tryd.prog.wantsStandIn 25 = false by kernel_rfl)
        · obtain rfl : t = 3 := by simpa using ht.symm
          exact (show Tryd.prog.wantsStandIn 3 = false by kernel_rfl)
        · obtain rfl : t = 5 := by simpa using ht.symm
          exact (show Tryd.prog.wantsStandIn 5 = false by kernel_rfl)
        · simp at ht⟩)
    (by kernel_rfl)
#print axioms proved
end Go.Proofs.YtacfhbhfgbjleaaDoor.objectCut
namespace Go.Proofs.YtacfhbhfgbjleaaDoor
theorem objectCut_holds : Rows.ObjectCutCardSaid := objectCut.proved
end Go.Proofs.YtacfhbhfgbjleaaDoor
