/- Whatever bytes ObjectReads is given, it returns true, and the bytes read as they did. Conditions: the row's own, that the library's tables of powers of ten and of bits hold what their text lays. -/
import Derived.Test.YtacfhbhfgbjleaaDoorCards
import Derived.Test.YtacfhbhfgbjleaaDoorTie
import Derived.SevenTiedAt
import Derived.Test.YtacfhbhfgbjleaaDoorRows
import Derived.Test.YtacfhbhfgbjleaaDoorL4
import Derived.Test.YtacfhbhfgbjleaaDoorEE
import Derived.WalkKit
import Derived.ProofKit
import Derived.OpenShut
import Derived.ShutString
import Derived.ChangeOld
import Derived.Below
import Derived.Carry
import Derived.SizedLaws
import Derived.Deep.DeepHandedRow
import Derived.Deep.DeepWitnessRowRef
import Derived.Lib.LaidIn
namespace Go.Proofs.YtacfhbhfgbjleaaDoor.objectReads
open Go Go.AI Go.ChangeShapes Go.WideShapes Go.ChangeAt Go.RowKit Go.Lib Go.Deep
set_option linter.unusedVariables false
theorem own : ownKnob Tryd.prog.godebug = none := by kernel_rfl
theorem laidOut : laidOutB Tryd.prog = true := by kernel_rfl
theorem walk {w : World} {v0 : Value} {l0 : List Nat} {a0 : AV} {L0 : Option AI.Loc} (h0 : SlArg w 0 1 bytc v0 l0 a0 L0) (b0 : ∀ b, b ∈ l0 → b < 256) (hg : GT w) :
    Calls Tryd.prog 4 #[v0] w fun e w' => e = .returned (.bool true) ∧ Below w.heap.size w w' := by
  let css : List (List AV) := l0.flatMap bytc :: []
  let Ls : List (Option AI.Loc) := L0 :: []
  have g0' : (heapR css.reverse).get 0 = some (.cells (l0.flatMap bytc)) := by rw [heapF_get]; rfl
  have hc := reads4 (heapR_wf css.reverse) (h0.bytes g0' b0).1 (h0.bytes g0' b0).2
  refine (law_told2 FK_ok (css := css) (Ls := Ls) (avs := [v0]) hc rfl ?_ rfl ?_ (fun w' hk => tab_keep hg hk)).mono ?_
  · exact .cons (h0.1.rel _ rfl) (.nil)
  · intro o L ho cs hcs
    match o, ho, hcs with
    | 0, ho, hcs =>
      simp [Ls] at ho; simp [css] at hcs; subst hcs
      have q := h0.1.mem _ ho
      exact ⟨q.1, q.2.1 _, q.2.2⟩
    | o + 1, ho, hcs => simp [Ls] at ho
  · rintro e w' ⟨r, rfl, hv, hb⟩
    cases hv
    exact ⟨rfl, hb⟩
/-- The witness: the settled world, the tables laid. -/
noncomputable def laidWorld (os : Os) : World :=
  let w0 := World.holding Tryd.prog os ⟨#[], #[], []⟩
  let put (h : Array Obj) (g : Nat) (cs : Array Value) : Array Obj := h.modify g fun
    | .cells _ t frozen => .cells cs t frozen
    | o => o
  let h0 := put (w0.heap) 0 (Lib.pow10Tab.map fun z => Value.int .u64 z).toArray
  let h1 := put (h0) 1 (([0, 1, 28, 2, 29, 14, 24, 3, 30, 22, 20, 15, 25, 17, 4, 8, 31, 27, 13, 23, 21, 19, 16, 7, 26, 12, 18, 6, 11, 5, 10, 9] : List Int).map fun z => Value.int .u8 z).toArray
  let h2 := put (h1) 2 (([0, 1, 56, 2, 57, 49, 28, 3, 61, 58, 42, 50, 38, 29, 17, 4, 62, 47, 59, 36, 45, 43, 51, 22, 53, 39, 33, 30, 24, 18, 12, 5, 63, 55, 48, 27, 60, 41, 37, 16, 46, 35, 44, 21, 52, 32, 23, 11, 54, 26, 40, 15, 34, 20, 31, 10, 25, 14, 19, 9, 13, 8, 7, 6] : List Int).map fun z => Value.int .u8 z).toArray
  { w0 with heap := h2 }
theorem laid_met (os : Os) (args : Array Value) : laidMet Tryd.prog Rows.objectReadsRow.laid ((laidWorld os).forCall (fun _ _ => 0) ⟨#[], args, []⟩).memory :=
  (LaidIn.of_run [1, 2, 0] 8 (by kernel_rfl) (by kernel_rfl) (by kernel_rfl) (by kernel_rfl)).met
theorem witness_row (os : Os) {H : Type} (enc : TypeId × Value → H) :
    (OpenSpec.ofChange Rows.objectReadsSpec).preRow enc Tryd.prog Tryd.f4 Rows.objectReadsRow.domain false Rows.objectReadsRow.laid ((laidWorld os).forCall (fun _ _ => 0) ⟨#[], #[.slice none 0 0], []⟩).memory #[.slice none 0 0] := by
  have hw : (DataW.whole enc Tryd.prog ((laidWorld os).forCall (fun _ _ => 0) ⟨#[], #[.slice none 0 0], []⟩).memory Tryd.f4.params.toList (OpenSpec.ofChange Rows.objectReadsSpec).vars false (#[.slice none 0 0] : Array Value).toList 8).map (fun x => (x.1, x.2.1)) =
      some ([.nil], []) := by kernel_rfl
  obtain ⟨⟨x1, x2, x3⟩, hx, hx1⟩ := Option.map_eq_some_iff.1 hw
  simp only [Prod.mk.injEq] at hx1
  obtain ⟨rfl, rfl⟩ := hx1
  exact OpenSpec.preRow_of_cond 8 hx (by kernel_rfl) (fun k hk => by cases hk) (by kernel_rfl) (laid_met os _)
theorem tab_in : ("internal/strconv.uint64pow10", Lib.tabData .u64 Lib.pow10Tab) ∈ Rows.objectReadsRow.laid := .tail _ (.tail _ (.head _))
set_option maxRecDepth 100000 in
theorem lifted (os : Os) (started : os.Started) (H : Type) (enc : TypeId × Value → H) (F : Stop.Interp) :
    ReturnsInHanded {} Tryd.checked os 4 .any ((OpenSpec.ofChange Rows.objectReadsSpec).preRow enc Tryd.prog Tryd.f4 Rows.objectReadsRow.domain false Rows.objectReadsRow.laid) (((OpenSpec.ofChange Rows.objectReadsSpec).at F).post enc Tryd.prog Tryd.f4 false true false false) := by
  refine returnsInHanded_of_row (C := Tryd.checked) (s := (OpenSpec.ofChange Rows.objectReadsSpec)) own started (by kernel_rfl) Tryd.func4
    (witness_row_atRef (enc := enc) (C := Tryd.checked) false (laidWorld os) #[.slice none 0 0] rfl (by kernel_rfl) (by kernel_rfl) (by kernel_rfl) (witness_row os enc)) ?_
  intro W base args ds gs before hval0 hW _ _ _ hL _ _
  have hval : ∀ (j : Nat) t v, Tryd.f4.params[j]? = some t → args[j]? = some v → Value.okWide Tryd.prog W .any base t v := hval0
  have hW' := hW
  obtain ⟨p, q, hA0, hV, rfl, hfz, hnd⟩ := hW
  have hA : DataW.TrodAll enc Tryd.prog W 0 (fun _ => true) true Tryd.f4.params.toList args.toList ds p := hA0
  rw [Tryd.params4] at hA hval
  obtain ⟨v0, vs0, d0, ds0, p0, q0, hargs, rfl, rfl, h0, r0⟩ := trodAll_cons hA
  obtain ⟨rfl, rfl, rfl⟩ := trodAll_nil r0
  obtain rfl : args = #[v0] := by cases args; simp_all
  obtain ⟨rfl, rfl⟩ := trodVars_none hV
  obtain ⟨a0, len0, cap0, rfl⟩ := okWide_slice Tryd.underlying35 (hval 0 35 v0 rfl rfl)
  have k0 := h0
  have lt0 : ∀ x ∈ p0, x.block < W.heap.size := by obtain ⟨m, hm⟩ := k0; exact DataW.trod_lt m _ _ _ hm
  obtain ⟨l0, av0, L0, hl0, hb0, s0⟩ : ∃ xs av L, xs.length = len0 ∧ (∀ b, b ∈ xs → b < 256) ∧ SlArg W 0 1 bytc (.slice a0 len0 cap0) xs av L := by
    obtain ⟨fuel, hf⟩ := h0
    exact arg_bytes 0 Tryd.underlying35 Tryd.underlying5 (by kernel_rfl) hf
  have htab : GT W := tab_of_laid (g := 0) (l := Rows.objectReadsRow.laid) (by kernel_rfl) (by kernel_rfl) Tryd.underlying144 Tryd.underlying134 (by kernel_rfl) (by kernel_rfl) hL tab_in
  clear hA0 hval0
  refine (walk s0 hb0 htab).mono fun e W' ⟨he, bel⟩ => ?_
  subst he
  exact ⟨_, rfl, _, _, _, [], _, [], hW', trodAll_mk1 (shut_bool Tryd.underlying4 _), (trodAll_cons_mk (Below.trod laidOut (by kernel_rfl) (of_decide_eq_true (by kernel_rfl)) k0 bel lt0) trodAll_mk0), rfl, bel.frame _, fun h => by cases h⟩
theorem over : Rows.objectReadsRow.holds Tryd.pinned (OpenSpec.ofChange Rows.objectReadsSpec) :=
  OpenClaim.holds_of_cond 4 Tryd.f4 rfl rfl rfl rfl rfl rfl rfl ⟨rfl, rfl, rfl, rfl, rfl⟩ rfl rfl rfl rfl rfl (by kernel_rfl) Tryd.func4 (by kernel_rfl)
    (of_decide_eq_true (by kernel_rfl)) (by unfold Func.isWrapper; first | (rw [if_pos (by decide +kernel)]; kernel_rfl) | (rw [if_neg (by decide +kernel)]; exact ⟨rfl, rfl⟩))
    (fun os started H enc _ F0 => by rw [OpenClaim.pre_eq_preRow]; exact lifted os started H enc F0)
theorem proved : Rows.ObjectReadsCardSaid :=
  Claim7.holds_tied_plain_at .later [] [.data, .data, .data] true (true, "dea333a2a0c3cb04504fe6e769885c75c5c3d59fe04764b4698f637688c0926c") false
    over (fun _ h => by cases h) (by kernel_rfl) (fun _ h => by cases h) objectReads_row_tie rfl ⟨rfl, rfl⟩ (by kernel_rfl) rfl
    (fun f fn hf hfn => by
      obtain rfl : f = 4 := Option.some.inj ((show Tryd.prog.funcNamed "parquet/parquetlaw21.ObjectReads" = some 4 by kernel_rfl).symm.trans hf) |>.symm
      obtain rfl : fn = Tryd.f4 := (Option.some.inj (Tryd.func4.symm.trans hfn)).symm
      exact ⟨by kernel_rfl, fun j t ht => by
        rw [Tryd.params4] at ht
        rcases j with _ | j
        · obtain rfl : t = 35 := by simpa using ht.symm
          exact (show Tryd.prog.wantsStandIn 35 = false by kernel_rfl)
        · simp at ht⟩)
    (by kernel_rfl)
#print axioms proved
end Go.Proofs.YtacfhbhfgbjleaaDoor.objectReads
namespace Go.Proofs.YtacfhbhfgbjleaaDoor
theorem objectReads_holds : Rows.ObjectReadsCardSaid := objectReads.proved
end Go.Proofs.YtacfhbhfgbjleaaDoor
