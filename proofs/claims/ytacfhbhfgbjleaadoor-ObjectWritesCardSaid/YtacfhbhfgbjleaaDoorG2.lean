/- May a mesh be, as the document asks it: the whole. No claim by itself. -/
import Derived.Test.YtacfhbhfgbjleaaDoorG1
namespace Go.Proofs.YtacfhbhfgbjleaaDoor
open Go Go.AI
section
variable {FT : Nat → Option FnD} {H : Heap}
structure Qg (H H' : Heap) (P : List (Int × Int)) (F : List (List Int)) : Prop where
  ex : Ext H H'
  us : ∀ a : Nat, a < P.length → inSome F a
  fit : ∀ p, p ∈ P → fitP p
  nd : P.Nodup
  f4 : 0 < P.length → ∀ f, f ∈ F → f.length ≤ 4
theorem ref14l (h26 : FT 26 = some (.code A26)) {vP vF : AV} {P : List (Int × Int)} {W : Int} {F : List (List Int)} (h : Mo H vP vF P F) (hz : Sz P F) (_hw : H.Wf) {ob : Nat} {H0 : Heap} (e0 : Ext H H0) (go : H0.get ob = some (.cells [vP, .int .i64 W, vF])) {τ0 : Env} (u1 : Env.at τ0 1 = .ptr ob 0) :
    Wp FT r14l τ0 H0 (fun s τ H' => (s = .next ∧ Qg H H' P F) ∨ (s = .ret ∧ Ext H H' ∧ ¬ ValidO P W F ∧ Env.at τ 2 = .int .i64 2)) := by
  have hp := hz.p
  rw [loop14]
  generalize hre : r14e = re
  simp [r14l, subAt, putAt, A14]
  refine Wp_loop (fun m τ H' => ∃ i, D1r H H' P F ob vP vF τ i m) ?_ P.length _ _ ⟨0, ⟨e0, ⟨W, go⟩, by omega, by omega, by omega, by simp [fitTo], by simp, by omega, by simp [u1], by simp⟩⟩
  rintro m τ H1 ⟨i, ⟨ex, ⟨W', go⟩, hi, rfl, us, fit, nd, f4, t1, t4⟩⟩
  simp only [Wp_seq, Wp_region]
  have l0 : loadA H1 none (.ptr ob 0) = some vP := load_get go rfl
  by_cases c : i < P.length
  · simp [c, t1, t4, l0, h.p.len]
    rw [← hre]
    refine (ref14e (h.f.ext ex) hz.f go (i := i) (by simp [t1]) (by simp [t4]) (by simp)).mono ?_
    rintro s τ _ (hq | ⟨rfl, rfl, ⟨f, hf, h4⟩, t2⟩)
    rotate_left
    · simp
      exact ⟨ex, fun q => (by have := q.f4 f hf; omega), t2⟩
    obtain ⟨rfl, rfl, f4', t1, t4, t5⟩ := hq
    cases hB : inB F i with
    | false =>
      have hno : ¬ ValidO P W F := fun q => by
        have := q.us i c
        unfold inB at hB
        exact of_decide_eq_false hB this
      rw [hB] at t5
      simp [t5]
      exact ⟨ex, hno⟩
    | true =>
      have hin : inSome F i := by unfold inB at hB; exact of_decide_eq_true hB
      rw [hB] at t5
      obtain ⟨p, x, a1, a2, a3, _⟩ := Sl.idx (h.p.ext ex) (k := .i64) (i := (i : Int)) (by omega) (by omega)
      rw [Int.toNat_natCast] at a1
      have hxm := List.mem_of_getElem? a1
      simp [t1, t4, t5, l0, a2, a3]
      refine (fits26 h26 ex.wf (p := x)).mono ?_
      rintro _ H2 ⟨rfl, e2⟩
      have ex2 := ex.trans e2
      by_cases cf : fitP x
      · simp [cf]
        have go2 := e2.keep _ _ go
        have m0 : loadA H2 none (.ptr ob 0) = some vP := load_get go2 rfl
        refine Wp_loop (fun m τ H' => ∃ k, D4r H2 H' P x ob τ i k m) ?_ i _ _ ⟨0, ⟨rfl, by omega, by omega, by omega, by simp [t1], by simp [t4], by simp⟩⟩
        rintro m τ _ ⟨k, ⟨rfl, hk, rfl, hd, t1, t4, t8⟩⟩
        simp only [Wp_seq, Wp_region]
        have b2 : loadA H2 (some 2) p = some (.agg (pairc x)) := load_ext a3 e2
        by_cases ck : k < i
        · obtain ⟨q, y, c1, c2, c3, _⟩ := Sl.idx (h.p.ext ex2) (k := .i64) (i := (k : Int)) (by omega) (by omega)
          rw [Int.toNat_natCast] at c1
          by_cases ce : y = x
          · have hf : binA .eql (.flat [.int, .int]) (.agg (pairc y)) (.agg (pairc x)) = some (.bool true) := by rw [eqPair, decide_eq_true ce]
            have hno : ¬ ValidO P W F := fun q => nod_no c1 (by rw [a1, ce]) ck q.pd
            simp [ck, t1, t4, t8, m0, a2, b2, c2, c3, hf]
            exact ⟨ex2, hno⟩
          · have hf : binA .eql (.flat [.int, .int]) (.agg (pairc y)) (.agg (pairc x)) = some (.bool false) := by rw [eqPair, decide_eq_false ce]
            have w : IntKind.i64.wrap ((k : Int) + 1) = ((k + 1 : Nat) : Int) := wrap64 (by omega) (by omega)
            simp [ck, t1, t4, t8, m0, a2, b2, c2, c3, hf, w]
            refine ⟨_, by omega, k + 1, ⟨rfl, by omega, rfl, fun d hd' => ?_, by simp [t1], by simp [t4], by simp⟩⟩
            by_cases hdk : d = k
            · subst hdk; rw [c1]; simpa using ce
            · exact hd d (by omega)
        · have hki : k = i := by omega
          subst hki
          have w : IntKind.i64.wrap ((k : Int) + 1) = ((k + 1 : Nat) : Int) := wrap64 (by omega) (by omega)
          simp [t4, t8, w]
          refine ⟨_, by omega, k + 1, ⟨ex2, ⟨W', go2⟩, by omega, rfl, fun a ha => ?_, ?_, nod_succ nd a1 (not_take hd), fun _ => f4', by simp [t1], by simp⟩⟩
          · by_cases q : a = k
            · rw [q]; exact hin
            · exact us a (by omega)
          · intro q hq
            rw [List.take_add_one, a1] at hq
            rcases List.mem_append.1 hq with r | r
            · exact fit q r
            · simp at r; subst r; exact cf
      · have hno : ¬ ValidO P W F := fun q => cf (q.ps x hxm)
        simp [cf]
        exact ⟨ex2, hno⟩
  · have hil : i = P.length := by omega
    subst hil
    unfold fitTo at fit
    rw [List.take_length] at fit nd
    simp [t1, t4, l0, h.p.len]
    exact ⟨ex, us, fit, nd, f4⟩
abbrev H14 (FT : Nat → Option FnD) : Prop := FT 14 = some (.code A14) ∧ FT 25 = some (.code A25) ∧ FT 43 = some (.code A43) ∧ FT 26 = some (.code A26)
theorem check14 (hh : H14 FT) (hw : H.Wf) {vP vF : AV} {P : List (Int × Int)} {W : Int} {F : List (List Int)} (h : Mo H vP vF P F) (hz : Sz P F) :
    Cp FT 14 [.agg [vP, .int .i64 W, vF]] H (fun r H' => r = .int .i64 (chkO P W F) ∧ Ext H H') := by
  obtain ⟨h14, h25, h43, h26⟩ := hh
  refine Cp_code A14 h14 rfl ?_
  have hA : A14.results = [.tmp 2] := rfl
  rw [hA, body14]
  have hone := h.one W
  have e0 := Ext.push hw (.cells [vP, .int .i64 W, vF])
  have g0 : (H.push (.cells [vP, .int .i64 W, vF])).get H.next = some (.cells [vP, .int .i64 W, vF]) := get_pushN.trans (if_pos rfl)
  generalize hP0 : H.push (.cells [vP, .int .i64 W, vF]) = H0 at *
  have l0 : loadA H0 none (.ptr H.next 0) = some vP := load_get g0 rfl
  have l1 : loadA H0 none (.ptr H.next 1) = some (.int .i64 W) := load_get g0 rfl
  have l2 : loadA H0 none (.ptr H.next 2) = some vF := load_get g0 rfl
  generalize hka : r14l = ka
  have hno : ¬ ValidO P W F → chkO P W F = 2 := chkO_no
  simp [A14, putAt, hone, hP0, l0, l2, h.p.len]
  refine (ref25 h25 h43 (h.f.ext e0) hz.r hz.f hz.t e0.wf).mono ?_
  rintro _ H1 ⟨rfl, e1⟩
  have ex1 := e0.trans e1
  have m1 := load_ext l1 e1
  have m2 := load_ext l2 e1
  have hfl := h.f.len
  by_cases c5 : ¬ chkF P.length F = 0
  · have hb := hno (fun q => c5 (chkF_ok.2 q.fo))
    have c5' : (chkF P.length F != 0) = true := by simpa using c5
    simp [c5', hb]
    exact ex1
  have c5 : chkF P.length F = 0 := Classical.not_not.1 c5
  have hfo := chkF_ok.1 c5
  by_cases c1 : F = []
  · have hb := hno (fun q => q.ne c1)
    subst c1
    have hfl := h.f.len
    simp [c5, m2, hfl, hb]
    exact ex1
  have hpos : ¬ F.length = 0 := fun q => c1 (List.length_eq_zero_iff.1 q)
  by_cases c2 : W < 1
  · have hb := hno (fun q => by have := q.w0; omega)
    simp [c5, m1, m2, hfl, hpos, c2, hb]
    exact ex1
  by_cases c3 : 1048576 < W
  · have hb := hno (fun q => by have := q.w1; omega)
    simp [c5, m1, m2, hfl, hpos, c2, c3, hb]
    exact ex1
  simp [c5, m1, m2, hfl, hpos, c2, c3]
  rw [← hka]
  refine (ref14l (W := W) h26 h hz hw ex1 (e1.keep _ _ g0) (by simp)).mono ?_
  rintro s τ H2 (⟨rfl, ex, us, fit, nd, f4⟩ | ⟨rfl, ex, hn, t2⟩)
  · have hpp : 0 < P.length := by
      obtain ⟨f, hf⟩ := List.exists_mem_of_ne_nil F c1
      obtain ⟨a, _, k⟩ := hfo.fs f hf
      obtain ⟨x, hx⟩ := List.exists_mem_of_ne_nil f (by intro q; subst q; simp at a)
      have := k x hx; omega
    have hv : ValidO P W F := ⟨c1, by omega, by omega, fit, hfo, f4 hpp, nd, us⟩
    simp [chkO_ok hv]
    exact ex
  · simp [t2, hno hn]
    exact ex
end
end Go.Proofs.YtacfhbhfgbjleaaDoor
