/- The statement DualCut, walked. No claim by itself. -/
import Derived.Test.YtcepchipgjpkhaaNF
namespace Go.Proofs.Ytcepchipgjpkhaa
open Go Go.AI
section
variable {H : Heap} {FT : Nat → Option FnD}
theorem cut_quadM {a b c d : Int × Int} (h1 : orZ a b c = 1) (h2 : orZ a c d = 1) : quadM [a, b, c, d] cutT cutS 0 1 = if conv4 a b c d = true then some [0, 1, 2, 3] else none := by
  unfold quadM
  rw [if_pos ⟨(cut_ok h1 h2).1, by show inN 2 0; decide, by show inN 2 1; decide⟩]
  exact cut_quad
theorem cut_noneM {a b c d : Int × Int} (h1 : orZ a b c = 1) (h2 : orZ a c d = 1) : quadM [a, b, c, d] cutT cutC 0 1 = none := by
  unfold quadM
  rw [if_pos ⟨(cut_ok h1 h2).2, by show inN 2 0; decide, by show inN 2 1; decide⟩]
  exact cut_none (a := a) (b := b) (c := c) (d := d)
theorem conv4_all {a b c d : Int × Int} (h : conv4 a b c d = true) : orZ a b c = 1 ∧ orZ a b d = 1 ∧ orZ a c d = 1 ∧ orZ b c d = 1 := by
  unfold conv4 at h
  simp only [Bool.and_eq_true, decide_eq_true_eq] at h
  exact ⟨h.1.1.1, h.1.1.2, h.1.2, h.2⟩
theorem cutU_quadM {a b c d : Int × Int} (h : conv4 a b c d = true) : quadM [a, b, c, d] cutU cutS 0 1 = some [0, 1, 2, 3] := by
  obtain ⟨_, h2, _, h4⟩ := conv4_all h
  unfold quadM
  rw [if_pos ⟨cutU_ok h2 h4, by show inN 2 0; decide, by show inN 2 1; decide⟩]
  exact cutU_quad h
theorem cut14 (L : LawM FT) (N : NumT FT) (h48 : FT 48 = some (.code A48)) (h53 : FT 53 = some (.code A53)) (h14 : FT 14 = some (.code A14)) (hw : H.Wf) {a b c d : Int × Int} : Cp FT 14 [.agg (pairc a), .agg (pairc b), .agg (pairc c), .agg (pairc d)] H (fun r _ => r = .bool true) := by
  refine Cp_code A14 h14 rfl ?_
  obtain ⟨g1, e1⟩ := push_new hw (.cells (pairc a))
  obtain ⟨g2, e2⟩ := push_new e1.wf (.cells (pairc b))
  obtain ⟨g3, e3⟩ := push_new e2.wf (.cells (pairc c))
  obtain ⟨g4, e4⟩ := push_new e3.wf (.cells (pairc d))
  have k1 := e4.keep _ _ (e3.keep _ _ (e2.keep _ _ g1))
  have k2 := e4.keep _ _ (e3.keep _ _ g2)
  have k3 := e4.keep _ _ g3
  have hc : ∀ x : Int × Int, allOne (pairc x) = true := fun _ => rfl
  have hcc : ∀ x : Int × Int, AV.cells (.agg (pairc x)) = pairc x := fun _ => rfl
  simp only [next_push] at k2 k3 g4
  generalize hH4 : (((H.push (.cells (pairc a))).push (.cells (pairc b))).push (.cells (pairc c))).push (.cells (pairc d)) = H4 at *
  have ld : ∀ {H2 : Heap}, Ext H4 H2 → loadA H2 (some 2) (.ptr H.next 0) = some (.agg (pairc a)) ∧ loadA H2 (some 2) (.ptr (H.next + 1) 0) = some (.agg (pairc b)) ∧ loadA H2 (some 2) (.ptr (H.next + 2) 0) = some (.agg (pairc c)) ∧ loadA H2 (some 2) (.ptr (H.next + 3) 0) = some (.agg (pairc d)) := fun e =>
    ⟨load_agg (e.keep _ _ k1) rfl, load_agg (e.keep _ _ k2) rfl, load_agg (e.keep _ _ k3) rfl, load_agg (e.keep _ _ g4) rfl⟩
  obtain ⟨l1, l2, l3, l4⟩ := ld (Ext.refl e4.wf)
  have f2 : ∀ (e : Opd → AV) (cs : List AV) (off : Nat) (x : Int × Int) (r : List (Nat × Nat × Opd)), fillV e cs off 2 (.agg (pairc x)) r = if off + 2 ≤ cs.length then fillA e (setSeg cs off [.int .i64 x.1, .int .i64 x.2]) r else none := fun e cs off x r => fillV_2 rfl rfl
  have f2' : ∀ (e : Opd → AV) (cs : List AV) (off : Nat) (a b : Int) (r : List (Nat × Nat × Opd)), fillV e cs off 2 (.agg [.int .i64 a, .int .i64 b]) r = if off + 2 ≤ cs.length then fillA e (setSeg cs off [.int .i64 a, .int .i64 b]) r else none := fun e cs off a b r => fillV_2 rfl rfl
  have f3 : ∀ (e : Opd → AV) (cs : List AV) (off : Nat) (a b c : Int) (r : List (Nat × Nat × Opd)), fillV e cs off 3 (.agg [.int .i64 a, .int .i64 b, .int .i64 c]) r = if off + 3 ≤ cs.length then fillA e (setSeg cs off [.int .i64 a, .int .i64 b, .int .i64 c]) r else none := fun e cs off a b c r => by simp [fillV]
  obtain ⟨g5, e5⟩ := push_new e4.wf (.cells [.int .i64 a.1, .int .i64 a.2, .int .i64 b.1, .int .i64 b.2, .int .i64 c.1, .int .i64 c.2, .int .i64 d.1, .int .i64 d.2])
  obtain ⟨g6, e6⟩ := push_new e5.wf (.cells [.int .i64 0, .int .i64 1, .int .i64 0, .int .i64 3, .int .i64 1, .int .i64 2, .int .i64 2, .int .i64 3])
  have rP := rw_lits (xs := [a, b, c, d]) pairc_len (e6.keep _ _ g5)
  have rS := rw_lits (xs := cutS) pairc_len g6
  obtain ⟨m1, m2, m3, m4⟩ := ld (e5.trans e6)
  have e46 := e5.trans e6
  simp [A14, hc, hH4, l1, l2, l3, l4, f2, f2', setSeg]
  generalize (H4.push (.cells [.int .i64 a.1, .int .i64 a.2, .int .i64 b.1, .int .i64 b.2, .int .i64 c.1, .int .i64 c.2, .int .i64 d.1, .int .i64 d.2])).push (.cells [.int .i64 0, .int .i64 1, .int .i64 0, .int .i64 3, .int .i64 1, .int .i64 2, .int .i64 2, .int .i64 3]) = H6 at *
  simp [m1, m2, m3]
  refine (orient53 N h53 e46.wf).mono ?_
  rintro _ H7 ⟨rfl, e7⟩
  obtain ⟨m1, m2, m3, m4⟩ := ld (e46.trans e7)
  by_cases z1 : orZ a b c = 1
  · simp [z1, m1, m3, m4]
    refine (orient53 N h53 e7.wf).mono ?_
    rintro _ H8 ⟨rfl, e8⟩
    by_cases z2 : orZ a c d = 1
    · obtain ⟨g9, e9⟩ := push_new e8.wf (.cells [.int .i64 0, .int .i64 1, .int .i64 2, .int .i64 0, .int .i64 2, .int .i64 3])
      obtain ⟨HA, sA, gA, eA, nA⟩ := store_new e9.wf (z := [.nils, .nils, .nils]) (n := 3) (x := .agg [.slc H4.next 0 4 2 4 true, .slc H8.next 0 2 3 2 true, .slc (H4.next + 1) 0 4 2 4 true]) (cs := [.slc H4.next 0 4 2 4 true, .slc H8.next 0 2 3 2 true, .slc (H4.next + 1) 0 4 2 4 true]) rfl rfl rfl rfl
      have lA : loadA HA (some 3) (.ptr (H8.next + 1) 0) = some (.agg [.slc H4.next 0 4 2 4 true, .slc H8.next 0 2 3 2 true, .slc (H4.next + 1) 0 4 2 4 true]) := load_agg gA rfl
      have e6A := e7.trans (e8.trans (e9.trans eA))
      have rT := (rw_lits (xs := cutT) tric_len g9).ext eA
      have mA : Msh HA (.agg [.slc H4.next 0 4 2 4 true, .slc H8.next 0 2 3 2 true, .slc (H4.next + 1) 0 4 2 4 true]) [a, b, c, d] cutT cutS := ⟨_, _, _, rfl, rP.ext e6A, rT, rS.ext e6A⟩
      simp only [next_push] at sA
      simp [-storeA_ptr, z2, f3, setSeg, sA, lA]
      refine (quad45 L.p eA.wf (i := 0) (k := 1) mA (by simp) (by decide) (by decide)).mono ?_
      rintro r HB ⟨⟨w, rfl, hq, hqn⟩, eB⟩
      rw [cut_quadM z1 z2] at hq hqn ⊢
      simp
      refine (convex48 N h53 h48 eB.wf (((rP.ext e6A).ext eB).sl pairc_len) (by simp)).mono ?_
      rintro _ HC ⟨rfl, eC⟩
      cases hcv : conv4 a b c d with
      | false =>
        have hp : ¬ convP [a, b, c, d] := fun h => by rw [conv4_iff.2 h] at hcv; cases hcv
        obtain ⟨gs, es⟩ := push_new eC.wf (.cells [.int .i64 0, .int .i64 1, .int .i64 0, .int .i64 2, .int .i64 0, .int .i64 3, .int .i64 1, .int .i64 2, .int .i64 2, .int .i64 3])
        have gA' := es.keep _ _ ((eB.trans eC).keep _ _ gA)
        obtain ⟨HE, sE, gE, fE⟩ := store_cell (o := H8.next + 1) (off := 2) (x := .slc HC.next 0 5 2 5 true) es.wf (by rw [es.floor, (eB.trans eC).floor, eA.floor, e9.floor]; have := e8.wf.1; omega) gA' (by simp) rfl
        have e6E : Ext H6 HE := ext_fr e46.wf ((e6A.trans (eB.trans eC)).trans es) fE (fun p hp => by have := e7.next; have := e8.next; simp at hp; omega)
        have lE : loadA HE (some 3) (.ptr (H8.next + 1) 0) = some (.agg [.slc H4.next 0 4 2 4 true, .slc H8.next 0 2 3 2 true, .slc HC.next 0 5 2 5 true]) := load_agg gE rfl
        have rTE : Rw 3 tric HE (.slc H8.next 0 cutT.length 3 cutT.length true) cutT := ((rT.ext (eB.trans eC)).ext es).fr fE (fun o ho => by cases ho; simp)
        have rSE : Rw 2 pairc HE (.slc HC.next 0 cutC.length 2 cutC.length true) cutC := (rw_lits (xs := cutC) pairc_len gs).fr fE (fun o ho => by
          cases ho
          have h1 := ((eB.trans eC)).next
          have h2 : HA.next = H8.next + 1 + 1 := nA
          simp
          omega)
        have mE : Msh HE (.agg [.slc H4.next 0 4 2 4 true, .slc H8.next 0 2 3 2 true, .slc HC.next 0 5 2 5 true]) [a, b, c, d] cutT cutC := ⟨_, _, _, rfl, rP.ext e6E, rTE, rSE⟩
        simp [-storeA_ptr, hp, f2', setSeg, sE, lE]
        refine (quad45 L.p fE.wf (i := 0) (k := 1) mE (by simp) (by decide) (by decide)).mono ?_
        rintro rF HF ⟨⟨wF, rfl, _, _⟩, eF⟩
        rw [cut_noneM z1 z2]
        simp
        refine (known44 L eF.wf).mono ?_
        rintro _ _ ⟨rfl, _⟩
        simp
      | true =>
        have hp : convP [a, b, c, d] := conv4_iff.1 hcv
        obtain ⟨hw1, _⟩ := hq _ (by rw [hcv]; rfl)
        obtain ⟨g1', e1'⟩ := push_new eC.wf (.cells ([(0 : Int), 1, 2, 3].flatMap i64c))
        have l1' : Ints (HC.push (.cells ([(0 : Int), 1, 2, 3].flatMap i64c))) (.slc HC.next 0 4 1 4 true) [0, 1, 2, 3] := (rw_lits (xs := [(0 : Int), 1, 2, 3]) i64c_len g1').sl i64c_len
        simp [hp, setSeg]
        refine (sameI32 L.h32 (((hw1.ext eC).ext e1').sl i64c_len) l1' (by simp)).mono ?_
        rintro _ HD ⟨rfl, hHD⟩
        have hHD' : HC.push (.cells ([(0 : Int), 1, 2, 3].flatMap i64c)) = HD := hHD.symm
        rw [hHD'] at e1'
        clear hHD hHD' l1' g1'
        obtain ⟨gs, es⟩ := push_new e1'.wf (.cells [.int .i64 0, .int .i64 1, .int .i64 0, .int .i64 2, .int .i64 0, .int .i64 3, .int .i64 1, .int .i64 2, .int .i64 2, .int .i64 3])
        have gA' := es.keep _ _ (((eB.trans eC).trans e1').keep _ _ gA)
        obtain ⟨HE, sE, gE, fE⟩ := store_cell (o := H8.next + 1) (off := 2) (x := .slc HD.next 0 5 2 5 true) es.wf (by rw [es.floor, ((eB.trans eC).trans e1').floor, eA.floor, e9.floor]; have := e8.wf.1; omega) gA' (by simp) rfl
        have e6E : Ext H6 HE := ext_fr e46.wf ((e6A.trans ((eB.trans eC).trans e1')).trans es) fE (fun p hp => by have := e7.next; have := e8.next; simp at hp; omega)
        have lE : loadA HE (some 3) (.ptr (H8.next + 1) 0) = some (.agg [.slc H4.next 0 4 2 4 true, .slc H8.next 0 2 3 2 true, .slc HD.next 0 5 2 5 true]) := load_agg gE rfl
        have rTE : Rw 3 tric HE (.slc H8.next 0 cutT.length 3 cutT.length true) cutT := ((rT.ext ((eB.trans eC).trans e1')).ext es).fr fE (fun o ho => by cases ho; simp)
        have rSE : Rw 2 pairc HE (.slc HD.next 0 cutC.length 2 cutC.length true) cutC := (rw_lits (xs := cutC) pairc_len gs).fr fE (fun o ho => by
          cases ho
          have h1 := (((eB.trans eC).trans e1')).next
          have h2 : HA.next = H8.next + 1 + 1 := nA
          simp
          omega)
        have mE : Msh HE (.agg [.slc H4.next 0 4 2 4 true, .slc H8.next 0 2 3 2 true, .slc HD.next 0 5 2 5 true]) [a, b, c, d] cutT cutC := ⟨_, _, _, rfl, rP.ext e6E, rTE, rSE⟩
        simp [-storeA_ptr, f2', setSeg, sE, lE]
        refine (quad45 L.p fE.wf (i := 0) (k := 1) mE (by simp) (by decide) (by decide)).mono ?_
        rintro rF HF ⟨⟨wF, rfl, _, _⟩, eF⟩
        rw [cut_noneM z1 z2]
        obtain ⟨gG, eG⟩ := push_new eF.wf (.cells [.int .i64 0, .int .i64 1, .int .i64 3, .int .i64 1, .int .i64 2, .int .i64 3])
        obtain ⟨HH, sH, gH, eH, nH⟩ := store_new eG.wf (z := [.nils, .nils, .nils]) (n := 3) (x := .agg [.slc H4.next 0 4 2 4 true, .slc HF.next 0 2 3 2 true, .slc (H4.next + 1) 0 4 2 4 true]) (cs := [.slc H4.next 0 4 2 4 true, .slc HF.next 0 2 3 2 true, .slc (H4.next + 1) 0 4 2 4 true]) rfl rfl rfl rfl
        have lH : loadA HH (some 3) (.ptr (HF.next + 1) 0) = some (.agg [.slc H4.next 0 4 2 4 true, .slc HF.next 0 2 3 2 true, .slc (H4.next + 1) 0 4 2 4 true]) := load_agg gH rfl
        have e6H := e6E.trans (eF.trans (eG.trans eH))
        have rTH := (rw_lits (xs := cutU) tric_len gG).ext eH
        have mH : Msh HH (.agg [.slc H4.next 0 4 2 4 true, .slc HF.next 0 2 3 2 true, .slc (H4.next + 1) 0 4 2 4 true]) [a, b, c, d] cutU cutS := ⟨_, _, _, rfl, rP.ext e6H, rTH, rS.ext e6H⟩
        simp only [next_push] at sH
        simp [-storeA_ptr, f3, setSeg, sH, lH]
        refine (quad45 L.p eH.wf (i := 0) (k := 1) mH (by simp) (by decide) (by decide)).mono ?_
        rintro rI HI ⟨⟨wI, rfl, hqI, _⟩, eI⟩
        obtain ⟨hwI, _⟩ := hqI _ (cutU_quadM hcv)
        rw [cutU_quadM hcv]
        obtain ⟨gJ, eJ⟩ := push_new eI.wf (.cells ([(0 : Int), 1, 2, 3].flatMap i64c))
        have lJ : Ints (HI.push (.cells ([(0 : Int), 1, 2, 3].flatMap i64c))) (.slc HI.next 0 4 1 4 true) [0, 1, 2, 3] := (rw_lits (xs := [(0 : Int), 1, 2, 3]) i64c_len gJ).sl i64c_len
        simp [setSeg]
        refine (sameI32 L.h32 ((hwI.ext eJ).sl i64c_len) lJ (by simp)).mono ?_
        rintro _ _ ⟨rfl, rfl⟩
        simp
        refine (known44 L eJ.wf).mono ?_
        rintro _ _ ⟨rfl, _⟩
        simp
    · simp [z2]
      refine (known44 L e8.wf).mono ?_
      rintro _ _ ⟨rfl, _⟩
      simp
  · simp [z1]
    refine (known44 L e7.wf).mono ?_
    rintro _ _ ⟨rfl, _⟩
    simp
end
end Go.Proofs.Ytcepchipgjpkhaa
