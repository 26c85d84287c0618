/- The table with known() told; an input copied. No claim by itself. -/
import Derived.Test.YtmgaaieofdjfdaaDoorK
import Derived.Test.YtmgaaieofdjfdaaDoorD9
namespace Go.Proofs.YtmgaaieofdjfdaaDoor
open Go Go.AI
def FK (f : Nat) : Option FnD := if f = 11 then some (.ext (told (.bool true))) else FE f
theorem known_told : (callA FE 3000 11 [] ⟨.leaf, 0, 0⟩).map Prod.fst = some (.bool true) := by
  have h : ((callA FE 3000 11 [] ⟨.leaf, 0, 0⟩).map fun r => match r.1 with | .bool b => b | _ => false) = some true := known_true
  generalize callA FE 3000 11 [] ⟨.leaf, 0, 0⟩ = c at h
  cases c with
  | none => cases h
  | some r =>
    obtain ⟨v, H'⟩ := r
    cases v with
    | bool b => simp at h; simp [h]
    | _ => simp at h
theorem FK_ok : TableOk Tryd.prog GT FK := by
  intro f
  by_cases h : f = 11
  · subst h
    refine ⟨fun af e => by simp [FK] at e, fun g e => ?_⟩
    simp [FK] at e; subst e
    exact told_ok FE_ok known_told rfl
  · have : FK f = FE f := by simp [FK, h]
    rw [this]; exact FE_ok f
theorem hk11 {H : Heap} {K : AV → Heap → Prop} (k : K (.bool true) H) : Cp FK 11 [] H K := Cp_ext (told (.bool true)) rfl rfl k
/-- An input in memory, its slices whole. -/
structure PolA (H : Heap) (a b c : AV) (P L I : List (Int × Int)) : Prop where
  pol : Pol H a b c P L I
  sp : Sw 2 pairc H a P
  sl : Sw 2 pairc H b L
  si : Sw 2 pairc H c I
theorem Sw.ext' {H H' : Heap} {v : AV} {xs : List (Int × Int)} (h : Sw 2 pairc H v xs) (k : Ext H H') : Sw 2 pairc H' v xs := by
  rcases h with h | ⟨o, off, lo, ex, rfl, hr⟩
  · exact .inl h
  · refine .inr ⟨o, off, lo, ex, rfl, ?_⟩
    unfold Heap.readSeg at hr ⊢
    cases hc : H.cellsAt o with
    | none => rw [hc] at hr; cases hr
    | some cs => rw [k.cells hc]; rw [hc] at hr; exact hr
theorem Sw.frw {S : List Nat} {H H' : Heap} {v : AV} {xs : List (Int × Int)} (h : Sw 2 pairc H v xs) (k : Fr S H H') (hn : ∀ o, rowObj v = some o → o ∉ S) : Sw 2 pairc H' v xs := by
  rcases h with h | ⟨o, off, lo, ex, rfl, hr⟩
  · exact .inl h
  · refine .inr ⟨o, off, lo, ex, rfl, ?_⟩
    unfold Heap.readSeg at hr ⊢
    cases hc : H.cellsAt o with
    | none => rw [hc] at hr; cases hr
    | some cs => rw [cellsAt_get (k.keep _ _ (hn _ rfl) (get_cellsAt hc))]; rw [hc] at hr; exact hr
section
variable {FT : Nat → Option FnD} {H : Heap}
def Cpy (H H' : Heap) (P L I : List (Int × Int)) (r : AV) : Prop := ∃ a b c, r = .agg [a, b, c] ∧ Mine 2 pairc H H' a P ∧ Mine 2 pairc H H' b L ∧ Mine 2 pairc H H' c I ∧ Ext H H'
theorem copy12 (h12 : FT 12 = some (.code A12)) (hw : H.Wf) {a b c : AV} {P L I : List (Int × Int)} (h : PolA H a b c P L I) (hP : P.length ≤ 100000) (hL : L.length ≤ 100000) (hI : I.length ≤ 100000) :
    Cp FT 12 [.agg [a, b, c]] H (fun r H' => Cpy H H' P L I r) := by
  refine Cp_code A12 h12 rfl ?_
  have hA : A12.results = [.cell 2 (some 3)] := rfl
  rw [hA]
  obtain ⟨g1, e1⟩ := push_new hw (.cells [a, b, c])
  obtain ⟨g2, e2⟩ := push_new e1.wf (.cells [.nils, .nils, .nils])
  have g1' := e2.keep _ _ g1
  have e12 := e1.trans e2
  have hn12 : ((H.push (.cells [a, b, c])).push (.cells [.nils, .nils, .nils])).next = H.next + 2 := rfl
  simp [A12, h.pol.one, -storeA_ptr]
  generalize hH2 : (H.push (.cells [a, b, c])).push (.cells [.nils, .nils, .nils]) = H2 at *
  have g2 : H2.get (H.next + 1) = some (.cells [.nils, .nils, .nils]) := g2
  obtain ⟨H3, s3, g3, e3, n3⟩ := store_new e12.wf (z := [.nils, .nils, .nils]) (n := 3) (x := .agg [.nils, .nils, .nils]) (cs := [.nils, .nils, .nils]) rfl rfl rfl rfl
  have e13 : Ext H H3 := e12.trans e3
  have g13 := e3.keep _ _ g1'
  have g23 := e3.keep _ _ g2
  have l0 : loadA H3 none (.ptr H2.next 0) = some .nils := load_get g3 rfl
  have la : loadA H3 none (.ptr H.next 0) = some a := load_get g13 rfl
  have hfl : H3.floor ≤ H2.next := by rw [e13.floor]; have := hw.1; omega
  have rlt : ∀ {v : AV} {xs : List (Int × Int)}, Pairs H v xs → ∀ o, rowObj v = some o → o < H.next := fun hv o q => hv.rowLt hw q
  -- the first
  obtain ⟨v1, H4, ap1, m1, f4, _⟩ := (Mine.nil (H0 := H3) (H := H3) (e := 2) (enc := pairc)).appS pairc_len (by omega) pairc_one e13.wf (Nat.le_refl _) (Sw.ext' h.sp e13) (bytes := 16) (by simp; omega)
  have f34 : Fr [H2.next] H3 H4 := f4.mono (by simp [rowObj])
  obtain ⟨o1, c1⟩ := m1.one'
  have g34 := f4.keep _ _ (by simp [rowObj]) g3
  obtain ⟨H5, s5, g5, f5⟩ := store_cell (x := v1) f4.wf (by rw [f4.floor]; exact hfl) g34 (off := 0) (by simp) o1
  have f35 : Fr [H2.next] H3 H5 := f34.trans e13.wf f5 (by simp)
  have m15 := m1.fr f5 (fun p q => by have := m1.new p q; simp; omega)
  have l1 : loadA H5 none (.ptr H2.next 1) = some .nils := load_get g5 rfl
  have lb : loadA H5 none (.ptr H.next 1) = some b := load_get (f35.keep _ _ (by simp; omega) g13) rfl
  have sl5 : Sw 2 pairc H5 b L := Sw.frw (Sw.ext' h.sl e13) f35 (fun o q => by have := rlt h.pol.l o q; simp; omega)
  have si5 : Sw 2 pairc H5 c I := Sw.frw (Sw.ext' h.si e13) f35 (fun o q => by have := rlt h.pol.i o q; simp; omega)
  -- the second
  obtain ⟨v2, H6, ap2, m2, f6, n6⟩ := (Mine.nil (H0 := H5) (H := H5) (e := 2) (enc := pairc)).appS pairc_len (by omega) pairc_one f5.wf (Nat.le_refl _) sl5 (bytes := 16) (by simp; omega)
  obtain ⟨o2, c2⟩ := m2.one'
  have g56 := f6.keep _ _ (by simp [rowObj]) g5
  have f36 : Fr [H2.next] H3 H6 := f35.trans e13.wf f6 (by simp [rowObj])
  obtain ⟨H7, s7, g7, f7⟩ := store_cell (x := v2) f6.wf (by rw [f36.floor]; exact hfl) g56 (off := 1) (by simp) o2
  have f37 : Fr [H2.next] H3 H7 := f36.trans e13.wf f7 (by simp)
  have m17 := (m15.fr f6 (by simp [rowObj])).fr f7 (fun p q => by have := m1.new p q; simp; omega)
  have m27 := m2.fr f7 (fun p q => by have := m2.new p q; have := f35.next; simp; omega)
  have l2 : loadA H7 none (.ptr H2.next 2) = some .nils := load_get g7 rfl
  have lc : loadA H7 none (.ptr H.next 2) = some c := load_get (f37.keep _ _ (by simp; omega) g13) rfl
  have si7 : Sw 2 pairc H7 c I := Sw.frw (Sw.ext' h.si e13) f37 (fun o q => by have := rlt h.pol.i o q; simp; omega)
  -- the third
  obtain ⟨v3, H8, ap3, m3, f8, n8⟩ := (Mine.nil (H0 := H7) (H := H7) (e := 2) (enc := pairc)).appS pairc_len (by omega) pairc_one f7.wf (Nat.le_refl _) si7 (bytes := 16) (by simp; omega)
  obtain ⟨o3, c3⟩ := m3.one'
  have g78 := f8.keep _ _ (by simp [rowObj]) g7
  have f38 : Fr [H2.next] H3 H8 := f37.trans e13.wf f8 (by simp [rowObj])
  obtain ⟨H9, s9, g9, f9⟩ := store_cell (x := v3) f8.wf (by rw [f38.floor]; exact hfl) g78 (off := 2) (by simp) o3
  have f39 : Fr [H2.next] H3 H9 := f38.trans e13.wf f9 (by simp)
  have m19 := (m17.fr f8 (by simp [rowObj])).fr f9 (fun p q => by have := m1.new p q; simp; omega)
  have m29 := (m27.fr f8 (by simp [rowObj])).fr f9 (fun p q => by have := m2.new p q; have := f35.next; simp; omega)
  have m39 := m3.fr f9 (fun p q => by have := m3.new p q; have := f37.next; simp; omega)
  have l9 : loadA H9 (some 3) (.ptr H2.next 0) = some (.agg [v1, v2, v3]) := load_agg g9 (by simp [seg])
  have g29 := f39.keep _ _ (by simp; omega) g23
  obtain ⟨H10, s10, g10, f10⟩ := store_whole (n := 3) (x := .agg [v1, v2, v3]) f9.wf rfl rfl (by rw [f39.floor, e13.floor]; have := hw.1; omega) g29 rfl (by simp [allOne_of o1, allOne_of o2, allOne_of o3])
  have nx3 : H.next + 2 ≤ H3.next := by omega
  have m110 := m19.fr f10 (fun p q => by have := m1.new p q; simp; omega)
  have m210 := m29.fr f10 (fun p q => by have := m2.new p q; have := f35.next; simp; omega)
  have m310 := m39.fr f10 (fun p q => by have := m3.new p q; have := f37.next; simp; omega)
  simp only [List.nil_append] at m110 m210 m310
  rw [show H.next + 1 + 1 = H2.next from by omega]

  simp [s3, l0, la, ap1, s5, l1, lb, ap2, s7, l2, lc, ap3, s9, l9, s10, resultsA, resultA, cellsAt_get g10, partA, seg, packA]
  have fin : Fr [] H H10 := (((e13.fr (S := [])).trans hw f39 (by simp; omega)).trans hw f10 (by simp))
  exact ⟨v1, v2, v3, rfl, m110.base (by omega), m210.base (by have := f35.next; omega), m310.base (by have := f37.next; omega), fin.ext⟩
end
end Go.Proofs.YtmgaaieofdjfdaaDoor
