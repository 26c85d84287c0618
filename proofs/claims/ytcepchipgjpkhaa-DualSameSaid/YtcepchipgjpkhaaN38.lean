/- A mesh copied; rows written in place. No claim by itself. -/
import Derived.Test.YtcepchipgjpkhaaNG
import Derived.Test.YtcepchipgjpkhaaNF
namespace Go.Proofs.Ytcepchipgjpkhaa
open Go Go.AI
section
variable {α : Type} {e : Nat} {enc : α → List AV} {H H' H0 : Heap} {v : AV} {xs : List α}
theorem flat_set (hn : ∀ x, (enc x).length = e) {i : Nat} (hi : i < xs.length) (y : α) : setSeg (xs.flatMap enc) (i * e) (enc y) = (xs.set i y).flatMap enc := by
  unfold setSeg
  rw [flat_take hn, hn y, show i * e + e = (i + 1) * e by rw [Nat.add_mul, Nat.one_mul], flat_drop hn, List.set_eq_take_append_cons_drop, if_pos hi]
  simp
theorem mine_put (hn : ∀ x, (enc x).length = e) (h1 : ∀ x, allOne (enc x) = true) (hw : H.Wf) (h : Mine e enc H0 H v xs) {i : Nat} (hi : i < xs.length) (y : α) :
    ∃ p H', indexAddrV e v (.int .i64 i) = some p ∧ storeA H e p (.agg (enc y)) = some (undefA, H') ∧ Mine e enc H0 H' v (xs.set i y) ∧ Fr (rowObj v).toList H H' := by
  rcases h.ow with ⟨_, rfl⟩ | ⟨o, rfl, hne, hg, hf⟩
  · simp at hi
  · have hlt := hw.lt hg
    have hb : Nat.beq (enc y).length e = true := by rw [hn y]; exact Nat.beq_refl e
    have hfl : Nat.ble H.floor o = true := Nat.ble_eq_true_of_le hf
    have hlen : (xs.flatMap enc).length = xs.length * e := flat_len hn xs
    have hie : i * e + e ≤ xs.length * e := by
      have : (i + 1) * e ≤ xs.length * e := Nat.mul_le_mul_right e hi
      rw [Nat.add_mul, Nat.one_mul] at this
      exact this
    have hle : Nat.ble (0 + i * e + (enc y).length) (xs.flatMap enc).length = true := Nat.ble_eq_true_of_le (by rw [hn y, hlen]; omega)
    refine ⟨.ptr o (0 + i * e), H.set o (.cells ((xs.set i y).flatMap enc)), ?_, ?_, ⟨.inr ⟨o, by rw [List.length_set], by simpa using hne, get_setH.trans (if_pos rfl), hf⟩, h.new⟩, Fr.set hw hlt _⟩
    · rw [indexAddrV_slc, if_pos ⟨by omega, by omega, rfl⟩, Int.toNat_natCast]
    · rw [storeA_ptr, show AV.cells (.agg (enc y)) = enc y from rfl, hb, cond_true]
      have hs : setSeg (xs.flatMap enc) (0 + i * e) (enc y) = (xs.set i y).flatMap enc := by rw [Nat.zero_add]; exact flat_set hn hi y
      simp only [Heap.writeSeg, hfl, cond_true, cellsAt_get hg, hle, h1 y, Bool.and_self, hs, Option.map_some]
end
section
variable {FT : Nat → Option FnD} {H H' : Heap}
/-- A copy of a mesh, all its own. -/
structure Cpy (H H' : Heap) (P : List (Int × Int)) (T : List Tri) (S : List (Int × Int)) (r : AV) : Prop where
  ex : ∃ v0 v1 v2, r = .agg [v0, v1, v2] ∧ Mine 2 pairc H H' v0 P ∧ Mine 3 tric H H' v1 T ∧ Mine 2 pairc H H' v2 S ∧ ∀ p, rowObj v0 = some p → rowObj v1 ≠ some p ∧ rowObj v2 ≠ some p
theorem copy54 (h54 : FT 54 = some (.code A54)) (hw : H.Wf) {x : AV} {P : List (Int × Int)} {T : List Tri} {S : List (Int × Int)} (hm : Msh H x P T S) (lP : P.length ≤ 1000000) (lT : T.length ≤ 1000000) (lS : S.length ≤ 1000000) :
    Cp FT 54 [x] H (fun r H' => Cpy H H' P T S r ∧ Ext H H') := by
  obtain ⟨vP, vT, vS, rfl, rP, rT, rS⟩ := hm.ex
  refine Cp_code A54 h54 rfl ?_
  obtain ⟨g1, e1⟩ := push_new hw (.cells [vP, vT, vS])
  have hall : allOne [vP, vT, vS] = true := by simp [allOne, rP.one.1, rT.one.1, rS.one.1]
  generalize hH1 : H.push (.cells [vP, vT, vS]) = H1 at g1 e1
  have n1 : H1.next = H.next + 1 := by rw [← hH1]; rfl
  obtain ⟨g2, e2⟩ := push_new e1.wf (.cells [.nils, .nils, .nils])
  generalize hH2 : H1.push (.cells [.nils, .nils, .nils]) = H2 at g2 e2
  have n2 : H2.next = H1.next + 1 := by rw [← hH2]; rfl
  obtain ⟨H3, st3, g3, e3, n3⟩ := store_new e2.wf (z := [.nils, .nils, .nils]) (n := 3) (x := .agg [.nils, .nils, .nils]) (cs := [.nils, .nils, .nils]) rfl rfl rfl rfl
  have x3 := e1.trans (e2.trans e3)
  have k2 := e3.keep _ _ g2
  have k1 := e3.keep _ _ (e2.keep _ _ g1)
  have fo : ∀ {H4 : Heap} {o : Nat}, Ext H H4 → H.next ≤ o → H4.floor ≤ o := fun e h => by rw [e.floor]; exact Nat.le_trans hw.1 h
  obtain ⟨v0, H4, H5, a1, a2, a3, a4, a5⟩ := app_nil pairc_len (by omega) pairc_one (j := 0) e3.wf g3 (fo x3 (by omega)) (by simp) (rP.ext x3) (bytes := 16) (by omega)
  have x5 := ext_fr hw x3 a5 (fun p hp => by simp at hp; omega)
  obtain ⟨v1, H6, H7, b1, b2, b3, b4, b5⟩ := app_nil tric_len (by omega) tric_one (j := 1) a5.wf a3 (fo x5 (by omega)) (by simp) (rT.ext x5) (bytes := 24) (by omega)
  have x7 := ext_fr hw x5 b5 (fun p hp => by simp at hp; omega)
  obtain ⟨v2, H8, H9, c1, c2, c3, c4, c5⟩ := app_nil pairc_len (by omega) pairc_one (j := 2) b5.wf b3 (fo x7 (by omega)) (by simp) (rS.ext x7) (bytes := 16) (by omega)
  have x9 := ext_fr hw x7 c5 (fun p hp => by simp at hp; omega)
  have q1 : ∀ {Hx : Heap}, Hx.get H.next = some (.cells [vP, vT, vS]) → loadA Hx none (.ptr H.next 0) = some vP ∧ loadA Hx none (.ptr H.next 1) = some vT ∧ loadA Hx none (.ptr H.next 2) = some vS := fun h => ⟨load_get h rfl, load_get h rfl, load_get h rfl⟩
  have hne : H.next ∉ [H2.next] := by simp; omega
  have hne2 : H1.next ∉ [H2.next] := by simp; omega
  obtain ⟨p0, _, _⟩ := q1 k1
  obtain ⟨_, p1, _⟩ := q1 (a5.keep _ _ hne k1)
  obtain ⟨_, _, p2⟩ := q1 (b5.keep _ _ hne (a5.keep _ _ hne k1))
  have s0 : loadA H3 none (.ptr H2.next 0) = some .nils := load_get g3 rfl
  have s1 : loadA H5 none (.ptr H2.next 1) = some .nils := load_get a3 rfl
  have s2 : loadA H7 none (.ptr H2.next 2) = some .nils := load_get b3 rfl
  have s3 : loadA H9 (some 3) (.ptr H2.next 0) = some (.agg [v0, v1, v2]) := load_agg c3 rfl
  have m0 := c4
  have w0 := (a4.fr b5 (fun p hp => by have := a4.new p hp; simp; omega)).fr c5 (fun p hp => by have := a4.new p hp; simp; omega)
  have w1 := b4.fr c5 (fun p hp => by have := b4.new p hp; have := a5.next; simp; omega)
  have o0 : allOne [v0, v1, v2] = true := by simp [allOne, (a4.ow.rw pairc_len).one.1, (b4.ow.rw tric_len).one.1, (c4.ow.rw pairc_len).one.1]
  obtain ⟨HA, t1, t2, t3⟩ := store_whole (n := 3) (x := .agg [v0, v1, v2]) c5.wf rfl rfl (fo x9 (by omega)) (c5.keep _ _ hne2 (b5.keep _ _ hne2 (a5.keep _ _ hne2 k2))) rfl o0
  have xA := ext_fr hw x9 t3 (fun p hp => by simp at hp; omega)
  have t2' := cellsAt_get t2
  have hA3 := x3.next
  have hA5 := a5.next
  have hA7 := b5.next
  simp [-storeA_ptr, A54, hall, hH1, hH2, st3, s0, p0, a1, a2, s1, p1, b1, b2, s2, p2, c1, c2, s3, t1, resultsA, resultA, t2', partA, seg, packA]
  refine ⟨⟨v0, v1, v2, rfl, ?_, ?_, ?_, ?_⟩, xA⟩
  · exact ⟨(w0.fr t3 (fun p hp => by have := a4.new p hp; simp; omega)).ow, fun p hp => by have := a4.new p hp; omega⟩
  · exact ⟨(w1.fr t3 (fun p hp => by have := b4.new p hp; simp; omega)).ow, fun p hp => by have := b4.new p hp; omega⟩
  · exact ⟨(c4.fr t3 (fun p hp => by have := c4.new p hp; simp; omega)).ow, fun p hp => by have := c4.new p hp; omega⟩
  · intro p hp
    have h5 := a4.lt a5.wf hp
    exact ⟨fun h => by have := b4.new p h; omega, fun h => by have := c4.new p h; omega⟩
end
end Go.Proofs.Ytcepchipgjpkhaa
