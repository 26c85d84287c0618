/- The statement DualQuads, walked. No claim by itself. -/
import Derived.Test.YtcepchipgjpkhaaN41
namespace Go.Proofs.Ytcepchipgjpkhaa
open Go Go.AI
section
variable {FT : Nat → Option FnD} {H H' : Heap}
theorem quads12 (L : LawM FT) (R : RefT FT) (N : NumT FT) (h42 : FT 42 = some (.code A42)) (h48 : FT 48 = some (.code A48)) (h53 : FT 53 = some (.code A53)) (h12 : FT 12 = some (.code A12)) (hw : H.Wf) {x : AV} {i k : Int} {P : List (Int × Int)} {T : List Tri} {S : List (Int × Int)} (hm : Msh H x P T S) :
    Cp FT 12 [x, .int .i64 i, .int .i64 k] H (fun r _ => r = .bool true) := by
  obtain ⟨vP, vT, vS, rfl, rP, rT, rS⟩ := hm.ex
  refine Cp_code A12 h12 rfl ?_
  rw [body12]
  have hkc := @quad_c FT
  have hke := @quad_e FT L N h48 h53
  generalize k12c = kc at hkc ⊢
  generalize k12e = ke at hke ⊢
  obtain ⟨g1, e1⟩ := push_new hw (.cells [vP, vT, vS])
  have hall : allOne [vP, vT, vS] = true := by simp [allOne, rP.one.1, rT.one.1, rS.one.1]
  generalize hH1 : H.push (.cells [vP, vT, vS]) = H1 at g1 e1
  have l1 : loadA H1 (some 3) (.ptr H.next 0) = some (.agg [vP, vT, vS]) := load_agg g1 rfl
  have ld : ∀ {H2 : Heap}, Ext H1 H2 → loadA H2 (some 3) (.ptr H.next 0) = some (.agg [vP, vT, vS]) ∧ loadA H2 none (.ptr H.next 1) = some vT := fun e => ⟨load_ext l1 e, load_get (e.keep _ _ g1) rfl⟩
  simp [A12, putAt, hall, hH1, l1]
  refine (many42 h42 e1.wf (hm.ext e1)).mono ?_
  rintro _ H2 ⟨rfl, e2⟩
  obtain ⟨l2, _⟩ := ld e2
  cases hmy : manyM P T S with
  | true =>
    simp
    refine (known44 L e2.wf).mono ?_
    rintro _ _ ⟨rfl, _⟩
    simp
  | false =>
    obtain ⟨lP, lT, lS⟩ := manyM_no hmy
    have e12 := e1.trans e2
    simp [l2]
    refine (check43 R e2.wf (hm.ext e12) (by omega) (by omega) (by omega)).mono ?_
    rintro _ H3 ⟨rfl, e3⟩
    have x3 := e2.trans e3
    obtain ⟨l3, _⟩ := ld x3
    by_cases ok : MeshOk P T S
    · rw [chkM_ok ok]
      simp [l3]
      refine (quad45 L.p x3.wf (i := i) (k := k) (hm.ext (e1.trans x3)) (by omega) (by omega) (by omega)).mono ?_
      rintro _ H4 ⟨⟨v7, rfl, h7, n7⟩, e4⟩
      have x4 := x3.trans e4
      obtain ⟨l4, _⟩ := ld x4
      simp [l4]
      refine (quad45 L.p x4.wf (i := k) (k := i) (hm.ext (e1.trans x4)) (by omega) (by omega) (by omega)).mono ?_
      rintro _ H5 ⟨⟨v9, rfl, h9, n9⟩, e5⟩
      rw [quadM_sym P T S i k] at h9 n9 ⊢
      have x5 := x4.trans e5
      obtain ⟨_, f5⟩ := ld x5
      cases hq : quadM P T S i k with
      | none =>
        have q7 := n7 hq
        have q9 := n9 hq
        subst q7 q9
        simp
        refine (sameI32 L.h32 (a := []) (b := []) (.inl ⟨rfl, rfl⟩) (.inl ⟨rfl, rfl⟩) (by simp)).mono ?_
        rintro _ _ ⟨rfl, rfl⟩
        simp
        refine (known44 L x5.wf).mono ?_
        rintro _ _ ⟨rfl, _⟩
        simp
      | some f =>
        obtain ⟨r7, _⟩ := h7 _ hq
        obtain ⟨r9, _⟩ := h9 _ hq
        have r75 := (r7.ext e5).sl i64c_len
        obtain ⟨⟨⟨i0, i1⟩, ⟨k0, k1⟩, ik⟩, t, u, a, b, c, d, ht, hu, hf, qi⟩ := quadM_is hq
        obtain ⟨i', rfl⟩ : ∃ i' : Nat, i = i' := ⟨i.toNat, by omega⟩
        obtain ⟨k', rfl⟩ : ∃ k' : Nat, k = k' := ⟨k.toNat, by omega⟩
        rw [Int.toNat_natCast] at ht hu
        simp
        refine (sameI32 L.h32 r75 (r9.sl i64c_len) (by rw [hf]; simp)).mono ?_
        rintro _ _ ⟨rfl, rfl⟩
        have hl4 : (f.length : Int) = 4 := by rw [hf]; rfl
        have c1 : ((i' : Int) < 0) = False := eq_false (by omega)
        have c2 : ((k' : Int) < 0) = False := eq_false (by omega)
        have c3 : ¬ T.length ≤ i' := by omega
        have c4 : ¬ T.length ≤ k' := by omega
        have rT5 := (rT.ext e1).ext x5
        have rP5 := (rP.ext e1).ext x5
        simp [r75.len, hl4, f5, rT5.len, ik, c1, c2, c3, c4]
        refine (hkc x5.wf (o3 := H.next) (vP := vP) (vT := vT) (vS := vS) (P := P) (f := f) (a0 := a) (i := i') (k := k') (by omega) (x5.keep _ _ g1) (rP5.sl pairc_len) r75 (by rw [hf]; rfl) (by rw [hf]; rfl) (fun y hy => ?_) (by simp)).mono ?_
        · rw [hf] at hy
          have hi := qi.ins
          have hl := qi.least
          simp only [List.mem_cons, List.not_mem_nil, or_false] at hy
          rcases hy with rfl | rfl | rfl | rfl
          · exact ⟨hi.1, by omega⟩
          · exact ⟨hi.2.1, by omega⟩
          · exact ⟨hi.2.2.1, by omega⟩
          · exact ⟨hi.2.2.2, by omega⟩
        · rintro _ τ6 H6 ⟨rfl, e6, v11, m11, w⟩
          rw [hf] at m11
          have x6 := x5.trans e6
          simp
          exact hke e6.wf (o3 := H.next) (i := i') (k := k') (x6.keep _ _ g1) ((rP5.ext e6).sl pairc_len) ((rT5.ext e6).sl tric_len) (m11.sl pairc_len) ht hu (ok.tri t (List.mem_of_getElem? ht)) (ok.tri u (List.mem_of_getElem? hu)) qi.conv qi.area w
    · rw [chkM_no ok]
      simp
      refine (known44 L x3.wf).mono ?_
      rintro _ _ ⟨rfl, _⟩
      simp
end
end Go.Proofs.Ytcepchipgjpkhaa
