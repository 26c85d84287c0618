/- The statement DualSame, walked. No claim by itself. -/
import Derived.Test.YtcepchipgjpkhaaN39
import Derived.Test.YtcepchipgjpkhaaN36
namespace Go.Proofs.Ytcepchipgjpkhaa
open Go Go.AI
section
variable {FT : Nat → Option FnD} {H H' : Heap}
def k15r : ACode := subAt [1, 1, 1, 1] A15.body
def k15e : ACode := subAt [1, 1] k15r
theorem body15 : A15.body = putAt [1, 1, 1] A15.body (.seq k15a k15r) := rfl
theorem body15r : k15r = putAt [1] k15r (.seq k15b k15e) := rfl
/-- What is asked at the end. -/
theorem same_e (L : LawM FT) (R : RefT FT) {H1 : Heap} (hw : H1.Wf) {o1 o3 o5 : Nat} {x1 x3 x5 : List AV} {P S : List (Int × Int)} {T : List Tri} (ok : MeshOk P T S) (lP : P.length ≤ 40) (lT : T.length ≤ 60) (lS : S.length ≤ 80) (g1 : ∀ {H2 : Heap}, Ext H1 H2 → loadA H2 (some 3) (.ptr o1 0) = some (.agg x1)) (g3 : ∀ {H2 : Heap}, Ext H1 H2 → loadA H2 (some 3) (.ptr o3 0) = some (.agg x3)) (g5 : ∀ {H2 : Heap}, Ext H1 H2 → loadA H2 (some 3) (.ptr o5 0) = some (.agg x5)) (m1 : Msh H1 (.agg x1) P T S) (m3 : Msh H1 (.agg x3) (P.map spin) T S) (m5 : Msh H1 (.agg x5) P T (layM S (edsM T))) {τ0 : Env}
    (w : Tm τ0 [(1, .ptr o1 0), (3, .ptr o3 0), (5, .ptr o5 0)]) :
    Wp FT k15e τ0 H1 (finQ A15.results fun r _ => r = .bool true) := by
  simp at w
  obtain ⟨w1, w3, w5⟩ := w
  have hl5 : (layM S (edsM T)).length ≤ 1000 := by have := layA_len S (edsM T); rw [edsM_len] at this; omega
  have lm : (P.map spin).length ≤ 1000 := by rw [List.length_map]; omega
  have a3 := g3 (Ext.refl hw)
  simp [k15e, k15r, subAt, A15, w3, a3]
  refine (check43 R hw m3 (by omega) (by omega) (by omega)).mono ?_
  rintro _ H2 ⟨rfl, e2⟩
  by_cases k : MeshOk (P.map spin) T S
  · rw [chkM_ok k]
    have a1 := g1 e2
    simp [w1, a1]
    refine (pairs51 L.p e2.wf (m1.ext e2) (by omega) (by omega) (by omega)).mono ?_
    rintro _ H3 ⟨⟨hy, _⟩, e3⟩
    obtain ⟨v9, rfl, r9, _⟩ := hy ok
    have x3' := e2.trans e3
    have a3' := g3 x3'
    simp [w3, a3']
    refine (pairs51 L.p x3'.wf (m3.ext x3') (by omega) (by omega) (by omega)).mono ?_
    rintro _ H4 ⟨⟨hy4, _⟩, e4⟩
    obtain ⟨v11, rfl, r11, _⟩ := hy4 k
    rw [prs_spin ok k] at r11
    have x4 := x3'.trans e4
    have a5 := g5 x4
    simp [w5, a5]
    refine (pairs51 L.p x4.wf (m5.ext x4) (by omega) (by omega) (by omega)).mono ?_
    rintro _ H5 ⟨⟨hy5, _⟩, e5⟩
    obtain ⟨v13, rfl, r13, _⟩ := hy5 (mesh_full ok)
    rw [prs_full] at r13
    have hlen := prs_len ok
    have x5' := x4.trans e5
    simp
    refine (sameS26 L.h26 (((r9.ext e4).ext e5).sl pairc_len) ((r11.ext e5).sl pairc_len) (by omega)).mono ?_
    rintro _ _ ⟨rfl, rfl⟩
    simp [r13.len]
    refine (known44 L x5'.wf).mono ?_
    rintro _ _ ⟨rfl, _⟩
    simp
  · rw [chkM_no k]
    simp
    refine (known44 L e2.wf).mono ?_
    rintro _ _ ⟨rfl, _⟩
    simp
theorem same15 (L : LawM FT) (R : RefT FT) (h40 : FT 40 = some (.code A40)) (h42 : FT 42 = some (.code A42)) (h54 : FT 54 = some (.code A54)) (h15 : FT 15 = some (.code A15)) (hw : H.Wf) {x : AV} {P : List (Int × Int)} {T : List Tri} {S : List (Int × Int)} (hm : Msh H x P T S) :
    Cp FT 15 [x] H (fun r _ => r = .bool true) := by
  obtain ⟨vP, vT, vS, rfl, rP, rT, rS⟩ := hm.ex
  refine Cp_code A15 h15 rfl ?_
  rw [body15, body15r]
  have hka := @same_a FT
  have hkb := @same_b FT R h40
  have hke := @same_e FT L R
  generalize k15a = ka at hka ⊢
  generalize k15b = kb at hkb ⊢
  generalize k15e = ke at hke ⊢
  obtain ⟨g1, e1⟩ := push_new hw (.cells [vP, vT, vS])
  have hall : allOne [vP, vT, vS] = true := by simp [allOne, rP.one.1, rT.one.1, rS.one.1]
  generalize hH1 : H.push (.cells [vP, vT, vS]) = H1 at g1 e1
  have nx1 : H1.next = H.next + 1 := by rw [← hH1]; rfl
  have l1 : loadA H1 (some 3) (.ptr H.next 0) = some (.agg [vP, vT, vS]) := load_agg g1 rfl
  have nP : ∀ p, rowObj vP = some p → p < H.next := fun p hp => rP.rowLt pairc_len hw hp
  have nT : ∀ p, rowObj vT = some p → p < H.next := fun p hp => rT.rowLt tric_len hw hp
  have nS : ∀ p, rowObj vS = some p → p < H.next := fun p hp => rS.rowLt pairc_len hw hp
  have ld : ∀ {H2 : Heap}, Ext H1 H2 → loadA H2 (some 3) (.ptr H.next 0) = some (.agg [vP, vT, vS]) := fun e => load_ext l1 e
  simp [A15, k15r, subAt, putAt, hall, hH1, l1]
  refine (many42 h42 e1.wf (hm.ext e1)).mono ?_
  rintro _ H2 ⟨rfl, e2⟩
  have l2 := ld e2
  cases hmy : manyM P T S with
  | true =>
    simp
    refine (known44 L e2.wf).mono ?_
    rintro _ _ ⟨rfl, _⟩
    simp
  | false =>
    obtain ⟨lP, lT, lS⟩ := manyM_no hmy
    have e12 := e1.trans e2
    simp [l2]
    refine (check43 R e2.wf (hm.ext e12) (by omega) (by omega) (by omega)).mono ?_
    rintro _ H3 ⟨rfl, e3⟩
    have x3 := e2.trans e3
    have l3 := ld x3
    by_cases ok : MeshOk P T S
    · rw [chkM_ok ok]
      simp [l3]
      refine (copy54 h54 x3.wf (hm.ext (e1.trans x3)) (by omega) (by omega) (by omega)).mono ?_
      rintro _ H4 ⟨⟨v0, v1, v2, rfl, c0, c1, c2, cd⟩, e4⟩
      have hw3 := x3.wf
      have hn3 := x3.next
      have a01 : allOne [v0, v1, v2] = true := by simp [allOne, (c0.ow.rw pairc_len).one.1, (c1.ow.rw tric_len).one.1, (c2.ow.rw pairc_len).one.1]
      obtain ⟨H5, st5, g5, e5, n5⟩ := store_new e4.wf (z := [.nils, .nils, .nils]) (n := 3) (x := .agg [v0, v1, v2]) (cs := [v0, v1, v2]) rfl rfl rfl a01
      have x35 := e4.trans e5
      have hn4 := e4.next
      have rP5 := (rP.ext e1).ext (x3.trans x35)
      simp [-storeA_ptr, st5]
      refine (hka (H0 := H3) e5.wf (o1 := H.next) (o3 := H4.next) (vT := vT) (vS := vS) (v1 := v1) (v2 := v2) (P := P) (by omega) ((x3.trans x35).keep _ _ g1) g5 rP5 (fun p hp => by have := nP p hp; omega) (c0.ext e5) (fun p hp => by have h1 := c0.new p hp; have h2 := c0.lt e4.wf hp; omega) (by simp)).mono ?_
      rintro _ τ6 H6 ⟨rfl, fr6, m6, w⟩
      have x36 := ext_fr hw3 x35 fr6 (fun p hp => c0.new p (by simpa using hp))
      have x16 := x3.trans x36
      have l6 := ld x16
      have d1 := (c1.ext e5).fr fr6 (fun p hp hm => (cd p (by simpa using hm)).1 hp)
      have d2 := (c2.ext e5).fr fr6 (fun p hp hm => (cd p (by simpa using hm)).2 hp)
      have k3 := fr6.keep _ _ (fun hm => by have := c0.lt e4.wf (p := H4.next) (by simpa using hm); omega) g5
      simp at w
      obtain ⟨w1, w3⟩ := w
      simp [w1, l6]
      refine (copy54 h54 x16.wf (hm.ext (e1.trans x16)) (by omega) (by omega) (by omega)).mono ?_
      rintro _ H7 ⟨⟨u0, u1, u2, rfl, b0, b1, b2, bd⟩, e7⟩
      have b01 : allOne [u0, u1, u2] = true := by simp [allOne, (b0.ow.rw pairc_len).one.1, (b1.ow.rw tric_len).one.1, (b2.ow.rw pairc_len).one.1]
      obtain ⟨H8, st8, g8, e8, n8⟩ := store_new e7.wf (z := [.nils, .nils, .nils]) (n := 3) (x := .agg [u0, u1, u2]) (cs := [u0, u1, u2]) rfl rfl rfl b01
      have x68 := e7.trans e8
      have x18 := x16.trans x68
      have hn7 := e7.next
      have hn6 := x36.next
      have f18 := x18.floor
      have f1 := e1.floor
      simp [-storeA_ptr, st8]
      refine (hkb e8.wf (o1 := H.next) (o3 := H4.next) (o5 := H7.next) (S := S) (T := T) (by rw [f18, f1]; have := hw.1; omega) (x18.keep _ _ g1) (by omega) ((rT.ext e1).ext x18) (fun p hp => by have := nT p hp; omega) g8 ((b2.ext e8).ow.rw pairc_len) (fun p hp => by have := b2.lt e7.wf hp; omega) lT lS (by simp [w1, w3])).mono ?_
      rintro _ τ9 H9 ⟨rfl, fr9, ⟨u2', k5, r5, nu⟩, w⟩
      have x69 := ext_fr x36.wf x68 fr9 (fun p hp => by simp at hp; omega)
      have x19 := x16.trans x69
      have k39 := x69.keep _ _ k3
      simp
      refine hke x19.wf ok lP lT lS (fun e => ld (x19.trans e)) (fun e => load_ext (load_agg k39 rfl) e) (fun e => load_ext (load_agg k5 rfl) e) (hm.ext (e1.trans x19)) ⟨_, _, _, rfl, (m6.ext x69).ow.rw pairc_len, (d1.ext x69).ow.rw tric_len, (d2.ext x69).ow.rw pairc_len⟩ ⟨_, _, _, rfl, ((b0.ext e8).fr fr9 (fun p hp => by have := b0.lt e7.wf hp; simp; omega)).ow.rw pairc_len, ((b1.ext e8).fr fr9 (fun p hp => by have := b1.lt e7.wf hp; simp; omega)).ow.rw tric_len, r5⟩ w
    · rw [chkM_no ok]
      simp
      refine (known44 L x3.wf).mono ?_
      rintro _ _ ⟨rfl, _⟩
      simp
end
end Go.Proofs.Ytcepchipgjpkhaa
