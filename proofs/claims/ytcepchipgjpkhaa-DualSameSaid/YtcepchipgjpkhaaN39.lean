/- The statement DualSame: places turned, all sides laid. No claim by itself. -/
import Derived.Test.YtcepchipgjpkhaaN38
namespace Go.Proofs.Ytcepchipgjpkhaa
open Go Go.AI
section
variable {FT : Nat → Option FnD} {H H' : Heap}
def k15a : ACode := subAt [1, 1, 1, 0] A15.body
def spinTo (P : List (Int × Int)) (i : Nat) : List (Int × Int) := (P.take i).map spin ++ P.drop i
theorem spinTo_step {P : List (Int × Int)} {i : Nat} {x : Int × Int} (h : P[i]? = some x) : (spinTo P i).set i (spin x) = spinTo P (i + 1) := by
  have hi : i < P.length := (List.getElem?_eq_some_iff.1 h).1
  have hl : ((P.take i).map spin).length = i := by rw [List.length_map, List.length_take]; omega
  unfold spinTo
  rw [List.set_append, if_neg (by omega), hl, Nat.sub_self, List.take_add_one, h, List.map_append, drop_get h]
  simp
theorem spinTo_len (P : List (Int × Int)) (i : Nat) : (spinTo P i).length = P.length := by unfold spinTo; rw [List.length_append, List.length_map, List.length_take, List.length_drop]; omega
structure Sa (H0 H1 H' : Heap) (o1 o3 : Nat) (v0 : AV) (P : List (Int × Int)) (τ : Env) (i m : Nat) : Prop where
  fr : Fr (rowObj v0).toList H1 H'
  mi : Mine 2 pairc H0 H' v0 (spinTo P i)
  le : i ≤ P.length
  hm : m = P.length - i
  t : Tm τ [(1, .ptr o1 0), (3, .ptr o3 0), (4, .int .i64 i)]
theorem same_a {H0 H1 : Heap} (hw : H1.Wf) {o1 o3 : Nat} {vP vT vS v0 v1 v2 : AV} {P : List (Int × Int)} (lP : P.length ≤ 1000000) (g1 : H1.get o1 = some (.cells [vP, vT, vS])) (g3 : H1.get o3 = some (.cells [v0, v1, v2])) (rP : Rw 2 pairc H1 vP P) (nP : ∀ p, rowObj vP = some p → p < H0.next) (m0 : Mine 2 pairc H0 H1 v0 P) (n0 : ∀ p, rowObj v0 = some p → p ≠ o1 ∧ p ≠ o3) {τ0 : Env}
    (w : Tm τ0 [(1, .ptr o1 0), (3, .ptr o3 0)]) :
    Wp FT k15a τ0 H1 (fun c τ H' => c = .next ∧ Fr (rowObj v0).toList H1 H' ∧ Mine 2 pairc H0 H' v0 (P.map spin) ∧ Tm τ [(1, .ptr o1 0), (3, .ptr o3 0)]) := by
  simp at w
  obtain ⟨w1, w3⟩ := w
  simp [k15a, subAt, A15]
  refine Wp_loop (fun m τ H' => ∃ i, Sa H0 H1 H' o1 o3 v0 P τ i m) ?_ P.length _ _ ⟨0, ⟨Fr.refl hw, by simpa [spinTo] using m0, by omega, by omega, by simp [w1, w3]⟩⟩
  rintro m τ H2 ⟨i, ⟨fr, mi, hi, rfl, u⟩⟩
  simp at u
  obtain ⟨t1, t3, t4⟩ := u
  have k1 := fr.keep _ _ (fun h => (n0 o1 (by simpa using h)).1 rfl) g1
  have k3 := fr.keep _ _ (fun h => (n0 o3 (by simpa using h)).2 rfl) g3
  have f1 : loadA H2 none (.ptr o1 0) = some vP := load_get k1 rfl
  have f3 : loadA H2 none (.ptr o3 0) = some v0 := load_get k3 rfl
  have rP2 := rP.fr fr fun p hp hm => by
    have h1 := nP p hp
    have h2 := m0.new p (by simpa using hm)
    omega
  by_cases q : i < P.length
  · have wi : IntKind.i64.wrap ((i : Int) + 1) = (i : Int) + 1 := wrap64 (by omega) (by omega)
    obtain ⟨o, off, x, b1, b2, _, b3, b4⟩ := Pairs.idx (rP2.sl pairc_len) (k := .i64) (i := (i : Int)) (by omega) (by omega)
    rw [Int.toNat_natCast] at b1
    obtain ⟨p, H3, c1, c2, c3, c4⟩ := mine_put pairc_len pairc_one fr.wf mi (i := i) (by rw [spinTo_len]; exact q) (spin x)
    rw [spinTo_step b1] at c3
    have f2 : ∀ (e : Opd → AV) (cs : List AV) (off : Nat) (a b : Int) (r : List (Nat × Nat × Opd)), fillV e cs off 2 (.agg [.int .i64 a, .int .i64 b]) r = if off + 2 ≤ cs.length then fillA e (setSeg cs off [.int .i64 a, .int .i64 b]) r else none := fun e cs off a b r => fillV_2 rfl rfl
    have c2' : storeA H2 2 p (.agg [.int .i64 (IntKind.i64.wrap (-2 * x.2)), .int .i64 (IntKind.i64.wrap (2 * x.1))]) = some (undefA, H3) := c2
    simp [-storeA_ptr, q, t1, t3, t4, f1, f3, rP2.len, b2, b3, b4, c1, c2', setSeg, wi]
    exact ⟨_, by omega, i + 1, ⟨fr.trans hw c4 (fun p hp => .inl hp), c3, by omega, rfl, by simp [t1, t3]⟩⟩
  · have hiP : i = P.length := by omega
    subst hiP
    have hs : spinTo P P.length = P.map spin := by unfold spinTo; simp
    rw [hs] at mi
    simp [t1, t4, f1, rP2.len]
    exact ⟨fr, mi, t3⟩
def k15b : ACode := subAt [1, 1, 1, 1, 1, 0] A15.body
def k15i : ACode := subAt [1, 0, 0, 1, 0, 0, 1] k15b
theorem body15b : k15b = putAt [1, 0, 0, 1, 0, 0, 1] k15b k15i := rfl
theorem layA_snoc (S L : List (Int × Int)) (s : Int × Int) : layM S (L ++ [s]) = insU ltS (layM S L) (upE s) := by
  unfold layM
  rw [List.map_append, List.map_cons, List.map_nil, layU_snoc]
theorem layA_len (S L : List (Int × Int)) : (layM S L).length ≤ S.length + L.length := by
  have := layU_len (lt := ltS) (L.map upE) S
  unfold layM
  simpa using this
theorem edsM_len : ∀ T : List Tri, (edsM T).length = 3 * T.length
  | [] => rfl
  | t :: T => by
    have := edsM_len T
    rw [edsM_eq] at *
    rw [List.flatMap_cons, List.length_append, this, List.length_cons]
    show 3 + _ = _
    omega
structure Sjj (H1 H' : Heap) (o1 o3 o5 : Nat) (u0 u1 v7 : AV) (S L0 : List (Int × Int)) (t : Tri) (i : Nat) (τ : Env) (j m : Nat) : Prop where
  fr : Fr [o5] H1 H'
  ex : ∃ u2, H'.get o5 = some (.cells [u0, u1, u2]) ∧ Rw 2 pairc H' u2 (layM S (L0 ++ (edT3 t).take j)) ∧ ∀ p, rowObj u2 = some p → p ≠ o5
  le : j ≤ 3
  hm : m = 3 - j
  t : Tm τ [(1, .ptr o1 0), (3, .ptr o3 0), (5, .ptr o5 0), (6, .int .i64 i), (7, v7), (8, .int .i64 j)]
theorem same_j (h40 : FT 40 = some (.code A40)) {H1 : Heap} (hw : H1.Wf) {o1 o3 o5 i : Nat} {u0 u1 u2 v7 : AV} {S L0 : List (Int × Int)} {t : Tri} (hf : H1.floor ≤ o5) (g5 : H1.get o5 = some (.cells [u0, u1, u2])) (r2 : Rw 2 pairc H1 u2 (layM S L0)) (n2 : ∀ p, rowObj u2 = some p → p ≠ o5) (r7 : Rw 2 pairc H1 v7 (edT3 t)) (n7 : ∀ p, rowObj v7 = some p → p ≠ o5) (ll : S.length + L0.length ≤ 100000) {τ0 : Env}
    (w : Tm τ0 [(1, .ptr o1 0), (3, .ptr o3 0), (5, .ptr o5 0), (6, .int .i64 i), (7, v7)]) :
    Wp FT k15i τ0 H1 (fun c τ H' => c = .next ∧ Fr [o5] H1 H' ∧ (∃ u2, H'.get o5 = some (.cells [u0, u1, u2]) ∧ Rw 2 pairc H' u2 (layM S (L0 ++ edT3 t)) ∧ ∀ p, rowObj u2 = some p → p ≠ o5) ∧ Tm τ [(1, .ptr o1 0), (3, .ptr o3 0), (5, .ptr o5 0), (6, .int .i64 i)]) := by
  simp at w
  obtain ⟨w1, w3, w5, w6, w7⟩ := w
  simp [k15i, k15b, subAt, A15]
  refine Wp_loop (fun m τ H' => ∃ j, Sjj H1 H' o1 o3 o5 u0 u1 v7 S L0 t i τ j m) ?_ 3 _ _ ⟨0, ⟨Fr.refl hw, ⟨u2, g5, by simpa using r2, n2⟩, by omega, rfl, by simp [w1, w3, w5, w6, w7]⟩⟩
  rintro m τ H2 ⟨j, ⟨fr, ⟨y2, k5, q2, m2⟩, hj, rfl, u⟩⟩
  simp at u
  obtain ⟨t1, t3, t5, t6, t7, t8⟩ := u
  by_cases q : j < 3
  · have q' : (j : Int) < 3 := by omega
    have wj : IntKind.i64.wrap ((j : Int) + 1) = (j : Int) + 1 := wrap64 (by omega) (by omega)
    have r72 := r7.fr fr (fun p hp => by simpa using n7 p hp)
    obtain ⟨o, off, s, b1, b2, b3, _⟩ := Pairs.idx (r72.sl pairc_len) (k := .i64) (i := (j : Int)) (by omega) (by show (j : Int) < 3; omega)
    rw [Int.toNat_natCast] at b1
    have f2 : loadA H2 none (.ptr o5 2) = some y2 := load_get k5 rfl
    have hl := layA_len S (L0 ++ (edT3 t).take j)
    have hl2 : ((edT3 t).take j).length ≤ 3 := by rw [List.length_take]; omega
    rw [List.length_append] at hl
    simp [q', t5, t7, t8, f2, b2, b3]
    refine (lay40 h40 fr.wf q2 (by omega)).mono ?_
    rintro y2' H3 ⟨r3, e3, n3⟩
    obtain ⟨H4, s1, s2, s3⟩ := store_cell (off := 2) (x := y2') e3.wf (by rw [e3.floor, fr.floor]; exact hf) (e3.keep _ _ k5) (by simp) r3.one.1
    have hlt := fr.wf.lt k5
    have n3' : ∀ p, rowObj y2' = some p → p ≠ o5 := fun p hp => by have := n3 p hp; omega
    rw [← layA_snoc] at r3
    have htk : (edT3 t).take (j + 1) = (edT3 t).take j ++ [s] := by rw [List.take_add_one, b1]; rfl
    simp [t5, t8, s1, wj]
    exact ⟨_, by omega, j + 1, ⟨(fr.thenE hw e3).trans hw s3 (fun p hp => .inl hp), ⟨y2', s2, by rw [htk, ← List.append_assoc]; exact r3.fr s3 (fun p hp => by simpa using n3' p hp), n3'⟩, by omega, rfl, by simp [t1, t3, t5, t6, t7]⟩⟩
  · have hj3 : j = 3 := by omega
    subst hj3
    have hall : (edT3 t).take 3 = edT3 t := rfl
    rw [hall] at q2
    simp [t8]
    exact ⟨fr, ⟨y2, k5, q2, m2⟩, t1, t3, t5, t6⟩
structure Sii (H1 H' : Heap) (o1 o3 o5 : Nat) (u0 u1 : AV) (S : List (Int × Int)) (T : List Tri) (τ : Env) (i m : Nat) : Prop where
  fr : Fr [o5] H1 H'
  ex : ∃ u2, H'.get o5 = some (.cells [u0, u1, u2]) ∧ Rw 2 pairc H' u2 (layM S (edsM (T.take i))) ∧ ∀ p, rowObj u2 = some p → p ≠ o5
  le : i ≤ T.length
  hm : m = T.length - i
  t : Tm τ [(1, .ptr o1 0), (3, .ptr o3 0), (5, .ptr o5 0), (6, .int .i64 i)]
theorem same_b (R : RefT FT) (h40 : FT 40 = some (.code A40)) {H1 : Heap} (hw : H1.Wf) {o1 o3 o5 : Nat} {vP vT vS u0 u1 u2 : AV} {S : List (Int × Int)} {T : List Tri} (hf : H1.floor ≤ o5) (g1 : H1.get o1 = some (.cells [vP, vT, vS])) (n1 : o1 ≠ o5) (rT : Rw 3 tric H1 vT T) (nT : ∀ p, rowObj vT = some p → p ≠ o5) (g5 : H1.get o5 = some (.cells [u0, u1, u2])) (r2 : Rw 2 pairc H1 u2 S) (n2 : ∀ p, rowObj u2 = some p → p ≠ o5) (lT : T.length ≤ 60) (lS : S.length ≤ 80) {τ0 : Env}
    (w : Tm τ0 [(1, .ptr o1 0), (3, .ptr o3 0), (5, .ptr o5 0)]) :
    Wp FT k15b τ0 H1 (fun c τ H' => c = .next ∧ Fr [o5] H1 H' ∧ (∃ u2, H'.get o5 = some (.cells [u0, u1, u2]) ∧ Rw 2 pairc H' u2 (layM S (edsM T)) ∧ ∀ p, rowObj u2 = some p → p ≠ o5) ∧ Tm τ [(1, .ptr o1 0), (3, .ptr o3 0), (5, .ptr o5 0)]) := by
  simp at w
  obtain ⟨w1, w3, w5⟩ := w
  rw [body15b]
  have hkj := @same_j FT h40
  generalize k15i = kj at hkj ⊢
  simp [k15b, subAt, putAt, A15]
  refine Wp_loop (fun m τ H' => ∃ i, Sii H1 H' o1 o3 o5 u0 u1 S T τ i m) ?_ T.length _ _ ⟨0, ⟨Fr.refl hw, ⟨u2, g5, by simpa [edsM, allE, rowsT, layM, layU] using r2, n2⟩, by omega, by omega, by simp [w1, w3, w5]⟩⟩
  rintro m τ H2 ⟨i, ⟨fr, ⟨y2, k5, q2, m2⟩, hi, rfl, u⟩⟩
  simp at u
  obtain ⟨t1, t3, t5, t6⟩ := u
  have f1 : loadA H2 none (.ptr o1 1) = some vT := load_get (fr.keep _ _ (by simpa using n1) g1) rfl
  have rT2 := rT.fr fr (fun p hp => by simpa using nT p hp)
  by_cases q : i < T.length
  · have wi : IntKind.i64.wrap ((i : Int) + 1) = (i : Int) + 1 := wrap64 (by omega) (by omega)
    obtain ⟨o2, off2, t, a1, a2, a3, _⟩ := Tris.idx (rT2.sl tric_len) (k := .i64) (i := (i : Int)) (by omega) (by omega)
    rw [Int.toNat_natCast] at a1
    have hlt := fr.wf.lt k5
    have hle : (edsM (T.take i)).length ≤ 3 * 60 := by rw [edsM_len, List.length_take]; omega
    simp [q, t1, t6, f1, rT2.len, a2, a3]
    refine (sides55 R.h55 fr.wf (t := t)).mono ?_
    rintro _ H3 ⟨o7, rfl, r7, n7, e3⟩
    simp
    refine (hkj e3.wf (o1 := o1) (o3 := o3) (o5 := o5) (i := i) (by rw [e3.floor, fr.floor]; exact hf) (e3.keep _ _ k5) (q2.ext e3) m2 r7 (fun p hp => by cases hp; omega) (by omega) (by simp [t1, t3, t5, t6])).mono ?_
    rintro _ τ3 H4 ⟨rfl, fr4, ⟨y3, d1, d2, d3⟩, w⟩
    simp at w
    simp [w, wi]
    exact ⟨_, by omega, i + 1, ⟨(fr.thenE hw e3).trans hw fr4 (fun p hp => .inl hp), ⟨y3, d1, by rw [edsM_snoc a1]; exact d2, d3⟩, by omega, rfl, by simp [w]⟩⟩
  · have hiT : i = T.length := by omega
    subst hiT
    rw [List.take_length] at q2
    simp [t1, t6, f1, rT2.len]
    exact ⟨fr, ⟨y2, k5, q2, m2⟩, t3, t5⟩
end
end Go.Proofs.Ytcepchipgjpkhaa
