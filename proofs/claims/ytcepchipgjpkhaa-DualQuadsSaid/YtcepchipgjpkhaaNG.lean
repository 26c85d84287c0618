/- Triangles laid, their sides, the triangle on a side's left. No claim by itself. -/
import Derived.Test.YtcepchipgjpkhaaNE
import Derived.Test.YtcepchipgjpkhaaN29
namespace Go.Proofs.Ytcepchipgjpkhaa
open Go Go.AI
section
variable {FT : Nat → Option FnD} {H H' : Heap}
theorem before68 (h68 : FT 68 = some (.code A68)) (hw : H.Wf) {a b : Tri} : Cp FT 68 [.agg (tric a), .agg (tric b)] H (fun r H' => r = .bool (ltT a b) ∧ Ext H H') := by
  refine Cp_code A68 h68 rfl ?_
  obtain ⟨g0, e0⟩ := push_new hw (.cells (tric a))
  obtain ⟨g1, e1⟩ := push_new e0.wf (.cells (tric b))
  have g0' := e1.keep _ _ g0
  have e01 := e0.trans e1
  simp only [next_push] at g1
  have hb : ∀ x : Tri, allOne (tric x) = true := fun _ => rfl
  have hc : ∀ x : Tri, AV.cells (.agg (tric x)) = tric x := fun _ => rfl
  generalize hH2 : (H.push (.cells (tric a))).push (.cells (tric b)) = H2 at *
  have a0 : loadA H2 none (.ptr H.next 0) = some (.int .i64 a.1) := load_get g0' rfl
  have a1 : loadA H2 none (.ptr H.next 1) = some (.int .i64 a.2.1) := load_get g0' rfl
  have a2 : loadA H2 none (.ptr H.next 2) = some (.int .i64 a.2.2) := load_get g0' rfl
  have b0 : loadA H2 none (.ptr (H.next + 1) 0) = some (.int .i64 b.1) := load_get g1 rfl
  have b1 : loadA H2 none (.ptr (H.next + 1) 1) = some (.int .i64 b.2.1) := load_get g1 rfl
  have b2 : loadA H2 none (.ptr (H.next + 1) 2) = some (.int .i64 b.2.2) := load_get g1 rfl
  by_cases q1 : a.1 = b.1
  · by_cases q2 : a.2.1 = b.2.1
    · simp [A68, hb, hc, hH2, a0, a1, a2, b0, b1, b2, q1, q2]
      exact ⟨by simp [ltT, q1, q2], e01⟩
    · simp [A68, hb, hc, hH2, a0, a1, b0, b1, q1, q2]
      exact ⟨by simp [ltT, q1, q2], e01⟩
  · simp [A68, hb, hc, hH2, a0, b0, q1]
    exact ⟨by simp [ltT, q1], e01⟩
theorem sides55 (h55 : FT 55 = some (.code A55)) (hw : H.Wf) {t : Tri} : Cp FT 55 [.agg (tric t)] H (fun r H' => ∃ o, r = .slc o 0 3 2 3 true ∧ Rw 2 pairc H' r (edT3 t) ∧ H.next ≤ o ∧ Ext H H') := by
  refine Cp_code A55 h55 rfl ?_
  obtain ⟨g0, e0⟩ := push_new hw (.cells (tric t))
  have hb : ∀ x : Tri, allOne (tric x) = true := fun _ => rfl
  have hc : ∀ x : Tri, AV.cells (.agg (tric x)) = tric x := fun _ => rfl
  generalize hH2 : H.push (.cells (tric t)) = H2 at *
  have hn : H2.next = H.next + 1 := by rw [← hH2]; rfl
  have a0 : loadA H2 none (.ptr H.next 0) = some (.int .i64 t.1) := load_get g0 rfl
  have a1 : loadA H2 none (.ptr H.next 1) = some (.int .i64 t.2.1) := load_get g0 rfl
  have a2 : loadA H2 none (.ptr H.next 2) = some (.int .i64 t.2.2) := load_get g0 rfl
  have f2' : ∀ (e : Opd → AV) (cs : List AV) (off : Nat) (a b : Int) (r : List (Nat × Nat × Opd)), fillV e cs off 2 (.agg [.int .i64 a, .int .i64 b]) r = if off + 2 ≤ cs.length then fillA e (setSeg cs off [.int .i64 a, .int .i64 b]) r else none := fun e cs off a b r => fillV_2 rfl rfl
  obtain ⟨g5, e5⟩ := push_new e0.wf (.cells ((edT3 t).flatMap pairc))
  have r5 := rw_lits (xs := edT3 t) pairc_len g5
  simp [A55, hb, hc, hH2, a0, a1, a2, f2', setSeg]
  exact ⟨r5, by omega, e0.trans e5⟩
theorem has73 (h73 : FT 73 = some (.code A73)) (hw : H.Wf) {v : AV} {S : List (Int × Int)} {a b : Int} (hS : Pairs H v S) (hl : S.length ≤ 1000000000) :
    Cp FT 73 [v, .int .i64 a, .int .i64 b] H (fun r H' => r = .bool (hasT (hasE a b) S) ∧ H' = H) := by
  refine Cp_code A73 h73 rfl ?_
  simp [A73]
  refine Wp_loop (fun m τ H' => H' = H ∧ ∃ i, i ≤ S.length ∧ m = S.length - i ∧ hasT (hasE a b) (S.take i) = false ∧ Tm τ [(0, v), (1, .int .i64 a), (2, .int .i64 b), (7, .int .i64 (i : Int))]) ?_ S.length _ _ ⟨rfl, 0, by omega, by omega, hasT_zero, by simp⟩
  rintro m τ H' ⟨rfl, i, hi, rfl, hall, t⟩
  simp at t
  obtain ⟨t0, t1, t2, t7⟩ := t
  by_cases q : i < S.length
  · obtain ⟨o, off, x, hx, hp, _, hl1, hl2⟩ := Pairs.idx hS (k := .i64) (i := i) (by omega) (by omega)
    have hx' : S[i]? = some x := hx
    have wi : IntKind.i64.wrap ((i : Int) + 1) = (i : Int) + 1 := wrap64 (by omega) (by omega)
    have stop : hasE a b x = true → hasT (hasE a b) S = true := hasT_of hx'
    have go : hasE a b x = false → hasT (hasE a b) (S.take (i + 1)) = false := fun h => by rw [hasT_succ hx', hall, h]; rfl
    by_cases c1 : x.1 = a
    · by_cases c2 : x.2 = b
      · have := stop (by simp [hasE, c1, c2])
        simp [q, t0, t1, t2, t7, hS.len, hp, hl1, hl2, c1, c2, this]
      · by_cases c3 : a = b
        · have c4 : ¬ x.2 = a := by omega
          have := go (by simp [hasE, c2, c4])
          simp [q, t0, t1, t2, t7, hS.len, hp, hl1, hl2, c1, c2, c3, wi]
          exact ⟨_, by omega, i + 1, by omega, rfl, by rw [c3] at this; exact this, by omega⟩
        · have := go (by simp [hasE, c1, c2, c3])
          simp [q, t0, t1, t2, t7, hS.len, hp, hl1, hl2, c1, c2, c3, wi]
          exact ⟨_, by omega, i + 1, by omega, rfl, this, by omega⟩
    · by_cases c3 : x.1 = b
      · by_cases c4 : x.2 = a
        · have := stop (by simp [hasE, c3, c4])
          have c1' : ¬ b = a := by omega
          simp [q, t0, t1, t2, t7, hS.len, hp, hl1, hl2, c3, c4, c1', this]
        · have := go (by simp [hasE, c1, c4])
          have c1' : ¬ b = a := by omega
          simp [q, t0, t1, t2, t7, hS.len, hp, hl1, hl2, c3, c4, c1', wi]
          exact ⟨_, by omega, i + 1, by omega, rfl, this, by omega⟩
      · have := go (by simp [hasE, c1, c3])
        simp [q, t0, t1, t2, t7, hS.len, hp, hl1, c1, c3, wi]
        exact ⟨_, by omega, i + 1, by omega, rfl, this, by omega⟩
  · rw [List.take_of_length_le (by omega)] at hall
    have q' : ¬ (i : Int) < S.length := by omega
    simp [q', t0, t7, hS.len, hall]
structure Lf1 (H H' : Heap) (v : AV) (T : List Tri) (a b : Int) (τ : Env) (i m : Nat) : Prop where
  ex : Ext H H'
  le : i ≤ T.length
  hm : m = T.length - i
  no : ∀ g, g ∈ T.take i → (a, b) ∉ edT3 g
  t : Tm τ [(0, v), (1, .int .i64 a), (2, .int .i64 b), (7, .int .i64 i)]
structure Lf2 (H1 H' : Heap) (v v8 : AV) (t : Tri) (a b : Int) (τ : Env) (i j m : Nat) : Prop where
  eq : H1 = H'
  le : j ≤ 3
  hm : m = 3 - j
  no : (a, b) ∉ (edT3 t).take j
  t : Tm τ [(0, v), (1, .int .i64 a), (2, .int .i64 b), (7, .int .i64 i), (8, v8), (9, .int .i64 j)]
theorem rowsT_get {T : List Tri} {i : Nat} {t : Tri} (h : T[i]? = some t) : (rowsT T)[i]? = some (rowT t) := by unfold rowsT; rw [List.getElem?_map, h]; rfl
theorem left72 (h55 : FT 55 = some (.code A55)) (h72 : FT 72 = some (.code A72)) (hw : H.Wf) {v : AV} {T : List Tri} {a b : Int} (hT : Tris H v T) (hl : T.length ≤ 1000000000) :
    Cp FT 72 [v, .int .i64 a, .int .i64 b] H (fun r H' => r = .int .i64 (leftF (rowsT T) (a, b)) ∧ Ext H H') := by
  refine Cp_code A72 h72 rfl ?_
  simp [A72]
  refine Wp_loop (fun m τ H' => ∃ i, Lf1 H H' v T a b τ i m) ?_ T.length _ _ ⟨0, ⟨Ext.refl hw, by omega, by omega, by simp, by simp⟩⟩
  rintro m τ H1 ⟨i, ⟨ex, hi, rfl, no, t⟩⟩
  simp at t
  obtain ⟨t0, t1, t2, t7⟩ := t
  have hT1 := hT.ext ex
  by_cases q : i < T.length
  · obtain ⟨o1, off1, t, a1, a2, a3, _⟩ := Tris.idx hT1 (k := .i64) (i := (i : Int)) (by omega) (by omega)
    rw [Int.toNat_natCast] at a1
    have wi : IntKind.i64.wrap ((i : Int) + 1) = (i : Int) + 1 := wrap64 (by omega) (by omega)
    simp [q, t0, t7, hT1.len, a2, a3]
    refine (sides55 h55 ex.wf).mono ?_
    rintro v8 H2 ⟨o8, rfl, r8, _, e2⟩
    simp
    refine Wp_loop (fun m τ H' => ∃ j, Lf2 H2 H' v (.slc o8 0 3 2 3 true) t a b τ i j m) ?_ 3 _ _ ⟨0, ⟨rfl, by omega, rfl, by simp, by simp [t0, t1, t2, t7]⟩⟩
    rintro m τ2 _ ⟨j, ⟨rfl, hj, rfl, no2, u⟩⟩
    simp at u
    obtain ⟨u0, u1, u2, u7, u8, u9⟩ := u
    by_cases qj : j < 3
    · have qj' : (j : Int) < 3 := by omega
      obtain ⟨o, off, s, b1, b2, _, b3, b4⟩ := Pairs.idx (r8.sl pairc_len) (k := .i64) (i := (j : Int)) (by omega) (by show (j : Int) < 3; omega)
      rw [Int.toNat_natCast] at b1
      have wj : IntKind.i64.wrap ((j : Int) + 1) = (j : Int) + 1 := wrap64 (by omega) (by omega)
      have tk : (edT3 t).take (j + 1) = (edT3 t).take j ++ [s] := by rw [List.take_add_one, b1]; rfl
      have go : s ≠ (a, b) → (a, b) ∉ (edT3 t).take (j + 1) := fun h => by
        rw [tk, List.mem_append]
        rintro (k | k)
        · exact no2 k
        · simp at k; exact h k.symm
      by_cases c1 : s.1 = a
      · by_cases c2 : s.2 = b
        · have hs : s = (a, b) := Prod.ext c1 c2
          have : leftF (rowsT T) (a, b) = i := leftF_first (rowsT_get a1) (by rw [edgesF_row, ← hs]; exact List.mem_of_getElem? b1) fun j' g hj' hg => by
            unfold rowsT at hg
            rw [List.getElem?_map] at hg
            obtain ⟨g', hg', rfl⟩ := Option.map_eq_some_iff.1 hg
            rw [edgesF_row]
            exact no g' (List.mem_of_getElem? (i := j') (by rw [List.getElem?_take, if_pos hj']; exact hg'))
          simp [qj', u1, u2, u7, u8, u9, b2, b3, b4, c1, c2, this]
          exact ex.trans e2
        · have := go (fun h => c2 (by rw [h]))
          simp [qj', u1, u2, u8, u9, b2, b3, b4, c1, c2, wj]
          exact ⟨_, by omega, j + 1, ⟨rfl, by omega, rfl, this, by simp [u0, u1, u2, u7, u8]⟩⟩
      · have := go (fun h => c1 (by rw [h]))
        simp [qj', u1, u8, u9, b2, b3, c1, wj]
        exact ⟨_, by omega, j + 1, ⟨rfl, by omega, rfl, this, by simp [u0, u1, u2, u7, u8]⟩⟩
    · have hj3 : j = 3 := by omega
      subst hj3
      simp [u9, u7, wi]
      refine ⟨_, by omega, i + 1, ⟨ex.trans e2, by omega, rfl, fun g hg => ?_, by simp [u0, u1, u2]⟩⟩
      rw [List.take_add_one, a1] at hg
      rcases List.mem_append.1 hg with k | k
      · exact no g k
      · simp at k; subst k; exact no2
  · rw [List.take_of_length_le (by omega)] at no
    have : leftF (rowsT T) (a, b) = -1 := leftF_none fun g hg => by
      unfold rowsT at hg
      obtain ⟨g', hg', rfl⟩ := List.mem_map.1 hg
      rw [edgesF_row]
      exact no g' hg'
    have q' : ¬ (i : Int) < T.length := by omega
    simp [q', t0, t7, hT1.len, this]
    exact ex
end
end Go.Proofs.Ytcepchipgjpkhaa

/- The triangle of three places, as the law's own Tri finds it. No claim by itself. -/
namespace Go.Proofs.Ytcepchipgjpkhaa
open Go Go.AI
section
variable {FT : Nat → Option FnD} {H H' : Heap}
def perms (a b c : Int) : List Tri := [(a, b, c), (b, c, a), (c, a, b), (a, c, b), (c, b, a), (b, a, c)]
theorem orT_rot (P : List (Int × Int)) (a b c : Int) : orT P b c a = orT P a b c := orZ_rot _ _ _
theorem orT_swap (P : List (Int × Int)) (a b c : Int) : orT P a c b = -orT P a b c := orZ_swap _ _ _
theorem rotM_rot {a b c : Int} (h : a ≠ b ∧ a ≠ c ∧ b ≠ c) : rotM b c a = rotM a b c := by
  obtain ⟨h1, h2, h3⟩ := h
  unfold rotM
  repeat' split
  all_goals first | rfl | omega
theorem triF_rot (P : List (Int × Int)) (a b c : Int) : triF P b c a = triF P a b c := by
  unfold triF
  rw [orT_rot P a b c]
  by_cases hi : inN P.length a ∧ inN P.length b ∧ inN P.length c
  · rw [if_pos hi, if_pos ⟨hi.2.1, hi.2.2, hi.1⟩]
    by_cases h0 : orT P a b c = 0
    · rw [if_pos h0, if_pos h0]
    · rw [if_neg h0, if_neg h0, rotM_rot (orT_ne h0)]
      have hn := orT_ne h0
      rw [show rotM b a c = rotM a c b from (rotM_rot ⟨hn.2.2.symm, hn.2.1.symm, hn.1.symm⟩ : rotM b a c = rotM c b a).trans (rotM_rot ⟨hn.2.1, hn.1, hn.2.2.symm⟩)]
  · rw [if_neg hi, if_neg fun h => hi ⟨h.2.2, h.1, h.2.1⟩]
theorem triF_swap (P : List (Int × Int)) (a b c : Int) : triF P a c b = triF P a b c := by
  unfold triF
  rw [orT_swap P a b c]
  by_cases hi : inN P.length a ∧ inN P.length b ∧ inN P.length c
  · rw [if_pos hi, if_pos ⟨hi.1, hi.2.2, hi.2.1⟩]
    by_cases h0 : orT P a b c = 0
    · rw [if_pos h0, if_pos (by omega)]
    · rw [if_neg h0, if_neg (by omega)]
      rcases orZ_vals (ptQ P a) (ptQ P b) (ptQ P c) with h | h | h
      · rw [if_pos (by show - orZ _ _ _ = -1; omega), if_neg (by show ¬ orZ _ _ _ = -1; omega)]
      · exact absurd h h0
      · rw [if_neg (by show ¬ - orZ _ _ _ = -1; omega), if_pos (by show orZ _ _ _ = -1; omega)]
  · rw [if_neg hi, if_neg fun h => hi ⟨h.1, h.2.2, h.2.1⟩]
theorem perm_tri {P : List (Int × Int)} {a b c : Int} {t : Tri} (h : t ∈ perms a b c) : triF P t.1 t.2.1 t.2.2 = triF P a b c := by
  simp only [perms, List.mem_cons, List.not_mem_nil, or_false] at h
  rcases h with rfl | rfl | rfl | rfl | rfl | rfl
  · rfl
  · exact triF_rot P a b c
  · exact (triF_rot P b c a).trans (triF_rot P a b c)
  · exact triF_swap P a b c
  · exact (triF_rot P a c b).trans (triF_swap P a b c)
  · exact ((triF_rot P c b a).trans (triF_rot P a c b)).trans (triF_swap P a b c)
theorem perm_ok {P : List (Int × Int)} {a b c : Int} {t : Tri} (h : t ∈ perms a b c) : TriOk P t ↔ triF P a b c = some t := by rw [← triF_ok, perm_tri h]
theorem triF_perm {P : List (Int × Int)} {a b c : Int} {t : Tri} (h : triF P a b c = some t) : t ∈ perms a b c := by
  unfold triF at h
  split at h
  · split at h
    · cases h
    · cases h
      unfold perms rotM
      repeat' split
      all_goals simp
  · cases h
theorem triF_some {P : List (Int × Int)} {a b c : Int} (hi : inN P.length a ∧ inN P.length b ∧ inN P.length c) (h0 : orT P a b c ≠ 0) : ∃ t, triF P a b c = some t := by
  unfold triF
  rw [if_pos hi, if_neg h0]
  exact ⟨_, rfl⟩
/-- How three places turn, asked of the law's own numbers. -/
def Or53 (FT : Nat → Option FnD) : Prop := ∀ {H : Heap} {a b c : Int × Int}, H.Wf → Cp FT 53 [.agg (pairc a), .agg (pairc b), .agg (pairc c)] H (fun r H' => r = .int .i64 (orZ a b c) ∧ Ext H H')
def k71b : ACode := subAt [1, 1, 1, 1] A71.body
theorem body71 : A71.body = putAt [1, 1, 1, 1] A71.body k71b := rfl
theorem perm_in {n : Nat} {a b c : Int} (hi : inN n a ∧ inN n b ∧ inN n c) {t : Tri} (h : t ∈ perms a b c) : inN n t.1 ∧ inN n t.2.1 ∧ inN n t.2.2 := by
  obtain ⟨h1, h2, h3⟩ := hi
  simp only [perms, List.mem_cons, List.not_mem_nil, or_false] at h
  rcases h with rfl | rfl | rfl | rfl | rfl | rfl
  · exact ⟨h1, h2, h3⟩
  · exact ⟨h2, h3, h1⟩
  · exact ⟨h3, h1, h2⟩
  · exact ⟨h1, h3, h2⟩
  · exact ⟨h3, h2, h1⟩
  · exact ⟨h2, h1, h3⟩
theorem ptQ_get {P : List (Int × Int)} {x : Int} {p : Int × Int} (h : P[x.toNat]? = some p) : ptQ P x = p := by unfold ptQ; rw [List.getD_eq_getElem?_getD, h]; rfl
structure Tp1 (H1 H' : Heap) (vP v11 : AV) (P : List (Int × Int)) (a b c : Int) (o8 : Nat) (τ : Env) (i m : Nat) : Prop where
  ex : Ext H1 H'
  le : i ≤ 6
  hm : m = 6 - i
  no : ∀ t, t ∈ (perms a b c).take i → ¬ TriOk P t
  t : Tm τ [(0, vP), (8, .ptr o8 0), (11, v11), (12, .int .i64 i)]
theorem tri_pick (ho : Or53 FT) (hw : H.Wf) {H1 : Heap} (e1 : Ext H H1) {o8 : Nat} (n8 : H.next ≤ o8) {x0 x1 x2 : AV} (g8 : H1.get o8 = some (.cells [x0, x1, x2])) {vP v11 : AV} {P : List (Int × Int)} {a b c : Int} (hP : Pairs H1 vP P) (r11 : Tris H1 v11 (perms a b c)) (hi : inN P.length a ∧ inN P.length b ∧ inN P.length c) (h0 : orT P a b c ≠ 0) {τ0 : Env} (u : Tm τ0 [(0, vP), (8, .ptr o8 0), (11, v11)]) :
    Wp FT k71b τ0 H1 (finQ A71.results fun r H' => r = .tup [.agg (tric ((triF P a b c).getD (0, 0, 0))), .bool (triF P a b c).isSome] ∧ Ext H H') := by
  simp at u
  obtain ⟨u0, u8, u11⟩ := u
  have wr : ∀ {H2 : Heap}, Ext H1 H2 → ∀ t : Tri, ∃ H3, storeA H2 3 (.ptr o8 0) (.agg (tric t)) = some (undefA, H3) ∧ Ext H H3 ∧ H3.cellsAt o8 = some (tric t) := by
    intro H2 e t
    obtain ⟨H3, s1, s2, s3⟩ := store_whole (n := 3) (x := .agg (tric t)) e.wf rfl rfl (by rw [e.floor, e1.floor]; exact Nat.le_trans hw.1 n8) (e.keep _ _ g8) rfl rfl
    exact ⟨H3, s1, ext_fr hw (e1.trans e) s3 (fun p hp => by simp at hp; omega), cellsAt_get s2⟩
  have l6 : (perms a b c).length = 6 := rfl
  simp [k71b, subAt, A71]
  refine Wp_loop (fun m τ H' => ∃ i, Tp1 H1 H' vP v11 P a b c o8 τ i m) ?_ 6 _ _ ⟨0, ⟨Ext.refl e1.wf, by omega, rfl, by simp, by simp [u0, u8, u11]⟩⟩
  rintro m τ H2 ⟨i, ⟨ex, hi6, rfl, no, t⟩⟩
  simp at t
  obtain ⟨t0, t8, t11, t12⟩ := t
  by_cases q : i < 6
  · have q' : (i : Int) < 6 := by omega
    have wi : IntKind.i64.wrap ((i : Int) + 1) = (i : Int) + 1 := wrap64 (by omega) (by omega)
    obtain ⟨o1, off1, t, a1, a2, a3, _⟩ := Tris.idx (r11.ext ex) (k := .i64) (i := (i : Int)) (by omega) (by rw [l6]; omega)
    rw [Int.toNat_natCast] at a1
    have htm := List.mem_of_getElem? a1
    obtain ⟨H3, st3, g5, e3, n3⟩ := store_new ex.wf (z := [.int .i64 0, .int .i64 0, .int .i64 0]) (n := 3) (x := .agg (tric t)) (cs := tric t) rfl rfl rfl rfl
    have x3 := ex.trans e3
    have b0 : loadA H3 none (.ptr H2.next 0) = some (.int .i64 t.1) := load_get g5 rfl
    have b1 : loadA H3 none (.ptr H2.next 1) = some (.int .i64 t.2.1) := load_get g5 rfl
    have b2 : loadA H3 none (.ptr H2.next 2) = some (.int .i64 t.2.2) := load_get g5 rfl
    have go : ¬ TriOk P t → ∀ t', t' ∈ (perms a b c).take (i + 1) → ¬ TriOk P t' := fun h t' ht' => by
      rw [List.take_add_one, a1] at ht'
      rcases List.mem_append.1 ht' with k | k
      · exact no t' k
      · simp at k; subst k; exact h
    obtain ⟨j1, j2, j3⟩ := perm_in hi htm
    by_cases c1 : t.1 < t.2.1
    · by_cases c2 : t.1 < t.2.2
      · have hP3 := hP.ext x3
        obtain ⟨p1, xa, y1, y2, y3, _⟩ := Sl.idx hP3 (k := .i64) (i := t.1) j1.1 j1.2
        obtain ⟨p2, xb, z1, z2, z3, _⟩ := Sl.idx hP3 (k := .i64) (i := t.2.1) j2.1 j2.2
        obtain ⟨p3, xc, w1, w2, w3, _⟩ := Sl.idx hP3 (k := .i64) (i := t.2.2) j3.1 j3.2
        have hor : orT P t.1 t.2.1 t.2.2 = orZ xa xb xc := by unfold orT; rw [ptQ_get y1, ptQ_get z1, ptQ_get w1]
        simp [q', t0, t11, t12, a2, a3, st3, b0, b1, b2, c1, c2, y2, y3, z2, z3, w2, w3]
        refine (ho e3.wf).mono ?_
        rintro _ H4 ⟨rfl, e4⟩
        rw [← hor]
        by_cases c3 : orT P t.1 t.2.1 t.2.2 = 1
        · have hok : triF P a b c = some t := (perm_ok htm).1 ⟨perm_in hi htm, ⟨c1, c2⟩, c3⟩
          have l5 : loadA H4 (some 3) (.ptr H2.next 0) = some (.agg (tric t)) := load_ext (load_agg g5 rfl) e4
          obtain ⟨H5, s1, s2, s3⟩ := wr (x3.trans e4) t
          simp [-storeA_ptr, c3, t8, l5, s1, s3, resultsA, resultA, partA, seg, packA, hok]
          exact ⟨rfl, s2⟩
        · have := go (fun h => c3 h.2.2)
          simp [c3, t12, wi]
          exact ⟨_, by omega, i + 1, ⟨x3.trans e4, by omega, rfl, this, by simp [t0, t8, t11]⟩⟩
      · have := go (fun h => c2 h.2.1.2)
        simp [q', t11, t12, a2, a3, st3, b0, b1, b2, c1, c2, wi]
        exact ⟨_, by omega, i + 1, ⟨x3, by omega, rfl, this, by simp [t0, t8, t11]⟩⟩
    · have := go (fun h => c1 h.2.1.1)
      simp [q', t11, t12, a2, a3, st3, b0, b1, c1, wi]
      exact ⟨_, by omega, i + 1, ⟨x3, by omega, rfl, this, by simp [t0, t8, t11]⟩⟩
  · exfalso
    have hi' : i = 6 := by omega
    subst hi'
    obtain ⟨t, ht⟩ := triF_some hi h0
    exact no t (triF_perm ht) ((perm_ok (triF_perm ht)).2 ht)
theorem tri71 (ho : Or53 FT) (h71 : FT 71 = some (.code A71)) (hw : H.Wf) {vP : AV} {P : List (Int × Int)} {a b c : Int} (hP : Pairs H vP P) (_hl : P.length ≤ 1000000000) :
    Cp FT 71 [vP, .int .i64 a, .int .i64 b, .int .i64 c] H (fun r H' => r = .tup [.agg (tric ((triF P a b c).getD (0, 0, 0))), .bool (triF P a b c).isSome] ∧ Ext H H') := by
  refine Cp_code A71 h71 rfl ?_
  rw [body71]
  have hk := @tri_pick FT H ho hw
  generalize k71b = kb at hk ⊢
  obtain ⟨g0, e0⟩ := push_new hw (.cells [.int .i64 0, .int .i64 0, .int .i64 0])
  generalize hH1 : H.push (.cells [.int .i64 0, .int .i64 0, .int .i64 0]) = H1 at e0 g0
  have hP1 := hP.ext e0
  obtain ⟨H3, s1, s2, s3⟩ : ∃ H3, storeA H1 3 (.ptr H.next 0) (.agg [.int .i64 0, .int .i64 0, .int .i64 0]) = some (undefA, H3) ∧ Ext H H3 ∧ H3.cellsAt H.next = some [.int .i64 0, .int .i64 0, .int .i64 0] := by
    obtain ⟨H3, s1, s2, s3⟩ := store_whole (n := 3) (x := .agg [.int .i64 0, .int .i64 0, .int .i64 0]) e0.wf rfl rfl (by rw [e0.floor]; exact hw.1) g0 rfl rfl
    exact ⟨H3, s1, ext_fr hw e0 s3 (fun p hp => by simp at hp; omega), cellsAt_get s2⟩
  have none_in : ¬ (inN P.length a ∧ inN P.length b ∧ inN P.length c) → triF P a b c = none := fun h => by unfold triF; rw [if_neg h]
  by_cases a0 : a < 0
  · have hn := none_in (fun h => by have := h.1.1; omega)
    simp [-storeA_ptr, A71, putAt, hH1, hP1.len, a0, s1, s3, resultsA, resultA, partA, seg, packA, hn, tric]
    exact s2
  by_cases b0 : b < 0
  · have hn := none_in (fun h => by have := h.2.1.1; omega)
    simp [-storeA_ptr, A71, putAt, hH1, hP1.len, a0, b0, s1, s3, resultsA, resultA, partA, seg, packA, hn, tric]
    exact s2
  by_cases c0 : c < 0
  · have hn := none_in (fun h => by have := h.2.2.1; omega)
    simp [-storeA_ptr, A71, putAt, hH1, hP1.len, a0, b0, c0, s1, s3, resultsA, resultA, partA, seg, packA, hn, tric]
    exact s2
  by_cases a1 : (P.length : Int) ≤ a
  · have hn := none_in (fun h => by have := h.1.2; omega)
    simp [-storeA_ptr, A71, putAt, hH1, hP1.len, a0, b0, c0, a1, s1, s3, resultsA, resultA, partA, seg, packA, hn, tric]
    exact s2
  by_cases b1 : (P.length : Int) ≤ b
  · have hn := none_in (fun h => by have := h.2.1.2; omega)
    simp [-storeA_ptr, A71, putAt, hH1, hP1.len, a0, b0, c0, a1, b1, s1, s3, resultsA, resultA, partA, seg, packA, hn, tric]
    exact s2
  by_cases c1 : (P.length : Int) ≤ c
  · have hn := none_in (fun h => by have := h.2.2.2; omega)
    simp [-storeA_ptr, A71, putAt, hH1, hP1.len, a0, b0, c0, a1, b1, c1, s1, s3, resultsA, resultA, partA, seg, packA, hn, tric]
    exact s2
  have hi : inN P.length a ∧ inN P.length b ∧ inN P.length c := ⟨⟨by omega, by omega⟩, ⟨by omega, by omega⟩, by omega, by omega⟩
  obtain ⟨p1, xa, y1, y2, y3, _⟩ := Sl.idx hP1 (k := .i64) (i := a) hi.1.1 hi.1.2
  obtain ⟨p2, xb, z1, z2, z3, _⟩ := Sl.idx hP1 (k := .i64) (i := b) hi.2.1.1 hi.2.1.2
  obtain ⟨p3, xc, w1, w2, w3, _⟩ := Sl.idx hP1 (k := .i64) (i := c) hi.2.2.1 hi.2.2.2
  have hor : orT P a b c = orZ xa xb xc := by unfold orT; rw [ptQ_get y1, ptQ_get z1, ptQ_get w1]
  simp [-storeA_ptr, A71, putAt, hH1, hP1.len, a0, b0, c0, a1, b1, c1, y2, y3, z2, z3, w2, w3]
  refine (ho e0.wf).mono ?_
  rintro _ H4 ⟨rfl, e4⟩
  rw [← hor]
  by_cases z : orT P a b c = 0
  · have hn : triF P a b c = none := by unfold triF; rw [if_pos hi, if_pos z]
    obtain ⟨H5, k1, k2, k3⟩ : ∃ H3, storeA H4 3 (.ptr H.next 0) (.agg [.int .i64 0, .int .i64 0, .int .i64 0]) = some (undefA, H3) ∧ Ext H H3 ∧ H3.cellsAt H.next = some [.int .i64 0, .int .i64 0, .int .i64 0] := by
      obtain ⟨H3, s1, s2, s3⟩ := store_whole (n := 3) (x := .agg [.int .i64 0, .int .i64 0, .int .i64 0]) e4.wf rfl rfl (by rw [e4.floor, e0.floor]; exact hw.1) (e4.keep _ _ g0) rfl rfl
      exact ⟨H3, s1, ext_fr hw (e0.trans e4) s3 (fun p hp => by simp at hp; omega), cellsAt_get s2⟩
    simp [-storeA_ptr, z, k1, k3, resultsA, resultA, partA, seg, packA, hn, tric]
    exact k2
  · have f3 : ∀ (e : Opd → AV) (cs : List AV) (off : Nat) (a b c : Int) (r : List (Nat × Nat × Opd)), fillV e cs off 3 (.agg [.int .i64 a, .int .i64 b, .int .i64 c]) r = if off + 3 ≤ cs.length then fillA e (setSeg cs off [.int .i64 a, .int .i64 b, .int .i64 c]) r else none := fun e cs off a b c r => by simp [fillV]
    obtain ⟨g5, e5⟩ := push_new e4.wf (.cells ((perms a b c).flatMap tric))
    have r5 := (rw_lits (xs := perms a b c) tric_len g5).sl tric_len
    have hg := e5.keep _ _ (e4.keep _ _ g0)
    have hP5 := (hP1.ext e4).ext e5
    have e05 := (e0.trans e4).trans e5
    have hp5 : H4.push (.cells [.int .i64 a, .int .i64 b, .int .i64 c, .int .i64 b, .int .i64 c, .int .i64 a, .int .i64 c, .int .i64 a, .int .i64 b, .int .i64 a, .int .i64 c, .int .i64 b, .int .i64 c, .int .i64 b, .int .i64 a, .int .i64 b, .int .i64 a, .int .i64 c]) = H4.push (.cells ((perms a b c).flatMap tric)) := rfl
    simp [z, f3, setSeg, hp5]
    refine hk e05 (Nat.le_refl _) hg hP5 (v11 := .slc H4.next 0 6 3 6 true) r5 hi z ?_
    simp
end
end Go.Proofs.Ytcepchipgjpkhaa

/- May a mesh be, as the law's own Check asks it. No claim by itself. -/
namespace Go.Proofs.Ytcepchipgjpkhaa
open Go Go.AI
section
variable {FT : Nat → Option FnD} {H H' : Heap}
def SideOk (T : List Tri) (S : List (Int × Int)) (i : Nat) (s : Int × Int) : Prop := leftF (rowsT T) s = i ∧ (leftF (rowsT T) (s.2, s.1) < 0 → hasT (hasE s.1 s.2) S = true)
theorem hasE_iff {l : List (Int × Int)} {a b : Int} : hasT (hasE a b) l = true ↔ (a, b) ∈ l ∨ (b, a) ∈ l := by
  unfold hasT
  rw [List.any_eq_true]
  constructor
  · rintro ⟨⟨x, y⟩, hm, he⟩
    simp only [hasE, Bool.or_eq_true, Bool.and_eq_true, beq_iff_eq] at he
    rcases he with ⟨rfl, rfl⟩ | ⟨rfl, rfl⟩
    · exact .inl hm
    · exact .inr hm
  · rintro (h | h)
    · exact ⟨_, h, by simp [hasE]⟩
    · exact ⟨_, h, by simp [hasE]⟩
theorem ed_nod {P : List (Int × Int)} {t : Tri} (h : TriOk P t) : (edT3 t).Nodup := by
  obtain ⟨a, b, c⟩ := t
  have h1 := h.2.1
  simp only at h1
  simp [edT3]
  omega
theorem flat_nod {α β : Type} (f : α → List β) : ∀ (l : List α) (k : Nat), (∀ (i : Nat) (x : α), l[i]? = some x → (f x).Nodup) → (∀ (i j : Nat) (x y : α) (z : β), i < j → l[i]? = some x → l[j]? = some y → z ∈ f x → z ∉ f y) → ((l.drop k).flatMap f).Nodup := by
  intro l k h1 h2
  induction hn : l.length - k generalizing k with
  | zero => rw [List.drop_eq_nil_of_le (by omega)]; exact List.nodup_nil
  | succ n ih =>
    have hk : k < l.length := by omega
    have hx : l[k]? = some l[k] := List.getElem?_eq_getElem hk
    rw [List.drop_eq_getElem_cons hk, List.flatMap_cons, List.nodup_append]
    refine ⟨h1 k _ hx, ih (k + 1) (by omega), fun a ha b hb => ?_⟩
    rintro rfl
    obtain ⟨y, hy, hby⟩ := List.mem_flatMap.1 hb
    obtain ⟨j, hj⟩ := List.mem_iff_getElem?.1 hy
    rw [List.getElem?_drop] at hj
    exact h2 k (k + 1 + j) _ y a (by omega) hx hj ha hby
theorem chk_mesh {P : List (Int × Int)} {T : List Tri} {S : List (Int × Int)} (h : ∀ (i : Nat) (t : Tri), T[i]? = some t → TriOk P t ∧ ∀ s, s ∈ edT3 t → SideOk T S i s) (hr : Rise ltT T) (hs : SegOk (edsM T) S) : MeshOk P T S where
  tri t ht := by
    obtain ⟨i, hi⟩ := List.mem_iff_getElem?.1 ht
    exact (h i t hi).1
  rise := hr
  nod := by
    rw [edsM_eq]
    have := flat_nod edT3 T 0 (fun i x hx => ed_nod (h i x hx).1) fun i j x y z hij hx hy hz hz' => by
      have h1 := ((h i x hx).2 z hz).1
      have h2 := ((h j y hy).2 z hz').1
      omega
    simpa using this
  segU := hs.up
  segR := hs.rise
  segE := hs.ed
  rim s hm := by
    have hm' := hm
    rw [edsM_eq] at hm'
    obtain ⟨t, ht, hst⟩ := List.mem_flatMap.1 hm'
    obtain ⟨i, hi⟩ := List.mem_iff_getElem?.1 ht
    obtain ⟨_, h2⟩ := (h i t hi).2 s hst
    by_cases hl : leftF (rowsT T) (s.2, s.1) < 0
    · refine .inr ?_
      rcases hasE_iff.1 (h2 hl) with q | q
      · have := hs.up _ q
        simp only at this
        rw [show upE s = (s.1, s.2) by unfold upE; rw [if_pos this]]
        exact q
      · have := hs.up _ q
        simp only at this
        rw [show upE s = (s.2, s.1) by unfold upE; rw [if_neg (by omega)]]
        exact q
    · exact .inl (leftF_mem.1 (show 0 ≤ leftF (rowsT T) (rev s) from by unfold rev; omega))
theorem mesh_side {P : List (Int × Int)} {T : List Tri} {S : List (Int × Int)} (h : MeshOk P T S) {i : Nat} {t : Tri} (ht : T[i]? = some t) {s : Int × Int} (hs : s ∈ edT3 t) : SideOk T S i s := by
  refine ⟨left_at h.nod ht hs, fun hl => ?_⟩
  have hm : s ∈ edsM T := by rw [edsM_eq]; exact List.mem_flatMap.2 ⟨t, List.mem_of_getElem? ht, hs⟩
  rcases h.rim s hm with q | q
  · have : 0 ≤ leftF (rowsT T) (rev s) := leftF_mem.2 q
    unfold rev at this
    omega
  · rw [hasE_iff]
    unfold upE at q
    split at q
    · exact .inl q
    · exact .inr q
/-- The law's own functions. -/
structure RefT (FT : Nat → Option FnD) : Prop where
  or : Or53 FT
  h43 : FT 43 = some (.code A43)
  h55 : FT 55 = some (.code A55)
  h68 : FT 68 = some (.code A68)
  h71 : FT 71 = some (.code A71)
  h72 : FT 72 = some (.code A72)
  h73 : FT 73 = some (.code A73)
def k43i : ACode := subAt [1, 0, 1, 0, 0, 1, 0, 0, 1, 1, 1] A43.body
structure Ck (H1 H' : Heap) (o1 o6 : Nat) (T : List Tri) (S : List (Int × Int)) (t : Tri) (n : Nat) (τ : Env) (j m : Nat) : Prop where
  ex : Ext H1 H'
  le : j ≤ 3
  hm : m = 3 - j
  ok : ∀ s, s ∈ (edT3 t).take j → SideOk T S n s
  t : Tm τ [(1, .ptr o1 0), (3, .int .i64 n), (6, .slc o6 0 3 2 3 true), (7, .int .i64 j)]
theorem chk_k (R : RefT FT) {H1 : Heap} (hw : H1.Wf) {o1 o6 n : Nat} {vP vT vS : AV} {T : List Tri} {S : List (Int × Int)} {t : Tri} (hT : Tris H1 vT T) (hS : Pairs H1 vS S) (lT : T.length ≤ 1000000000) (lS : S.length ≤ 1000000000) (g1 : H1.get o1 = some (.cells [vP, vT, vS])) (r6 : Rw 2 pairc H1 (.slc o6 0 3 2 3 true) (edT3 t)) {τ0 : Env}
    (w : Tm τ0 [(1, .ptr o1 0), (3, .int .i64 n), (6, .slc o6 0 3 2 3 true)]) :
    Wp FT k43i τ0 H1 (fun c τ H' => (c = .next ∧ Ext H1 H' ∧ (∀ s, s ∈ edT3 t → SideOk T S n s) ∧ Tm τ [(1, .ptr o1 0), (3, .int .i64 n)]) ∨ (c = .ret ∧ ¬ (∀ s, s ∈ edT3 t → SideOk T S n s) ∧ Ext H1 H' ∧ Tm τ [(2, .int .i64 2)])) := by
  simp at w
  obtain ⟨w1, w3, w6⟩ := w
  have ld : ∀ {H2 : Heap}, Ext H1 H2 → loadA H2 none (.ptr o1 1) = some vT ∧ loadA H2 none (.ptr o1 2) = some vS := fun e => ⟨load_get (e.keep _ _ g1) rfl, load_get (e.keep _ _ g1) rfl⟩
  simp [k43i, subAt, A43]
  refine Wp_loop (fun m τ H' => ∃ j, Ck H1 H' o1 o6 T S t n τ j m) ?_ 3 _ _ ⟨0, ⟨Ext.refl hw, by omega, rfl, by simp, by simp [w1, w3, w6]⟩⟩
  rintro m τ H2 ⟨j, ⟨ex, hj, rfl, ok, u⟩⟩
  simp at u
  obtain ⟨t1, t3, t6, t7⟩ := u
  by_cases qj : j < 3
  · have qj' : (j : Int) < 3 := by omega
    obtain ⟨o, off, s, b1, b2, _, b3, b4⟩ := Pairs.idx ((r6.ext ex).sl pairc_len) (k := .i64) (i := (j : Int)) (by omega) (by show (j : Int) < 3; omega)
    rw [Int.toNat_natCast] at b1
    have hsm := List.mem_of_getElem? b1
    have wj : IntKind.i64.wrap ((j : Int) + 1) = (j : Int) + 1 := wrap64 (by omega) (by omega)
    have go : SideOk T S n s → ∀ x, x ∈ (edT3 t).take (j + 1) → SideOk T S n x := fun h x hx => by
      rw [List.take_add_one, b1] at hx
      rcases List.mem_append.1 hx with k | k
      · exact ok x k
      · simp at k; subst k; exact h
    obtain ⟨f1, f2⟩ := ld ex
    simp [qj', t1, t6, t7, f1, b2, b3, b4]
    refine (left72 R.h55 R.h72 ex.wf (hT.ext ex) lT).mono ?_
    rintro _ H3 ⟨rfl, e3⟩
    have x3 := ex.trans e3
    obtain ⟨f1, f2⟩ := ld x3
    have b3' := load_ext b3 e3
    have b4' := load_ext b4 e3
    by_cases c1 : leftF (rowsT T) s = n
    · have c1' : leftF (rowsT T) (s.1, s.2) = n := c1
      simp [c1', t1, t3, t6, t7, f1, b2, b3', b4']
      refine (left72 R.h55 R.h72 x3.wf (hT.ext x3) lT).mono ?_
      rintro _ H4 ⟨rfl, e4⟩
      have x4 := x3.trans e4
      obtain ⟨f1, f2⟩ := ld x4
      have b3'' := load_ext b3' e4
      have b4'' := load_ext b4' e4
      by_cases c2 : leftF (rowsT T) (s.2, s.1) < 0
      · simp [c2, t1, t6, t7, f2, b2, b3'', b4'']
        refine (has73 R.h73 x4.wf (hS.ext x4) lS).mono ?_
        rintro _ _ ⟨rfl, rfl⟩
        cases hh : hasT (hasE s.1 s.2) S with
        | true =>
          simp [t7, wj]
          exact ⟨_, by omega, j + 1, ⟨x4, by omega, rfl, go ⟨c1, fun _ => hh⟩, by simp [t1, t3, t6]⟩⟩
        | false =>
          simp
          exact ⟨⟨s.1, s.2, hsm, fun h => by rw [h.2 c2] at hh; cases hh⟩, x4⟩
      · simp [c2, t7, wj]
        exact ⟨_, by omega, j + 1, ⟨x4, by omega, rfl, go ⟨c1, fun h => absurd h c2⟩, by simp [t1, t3, t6]⟩⟩
    · have c1' : ¬ leftF (rowsT T) (s.1, s.2) = n := c1
      simp [c1', t3]
      exact ⟨⟨s.1, s.2, hsm, fun h => c1 h.1⟩, x3⟩
  · have hj3 : j = 3 := by omega
    subst hj3
    simp [t7]
    exact ⟨ex, fun a b h => ok _ h, by simp [t1, t3]⟩
end
end Go.Proofs.Ytcepchipgjpkhaa

/- May a mesh be, as the law's own Check asks it: the triangles. No claim by itself. -/
namespace Go.Proofs.Ytcepchipgjpkhaa
open Go Go.AI
section
variable {FT : Nat → Option FnD} {H H' : Heap}
def k43a : ACode := subAt [1, 0] A43.body
theorem body43a : k43a = putAt [1, 0, 0, 1, 0, 0, 1, 1, 1] k43a k43i := rfl
def TriGood (P : List (Int × Int)) (T : List Tri) (S : List (Int × Int)) (i : Nat) (t : Tri) : Prop := TriOk P t ∧ ∀ s, s ∈ edT3 t → SideOk T S i s
structure Ca (P : List (Int × Int)) (T : List Tri) (S : List (Int × Int)) (H1 H' : Heap) (o1 : Nat) (τ : Env) (i m : Nat) : Prop where
  ex : Ext H1 H'
  ok : ∀ (j : Nat) (t : Tri), j < i → T[j]? = some t → TriGood P T S j t
  rise : Rise ltT (T.take i)
  le : i ≤ T.length
  hm : m = T.length - i
  t : Tm τ [(1, .ptr o1 0), (3, .int .i64 i)]
theorem chk43a (R : RefT FT) {H1 : Heap} (hw : H1.Wf) {o1 : Nat} {vP vT vS : AV} {P : List (Int × Int)} {T : List Tri} {S : List (Int × Int)} (hP : Pairs H1 vP P) (hT : Tris H1 vT T) (hS : Pairs H1 vS S) (lP : P.length ≤ 1000000000) (lT : T.length ≤ 1000000000) (lS : S.length ≤ 1000000000) (g1 : H1.get o1 = some (.cells [vP, vT, vS])) {τ0 : Env}
    (w : Tm τ0 [(1, .ptr o1 0)]) :
    Wp FT k43a τ0 H1 (fun c τ H' => (c = .next ∧ Ext H1 H' ∧ (∀ (j : Nat) (t : Tri), T[j]? = some t → TriGood P T S j t) ∧ Rise ltT T ∧ Tm τ [(1, .ptr o1 0)]) ∨ (c = .ret ∧ ¬ MeshOk P T S ∧ Ext H1 H' ∧ Tm τ [(2, .int .i64 2)])) := by
  simp at w
  rw [body43a]
  have hkk := @chk_k FT R
  generalize k43i = ki at hkk ⊢
  have ld : ∀ {H2 : Heap}, Ext H1 H2 → loadA H2 none (.ptr o1 0) = some vP ∧ loadA H2 none (.ptr o1 1) = some vT := fun e => ⟨load_get (e.keep _ _ g1) rfl, load_get (e.keep _ _ g1) rfl⟩
  simp [k43a, subAt, putAt, A43]
  refine Wp_loop (fun m τ H' => ∃ i, Ca P T S H1 H' o1 τ i m) ?_ T.length _ _ ⟨0, ⟨Ext.refl hw, fun j t h => (by omega), by simp, by omega, by omega, by simp [w]⟩⟩
  rintro m τ H2 ⟨i, ⟨ex, ok, rise, hi, rfl, u⟩⟩
  simp at u
  obtain ⟨t1, t3⟩ := u
  obtain ⟨f0, f1⟩ := ld ex
  have hT2 := hT.ext ex
  have hP2 := hP.ext ex
  by_cases q : i < T.length
  · have wi : IntKind.i64.wrap ((i : Int) + 1) = (i : Int) + 1 := wrap64 (by omega) (by omega)
    obtain ⟨o2, off2, t, a1, a2, a3, b0, b1, b2⟩ := Tris.idx hT2 (k := .i64) (i := (i : Int)) (by omega) (by omega)
    rw [Int.toNat_natCast] at a1
    have htm := List.mem_of_getElem? a1
    have htk : T.take (i + 1) = T.take i ++ [t] := by rw [List.take_add_one, a1]; rfl
    simp [q, t1, t3, f0, f1, hT2.len, a2, b0, b1, b2]
    refine quietP (L := fun r => r = .tup [.agg (tric ((triF P t.1 t.2.1 t.2.2).getD (0, 0, 0))), .bool (triF P t.1 t.2.1 t.2.2).isSome]) ex.wf (tri71 R.or R.h71 ex.wf.up hP2.up lP) ?_
    rintro _ H4 rfl e4
    obtain ⟨H5, st6, g6, e6, n6⟩ := store_new e4.wf (z := [.int .i64 0, .int .i64 0, .int .i64 0]) (n := 3) (x := .agg (tric ((triF P t.1 t.2.1 t.2.2).getD (0, 0, 0)))) (cs := tric ((triF P t.1 t.2.1 t.2.2).getD (0, 0, 0))) rfl rfl rfl rfl
    have x5 := ex.trans (e4.trans e6)
    have bad : triF P t.1 t.2.1 t.2.2 ≠ some t → ¬ MeshOk P T S := fun h k => h (triF_ok.2 (k.tri t htm))
    have l6 : loadA H5 (some 3) (.ptr H4.next 0) = some (.agg (tric ((triF P t.1 t.2.1 t.2.2).getD (0, 0, 0)))) := load_agg g6 rfl
    have l5 : loadA H5 (some 3) (.ptr o2 off2) = some (.agg (tric t)) := load_ext (load_ext a3 e4) e6
    obtain ⟨_, f1'⟩ := ld x5
    cases ho : triF P t.1 t.2.1 t.2.2 with
    | none =>
      rw [ho] at st6
      simp only [Option.getD_none] at st6
      have hb := bad (by rw [ho]; simp)
      simp [-storeA_ptr, st6]
      exact ⟨hb, x5⟩
    | some u =>
      rw [ho] at st6 l6
      simp only [Option.getD_some] at st6 l6
      by_cases hu : u = t
      · subst hu
        have htok : TriOk P u := triF_ok.1 ho
        have hne := neqTri u u
        rw [decide_eq_true rfl] at hne
        by_cases i0 : i = 0
        · subst i0
          have hrise : Rise ltT (T.take (0 + 1)) := by rw [htk]; simp
          have a2z : indexAddrV 3 vT (.int .i64 0) = some (.ptr o2 off2) := a2
          simp [-storeA_ptr, st6, l6, l5, t1, t3, f1', a2z, hne]
          refine (sides55 R.h55 e6.wf (t := u)).mono ?_
          rintro _ H7 ⟨o6, rfl, r6, _, e7⟩
          have x7 := x5.trans e7
          simp
          refine (hkk x7.wf (o1 := o1) (n := 0) (hT.ext x7) (hS.ext x7) lT lS (x7.keep _ _ g1) r6 (by simp [t1, t3])).mono ?_
          rintro c τ2 H8 (⟨rfl, e8, hok, w⟩ | ⟨rfl, hb, e8, w⟩)
          · simp at w
            obtain ⟨t1, t3⟩ := w
            simp [t3, show IntKind.i64.wrap 1 = 1 from rfl]
            refine ⟨_, by omega, 0 + 1, ⟨x7.trans e8, fun j t' hj ht' => ?_, hrise, by omega, rfl, by simp [t1]⟩⟩
            obtain rfl : j = 0 := by omega
            rw [a1] at ht'
            cases ht'
            exact ⟨htok, hok⟩
          · simp at w
            simp [w]
            exact ⟨fun h => hb fun s hs => mesh_side h a1 hs, x7.trans e8⟩
        · have i0' : 0 < (i : Int) := by omega
          obtain ⟨i', rfl⟩ : ∃ i', i = i' + 1 := ⟨i - 1, by omega⟩
          have wm : IntKind.i64.wrap (i' : Int) = i' := wrap64 (by omega) (by omega)
          have hT5 := hT.ext x5
          obtain ⟨o7, off7, y, b1', b2', b3', _⟩ := Tris.idx hT5 (k := .i64) (i := (i' : Int)) (by omega) (by omega)
          rw [Int.toNat_natCast] at b1'
          push_cast at i0' wi a2
          simp [-storeA_ptr, st6, l6, l5, hne, t1, t3, i0', wm, f1', a2, b2', b3']
          refine (before68 R.h68 e6.wf).mono ?_
          rintro _ H6 ⟨rfl, e7'⟩
          have x6 := x5.trans e7'
          cases hlt : ltT y u with
          | false =>
            have hb : ¬ MeshOk P T S := fun h => rise_no b1' a1 hlt h.rise
            simp
            exact ⟨hb, x6⟩
          | true =>
            have hrise : Rise ltT (T.take (i' + 1 + 1)) := rise_snoc stoT rise b1' a1 hlt
            have l6' := load_ext l6 e7'
            simp [l6']
            refine (sides55 R.h55 x6.wf (t := u)).mono ?_
            rintro _ H7 ⟨o6, rfl, r6, _, e7⟩
            have x7 := x6.trans e7
            simp
            refine (hkk x7.wf (o1 := o1) (n := i' + 1) (hT.ext x7) (hS.ext x7) lT lS (x7.keep _ _ g1) r6 (by simp [t1, t3])).mono ?_
            rintro c τ2 H8 (⟨rfl, e8, hok, w⟩ | ⟨rfl, hb, e8, w⟩)
            · simp at w
              obtain ⟨t1, t3⟩ := w
              simp [t3, wi]
              refine ⟨_, by omega, i' + 1 + 1, ⟨x7.trans e8, fun j t' hj ht' => ?_, hrise, by omega, rfl, by simp [t1]⟩⟩
              by_cases hji : j = i' + 1
              · subst hji
                rw [a1] at ht'
                cases ht'
                exact ⟨htok, hok⟩
              · exact ok j t' (by omega) ht'
            · simp at w
              simp [w]
              exact ⟨fun h => hb fun s hs => mesh_side h a1 hs, x7.trans e8⟩
      · have hb := bad (by rw [ho]; simpa using hu)
        have hne := neqTri u t
        rw [decide_eq_false hu] at hne
        simp [-storeA_ptr, st6, l6, l5, t1, t3, f1', a2, hne]
        exact ⟨hb, x5⟩
  · have hil : i = T.length := by omega
    subst hil
    rw [List.take_length] at rise
    simp [t1, t3, f1, hT2.len]
    exact ⟨ex, fun j a b c h => ok j _ (List.getElem?_eq_some_iff.1 h).1 h, rise⟩
end
end Go.Proofs.Ytcepchipgjpkhaa

/- May a mesh be, as the law's own Check asks it: the segments; all of it. No claim by itself. -/
namespace Go.Proofs.Ytcepchipgjpkhaa
open Go Go.AI
section
variable {FT : Nat → Option FnD} {H H' : Heap}
def k43b : ACode := subAt [1, 1] A43.body
def k43c : ACode := subAt [0, 1, 0, 0, 1, 0, 0, 1, 1] k43b
theorem body43b : k43b = putAt [0, 1, 0, 0, 1, 0, 0, 1, 1] k43b k43c := rfl
theorem body43 : A43.body = putAt [1] A43.body (.seq k43a k43b) := rfl
theorem chk_s (R : RefT FT) {H1 : Heap} (hw : H1.Wf) {o1 o9 i : Nat} {vP vT vS : AV} {T : List Tri} {s : Int × Int} (hT : Tris H1 vT T) (lT : T.length ≤ 1000000000) (g1 : H1.get o1 = some (.cells [vP, vT, vS])) (g9 : H1.get o9 = some (.cells (pairc s))) {τ0 : Env}
    (w : Tm τ0 [(1, .ptr o1 0), (8, .int .i64 i), (9, .ptr o9 0)]) :
    Wp FT k43c τ0 H1 (fun c τ H' => (c = .next ∧ Ext H1 H' ∧ (s ∈ edsM T ∨ rev s ∈ edsM T) ∧ Tm τ [(1, .ptr o1 0), (8, .int .i64 i)]) ∨ (c = .ret ∧ ¬ (s ∈ edsM T ∨ rev s ∈ edsM T) ∧ Ext H1 H' ∧ Tm τ [(2, .int .i64 2)])) := by
  simp at w
  obtain ⟨t1, t8, t9⟩ := w
  have ld : ∀ {H2 : Heap}, Ext H1 H2 → loadA H2 none (.ptr o1 1) = some vT ∧ loadA H2 none (.ptr o9 0) = some (.int .i64 s.1) ∧ loadA H2 none (.ptr o9 1) = some (.int .i64 s.2) := fun e => ⟨load_get (e.keep _ _ g1) rfl, load_get (e.keep _ _ g9) rfl, load_get (e.keep _ _ g9) rfl⟩
  obtain ⟨f1, b0, b1⟩ := ld (Ext.refl hw)
  have m1 : ¬ leftF (rowsT T) (s.1, s.2) < 0 → s ∈ edsM T := fun h => leftF_mem.1 (show 0 ≤ leftF (rowsT T) (s.1, s.2) by omega)
  have m2 : ¬ leftF (rowsT T) (s.2, s.1) < 0 → rev s ∈ edsM T := fun h => leftF_mem.1 (show 0 ≤ leftF (rowsT T) (s.2, s.1) by omega)
  simp [k43c, k43b, subAt, A43, t1, t9, f1, b0, b1]
  refine (left72 R.h55 R.h72 hw hT lT).mono ?_
  rintro _ H4 ⟨rfl, e4⟩
  obtain ⟨f1, b0, b1⟩ := ld e4
  by_cases c2 : leftF (rowsT T) (s.1, s.2) < 0
  · simp [c2, t1, t9, f1, b0, b1]
    refine (left72 R.h55 R.h72 e4.wf (hT.ext e4) lT).mono ?_
    rintro _ H5 ⟨rfl, e5⟩
    by_cases c3 : leftF (rowsT T) (s.2, s.1) < 0
    · simp [c3]
      refine ⟨⟨fun h => ?_, fun h => ?_⟩, e4.trans e5⟩
      · have : 0 ≤ leftF (rowsT T) (s.1, s.2) := leftF_mem.2 h
        omega
      · have : 0 ≤ leftF (rowsT T) (s.2, s.1) := leftF_mem.2 h
        omega
    · simp [c3]
      exact ⟨e4.trans e5, .inr (m2 c3), t1, t8⟩
  · simp [c2]
    exact ⟨e4, .inl (m1 c2), t1, t8⟩
structure Cb (T : List Tri) (S : List (Int × Int)) (H1 H' : Heap) (o1 : Nat) (τ : Env) (i m : Nat) : Prop where
  ex : Ext H1 H'
  ok : SegOk (edsM T) (S.take i)
  le : i ≤ S.length
  hm : m = S.length - i
  t : Tm τ [(1, .ptr o1 0), (8, .int .i64 i)]
theorem chk43b (R : RefT FT) {H1 : Heap} {P : List (Int × Int)} (hw : H1.Wf) (e0 : Ext H H1) {o1 : Nat} {vP vT vS : AV} {T : List Tri} {S : List (Int × Int)} (hT : Tris H1 vT T) (hS : Pairs H1 vS S) (lT : T.length ≤ 1000000000) (lS : S.length ≤ 1000000000) (g1 : H1.get o1 = some (.cells [vP, vT, vS])) (hm : SegOk (edsM T) S ↔ MeshOk P T S) {τ0 : Env}
    (w : Tm τ0 [(1, .ptr o1 0)]) :
    Wp FT k43b τ0 H1 (finQ A43.results fun r H' => r = .int .i64 (chkM P T S) ∧ Ext H H') := by
  have no : ¬ SegOk (edsM T) S → chkM P T S = 2 := fun h => chkM_no fun k => h (hm.2 k)
  simp at w
  have ld : ∀ {H2 : Heap}, Ext H1 H2 → loadA H2 none (.ptr o1 1) = some vT ∧ loadA H2 none (.ptr o1 2) = some vS := fun e => ⟨load_get (e.keep _ _ g1) rfl, load_get (e.keep _ _ g1) rfl⟩
  rw [body43b]
  have hks := @chk_s FT R
  generalize k43c = kc at hks ⊢
  simp [k43b, subAt, putAt, A43]
  refine Wp_loop (fun m τ H' => ∃ i, Cb T S H1 H' o1 τ i m) ?_ S.length _ _ ⟨0, ⟨Ext.refl hw, ⟨by simp, by simp, by simp⟩, by omega, by omega, by simp [w]⟩⟩
  rintro m τ H2 ⟨i, ⟨ex, ok, hi, rfl, u⟩⟩
  simp at u
  obtain ⟨t1, t8⟩ := u
  obtain ⟨f1, f2⟩ := ld ex
  have hS2 := hS.ext ex
  have hT2 := hT.ext ex
  by_cases q : i < S.length
  · have wi : IntKind.i64.wrap ((i : Int) + 1) = (i : Int) + 1 := wrap64 (by omega) (by omega)
    obtain ⟨o2, off2, s, a1, a2, a3, _⟩ := Pairs.idx hS2 (k := .i64) (i := (i : Int)) (by omega) (by omega)
    rw [Int.toNat_natCast] at a1
    have hsm := List.mem_of_getElem? a1
    have htk : S.take (i + 1) = S.take i ++ [s] := by rw [List.take_add_one, a1]; rfl
    obtain ⟨H3, st3, g5, e3, n3⟩ := store_new ex.wf (z := [.int .i64 0, .int .i64 0]) (n := 2) (x := .agg (pairc s)) (cs := pairc s) rfl rfl rfl rfl
    have x3 := ex.trans e3
    obtain ⟨f1', f2'⟩ := ld x3
    have b0 : loadA H3 none (.ptr H2.next 0) = some (.int .i64 s.1) := load_get g5 rfl
    have b1 : loadA H3 none (.ptr H2.next 1) = some (.int .i64 s.2) := load_get g5 rfl
    by_cases c1 : s.2 ≤ s.1
    · have hb : ¬ SegOk (edsM T) S := fun h => by have := h.up s hsm; omega
      simp [q, t1, t8, f2, hS2.len, a2, a3, st3, b0, b1, c1]
      exact ⟨(no hb).symm, e0.trans x3⟩
    · have fin : Rise ltS (S.take (i + 1)) → (s ∈ edsM T ∨ rev s ∈ edsM T) → SegOk (edsM T) (S.take (i + 1)) := fun hrise h => by
        refine ⟨fun x hx => ?_, hrise, fun x hx => ?_⟩
        · rw [htk] at hx
          rcases List.mem_append.1 hx with r | r
          · exact ok.up x r
          · simp at r; subst r; omega
        · rw [htk] at hx
          rcases List.mem_append.1 hx with r | r
          · exact ok.ed x r
          · simp at r; subst r; exact h
      have bad : ¬ (s ∈ edsM T ∨ rev s ∈ edsM T) → ¬ SegOk (edsM T) S := fun h k => h (k.ed s hsm)
      have tail : ∀ {τ1 : Env}, Rise ltS (S.take (i + 1)) → Tm τ1 [(1, .ptr o1 0), (8, .int .i64 i), (9, .ptr H2.next 0)] →
          Wp FT kc τ1 H3 (fun c τ H' => (c = .next ∧ Ext H1 H' ∧ SegOk (edsM T) (S.take (i + 1)) ∧ Tm τ [(1, .ptr o1 0), (8, .int .i64 i)]) ∨ (c = .ret ∧ ¬ SegOk (edsM T) S ∧ Ext H1 H' ∧ Tm τ [(2, .int .i64 2)])) := fun hrise hu =>
        (hks x3.wf (hT.ext x3) lT (x3.keep _ _ g1) g5 hu).mono (by
          rintro c τ' H' (⟨rfl, e, h, k⟩ | ⟨rfl, h, e, k⟩)
          · exact .inl ⟨rfl, x3.trans e, fin hrise h, k⟩
          · exact .inr ⟨rfl, bad h, x3.trans e, k⟩)
      by_cases i0 : i = 0
      · subst i0
        have hrise : Rise ltS (S.take (0 + 1)) := by rw [htk]; simp
        have a2z : indexAddrV 2 vS (.int .i64 0) = some (.ptr o2 off2) := a2
        simp [q, t1, t8, f2, hS2.len, a2z, a3, st3, b0, b1, c1]
        refine (tail hrise (by simp [t1, t8])).mono ?_
        rintro c τ2 H4 (⟨rfl, e4, h, k⟩ | ⟨rfl, h, e4, k⟩)
        · simp at k
          simp [k, show IntKind.i64.wrap 1 = 1 from rfl]
          exact ⟨_, by omega, 0 + 1, ⟨e4, h, by omega, rfl, by simp [k]⟩⟩
        · simp at k
          simp [k]
          exact ⟨(no h).symm, e0.trans e4⟩
      · have i0' : 0 < (i : Int) := by omega
        obtain ⟨i', rfl⟩ : ∃ i', i = i' + 1 := ⟨i - 1, by omega⟩
        have wm : IntKind.i64.wrap (i' : Int) = i' := wrap64 (by omega) (by omega)
        have hS3 := hS.ext x3
        obtain ⟨o7, off7, y, d1, d2, _, d3, d4⟩ := Pairs.idx hS3 (k := .i64) (i := (i' : Int)) (by omega) (by omega)
        rw [Int.toNat_natCast] at d1
        push_cast at i0' wi a2
        have q' : (i' : Int) + 1 < S.length := by omega
        have hbad : ltS y s = false → ¬ SegOk (edsM T) S := fun hge h => rise_no d1 a1 hge h.rise
        rcases ltS_cases y s with ⟨h1, hl⟩ | ⟨h0, h1, h2, hl⟩ | ⟨h0, h1, h2, hl⟩ | ⟨h0, h1, hl⟩
        · have n1 : ¬ s.1 < y.1 := by omega
          have n2 : ¬ y.1 = s.1 := by omega
          simp [q', t1, t8, f2, f2', hS2.len, a2, a3, st3, b0, b1, c1, i0', wm, d2, d3, n1, n2]
          refine (tail (rise_snoc stoS ok.rise d1 a1 hl) (by simp [t1, t8])).mono ?_
          rintro c τ2 H4 (⟨rfl, e4, h, k⟩ | ⟨rfl, h, e4, k⟩)
          · simp at k
            simp [k, wi]
            exact ⟨_, by omega, i' + 1 + 1, ⟨e4, h, by omega, rfl, by simp [k]⟩⟩
          · simp at k
            simp [k]
            exact ⟨(no h).symm, e0.trans e4⟩
        · have n1 : ¬ s.1 < y.1 := by omega
          have n2 : ¬ s.2 ≤ y.2 := by omega
          simp [q', t1, t8, f2, f2', hS2.len, a2, a3, st3, b0, b1, c1, i0', wm, d2, d3, d4, h1, n2]
          refine (tail (rise_snoc stoS ok.rise d1 a1 hl) (by simp [t1, t8])).mono ?_
          rintro c τ2 H4 (⟨rfl, e4, h, k⟩ | ⟨rfl, h, e4, k⟩)
          · simp at k
            simp [k, wi]
            exact ⟨_, by omega, i' + 1 + 1, ⟨e4, h, by omega, rfl, by simp [k]⟩⟩
          · simp at k
            simp [k]
            exact ⟨(no h).symm, e0.trans e4⟩
        · have n1 : ¬ s.1 < y.1 := by omega
          have n2 : s.2 ≤ y.2 := by omega
          simp [q', t1, t8, f2, f2', hS2.len, a2, a3, st3, b0, b1, c1, i0', wm, d2, d3, d4, h1, n2]
          exact ⟨(no (hbad hl)).symm, e0.trans x3⟩
        · have n1 : s.1 < y.1 := by omega
          simp [q', t1, t8, f2, f2', hS2.len, a2, a3, st3, b0, b1, c1, i0', wm, d2, d3, n1]
          exact ⟨(no (hbad hl)).symm, e0.trans x3⟩
  · have hil : i = S.length := by omega
    subst hil
    rw [List.take_length] at ok
    simp [t1, t8, f2, hS2.len]
    exact ⟨(chkM_ok (hm.1 ok)).symm, e0.trans ex⟩
theorem check43 (R : RefT FT) (hw : H.Wf) {x : AV} {P : List (Int × Int)} {T : List Tri} {S : List (Int × Int)} (hm : Msh H x P T S) (lP : P.length ≤ 1000000000) (lT : T.length ≤ 1000000000) (lS : S.length ≤ 1000000000) :
    Cp FT 43 [x] H (fun r H' => r = .int .i64 (chkM P T S) ∧ Ext H H') := by
  obtain ⟨vP, vT, vS, rfl, rP, rT, rS⟩ := hm.ex
  refine Cp_code A43 R.h43 rfl ?_
  obtain ⟨g1, e1⟩ := push_new hw (.cells [vP, vT, vS])
  have hall : allOne [vP, vT, vS] = true := by simp [allOne, rP.one.1, rT.one.1, rS.one.1]
  have ka := @chk43a FT R
  have kb := @chk43b FT H R
  rw [body43]
  generalize k43a = k1 at ka ⊢
  generalize k43b = k2 at kb ⊢
  have hP1 := (rP.sl pairc_len).ext e1
  have hT1 := (rT.sl tric_len).ext e1
  have hS1 := (rS.sl pairc_len).ext e1
  simp [A43, putAt, hall]
  refine (ka e1.wf (o1 := H.next) hP1 hT1 hS1 lP lT lS g1 (by simp)).mono ?_
  rintro c τ H2 (⟨rfl, e2, h1, h2, w⟩ | ⟨rfl, hb, e2, w⟩)
  · simp
    exact kb e2.wf (e1.trans e2) (o1 := H.next) (hT1.ext e2) (hS1.ext e2) lT lS (e2.keep _ _ g1) ⟨fun h => chk_mesh h1 h2 h, fun h => ⟨h.segU, h.segR, h.segE⟩⟩ w
  · simp at w
    simp [w, chkM_no hb]
    exact e1.trans e2
end
end Go.Proofs.Ytcepchipgjpkhaa
