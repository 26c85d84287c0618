/- Sides of edges: the statement FacesSides, walked. No claim by itself. -/
import Derived.Test.YtcepchipgjpkhaaL5
namespace Go.Proofs.Ytcepchipgjpkhaa
open Go Go.AI
section
variable {H : Heap} {FT : Nat → Option FnD}
def k6a : ACode := subAt [1, 1, 1, 1, 0, 1] A6.body
def k6b : ACode := subAt [1, 1, 1, 1, 1, 1, 1, 0, 1] A6.body
def k6c : ACode := subAt [1, 1, 1, 1, 1, 1, 1, 1, 1, 0, 1] A6.body
def k6i : ACode := subAt [0, 0, 1, 0, 0, 1] k6a
def k6j : ACode := subAt [0, 0, 1, 0, 0, 0, 1] k6c
theorem body6 : A6.body = putAt [1, 1, 1, 1, 0, 1] (putAt [1, 1, 1, 1, 1, 1, 1, 0, 1] (putAt [1, 1, 1, 1, 1, 1, 1, 1, 1, 0, 1] A6.body k6c) k6b) k6a := rfl
theorem body6a : k6a = putAt [0, 0, 1, 0, 0, 1] k6a k6i := rfl
theorem body6c : k6c = putAt [0, 0, 1, 0, 0, 0, 1] k6c k6j := rfl
theorem way_zip : ∀ (a : Int) (l : List Int) (b : Int), wayE (a :: l) b = (a :: l).zip (l ++ [b])
  | a, [], b => rfl
  | a, c :: l, b => by
    show (a, c) :: wayE (c :: l) b = _
    rw [way_zip c l b]; rfl
theorem way_edges (c : Int) (t : List Int) : wayE (c :: t) c = edgesF (c :: t) := by
  rw [way_zip]; unfold edgesF; simp
/-- The rims' edges are the edges of the faces that have no other side; the rims are as long as these are many. -/
theorem rims_edges {n : Int} {F : List (List Int)} (hc : chkF n F = 0) (hn : (keys (rimE (allE F))).Nodup) :
    (rimsF (allE F)).flatten.length = (rimE (allE F)).length ∧ ∀ r, r ∈ rimsF (allE F) → ∀ s, s ∈ edgesF r → s ∈ allE F ∧ rev s ∉ allE F := by
  obtain ⟨h1, h2⟩ := rings_all _ (srtI_le _) (Nat.le_refl _) hn (rim_bal (chkF_zero hc).2.2 (allE_bal F)) (fun x hx => srtI_mem.2 hx)
  refine ⟨by rw [List.length_flatten]; exact h1, fun r hr s hs => ?_⟩
  obtain ⟨c, t, rfl, h⟩ := h2 r hr
  rw [way_edges] at h
  exact rimE_mem.1 (h s hs)
def oneF (F : List (List Int)) (s : Int × Int) : Bool := decide (leftF F s < 0) || decide (leftF F (rev s) < 0)
theorem ones_len {n : Int} {F : List (List Int)} (hc : chkF n F = 0) : ((edS (allE F)).filter (oneF F)).length = (rimE (allE F)).length := by
  have hn := (chkF_zero hc).2.2
  have hm : (rimE (allE F)).length = ((rimE (allE F)).map upE).length := by simp
  rw [hm]
  refine nodup_len_eq ((edS_rise _).nodup stoS |>.filter _) (map_nodup (hn.filter _) fun x y hx hy e => ?_) fun x => ?_
  · rcases up_inj e with q | q
    · exact q
    · exact absurd ((rimE_mem.1 hx).1) (by rw [q]; exact (rimE_mem.1 hy).2)
  · have hl : ∀ s, leftF F s < 0 ↔ s ∉ allE F := fun s => by
      rw [← leftF_mem]; omega
    have hup : ∀ s : Int × Int, upE s = s ∨ upE s = rev s := fun s => by
      unfold upE; split
      · exact .inl rfl
      · exact .inr rfl
    rw [List.mem_filter, List.mem_map, edS_mem]
    unfold oneF
    rw [Bool.or_eq_true, decide_eq_true_iff, decide_eq_true_iff, hl, hl]
    constructor
    · rintro ⟨⟨s, hs, rfl⟩, h⟩
      refine ⟨s, rimE_mem.2 ⟨hs, ?_⟩, rfl⟩
      rcases hup s with q | q <;> rw [q] at h
      · exact h.resolve_left (fun r => r hs)
      · exact h.resolve_right (fun r => r hs)
    · rintro ⟨s, hs, rfl⟩
      obtain ⟨h1, h2⟩ := rimE_mem.1 hs
      refine ⟨⟨s, h1, rfl⟩, ?_⟩
      rcases hup s with q | q <;> rw [q]
      · exact .inr h2
      · exact .inl h2
theorem ends_len {F : List (List Int)} {s : Int × Int} (h : s ∈ edS (allE F)) : ¬ (leftF F s < 0 ∧ leftF F (rev s) < 0) := by
  obtain ⟨t, ht, rfl⟩ := edS_mem.1 h
  have := leftF_mem.2 ht
  have hup : upE t = t ∨ upE t = rev t := by
    unfold upE; split
    · exact .inl rfl
    · exact .inr rfl
  rcases hup with q | q <;> rw [q]
  · omega
  · rw [rev_rev]; omega
structure Sd1 (H H' : Heap) (vF v5 : AV) (f : List Int) (i : Nat) (τ : Env) (k m : Nat) : Prop where
  ex : Ext H H'
  le : k ≤ f.length
  hm : m = f.length - k
  t : Tm τ [(1, vF), (5, v5), (7, .int .i64 i), (8, .int .i64 k)]
theorem sides_i (T : FacesT FT) {vF v5 : AV} {F : List (List Int)} {f : List Int} {i : Nat} (hw : H.Wf) (hF : Gd H vF F) (hs : Fsz F) (hc : chkF 1048576 F = 0) (hf : F[i]? = some f) {τ0 : Env}
    (u : Tm τ0 [(1, vF), (5, v5), (7, .int .i64 i), (8, .int .i64 0)]) :
    Wp FT k6i τ0 H (fun c τ H' => c = .next ∧ Ext H H' ∧ Tm τ [(1, vF), (5, v5), (7, .int .i64 i)]) := by
  simp at u
  obtain ⟨u1, u5, u7, u8⟩ := u
  have hl := hs.len
  have hfl := hs.row f (List.mem_of_getElem? hf)
  have il : i < F.length := (List.getElem?_eq_some_iff.1 hf).1
  simp [k6i, k6a, subAt, A6]
  refine Wp_loop (fun m τ H' => ∃ k, Sd1 H H' vF v5 f i τ k m) ?_ f.length _ _ ⟨0, ⟨Ext.refl hw, by omega, by omega, by simp [u1, u5, u7, u8]⟩⟩
  rintro m τ H1 ⟨k, ⟨e1, hk, rfl, t⟩⟩
  simp at t
  obtain ⟨t1, t5, t7, t8⟩ := t
  have hF1 := hF.ext e1
  obtain ⟨p, r, f', a1, a2, a3, a4⟩ := hF1.idx (k := .i64) (i := (i : Int)) (by omega) (by omega)
  rw [Int.toNat_natCast, hf] at a1
  cases a1
  by_cases q : k < f.length
  · have w : IntKind.i64.wrap ((k : Int) + 1) = (k : Int) + 1 := wrap64 (by omega) (by omega)
    have hm : (k + 1) % f.length < f.length := Nat.mod_lt _ (by omega)
    have tm : ((k : Int) + 1).tmod (f.length : Int) = ((k : Int) + 1) % (f.length : Int) := tmodN (k + 1) f.length
    have hz : ¬ (f.length : Int) = 0 := by omega
    have hz2 : ¬ f.length = 0 := by omega
    obtain ⟨p1, a, b1, b2, b3⟩ := Ints.idx (a4.sl i64c_len) (k := .i64) (i := (k : Int)) (by omega) (by omega)
    obtain ⟨p2, b, c1, c2, c3⟩ := Ints.idx (a4.sl i64c_len) (k := .i64) (i := (((k + 1) % f.length : Nat) : Int)) (by omega) (by omega)
    rw [Int.toNat_natCast] at b1 c1
    have c2 : indexAddrV 1 r (.int .i64 (((k : Int) + 1) % (f.length : Int))) = some p2 := c2
    have hat : leftF F (a, b) = i := leftF_at (chkF_zero hc).2.2 hf (edgesF_mem.2 ⟨k, b1, c1⟩)
    simp [q, t1, t7, t8, a2, a3, a4.len, b2, b3, c2, c3, w, tm, hz2]
    refine (left22 T hF1 hs e1.wf).mono ?_
    rintro _ H2 ⟨rfl, e2⟩
    rw [if_pos hc, hat]
    simp [t7, t8, w]
    exact ⟨_, by omega, k + 1, ⟨e1.trans e2, by omega, rfl, by simp [t1, t5, t7]⟩⟩
  · simp [q, t1, t7, t8, a2, a3, a4.len]
    exact ⟨e1, by simp [t5]⟩
structure Sd2 (H H' : Heap) (vF v5 : AV) (F : List (List Int)) (τ : Env) (i m : Nat) : Prop where
  ex : Ext H H'
  le : i ≤ F.length
  hm : m = F.length - i
  t : Tm τ [(1, vF), (5, v5), (7, .int .i64 i)]
theorem sides_a (T : FacesT FT) {vF v5 : AV} {F : List (List Int)} (hw : H.Wf) (hF : Gd H vF F) (hs : Fsz F) (hc : chkF 1048576 F = 0) {τ0 : Env}
    (u : Tm τ0 [(1, vF), (5, v5), (7, .int .i64 0)]) :
    Wp FT k6a τ0 H (fun c τ H' => c = .next ∧ Ext H H' ∧ Tm τ [(1, vF), (5, v5)]) := by
  simp at u
  obtain ⟨u1, u5, u7⟩ := u
  have hl := hs.len
  rw [body6a]
  generalize hki : k6i = ki
  simp [k6a, subAt, putAt, A6]
  refine Wp_loop (fun m τ H' => ∃ i, Sd2 H H' vF v5 F τ i m) ?_ F.length _ _ ⟨0, ⟨Ext.refl hw, by omega, by omega, by simp [u1, u5, u7]⟩⟩
  rintro m τ H1 ⟨i, ⟨e1, hi, rfl, t⟩⟩
  simp at t
  obtain ⟨t1, t5, t7⟩ := t
  have hF1 := hF.ext e1
  by_cases q : i < F.length
  · have w : IntKind.i64.wrap ((i : Int) + 1) = (i : Int) + 1 := wrap64 (by omega) (by omega)
    simp [q, t1, t7, hF1.len]
    rw [← hki]
    refine (sides_i T (v5 := v5) e1.wf hF1 hs hc (List.getElem?_eq_getElem q) (by simp [t1, t5, t7])).mono ?_
    rintro c τ2 H2 ⟨rfl, e2, t⟩
    simp at t
    obtain ⟨t1, t5, t7⟩ := t
    simp [t7, w]
    exact ⟨_, by omega, i + 1, ⟨e1.trans e2, by omega, rfl, by simp [t1, t5]⟩⟩
  · simp [q, t1, t7, hF1.len]
    exact ⟨e1, by simp [t5]⟩
structure Sb1 (H H' : Heap) (vF v5 vE : AV) (F : List (List Int)) (E : List (Int × Int)) (τ : Env) (i m : Nat) : Prop where
  ex : Ext H H'
  le : i ≤ E.length
  hm : m = E.length - i
  t : Tm τ [(1, vF), (5, v5), (9, vE), (10, .int .i64 ((E.take i).filter (oneF F)).length), (11, .int .i64 i)]
theorem sides_b (T : FacesT FT) {vF v5 vE : AV} {F : List (List Int)} {E : List (Int × Int)} (hw : H.Wf) (hF : Gd H vF F) (hs : Fsz F) (hc : chkF 1048576 F = 0) (hE : Rw 2 pairc H vE E) (he : ∀ s, s ∈ E → ¬ (leftF F s < 0 ∧ leftF F (rev s) < 0)) (hel : E.length ≤ 1000000000) {τ0 : Env}
    (u : Tm τ0 [(1, vF), (5, v5), (9, vE), (10, .int .i64 0), (11, .int .i64 0)]) :
    Wp FT k6b τ0 H (fun c τ H' => c = .next ∧ Ext H H' ∧ Tm τ [(1, vF), (5, v5), (10, .int .i64 (E.filter (oneF F)).length)]) := by
  simp at u
  obtain ⟨u1, u5, u9, u10, u11⟩ := u
  have hl := hs.len
  simp [k6b, subAt, A6]
  refine Wp_loop (fun m τ H' => ∃ i, Sb1 H H' vF v5 vE F E τ i m) ?_ E.length _ _ ⟨0, ⟨Ext.refl hw, by omega, by omega, by simp [u1, u5, u9, u10, u11]⟩⟩
  rintro m τ H1 ⟨i, ⟨e1, hi, rfl, t⟩⟩
  simp at t
  obtain ⟨t1, t5, t9, t10, t11⟩ := t
  have hF1 := hF.ext e1
  have hE1 := hE.ext e1
  have hcn : ((E.take i).filter (oneF F)).length ≤ E.length := Nat.le_trans (List.length_filter_le _ _) (by rw [List.length_take]; omega)
  by_cases q : i < E.length
  · have w : IntKind.i64.wrap ((i : Int) + 1) = (i : Int) + 1 := wrap64 (by omega) (by omega)
    obtain ⟨o, off, s, a1, a2, _, a3, a4⟩ := Pairs.idx (hE1.sl pairc_len) (k := .i64) (i := (i : Int)) (by omega) (by omega)
    rw [Int.toNat_natCast] at a1
    have hse := he s (List.mem_of_getElem? a1)
    have l1 : leftF F s < F.length := leftF_lt
    have l2 : leftF F (rev s) < F.length := leftF_lt
    obtain ⟨x, y⟩ := s
    simp [q, t1, t9, t11, hE1.len, a2, a3, a4]
    refine (left22 T hF1 hs e1.wf).mono ?_
    rintro _ H2 ⟨rfl, e2⟩
    have a3' := load_ext a3 e2
    have a4' := load_ext a4 e2
    rw [if_pos hc]
    simp [t1, t9, t11, a2, a3', a4']
    refine (left22 T (hF1.ext e2) hs e2.wf).mono ?_
    rintro _ H3 ⟨rfl, e3⟩
    rw [if_pos hc]
    have hrev : rev (x, y) = (y, x) := rfl
    rw [hrev] at hse l2
    have ho : oneF F (x, y) = (decide (leftF F (x, y) < 0) || decide (leftF F (y, x) < 0)) := rfl
    have htk : (E.take (i + 1)).filter (oneF F) = (E.take i).filter (oneF F) ++ if oneF F (x, y) then [(x, y)] else [] := by
      rw [List.take_add_one, a1]
      show (E.take i ++ [(x, y)]).filter _ = _
      rw [List.filter_append, List.filter_cons, List.filter_nil]
    have e13 := e1.trans (e2.trans e3)
    generalize leftF F (x, y) = a at *
    generalize leftF F (y, x) = b at *
    have g1 : ¬ (F.length : Int) ≤ a := by omega
    have g2 : ¬ (F.length : Int) ≤ b := by omega
    have wc : IntKind.i64.wrap ((((E.take i).filter (oneF F)).length : Int) + 1) = (((E.take i).filter (oneF F)).length : Int) + 1 := wrap64 (by omega) (by omega)
    by_cases ca : a < 0
    · have cb : ¬ b < 0 := fun h => hse ⟨ca, h⟩
      have ho1 : oneF F (x, y) = true := by rw [ho]; simp [ca]
      rw [ho1, if_pos rfl] at htk
      simp [t1, t10, t11, hF1.len, ca, cb, g1, g2, w, wc]
      exact ⟨_, by omega, i + 1, ⟨e13, by omega, rfl, by simp [t1, t5, t9, htk]⟩⟩
    · by_cases cb : b < 0
      · have ho1 : oneF F (x, y) = true := by rw [ho]; simp [cb]
        rw [ho1, if_pos rfl] at htk
        simp [t1, t10, t11, hF1.len, ca, cb, g1, g2, w, wc]
        exact ⟨_, by omega, i + 1, ⟨e13, by omega, rfl, by simp [t1, t5, t9, htk]⟩⟩
      · have ho1 : oneF F (x, y) = false := by rw [ho]; simp [ca, cb]
        rw [ho1] at htk
        simp [t1, t10, t11, hF1.len, ca, cb, g1, g2, w, wc]
        exact ⟨_, by omega, i + 1, ⟨e13, by omega, rfl, by simp [t1, t5, t9, t10, htk]⟩⟩
  · have hil : i = E.length := by omega
    subst hil
    rw [List.take_length] at t10
    simp [t9, t11, hE1.len]
    exact ⟨e1, by simp [t1, t5, t10]⟩
structure Sj1 (H H' : Heap) (vF v5 x10 x14 : AV) (r : List Int) (i : Nat) (τ : Env) (k m : Nat) : Prop where
  ex : Ext H H'
  le : k ≤ r.length
  hm : m = r.length - k
  t : Tm τ [(1, vF), (5, v5), (10, x10), (14, x14), (15, .int .i64 i), (16, .int .i64 k)]
theorem sides_j (T : FacesT FT) {vF v5 x10 x14 : AV} {F R : List (List Int)} {r : List Int} {i : Nat} (hw : H.Wf) (hF : Gd H vF F) (hs : Fsz F) (hc : chkF 1048576 F = 0) (hR : Gd H v5 R) (hi : R[i]? = some r) (hrl : r.length ≤ 1000000000) (_hil : R.length ≤ 1000000000) (hr : ∀ s, s ∈ edgesF r → s ∈ allE F ∧ rev s ∉ allE F) {τ0 : Env}
    (u : Tm τ0 [(1, vF), (5, v5), (10, x10), (14, x14), (15, .int .i64 i), (16, .int .i64 0)]) :
    Wp FT k6j τ0 H (fun c τ H' => c = .next ∧ Ext H H' ∧ Tm τ [(1, vF), (5, v5), (10, x10), (14, x14), (15, .int .i64 i)]) := by
  simp at u
  obtain ⟨u1, u5, u10, u14, u15, u16⟩ := u
  have hl := hs.len
  have il : i < R.length := (List.getElem?_eq_some_iff.1 hi).1
  simp [k6j, k6c, subAt, A6]
  refine Wp_loop (fun m τ H' => ∃ k, Sj1 H H' vF v5 x10 x14 r i τ k m) ?_ r.length _ _ ⟨0, ⟨Ext.refl hw, by omega, by omega, by simp [u1, u5, u10, u14, u15, u16]⟩⟩
  rintro m τ H1 ⟨k, ⟨e1, hk, rfl, t⟩⟩
  simp at t
  obtain ⟨t1, t5, t10, t14, t15, t16⟩ := t
  have hF1 := hF.ext e1
  have hR1 := hR.ext e1
  obtain ⟨p, x, r', a1, a2, a3, a4⟩ := hR1.idx (k := .i64) (i := (i : Int)) (by omega) (by omega)
  rw [Int.toNat_natCast, hi] at a1
  cases a1
  by_cases q : k < r.length
  · have w : IntKind.i64.wrap ((k : Int) + 1) = (k : Int) + 1 := wrap64 (by omega) (by omega)
    have hm : (k + 1) % r.length < r.length := Nat.mod_lt _ (by omega)
    have tm : ((k : Int) + 1).tmod (r.length : Int) = ((k : Int) + 1) % (r.length : Int) := tmodN (k + 1) r.length
    have hz : ¬ (r.length : Int) = 0 := by omega
    have hz2 : ¬ r.length = 0 := by omega
    obtain ⟨p1, a, b1, b2, b3⟩ := Ints.idx (a4.sl i64c_len) (k := .i64) (i := (k : Int)) (by omega) (by omega)
    obtain ⟨p2, b, c1, c2, c3⟩ := Ints.idx (a4.sl i64c_len) (k := .i64) (i := (((k + 1) % r.length : Nat) : Int)) (by omega) (by omega)
    rw [Int.toNat_natCast] at b1 c1
    have c2 : indexAddrV 1 x (.int .i64 (((k : Int) + 1) % (r.length : Int))) = some p2 := c2
    obtain ⟨h1, h2⟩ := hr (a, b) (edgesF_mem.2 ⟨k, b1, c1⟩)
    have g1 : ¬ leftF F (a, b) < 0 := by have := leftF_mem.2 h1; omega
    have g2 : leftF F (b, a) < 0 := by
      have : ¬ 0 ≤ leftF F (b, a) := fun h => h2 (leftF_mem.1 h)
      omega
    have g3 : ¬ 0 ≤ leftF F (b, a) := by omega
    simp [q, t1, t5, t15, t16, a2, a3, a4.len, b2, b3, c2, c3, w, tm, hz2]
    refine (left22 T hF1 hs e1.wf).mono ?_
    rintro _ H2 ⟨rfl, e2⟩
    rw [if_pos hc]
    simp [t1, g1]
    refine (left22 T (hF1.ext e2) hs e2.wf).mono ?_
    rintro _ H3 ⟨rfl, e3⟩
    rw [if_pos hc]
    simp [t16, w, g3]
    exact ⟨_, by omega, k + 1, ⟨e1.trans (e2.trans e3), by omega, rfl, by simp [t1, t5, t10, t14, t15]⟩⟩
  · simp [q, t5, t15, t16, a2, a3, a4.len]
    exact ⟨e1, by simp [t1, t10, t14]⟩
/-- How many places rows have together. -/
def totF (R : List (List Int)) : Nat := R.flatten.length
structure Sc1 (H H' : Heap) (vF v5 x10 : AV) (R : List (List Int)) (τ : Env) (i m : Nat) : Prop where
  ex : Ext H H'
  le : i ≤ R.length
  hm : m = R.length - i
  t : Tm τ [(1, vF), (5, v5), (10, x10), (14, .int .i64 (totF (R.take i))), (15, .int .i64 i)]
theorem sides_c (T : FacesT FT) {vF v5 x10 : AV} {F R : List (List Int)} (hw : H.Wf) (hF : Gd H vF F) (hs : Fsz F) (hc : chkF 1048576 F = 0) (hR : Gd H v5 R) (hrl : R.flatten.length ≤ 1000000000) (hil : R.length ≤ 1000000000) (hr : ∀ r, r ∈ R → ∀ s, s ∈ edgesF r → s ∈ allE F ∧ rev s ∉ allE F) {τ0 : Env}
    (u : Tm τ0 [(1, vF), (5, v5), (10, x10), (14, .int .i64 0), (15, .int .i64 0)]) :
    Wp FT k6c τ0 H (fun c τ H' => c = .next ∧ Ext H H' ∧ Tm τ [(10, x10), (14, .int .i64 (totF R))]) := by
  simp at u
  obtain ⟨u1, u5, u10, u14, u15⟩ := u
  have hl := hs.len
  have hle : ∀ i, (R.take i).flatten.length ≤ R.flatten.length := fun i => by
    have : (R.take i ++ R.drop i).flatten.length = R.flatten.length := by rw [List.take_append_drop]
    rw [List.flatten_append, List.length_append] at this
    omega
  rw [body6c]
  generalize hkj : k6j = kj
  simp [k6c, subAt, putAt, A6]
  refine Wp_loop (fun m τ H' => ∃ i, Sc1 H H' vF v5 x10 R τ i m) ?_ R.length _ _ ⟨0, ⟨Ext.refl hw, by omega, by omega, by simp [u1, u5, u10, u14, u15, totF]⟩⟩
  rintro m τ H1 ⟨i, ⟨e1, hi, rfl, t⟩⟩
  simp at t
  obtain ⟨t1, t5, t10, t14, t15⟩ := t
  have hR1 := hR.ext e1
  by_cases q : i < R.length
  · have w : IntKind.i64.wrap ((i : Int) + 1) = (i : Int) + 1 := wrap64 (by omega) (by omega)
    obtain ⟨p, x, r, a1, a2, a3, a4⟩ := hR1.idx (k := .i64) (i := (i : Int)) (by omega) (by omega)
    rw [Int.toNat_natCast] at a1
    have hfl := flat_take a1
    have h1 := hle (i + 1)
    simp [q, t5, t15, hR1.len]
    rw [← hkj]
    refine (sides_j T (v5 := v5) (x10 := x10) (x14 := .int .i64 (totF (R.take i))) e1.wf (hF.ext e1) hs hc hR1 a1 (by omega) hil (hr r (List.mem_of_getElem? a1)) (by simp [t1, t5, t10, t14, t15])).mono ?_
    rintro c τ2 H2 ⟨rfl, e2, t⟩
    simp at t
    obtain ⟨t1, t5, t10, t14, t15⟩ := t
    have a3' := load_ext a3 e2
    have hfl2 : totF (R.take (i + 1)) = totF (R.take i) + r.length := hfl
    have h2 : totF (R.take (i + 1)) ≤ R.flatten.length := h1
    have wt : IntKind.i64.wrap ((totF (R.take i) : Int) + (r.length : Int)) = (totF (R.take i) : Int) + (r.length : Int) := wrap64 (by omega) (by omega)
    simp [t5, t14, t15, a2, a3', (a4.ext e2).len, w, wt]
    exact ⟨_, by omega, i + 1, ⟨e1.trans e2, by omega, rfl, by rw [hfl2]; simp [t1, t5, t10]⟩⟩
  · have hie : i = R.length := by omega
    subst hie
    rw [List.take_length] at t14
    simp [t5, t15, hR1.len]
    exact ⟨e1, by simp [t10, t14]⟩
theorem sides6 (T : LawT FT) (h6 : FT 6 = some (.code A6)) (hw : H.Wf) {n : Int} {vF : AV} {F : List (List Int)} (hF : Gd H vF F) :
    Cp FT 6 [.int .i64 n, vF] H (fun r _ => r = .bool true) := by
  refine Cp_code A6 h6 rfl ?_
  rw [body6]
  generalize hka : k6a = ka
  generalize hkb : k6b = kb
  generalize hkc : k6c = kc
  simp [A6, putAt]
  refine (many17 T.h17 hF).mono ?_
  rintro _ _ ⟨⟨c, rfl, hc⟩, rfl⟩
  cases c with
  | true =>
    simp
    refine (known18 T hw).mono ?_
    rintro _ _ ⟨rfl, _⟩
    simp
  | false =>
    have hs := Fsz.of (hc rfl)
    obtain ⟨z1, z2, z3⟩ := rowR_size (n := n) (F := F) (by have := hc rfl; omega)
    have hlim : 2 * F.flatten.length ≤ 400 := by have := hc rfl; omega
    simp
    refine (rims30 T.toFacesT (n := n) hF hs hw).mono ?_
    rintro r1 H1 ⟨hr1, e1⟩
    obtain ⟨v1, rfl, g1⟩ := rimsR_un hr1
    by_cases z : errR n F = 0
    · obtain ⟨c1, c2⟩ := errR_zero.1 z
      have c3 := chkF_up c1
      obtain ⟨q1, q2⟩ := rims_edges c1 c2
      have hrow : rowR n F = rimsF (allE F) := by unfold rowR; rw [if_pos ⟨c1, c2⟩]
      simp [z]
      rw [← hka]
      refine (sides_a T.toFacesT (v5 := v1) e1.wf (hF.ext e1) hs c3 (by simp)).mono ?_
      rintro c τ H2 ⟨rfl, e2, t⟩
      simp at t
      obtain ⟨t1, t5⟩ := t
      have e12 := e1.trans e2
      simp [t1]
      refine (edges21 T.toFacesT (hF.ext e12) hs e2.wf).mono ?_
      rintro vE H3 ⟨hE, e3⟩
      rw [if_pos c3] at hE
      have hEl : (edS (allE F)).length ≤ 1000000000 := by
        have h1 := edS_len_le (allE F)
        have h2 : (allE F).length = F.flatten.length := flat_edges F
        have := hs.tot
        omega
      have e13 := e12.trans e3
      simp
      rw [← hkb]
      refine (sides_b T.toFacesT (v5 := v1) e3.wf (hF.ext e13) hs c3 hE (fun s h => ends_len h) hEl (by simp [t1, t5])).mono ?_
      rintro c τ2 H4 ⟨rfl, e4, t⟩
      simp at t
      obtain ⟨t1, t5, t10⟩ := t
      have e14 := e13.trans e4
      rw [hrow] at z1 z3 g1
      simp
      rw [← hkc]
      refine (sides_c T.toFacesT (v5 := v1) (x10 := .int .i64 ((edS (allE F)).filter (oneF F)).length) e4.wf (hF.ext e14) hs c3 (((g1.ext e2).ext e3).ext e4) (by omega) z1 q2 (by simp [t1, t5, t10])).mono ?_
      rintro c τ3 H5 ⟨rfl, e5, t⟩
      have q1 : totF (rimsF (allE F)) = (rimE (allE F)).length := q1
      rw [q1, ones_len c1] at t
      simp at t
      obtain ⟨t10, t14⟩ := t
      simp [t10, t14]
      refine (known18 T e5.wf).mono ?_
      rintro _ _ ⟨rfl, _⟩
      simp
    · have hrow : rowR n F = [] := by unfold rowR; rw [if_neg (fun q => z (errR_zero.2 q))]
      rw [hrow] at g1
      simp [z, g1.len]
      refine (known18 T e1.wf).mono ?_
      rintro _ _ ⟨rfl, _⟩
      simp
theorem law_sides (hw : H.Wf) {n : Int} {vF : AV} {F : List (List Int)} {p : Prop} (_ : p) (hF : Gd H vF F) : Cp FZ 6 [.int .i64 n, vF] H (fun r _ => r = .bool true) := sides6 lawT rfl hw hF
end
end Go.Proofs.Ytcepchipgjpkhaa
