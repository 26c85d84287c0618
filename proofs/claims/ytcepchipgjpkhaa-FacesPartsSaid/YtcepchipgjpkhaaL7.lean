/- Parts of faces: the statement FacesParts, walked. No claim by itself. -/
import Derived.Test.YtcepchipgjpkhaaL6
namespace Go.Proofs.Ytcepchipgjpkhaa
open Go Go.AI
section
variable {H : Heap} {FT : Nat → Option FnD}
def k7a : ACode := subAt [1, 1, 1, 1, 1, 0, 1] A7.body
def k7b : ACode := subAt [1, 1, 1, 1, 1, 1, 1, 1, 1, 0, 1] A7.body
def k7c : ACode := subAt [1, 1, 1, 1, 1, 1, 1, 1, 1, 1, 1, 1, 0, 1] A7.body
def k7i : ACode := subAt [0, 0, 1, 0, 0, 1, 1, 1] k7a
def k7j : ACode := subAt [0, 0, 1, 0, 0, 1] k7c
theorem body7 : A7.body = putAt [1, 1, 1, 1, 1, 0, 1] (putAt [1, 1, 1, 1, 1, 1, 1, 1, 1, 0, 1] (putAt [1, 1, 1, 1, 1, 1, 1, 1, 1, 1, 1, 1, 0, 1] A7.body k7c) k7b) k7a := rfl
theorem body7a : k7a = putAt [0, 0, 1, 0, 0, 1, 1, 1] k7a k7i := rfl
theorem body7c : k7c = putAt [0, 0, 1, 0, 0, 1] k7c k7j := rfl
theorem top_le (F : List (List Int)) {i : Nat} (h : i ≤ F.length) : 0 ≤ topI ((partsF F).take i) ∧ topI ((partsF F).take i) ≤ i := by
  have := cntR_le F i; rw [parts_top F i h]; omega
theorem part_nn {F : List (List Int)} {i : Nat} {x : Int} (h : (partsF F)[i]? = some x) : 0 ≤ x ∧ x ≤ topI ((partsF F).take i) := by
  have := (partsF_get.1 h).2
  have h1 := cntR_le F (mn F i)
  refine ⟨by omega, ?_⟩
  rcases (parts_is F).num i x h with q | q
  · exact Int.le_of_lt (topI_le.2 x q)
  · omega
structure Fp1 (H H' : Heap) (vF x1 v5 x6 : AV) (f : List Int) (i : Nat) (τ : Env) (k m : Nat) : Prop where
  ex : Ext H H'
  le : k ≤ f.length
  hm : m = f.length - k
  t : Tm τ [(0, vF), (1, x1), (5, v5), (6, x6), (7, .int .i64 i), (8, .int .i64 k)]
theorem fparts_i (T : FacesT FT) {vF x1 v5 x6 : AV} {F : List (List Int)} {f : List Int} {i : Nat} (hw : H.Wf) (hF : Gd H vF F) (hs : Fsz F) (hc : chkF 1048576 F = 0) (hP : Rw 1 i64c H v5 (partsF F)) (hf : F[i]? = some f) {τ0 : Env}
    (u : Tm τ0 [(0, vF), (1, x1), (5, v5), (6, x6), (7, .int .i64 i), (8, .int .i64 0)]) :
    Wp FT k7i τ0 H (fun c τ H' => c = .next ∧ Ext H H' ∧ Tm τ [(0, vF), (1, x1), (5, v5), (6, x6), (7, .int .i64 i)]) := by
  simp at u
  obtain ⟨u0, u1, u5, u6, u7, u8⟩ := u
  have hl := hs.len
  have hfl := hs.row f (List.mem_of_getElem? hf)
  have il : i < F.length := (List.getElem?_eq_some_iff.1 hf).1
  have pl := (parts_is F).len
  simp [k7i, k7a, subAt, A7]
  refine Wp_loop (fun m τ H' => ∃ k, Fp1 H H' vF x1 v5 x6 f i τ k m) ?_ f.length _ _ ⟨0, ⟨Ext.refl hw, by omega, by omega, by simp [u0, u1, u5, u6, u7, u8]⟩⟩
  rintro m τ H1 ⟨k, ⟨e1, hk, rfl, t⟩⟩
  simp at t
  obtain ⟨t0, t1, t5, t6, t7, t8⟩ := t
  have hF1 := hF.ext e1
  obtain ⟨p, r, f', a1, a2, a3, a4⟩ := hF1.idx (k := .i64) (i := (i : Int)) (by omega) (by omega)
  rw [Int.toNat_natCast, hf] at a1
  cases a1
  by_cases q : k < f.length
  · have w : IntKind.i64.wrap ((k : Int) + 1) = (k : Int) + 1 := wrap64 (by omega) (by omega)
    have hm : (k + 1) % f.length < f.length := Nat.mod_lt _ (by omega)
    have tm : ((k : Int) + 1).tmod (f.length : Int) = ((k : Int) + 1) % (f.length : Int) := tmodN (k + 1) f.length
    have hz : ¬ (f.length : Int) = 0 := by omega
    have hz2 : ¬ f.length = 0 := by omega
    obtain ⟨p1, a, b1, b2, b3⟩ := Ints.idx (a4.sl i64c_len) (k := .i64) (i := (k : Int)) (by omega) (by omega)
    obtain ⟨p2, b, c1, c2, c3⟩ := Ints.idx (a4.sl i64c_len) (k := .i64) (i := (((k + 1) % f.length : Nat) : Int)) (by omega) (by omega)
    rw [Int.toNat_natCast] at b1 c1
    have c2 : indexAddrV 1 r (.int .i64 (((k : Int) + 1) % (f.length : Int))) = some p2 := c2
    have hE : (a, b) ∈ edgesF f := edgesF_mem.2 ⟨k, b1, c1⟩
    have l1 : leftF F (b, a) < F.length := leftF_lt
    simp [q, t0, t7, t8, a2, a3, a4.len, b2, b3, c2, c3, w, tm, hz2]
    refine (left22 T hF1 hs e1.wf).mono ?_
    rintro _ H2 ⟨rfl, e2⟩
    have hF2 := hF1.ext e2
    have hP2 := hP.ext (e1.trans e2)
    rw [if_pos hc]
    have g1 : ¬ (F.length : Int) ≤ leftF F (b, a) := by omega
    by_cases g : 0 ≤ leftF F (b, a)
    · obtain ⟨j, hj⟩ : ∃ j : Nat, leftF F (b, a) = j := ⟨(leftF F (b, a)).toNat, by omega⟩
      obtain ⟨f', h1, h2⟩ := leftF_get hj
      have hjl : j < F.length := by omega
      obtain ⟨p3, x, d1, d2, d3⟩ := Ints.idx (hP2.sl i64c_len) (k := .i64) (i := (i : Int)) (by omega) (by omega)
      obtain ⟨p4, y, d4, d5, d6⟩ := Ints.idx (hP2.sl i64c_len) (k := .i64) (i := (j : Int)) (by omega) (by omega)
      rw [Int.toNat_natCast] at d1 d4
      have hxy : y = x := ((parts_is F).eq d4 d1).2 (Con.one (Adj.symm ⟨f, f', (a, b), hf, h1, hE, h2⟩))
      rw [hj] at g g1
      simp [t0, t5, t7, t8, w, hj, hF2.len, g1, d2, d3, d5, d6, hxy]
      exact ⟨_, by omega, k + 1, ⟨e1.trans e2, by omega, rfl, by simp [t0, t1, t5, t6, t7]⟩⟩
    · simp [t0, t7, t8, w, hF2.len, g, g1]
      exact ⟨_, by omega, k + 1, ⟨e1.trans e2, by omega, rfl, by simp [t0, t1, t5, t6, t7]⟩⟩
  · simp [q, t0, t7, t8, a2, a3, a4.len]
    exact ⟨e1, by simp [t1, t5, t6]⟩
structure Fp2 (H H' : Heap) (vF x1 v5 : AV) (F : List (List Int)) (τ : Env) (i m : Nat) : Prop where
  ex : Ext H H'
  le : i ≤ F.length
  hm : m = F.length - i
  t : Tm τ [(0, vF), (1, x1), (5, v5), (6, .int .i64 (topI ((partsF F).take i))), (7, .int .i64 i)]
theorem fparts_a (T : FacesT FT) {vF x1 v5 : AV} {F : List (List Int)} (hw : H.Wf) (hF : Gd H vF F) (hs : Fsz F) (hc : chkF 1048576 F = 0) (hP : Rw 1 i64c H v5 (partsF F)) {τ0 : Env}
    (u : Tm τ0 [(0, vF), (1, x1), (5, v5), (6, .int .i64 0), (7, .int .i64 0)]) :
    Wp FT k7a τ0 H (fun c τ H' => c = .next ∧ Ext H H' ∧ Tm τ [(0, vF), (1, x1), (5, v5), (6, .int .i64 (topI (partsF F)))]) := by
  simp at u
  obtain ⟨u0, u1, u5, u6, u7⟩ := u
  have hl := hs.len
  have pl := (parts_is F).len
  rw [body7a]
  generalize hki : k7i = ki
  simp [k7a, subAt, putAt, A7]
  refine Wp_loop (fun m τ H' => ∃ i, Fp2 H H' vF x1 v5 F τ i m) ?_ F.length _ _ ⟨0, ⟨Ext.refl hw, by omega, by omega, by simp [u0, u1, u5, u6, u7, topI]⟩⟩
  rintro m τ H1 ⟨i, ⟨e1, hi, rfl, t⟩⟩
  simp at t
  obtain ⟨t0, t1, t5, t6, t7⟩ := t
  have hF1 := hF.ext e1
  have hP1 := hP.ext e1
  by_cases q : i < F.length
  · have w : IntKind.i64.wrap ((i : Int) + 1) = (i : Int) + 1 := wrap64 (by omega) (by omega)
    obtain ⟨p3, x, d1, d2, d3⟩ := Ints.idx (hP1.sl i64c_len) (k := .i64) (i := (i : Int)) (by omega) (by omega)
    rw [Int.toNat_natCast] at d1
    obtain ⟨x0, x1'⟩ := part_nn d1
    obtain ⟨y0, y1⟩ := top_le F hi
    have htk : topI ((partsF F).take (i + 1)) = max (topI ((partsF F).take i)) (x + 1) := by
      rw [List.take_add_one, d1]; exact topI_snoc _ _
    generalize topI ((partsF F).take i) = n at *
    have wx : IntKind.i64.wrap (x + 1) = x + 1 := wrap64 (by omega) (by omega)
    have g1 : ¬ x < 0 := by omega
    have g2 : ¬ n < x := by omega
    have hmax : maxA true (.int .i64 n) [.int .i64 (x + 1)] = some (.int .i64 (max n (x + 1))) := by
      simp [maxA]
      split <;> omega
    simp [q, t0, t5, t6, t7, hF1.len, d2, d3, g1, g2, wx, hmax]
    rw [← hki]
    refine (fparts_i T (x1 := x1) (v5 := v5) (x6 := .int .i64 (max n (x + 1))) e1.wf hF1 hs hc hP1 (List.getElem?_eq_getElem q) (by simp [t0, t1, t5, t7])).mono ?_
    rintro c τ2 H2 ⟨rfl, e2, t⟩
    simp at t
    obtain ⟨t0, t1, t5, t6, t7⟩ := t
    simp [t7, w]
    exact ⟨_, by omega, i + 1, ⟨e1.trans e2, by omega, rfl, by simp [t0, t1, t5, t6, htk]⟩⟩
  · have hil : i = (partsF F).length := by omega
    rw [hil, List.take_length] at t6
    simp [q, t0, t7, hF1.len]
    exact ⟨e1, by simp [t1, t5, t6]⟩
/-- Faces that are not of the part w, with their parts. -/
structure Kept (F : List (List Int)) (w : Int) (i : Nat) (G : List (List Int)) (W : List Int) (ix : List Nat) : Prop where
  gl : ix.length = G.length
  wl : W.length = G.length
  g : ∀ {k j : Nat}, ix[k]? = some j → G[k]? = F[j]?
  wg : ∀ {k j : Nat}, ix[k]? = some j → W[k]? = (partsF F)[j]?
  nd : ix.Nodup
  mem : ∀ {j : Nat}, j ∈ ix ↔ j < i ∧ (partsF F)[j]? ≠ some w
  sub : G.Sublist (F.take i)
theorem Kept.start (F : List (List Int)) (w : Int) : Kept F w 0 [] [] [] := ⟨rfl, rfl, fun h => by simp at h, fun h => by simp at h, by simp, fun {j} => by simp, by simp⟩
theorem Kept.skip {F : List (List Int)} {w : Int} {i : Nat} {G : List (List Int)} {W : List Int} {ix : List Nat} (h : Kept F w i G W ix) (hp : (partsF F)[i]? = some w) : Kept F w (i + 1) G W ix where
  gl := h.gl
  wl := h.wl
  g := h.g
  wg := h.wg
  nd := h.nd
  mem := fun {j} => by
    rw [h.mem]
    refine ⟨fun ⟨a, b⟩ => ⟨by omega, b⟩, fun ⟨a, b⟩ => ⟨?_, b⟩⟩
    by_cases e : j = i
    · subst e; exact absurd hp b
    · omega
  sub := h.sub.trans (by rw [List.take_add_one]; exact List.sublist_append_left _ _)
theorem Kept.keep {F : List (List Int)} {w x : Int} {i : Nat} {f : List Int} {G : List (List Int)} {W : List Int} {ix : List Nat} (h : Kept F w i G W ix) (hf : F[i]? = some f) (hp : (partsF F)[i]? = some x) (hx : x ≠ w) : Kept F w (i + 1) (G ++ [f]) (W ++ [x]) (ix ++ [i]) where
  gl := by simp [h.gl]
  wl := by simp [h.wl]
  g := fun {k j} e => by
    rcases Nat.lt_or_ge k ix.length with q | q
    · rw [List.getElem?_append_left q] at e
      rw [List.getElem?_append_left (by rw [← h.gl]; exact q)]; exact h.g e
    · rw [List.getElem?_append_right q] at e
      have hk : k = ix.length := by have := (List.getElem?_eq_some_iff.1 e).1; simp at this; omega
      subst hk
      simp at e; subst e
      rw [h.gl, List.getElem?_append_right (Nat.le_refl _)]; simp [hf]
  wg := fun {k j} e => by
    have hwl := h.wl
    have hgl := h.gl
    rcases Nat.lt_or_ge k ix.length with q | q
    · rw [List.getElem?_append_left q] at e
      rw [List.getElem?_append_left (by omega)]; exact h.wg e
    · rw [List.getElem?_append_right q] at e
      have hk : k = ix.length := by have := (List.getElem?_eq_some_iff.1 e).1; simp at this; omega
      subst hk
      simp at e; subst e
      rw [h.gl, ← h.wl, List.getElem?_append_right (Nat.le_refl _)]; simp [hp]
  nd := by
    rw [List.nodup_append]
    exact ⟨h.nd, by simp, fun a ha b hb e => by simp at hb; have := (h.mem.1 ha).1; omega⟩
  mem := fun {j} => by
    rw [List.mem_append, List.mem_singleton, h.mem]
    constructor
    · rintro (⟨a, b⟩ | rfl)
      · exact ⟨by omega, b⟩
      · exact ⟨by omega, by rw [hp]; exact fun q => hx (Option.some.inj q)⟩
    · rintro ⟨a, b⟩
      by_cases e : j = i
      · exact .inr e
      · exact .inl ⟨by omega, b⟩
  sub := by
    rw [List.take_add_one, hf]
    exact List.Sublist.append h.sub (List.Sublist.refl _)
theorem sub_flat {α : Type} : ∀ {a b : List (List α)}, a.Sublist b → a.flatten.Sublist b.flatten := fun h => by
  induction h with
  | slnil => exact List.Sublist.refl _
  | cons x h ih => rw [List.flatten_cons]; exact ih.trans (List.sublist_append_right _ _)
  | cons_cons x h ih => rw [List.flatten_cons, List.flatten_cons]; exact (List.Sublist.refl _).append ih
theorem allE_sub : ∀ {G F : List (List Int)}, G.Sublist F → (allE G).Sublist (allE F) := fun h => by
  unfold allE
  rw [List.flatMap_def, List.flatMap_def]
  exact sub_flat (h.map edgesF)
theorem Kept.chk {F : List (List Int)} {w : Int} {i : Nat} {G : List (List Int)} {W : List Int} {ix : List Nat} (h : Kept F w i G W ix) {n : Int} (hc : chkF n F = 0) : chkF n G = 0 := by
  obtain ⟨c1, c2, c3⟩ := chkF_zero hc
  have hs : G.Sublist F := h.sub.trans (List.take_sublist _ _)
  exact chkF_mk c1 (fun f hf => c2 f (hs.subset hf)) (c3.sublist (allE_sub hs))
theorem kept_sz {F : List (List Int)} {w : Int} {i : Nat} {G : List (List Int)} {W : List Int} {ix : List Nat} (h : Kept F w i G W ix) (hs : Fsz F) : Fsz G := by
  have hb : G.Sublist F := h.sub.trans (List.take_sublist _ _)
  exact ⟨fun f hf => hs.row f (hb.subset hf), Nat.le_trans hb.length_le hs.len, Nat.le_trans (sub_flat hb).length_le hs.tot⟩
/-- The others hang together as they did. -/
theorem kept_same {F : List (List Int)} {w : Int} {G : List (List Int)} {W : List Int} {ix : List Nat} (h : Kept F w F.length G W ix) {i k : Nat} {x y u v : Int} (hx : (partsF G)[i]? = some x) (hy : (partsF G)[k]? = some y) (hu : W[i]? = some u) (hv : W[k]? = some v) : x = y ↔ u = v := by
  have pG := parts_is G
  have pF := parts_is F
  have hi : i < ix.length := by rw [h.gl, ← pG.len]; exact (List.getElem?_eq_some_iff.1 hx).1
  have hk : k < ix.length := by rw [h.gl, ← pG.len]; exact (List.getElem?_eq_some_iff.1 hy).1
  have ei := List.getElem?_eq_getElem hi
  have ek := List.getElem?_eq_getElem hk
  rw [h.wg ei] at hu
  rw [h.wg ek] at hv
  rw [pG.eq hx hy, pF.eq hu hv]
  refine hang_sub h.gl h.g h.nd (S := fun j => (partsF F)[j]? ≠ some w) h.mem (fun {a b} sa r sb => sa ?_) ei ek
  obtain ⟨f, g, s, h1, h2, h3, h4⟩ := r
  have ha : a < (partsF F).length := by rw [pF.len]; exact (List.getElem?_eq_some_iff.1 h1).1
  rw [List.getElem?_eq_getElem ha]
  congr 1
  exact (pF.eq (List.getElem?_eq_getElem ha) sb).2 (Con.one ⟨f, g, s, h1, h2, h3, h4⟩)
structure Fp3 (H H' : Heap) (vF v5 v11 v12 : AV) (F G : List (List Int)) (W : List Int) (ix : List Nat) (rs : List OneV) (w : Int) (τ : Env) (i m : Nat) : Prop where
  ex : Ext H H'
  m11 : Mine 1 onec H H' v11 rs
  len : rs.length = G.length
  row : ∀ (i : Nat) (r : OneV) (f : List Int), rs[i]? = some r → G[i]? = some f → Rw 1 i64c H r.1 f
  m12 : Mine 1 i64c H H' v12 W
  ap : ∀ p, rowObj v11 = some p → rowObj v12 ≠ some p
  k : Kept F w i G W ix
  le : i ≤ F.length
  hm : m = F.length - i
  t : Tm τ [(0, vF), (5, v5), (10, .int .i64 w), (11, v11), (12, v12), (13, .int .i64 i)]
structure FpQ (H H' : Heap) (v11 v12 : AV) (F G : List (List Int)) (W : List Int) (ix : List Nat) (w : Int) (τ : Env) : Prop where
  ex : Ext H H'
  gd : Gd H' v11 G
  rw : Rw 1 i64c H' v12 W
  k : Kept F w F.length G W ix
  t : Tm τ [(11, v11), (12, v12)]
theorem fparts_b {vF v5 : AV} {F : List (List Int)} {w : Int} (hw : H.Wf) (hF : Gd H vF F) (hs : Fsz F) (hP : Rw 1 i64c H v5 (partsF F)) {τ0 : Env}
    (u : Tm τ0 [(0, vF), (5, v5), (10, .int .i64 w), (11, .nils), (12, .nils), (13, .int .i64 0)]) :
    Wp FT k7b τ0 H (fun c τ H' => c = .next ∧ ∃ v11 v12 G W ix, FpQ H H' v11 v12 F G W ix w τ) := by
  simp at u
  obtain ⟨u0, u5, u10, u11, u12, u13⟩ := u
  have hl := hs.len
  have pl := (parts_is F).len
  simp [k7b, subAt, A7]
  refine Wp_loop (fun m τ H' => ∃ i v11 v12 G W ix rs, Fp3 H H' vF v5 v11 v12 F G W ix rs w τ i m) ?_ F.length _ _ ⟨0, .nils, .nils, [], [], [], [], ⟨Ext.refl hw, Mine.nil, rfl, fun i r f q => by simp at q, Mine.nil, fun p q => by simp [rowObj] at q, Kept.start F w, by omega, by omega, by simp [u0, u5, u10, u11, u12, u13]⟩⟩
  rintro m τ H1 ⟨i, v11, v12, G, W, ix, rs, ⟨e1, m11, rl, row, m12, ap, kp, hi, rfl, t⟩⟩
  simp at t
  obtain ⟨t0, t5, t10, t11, t12, t13⟩ := t
  have hF1 := hF.ext e1
  have hP1 := hP.ext e1
  by_cases q : i < F.length
  · have wi : IntKind.i64.wrap ((i : Int) + 1) = (i : Int) + 1 := wrap64 (by omega) (by omega)
    obtain ⟨p3, x, d1, d2, d3⟩ := Ints.idx (hP1.sl i64c_len) (k := .i64) (i := (i : Int)) (by omega) (by omega)
    rw [Int.toNat_natCast] at d1
    by_cases e : x = w
    · subst e
      simp [q, t0, t5, t10, t13, hF1.len, d2, d3, wi]
      exact ⟨_, by omega, i + 1, v11, v12, G, W, ix, rs, ⟨e1, m11, rl, row, m12, ap, kp.skip d1, by omega, rfl, by simp [t0, t5, t10, t11, t12]⟩⟩
    · obtain ⟨p, r, f, a1, a2, a3, a4⟩ := hF.idxE e1 (k := .i64) (i := (i : Int)) (by omega) (by omega)
      rw [Int.toNat_natCast] at a1
      have hgl : G.length ≤ i := by have := kp.sub.length_le; rw [List.length_take] at this; omega
      have hwl := kp.wl
      obtain ⟨v11', H2, b1, b2, b3, b4⟩ := m11.app1 onec_len (by omega) onec_one e1.wf e1.next (⟨r, a4.one.1⟩ : OneV) (bytes := 24) (by omega)
      have e2 : Ext H H2 := ext_fr hw e1 b3 (fun p hp => m11.new p (by simpa using hp))
      have m12a := m12.fr b3 (fun p hp hq => ap p (by simpa using hq) hp)
      obtain ⟨v12', H3, c1, c2, c3, c4⟩ := m12a.app1 i64c_len (by omega) i64c_one e2.wf e2.next x (bytes := 8) (by omega)
      have e3 : Ext H H3 := ext_fr hw e2 c3 (fun p hp => m12.new p (by simpa using hp))
      have ap1 : ∀ p, rowObj v11' = some p → rowObj v12 ≠ some p := fun p h1 h2 => by
        rcases b4 p h1 with h | h
        · exact ap p h h2
        · have := m12.lt e1.wf h2; omega
      have m11a := b2.fr c3 (fun p hp hq => ap1 p hp (by simpa using hq))
      have b1' : appendA 1 24 (H1.push (.cells [r])) v11 (.slc H1.next 0 1 1 1 true) = some (v11', H2) := b1
      have c1' : appendA 1 8 (H2.push (.cells [.int .i64 x])) v12 (.slc H2.next 0 1 1 1 true) = some (v12', H3) := c1
      have fv : ∀ (e : Opd → AV), fillV e [.nils] 0 1 r [] = some [r] := fun e => by rw [fillV_val a4.one.1 a4.one.2]; simp [setSeg]
      have d3' : loadA H2 none p3 = some (.int .i64 x) := by
        obtain ⟨p3', x', g1, g2, g3⟩ := Ints.idx ((hP.ext e2).sl i64c_len) (k := .i64) (i := (i : Int)) (by omega) (by omega)
        rw [Int.toNat_natCast, d1] at g1
        cases g1
        rw [d2] at g2
        cases g2
        exact g3
      simp [setSeg, q, t0, t5, t10, t11, t12, t13, hF1.len, d2, d3, wi, e, a2, a3, fv, b1', d3', c1']
      refine ⟨_, by omega, i + 1, v11', v12', G ++ [f], W ++ [x], ix ++ [i], rs ++ [⟨r, a4.one.1⟩], ⟨e3, m11a, by simp [rl], fun j r' f' h1 h2 => ?_, c2, fun p h1 h2 => ?_, kp.keep a1 d1 e, by omega, rfl, by simp [t0, t5, t10]⟩⟩
      · rcases Nat.lt_or_ge j rs.length with z | z
        · rw [List.getElem?_append_left z] at h1
          rw [List.getElem?_append_left (by omega)] at h2
          exact row j r' f' h1 h2
        · rw [List.getElem?_append_right z] at h1
          have hj : j = rs.length := by have := (List.getElem?_eq_some_iff.1 h1).1; simp at this; omega
          subst hj
          rw [rl, List.getElem?_append_right (Nat.le_refl _)] at h2
          simp at h1 h2
          subst h1 h2
          exact a4
      · rcases c4 p h2 with h | h
        · exact ap1 p h1 h
        · have := b2.lt e2.wf h1; omega
  · have hil : i = F.length := by omega
    subst hil
    simp [t0, t13, hF1.len]
    exact ⟨v11, v12, G, W, ix, e1, ⟨rs, m11.ow.rw onec_len, rl, fun i r f h1 h2 => (row i r f h1 h2).ext e1⟩, m12.ow.rw i64c_len, kp, by simp [t11, t12]⟩
structure Fp4 (H H' : Heap) (vW vQ : AV) (Q : List Int) (i : Nat) (τ : Env) (k m : Nat) : Prop where
  eq : H = H'
  le : k ≤ i
  hm : m = i - k
  t : Tm τ [(12, vW), (14, vQ), (15, .int .i64 i), (16, .int .i64 k)]
theorem fparts_j {vW vQ : AV} {W Q : List Int} {i : Nat} (hW : Ints H vW W) (hQ : Ints H vQ Q) (hl : W.length = Q.length) (hql : Q.length ≤ 1000000000) (hi : i < Q.length) (he : ∀ {i k : Nat} {x y u v : Int}, Q[i]? = some x → Q[k]? = some y → W[i]? = some u → W[k]? = some v → (x = y ↔ u = v)) {τ0 : Env}
    (u : Tm τ0 [(12, vW), (14, vQ), (15, .int .i64 i), (16, .int .i64 0)]) :
    Wp FT k7j τ0 H (fun c τ H' => c = .next ∧ H' = H ∧ Tm τ [(12, vW), (14, vQ), (15, .int .i64 i)]) := by
  simp at u
  obtain ⟨u12, u14, u15, u16⟩ := u
  simp [k7j, k7c, subAt, A7]
  refine Wp_loop (fun m τ H' => ∃ k, Fp4 H H' vW vQ Q i τ k m) ?_ i _ _ ⟨0, ⟨rfl, by omega, by omega, by simp [u12, u14, u15, u16]⟩⟩
  rintro m τ _ ⟨k, ⟨rfl, hk, rfl, t⟩⟩
  simp at t
  obtain ⟨t12, t14, t15, t16⟩ := t
  by_cases q : k < i
  · have w : IntKind.i64.wrap ((k : Int) + 1) = (k : Int) + 1 := wrap64 (by omega) (by omega)
    obtain ⟨p1, x, a1, a2, a3⟩ := Ints.idx hQ (k := .i64) (i := (i : Int)) (by omega) (by omega)
    obtain ⟨p2, y, b1, b2, b3⟩ := Ints.idx hQ (k := .i64) (i := (k : Int)) (by omega) (by omega)
    obtain ⟨p3, u, c1, c2, c3⟩ := Ints.idx hW (k := .i64) (i := (i : Int)) (by omega) (by omega)
    obtain ⟨p4, v, d1, d2, d3⟩ := Ints.idx hW (k := .i64) (i := (k : Int)) (by omega) (by omega)
    rw [Int.toNat_natCast] at a1 b1 c1 d1
    have hh := he a1 b1 c1 d1
    by_cases e : x = y
    · have e2 := hh.1 e
      simp [q, t12, t14, t15, t16, a2, a3, b2, b3, c2, c3, d2, d3, e, e2, w]
      exact ⟨_, by omega, k + 1, ⟨rfl, by omega, rfl, by simp [t12, t14, t15]⟩⟩
    · have e2 : ¬ u = v := fun h => e (hh.2 h)
      simp [q, t12, t14, t15, t16, a2, a3, b2, b3, c2, c3, d2, d3, w]
      exact ⟨by rw [beq_eq_false_iff_ne.2 e, beq_eq_false_iff_ne.2 e2], _, by omega, k + 1, ⟨rfl, by omega, rfl, by simp [t12, t14, t15]⟩⟩
  · simp [q, t15, t16]
    simp [t12, t14]
structure Fp5 (H H' : Heap) (vW vQ : AV) (Q : List Int) (τ : Env) (i m : Nat) : Prop where
  eq : H = H'
  le : i ≤ Q.length
  hm : m = Q.length - i
  t : Tm τ [(12, vW), (14, vQ), (15, .int .i64 i)]
theorem fparts_c {vW vQ : AV} {W Q : List Int} (hW : Ints H vW W) (hQ : Ints H vQ Q) (hl : W.length = Q.length) (hql : Q.length ≤ 1000000000) (he : ∀ {i k : Nat} {x y u v : Int}, Q[i]? = some x → Q[k]? = some y → W[i]? = some u → W[k]? = some v → (x = y ↔ u = v)) {τ0 : Env}
    (u : Tm τ0 [(12, vW), (14, vQ), (15, .int .i64 0)]) :
    Wp FT k7c τ0 H (fun c _ H' => c = .next ∧ H' = H) := by
  simp at u
  obtain ⟨u12, u14, u15⟩ := u
  rw [body7c]
  generalize hkj : k7j = kj
  simp [k7c, subAt, putAt, A7]
  refine Wp_loop (fun m τ H' => ∃ i, Fp5 H H' vW vQ Q τ i m) ?_ Q.length _ _ ⟨0, ⟨rfl, by omega, by omega, by simp [u12, u14, u15]⟩⟩
  rintro m τ _ ⟨i, ⟨rfl, hi, rfl, t⟩⟩
  simp at t
  obtain ⟨t12, t14, t15⟩ := t
  by_cases q : i < Q.length
  · have w : IntKind.i64.wrap ((i : Int) + 1) = (i : Int) + 1 := wrap64 (by omega) (by omega)
    simp [q, t14, t15, hQ.len]
    rw [← hkj]
    refine (fparts_j hW hQ hl hql q he (by simp [t12, t14, t15])).mono ?_
    rintro c τ2 _ ⟨rfl, rfl, t⟩
    simp at t
    obtain ⟨t12, t14, t15⟩ := t
    simp [t15, w]
    exact ⟨_, by omega, i + 1, ⟨rfl, by omega, rfl, by simp [t12, t14]⟩⟩
  · simp [q, t14, t15, hQ.len]
theorem parts7 (T : LawT FT) (h7 : FT 7 = some (.code A7)) (hw : H.Wf) {which : Int} {vF : AV} {F : List (List Int)} (hF : Gd H vF F) :
    Cp FT 7 [vF, .int .i64 which] H (fun r _ => r = .bool true) := by
  refine Cp_code A7 h7 rfl ?_
  rw [body7]
  generalize hka : k7a = ka
  generalize hkb : k7b = kb
  generalize hkc : k7c = kc
  simp [A7, putAt]
  refine (many17 T.h17 hF).mono ?_
  rintro _ _ ⟨⟨c, rfl, hc⟩, rfl⟩
  cases c with
  | true =>
    simp
    refine (known18 T hw).mono ?_
    rintro _ _ ⟨rfl, _⟩
    simp
  | false =>
    have hs := Fsz.of (hc rfl)
    have hl : F.length ≤ 200 := by have := hc rfl; omega
    simp
    refine (check13 T.h20 T.h56 T.h91 T.h114 T.h63 T.h58 (n := 1048576) hF hs.row hs.len hw).mono ?_
    rintro _ H1 ⟨rfl, e1⟩
    by_cases z : chkF 1048576 F = 0
    · have pl := (parts_is F).len
      simp [z]
      refine (parts33 T.toFacesT (hF.ext e1) hs e1.wf).mono ?_
      rintro vP H2 ⟨hP, e2⟩
      rw [if_pos z] at hP
      have e12 := e1.trans e2
      have hF2 := hF.ext e12
      have hpl : ((partsF F).length : Int) = F.length := by omega
      simp [hP.len, hF2.len, hpl]
      rw [← hka]
      refine (fparts_a T.toFacesT (x1 := .int .i64 which) (v5 := vP) e2.wf hF2 hs z hP (by simp)).mono ?_
      rintro c τ H3 ⟨rfl, e3, t⟩
      simp at t
      obtain ⟨t0, t1, t5, t6⟩ := t
      have ht := top_le F (Nat.le_refl F.length)
      rw [← pl, List.take_length, pl] at ht
      obtain ⟨l, hlt⟩ : ∃ l : Nat, topI (partsF F) + 1 = l := ⟨(topI (partsF F) + 1).toNat, by omega⟩
      have wl : IntKind.i64.wrap (topI (partsF F) + 1) = l := by rw [hlt]; exact wrap64 (by omega) (by omega)
      obtain ⟨k, hk, ek⟩ := turn_mod which (l := l) (by omega) (by omega)
      have hu : ¬ IntKind.u64.wrap (l : Int) = 0 := by rw [wrapU (by omega) (by omega)]; omega
      simp [t1, t6, wl, hu, ek]
      rw [← hkb]
      refine (fparts_b (v5 := vP) (w := k) e3.wf (hF2.ext e3) hs (hP.ext e3) (by simp [t0, t5])).mono ?_
      rintro c τ2 H4 ⟨rfl, v11, v12, G, W, ix, ⟨e4, gd, hW, kp, t⟩⟩
      simp at t
      obtain ⟨t11, t12⟩ := t
      have hsG := kept_sz kp hs
      have pG := (parts_is G).len
      simp [t11]
      refine (parts33 T.toFacesT gd hsG e4.wf).mono ?_
      rintro vQ H5 ⟨hQ, e5⟩
      rw [if_pos (kp.chk z)] at hQ
      have hgl : ((partsF G).length : Int) = G.length := by omega
      simp [t11, hQ.len, (gd.ext e5).len, hgl]
      rw [← hkc]
      refine (fparts_c ((hW.ext e5).sl i64c_len) (hQ.sl i64c_len) (by rw [kp.wl, pG]) (by rw [pG]; exact hsG.len) (fun {i k x y u v} a b c d => kept_same kp a b c d) (by simp [t12])).mono ?_
      rintro c τ3 _ ⟨rfl, rfl⟩
      simp
      refine (known18 T e5.wf).mono ?_
      rintro _ _ ⟨rfl, _⟩
      simp
    · simp [z]
      refine (known18 T e1.wf).mono ?_
      rintro _ _ ⟨rfl, _⟩
      simp
theorem law_parts (hw : H.Wf) {which : Int} {vF : AV} {F : List (List Int)} {p : Prop} (hF : Gd H vF F) (_ : p) : Cp FZ 7 [vF, .int .i64 which] H (fun r _ => r = .bool true) := parts7 lawT rfl hw hF
end
end Go.Proofs.Ytcepchipgjpkhaa
