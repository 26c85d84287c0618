/- The document's rims of faces, walked. No claim by itself. -/
import Derived.Test.YtcepchipgjpkhaaG2
import Derived.Test.YtcepchipgjpkhaaEH
namespace Go.Proofs.Ytcepchipgjpkhaa
open Go Go.AI
section
variable {FT : Nat → Option FnD} {H : Heap}
/-! ### The rim edges -/
def k31a : ACode := subAt [1, 1, 1, 1, 1, 0, 1] A31.body
def k31b : ACode := subAt [1, 1, 1, 1, 1, 1, 0, 1] A31.body
def k31c : ACode := subAt [1, 1, 1, 1, 1, 1, 1, 1, 1, 0, 0, 0, 1, 0, 1] A31.body
def k31d : ACode := subAt [1, 1, 1, 1, 1, 1, 1, 1, 1, 0, 0, 0, 1, 1, 1, 1, 0] A31.body
def k31e : ACode := subAt [1, 1, 1, 1, 1, 1, 1, 1, 1, 0, 0, 0, 1, 1, 1, 1, 0, 0, 0, 1, 0, 1, 1, 1, 1, 1] A31.body
theorem body31 : A31.body = putAt [1, 1, 1, 1, 1, 0, 1] (putAt [1, 1, 1, 1, 1, 1, 0, 1] (putAt [1, 1, 1, 1, 1, 1, 1, 1, 1, 0, 0, 0, 1, 0, 1] (putAt [1, 1, 1, 1, 1, 1, 1, 1, 1, 0, 0, 0, 1, 1, 1, 1, 0] A31.body k31d) k31c) k31b) k31a := rfl
theorem body31d : k31d = putAt [0, 0, 1, 0, 1, 1, 1, 1, 1] k31d k31e := rfl
structure Ra1 (H H' : Heap) (vF vL v8 : AV) (L : List (Int × Int)) (τ : Env) (i m : Nat) : Prop where
  ex : Ext H H'
  mine : Mine 2 pairc H H' v8 ((L.take i).filter fun s => decide (rev s ∉ L))
  le : i ≤ L.length
  hm : m = L.length - i
  t : Tm τ [(1, vF), (7, vL), (8, v8), (9, .int .i64 i)]
structure Ra2 (H H' : Heap) (vF vL v8 : AV) (L : List (Int × Int)) (s : Int × Int) (τ : Env) (i k m : Nat) : Prop where
  eq : H = H'
  le : k ≤ L.length
  hm : m = L.length - k
  t : Tm τ [(1, vF), (7, vL), (8, v8), (9, .int .i64 i), (10, .bool (decide (rev s ∈ L.take k))), (11, .int .i64 k)]
structure Rqa (H H' : Heap) (vF v8 : AV) (M : List (Int × Int)) (τ : Env) : Prop where
  ex : Ext H H'
  mine : Mine 2 pairc H H' v8 M
  t : Tm τ [(1, vF), (8, v8)]
theorem rim_a (hw : H.Wf) {vF vL : AV} {L : List (Int × Int)} (hL : Rw 2 pairc H vL L) (hl : L.length ≤ 1000000000) {τ0 : Env} (u : Tm τ0 [(1, vF), (7, vL), (8, .nils), (9, .int .i64 0)]) :
    Wp FT k31a τ0 H (fun c τ H' => c = .next ∧ ∃ v8, Rqa H H' vF v8 (rimE L) τ) := by
  simp at u
  obtain ⟨u1, u7, u8, u9⟩ := u
  simp [k31a, subAt, A31]
  refine Wp_loop (fun m τ H' => ∃ i v8, Ra1 H H' vF vL v8 L τ i m) ?_ L.length _ _ ⟨0, .nils, ⟨Ext.refl hw, by simpa using Mine.nil, by omega, by omega, by simp [u1, u7, u8, u9]⟩⟩
  rintro m τ H1 ⟨i, v8, ⟨e1, mine, hi, rfl, t⟩⟩
  simp at t
  obtain ⟨t1, t7, t8, t9⟩ := t
  have hL1 := hL.ext e1
  by_cases q : i < L.length
  · obtain ⟨o, off, s, a1, a2, a3, a4, a5⟩ := Pairs.idx (hL1.sl pairc_len) (k := .i64) (i := (i : Int)) (by omega) (by omega)
    rw [Int.toNat_natCast] at a1
    have wi : IntKind.i64.wrap ((i : Int) + 1) = (i : Int) + 1 := wrap64 (by omega) (by omega)
    simp [q, t7, t9, hL1.len]
    refine Wp_loop (fun m τ H' => ∃ k, Ra2 H1 H' vF vL v8 L s τ i k m) ?_ L.length _ _ ⟨0, ⟨rfl, by omega, by omega, by simp [t1, t7, t8, t9]⟩⟩
    rintro m τ _ ⟨k, ⟨rfl, hk, rfl, t⟩⟩
    simp only [Tm_cons, Tm_nil, and_true] at t
    obtain ⟨t1, t7, t8, t9, t10, t11⟩ := t
    by_cases d : k < L.length
    · obtain ⟨o2, off2, y, b1, b2, _, b4, b5⟩ := Pairs.idx (hL1.sl pairc_len) (k := .i64) (i := (k : Int)) (by omega) (by omega)
      rw [Int.toNat_natCast] at b1
      have w : IntKind.i64.wrap ((k : Int) + 1) = (k : Int) + 1 := wrap64 (by omega) (by omega)
      have ht : rev s ∈ L.take (k + 1) ↔ rev s ∈ L.take k ∨ y.1 = s.2 ∧ y.2 = s.1 := by
        rw [List.take_add_one, b1, List.mem_append]
        simp only [Option.toList_some, List.mem_singleton]
        constructor
        · rintro (r | r)
          · exact .inl r
          · right; rw [← r]; exact ⟨rfl, rfl⟩
        · rintro (r | r)
          · exact .inl r
          · right; exact Prod.ext r.1.symm r.2.symm
      by_cases hm : rev s ∈ L.take k
      · have hm' := ht.2 (.inl hm)
        rw [decide_eq_true hm] at t10
        simp [d, t7, t9, t10, t11, hL1.len, w]
        exact ⟨_, by omega, k + 1, ⟨rfl, by omega, rfl, by rw [decide_eq_true hm']; simp [t1, t7, t8, t9]⟩⟩
      · rw [decide_eq_false hm] at t10
        by_cases h1 : y.1 = s.2
        · by_cases h2 : y.2 = s.1
          · have hm' := ht.2 (.inr ⟨h1, h2⟩)
            simp [d, t7, t9, t10, t11, hL1.len, w, a2, a4, a5, b2, b4, b5, h1, h2]
            exact ⟨_, by omega, k + 1, ⟨rfl, by omega, rfl, by rw [decide_eq_true hm']; simp [t1, t7, t8, t9, h2]⟩⟩
          · have hm' : rev s ∉ L.take (k + 1) := fun r => (ht.1 r).elim hm fun r => h2 r.2
            simp [d, t7, t9, t10, t11, hL1.len, w, a2, a4, a5, b2, b4, b5, h1, h2]
            exact ⟨_, by omega, k + 1, ⟨rfl, by omega, rfl, by rw [decide_eq_false hm']; simp [t1, t7, t8, t9, h2]⟩⟩
        · have hm' : rev s ∉ L.take (k + 1) := fun r => (ht.1 r).elim hm fun r => h1 r.1
          simp [d, t7, t9, t10, t11, hL1.len, w, a2, a4, a5, b2, b4, b5, h1]
          exact ⟨_, by omega, k + 1, ⟨rfl, by omega, rfl, by rw [decide_eq_false hm']; simp [t1, t7, t8, t9, h1]⟩⟩
    · have hkl : k = L.length := by omega
      subst hkl
      rw [List.take_length] at t10
      have ht : L.take (i + 1) = L.take i ++ [s] := by rw [List.take_add_one, a1]; rfl
      by_cases hm : rev s ∈ L
      · rw [decide_eq_true hm] at t10
        simp [t7, t9, t10, t11, hL1.len, wi]
        exact ⟨_, by omega, i + 1, v8, ⟨e1, by rw [ht, List.filter_append]; simpa [hm] using mine, by omega, rfl, by simp [t1, t7, t8]⟩⟩
      · rw [decide_eq_false hm] at t10
        have f2 : ∀ (e : Opd → AV), fillV e [.int .i64 0, .int .i64 0] 0 2 (.agg (pairc s)) [] = some (pairc s) := fun e => by rw [show pairc s = [.int .i64 s.1, .int .i64 s.2] from rfl, fillV_2 rfl rfl]; simp [setSeg]
        have hfl : ((L.take i).filter fun s => decide (rev s ∉ L)).length ≤ 1000000000 := by
          have := List.length_filter_le (fun s => decide (rev s ∉ L)) (L.take i)
          rw [List.length_take] at this; omega
        obtain ⟨v', H3, b1, b2, b3, b4⟩ := mine.app1 pairc_len (by omega) pairc_one (bytes := 16) e1.wf e1.next s (by omega)
        have e3 : Ext H H3 := ext_fr hw e1 b3 (fun p hp => mine.new p (by simpa using hp))
        simp [t7, t8, t9, t10, t11, hL1.len, wi, a2, a3, f2, b1]
        exact ⟨_, by omega, i + 1, v', ⟨e3, by rw [ht, List.filter_append]; simpa [hm] using b2, by omega, rfl, by simp [t1, t7]⟩⟩
  · have hil : i = L.length := by omega
    subst hil
    rw [List.take_length] at mine
    simp [t7, t9, hL1.len]
    exact ⟨v8, e1, mine, by simp [t1, t8]⟩
/-! ### No place twice -/
structure Rb1 (H H' : Heap) (v8 : AV) (M : List (Int × Int)) (τ : Env) (i m : Nat) : Prop where
  eq : H = H'
  le : i ≤ M.length
  hm : m = M.length - i
  nd : ((keys M).take i).Nodup
  t : Tm τ [(8, v8), (12, .int .i64 i)]
structure Rb2 (H H' : Heap) (v8 : AV) (M : List (Int × Int)) (x : Int) (τ : Env) (i k m : Nat) : Prop where
  eq : H = H'
  le : k ≤ i
  hm : m = i - k
  ok : ∀ d : Nat, d < k → (keys M)[d]? ≠ some x
  t : Tm τ [(8, v8), (12, .int .i64 i), (13, .int .i64 k)]
structure Rqb (H H' : Heap) (v8 : AV) (M : List (Int × Int)) (c : Sig) (τ : Env) : Prop where
  eq : H = H'
  or : (c = .next ∧ (keys M).Nodup ∧ Tm τ [(8, v8)]) ∨ (c = .ret ∧ ¬ (keys M).Nodup ∧ Tm τ [(4, .nils), (5, .int .i64 81)])
theorem keys_get {M : Nx} {i : Nat} {s : Int × Int} (h : M[i]? = some s) : (keys M)[i]? = some s.1 := by unfold keys; rw [List.getElem?_map, h]; rfl
theorem keys_len (M : Nx) : (keys M).length = M.length := by unfold keys; simp
theorem rim_b {v8 : AV} {M : List (Int × Int)} (hM : Rw 2 pairc H v8 M) (hl : M.length ≤ 1000000000) {τ0 : Env} (u : Tm τ0 [(8, v8), (12, .int .i64 0)]) :
    Wp FT k31b τ0 H (fun c τ H' => Rqb H H' v8 M c τ) := by
  simp at u
  obtain ⟨u8, u12⟩ := u
  simp [k31b, subAt, A31]
  refine Wp_loop (fun m τ H' => ∃ i, Rb1 H H' v8 M τ i m) ?_ M.length _ _ ⟨0, ⟨rfl, by omega, by omega, by simp, by simp [u8, u12]⟩⟩
  rintro m τ _ ⟨i, ⟨rfl, hi, rfl, nd, t⟩⟩
  simp at t
  obtain ⟨t8, t12⟩ := t
  by_cases q : i < M.length
  · obtain ⟨o, off, s, a1, a2, a3, a4, a5⟩ := Pairs.idx (hM.sl pairc_len) (k := .i64) (i := (i : Int)) (by omega) (by omega)
    rw [Int.toNat_natCast] at a1
    have wi : IntKind.i64.wrap ((i : Int) + 1) = (i : Int) + 1 := wrap64 (by omega) (by omega)
    simp [q, t8, t12, hM.len]
    refine Wp_loop (fun m τ H' => ∃ k, Rb2 H H' v8 M s.1 τ i k m) ?_ i _ _ ⟨0, ⟨rfl, by omega, by omega, by omega, by simp [t8, t12]⟩⟩
    rintro m τ _ ⟨k, ⟨rfl, hk, rfl, hd, t⟩⟩
    simp only [Tm_cons, Tm_nil, and_true] at t
    obtain ⟨t8, t12, t13⟩ := t
    by_cases d : k < i
    · obtain ⟨o2, off2, y, b1, b2, _, b4, _⟩ := Pairs.idx (hM.sl pairc_len) (k := .i64) (i := (k : Int)) (by omega) (by omega)
      rw [Int.toNat_natCast] at b1
      have w : IntKind.i64.wrap ((k : Int) + 1) = (k : Int) + 1 := wrap64 (by omega) (by omega)
      by_cases he : s.1 = y.1
      · have hno : ¬ (keys M).Nodup := nod_no (keys_get b1) (by rw [keys_get a1, he]) d
        simp [d, t8, t12, t13, a2, a4, b2, b4, he]
        exact ⟨rfl, .inr ⟨rfl, hno, by simp⟩⟩
      · simp [d, t8, t12, t13, a2, a4, b2, b4, he, w]
        refine ⟨_, by omega, k + 1, ⟨rfl, by omega, rfl, fun j hj => ?_, by simp [t8, t12]⟩⟩
        by_cases e : j = k
        · subst e; rw [keys_get b1]; simpa using fun r => he r.symm
        · exact hd j (by omega)
    · have hki : k = i := by omega
      subst hki
      simp [t12, t13, wi]
      exact ⟨_, by omega, k + 1, ⟨rfl, by omega, rfl, nod_succ nd (keys_get a1) (not_take hd), by simp [t8]⟩⟩
  · have hil : i = M.length := by omega
    subst hil
    rw [List.take_of_length_le (by rw [keys_len]; exact Nat.le_refl _)] at nd
    simp [t8, t12, hM.len]
    exact ⟨rfl, .inl ⟨rfl, nd, by simp [t8]⟩⟩
/-! ### Those that are left -/
/-- The edges that are not used. -/
def remU : List (Int × Int) → List Bool → Nx
  | s :: M, u :: U => if u = true then remU M U else s :: remU M U
  | _, _ => []
theorem remU_mem {s : Int × Int} : ∀ {M : List (Int × Int)} {U : List Bool}, U.length = M.length → (s ∈ remU M U ↔ ∃ i : Nat, M[i]? = some s ∧ U[i]? = some false)
  | [], [], _ => by simp [remU]
  | x :: M, u :: U, h => by
    have ih := remU_mem (s := s) (M := M) (U := U) (by simpa using h)
    constructor
    · intro q
      unfold remU at q
      cases u with
      | true =>
        obtain ⟨i, h1, h2⟩ := ih.1 (by simpa using q)
        exact ⟨i + 1, by simpa using h1, by simpa using h2⟩
      | false =>
        rcases List.mem_cons.1 (by simpa using q) with r | r
        · exact ⟨0, by rw [r]; rfl, rfl⟩
        · obtain ⟨i, h1, h2⟩ := ih.1 r
          exact ⟨i + 1, by simpa using h1, by simpa using h2⟩
    · rintro ⟨i, h1, h2⟩
      unfold remU
      cases i with
      | zero =>
        simp at h1 h2
        subst h1; subst h2; simp
      | succ i =>
        have := ih.2 ⟨i, by simpa using h1, by simpa using h2⟩
        cases u with
        | true => simpa using this
        | false => simp [this]
  | [], u :: U, h => by simp at h
  | x :: M, [], h => by simp at h
theorem remU_len : ∀ (M : List (Int × Int)) (U : List Bool), (remU M U).length ≤ M.length
  | [], _ => by simp [remU]
  | x :: M, [] => by simp [remU]
  | x :: M, u :: U => by
    have := remU_len M U
    unfold remU
    cases u <;> simp <;> omega
theorem remU_all (M : List (Int × Int)) : remU M (List.replicate M.length false) = M := by
  induction M with
  | nil => rfl
  | cons x M ih => rw [List.length_cons, List.replicate_succ]; unfold remU; simp [ih]
theorem remU_sub : ∀ (M : List (Int × Int)) (U : List Bool), (remU M U).Sublist M
  | [], _ => by simp [remU]
  | x :: M, [] => by simp [remU]
  | x :: M, u :: U => by
    unfold remU
    cases u
    · simpa using (remU_sub M U)
    · simpa using (remU_sub M U).cons x
theorem remU_nodup {M : List (Int × Int)} (hn : (keys M).Nodup) (U : List Bool) : (keys (remU M U)).Nodup := hn.sublist ((remU_sub M U).map _)
theorem remU_set : ∀ {M : List (Int × Int)} {U : List Bool} {i : Nat} {s : Int × Int}, (keys M).Nodup → U.length = M.length → M[i]? = some s → remU M (U.set i true) = without (remU M U) s.1
  | [], _, i, s, _, _, h => by simp at h
  | x :: M, [], _, _, _, h, _ => by simp at h
  | x :: M, u :: U, 0, s, hn, hl, h => by
    have hn' : x.1 ∉ keys M ∧ (keys M).Nodup := List.nodup_cons.1 hn
    simp at h; subst h
    have hw : without (remU M U) x.1 = remU M U := by
      unfold without
      rw [List.filter_eq_self]
      intro q hq
      have : q.1 ∈ keys M := List.mem_map.2 ⟨q, (remU_sub M U).subset hq, rfl⟩
      simp only [decide_eq_true_eq]
      exact fun e => hn'.1 (e ▸ this)
    show remU (x :: M) (true :: U) = _
    unfold remU
    cases u
    · have : without (x :: remU M U) x.1 = without (remU M U) x.1 := by unfold without; rw [List.filter_cons]; simp
      simp [this, hw]
    · simp [hw]
  | x :: M, u :: U, i + 1, s, hn, hl, h => by
    have hn' : x.1 ∉ keys M ∧ (keys M).Nodup := List.nodup_cons.1 hn
    have h : M[i]? = some s := by simpa using h
    have ih := remU_set (M := M) (U := U) hn'.2 (by simpa using hl) h
    have hne : x.1 ≠ s.1 := fun e => hn'.1 (e ▸ List.mem_map.2 ⟨s, List.mem_of_getElem? h, rfl⟩)
    show remU (x :: M) (u :: U.set i true) = _
    unfold remU
    cases u
    · have : without (x :: remU M U) s.1 = x :: without (remU M U) s.1 := by unfold without; rw [List.filter_cons]; simp [hne]
      simp [this, ih]
    · simp [ih]
/-- The least one that is not used, up to a place. -/
def Best (M : List (Int × Int)) (U : List Bool) (j : Nat) (b : Int) : Prop :=
  (b = -1 ∧ ∀ i : Nat, i < j → U[i]? = some true) ∨ ∃ (k : Nat) (s : Int × Int), b = k ∧ k < j ∧ M[k]? = some s ∧ U[k]? = some false ∧ ∀ (i : Nat) (r : Int × Int), i < j → M[i]? = some r → U[i]? = some false → s.1 ≤ r.1
theorem best_none {M : List (Int × Int)} {U : List Bool} (hl : U.length = M.length) (h : ∀ i : Nat, i < M.length → U[i]? = some true) : remU M U = [] := by
  cases q : remU M U with
  | nil => rfl
  | cons s l =>
    obtain ⟨i, h1, h2⟩ := (remU_mem hl).1 (by rw [q]; simp : s ∈ remU M U)
    have := h i (List.getElem?_eq_some_iff.1 h1).1
    rw [h2] at this; cases this
structure Rc1 (H H' : Heap) (v8 v15 : AV) (x14 : AV) (M : List (Int × Int)) (U : List Bool) (b : Int) (τ : Env) (j m : Nat) : Prop where
  eq : H = H'
  le : j ≤ M.length
  hm : m = M.length - j
  best : Best M U j b
  t : Tm τ [(8, v8), (14, x14), (15, v15), (16, .int .i64 b), (17, .int .i64 j)]
structure Rqc (H H' : Heap) (v8 v15 x14 : AV) (M : List (Int × Int)) (U : List Bool) (b : Int) (τ : Env) : Prop where
  eq : H = H'
  best : Best M U M.length b
  t : Tm τ [(8, v8), (14, x14), (15, v15), (16, .int .i64 b)]
theorem rim_c {v8 v15 x14 : AV} {M : List (Int × Int)} {U : List Bool} {o15 : Nat} (hM : Rw 2 pairc H v8 M) (hU : Arr boolV H v15 o15 U) (hl : U.length = M.length) (hb : M.length ≤ 1000000000) {τ0 : Env} (u : Tm τ0 [(8, v8), (14, x14), (15, v15), (16, .int .i64 (-1)), (17, .int .i64 0)]) :
    Wp FT k31c τ0 H (fun c τ H' => c = .next ∧ ∃ b, Rqc H H' v8 v15 x14 M U b τ) := by
  simp at u
  obtain ⟨u8, u14, u15, u16, u17⟩ := u
  simp [k31c, subAt, A31]
  refine Wp_loop (fun m τ H' => ∃ j b, Rc1 H H' v8 v15 x14 M U b τ j m) ?_ M.length _ _ ⟨0, -1, ⟨rfl, by omega, by omega, .inl ⟨rfl, by omega⟩, by simp [u8, u14, u15, u16, u17]⟩⟩
  rintro m τ _ ⟨j, b, ⟨rfl, hj, rfl, best, t⟩⟩
  simp at t
  obtain ⟨t8, t14, t15, t16, t17⟩ := t
  by_cases q : j < M.length
  · obtain ⟨o, off, s, a1, a2, a3, a4, a5⟩ := Pairs.idx (hM.sl pairc_len) (k := .i64) (i := (j : Int)) (by omega) (by omega)
    rw [Int.toNat_natCast] at a1
    obtain ⟨x, b1, b2, b3⟩ := hU.idx (i := j) (by omega)
    have wi : IntKind.i64.wrap ((j : Int) + 1) = (j : Int) + 1 := wrap64 (by omega) (by omega)
    cases x with
    | true =>
      have b3' : loadA H none (.ptr o15 j) = some (.bool true) := b3
      simp [q, t8, t15, t16, t17, hM.len, b2, b3', wi]
      refine ⟨_, by omega, j + 1, b, ⟨rfl, by omega, rfl, ?_, by simp [t8, t14, t15, t16]⟩⟩
      rcases best with ⟨rfl, h⟩ | ⟨k, r, rfl, h1, h2, h3, h4⟩
      · refine .inl ⟨rfl, fun i hi => ?_⟩
        by_cases e : i = j
        · subst e; exact b1
        · exact h i (by omega)
      · refine .inr ⟨k, r, rfl, by omega, h2, h3, fun i r' hi hr hf => ?_⟩
        by_cases e : i = j
        · subst e; rw [b1] at hf; cases hf
        · exact h4 i r' (by omega) hr hf
    | false =>
      have b3' : loadA H none (.ptr o15 j) = some (.bool false) := b3
      rcases best with ⟨rfl, h⟩ | ⟨k, r, rfl, h1, h2, h3, h4⟩
      · simp [q, t8, t15, t16, t17, hM.len, b2, b3', wi]
        refine ⟨_, by omega, j + 1, j, ⟨rfl, by omega, rfl, .inr ⟨j, s, rfl, by omega, a1, b1, fun i r hi hr hf => ?_⟩, by simp [t8, t14, t15]⟩⟩
        by_cases e : i = j
        · subst e; rw [a1] at hr; cases hr; exact Int.le_refl _
        · have := h i (by omega); rw [hf] at this; cases this
      · have hneg : ¬ ((k : Int) < 0) := by omega
        obtain ⟨o2, off2, r', c1, c2, _, c4, _⟩ := Pairs.idx (hM.sl pairc_len) (k := .i64) (i := (k : Int)) (by omega) (by omega)
        rw [Int.toNat_natCast, h2] at c1
        cases c1
        by_cases d : s.1 < r.1
        · simp [q, t8, t15, t16, t17, hM.len, b2, b3', wi, hneg, a2, a4, c2, c4, d]
          refine ⟨_, by omega, j + 1, j, ⟨rfl, by omega, rfl, .inr ⟨j, s, rfl, by omega, a1, b1, fun i r' hi hr hf => ?_⟩, by simp [t8, t14, t15]⟩⟩
          by_cases e : i = j
          · subst e; rw [a1] at hr; cases hr; exact Int.le_refl _
          · have := h4 i r' (by omega) hr hf; omega
        · simp [q, t8, t15, t16, t17, hM.len, b2, b3', wi, hneg, a2, a4, c2, c4, d]
          refine ⟨_, by omega, j + 1, k, ⟨rfl, by omega, rfl, .inr ⟨k, r, rfl, by omega, h2, h3, fun i r' hi hr hf => ?_⟩, by simp [t8, t14, t15, t16]⟩⟩
          by_cases e : i = j
          · subst e; rw [a1] at hr; cases hr; omega
          · exact h4 i r' (by omega) hr hf
  · have hjl : j = M.length := by omega
    subst hjl
    simp [t8, t17, hM.len]
    exact ⟨b, rfl, best, by simp [t8, t14, t15, t16]⟩
/-- The next one on a way. -/
def Nxt (M : List (Int × Int)) (U : List Bool) (to : Int) (j : Nat) (b : Int) : Prop :=
  (b = -1 ∧ ∀ (i : Nat) (r : Int × Int), i < j → M[i]? = some r → U[i]? = some false → r.1 ≠ to) ∨ ∃ (k : Nat) (s : Int × Int), b = k ∧ k < j ∧ M[k]? = some s ∧ U[k]? = some false ∧ s.1 = to
structure Re1 (H H' : Heap) (v8 v15 v18 x14 : AV) (M : List (Int × Int)) (U : List Bool) (to b : Int) (τ : Env) (j m : Nat) : Prop where
  eq : H = H'
  le : j ≤ M.length
  hm : m = M.length - j
  nx : Nxt M U to j b
  t : Tm τ [(8, v8), (14, x14), (15, v15), (18, v18), (16, .int .i64 b), (19, .int .i64 to), (20, .int .i64 j)]
structure Rqe (H H' : Heap) (v8 v15 v18 x14 : AV) (M : List (Int × Int)) (U : List Bool) (to b : Int) (τ : Env) : Prop where
  eq : H = H'
  nx : Nxt M U to M.length b
  t : Tm τ [(8, v8), (14, x14), (15, v15), (18, v18), (16, .int .i64 b)]
theorem rim_e {v8 v15 v18 x14 : AV} {to : Int} {M : List (Int × Int)} {U : List Bool} {o15 : Nat} (hM : Rw 2 pairc H v8 M) (hU : Arr boolV H v15 o15 U) (hl : U.length = M.length) (hb : M.length ≤ 1000000000) {τ0 : Env}
    (u : Tm τ0 [(8, v8), (14, x14), (15, v15), (18, v18), (16, .int .i64 (-1)), (19, .int .i64 to), (20, .int .i64 0)]) :
    Wp FT k31e τ0 H (fun c τ H' => c = .next ∧ ∃ b, Rqe H H' v8 v15 v18 x14 M U to b τ) := by
  simp at u
  obtain ⟨u8, u14, u15, u18, u16, u19, u20⟩ := u
  simp [k31e, subAt, A31]
  refine Wp_loop (fun m τ H' => ∃ j b, Re1 H H' v8 v15 v18 x14 M U to b τ j m) ?_ M.length _ _ ⟨0, -1, ⟨rfl, by omega, by omega, .inl ⟨rfl, by omega⟩, by simp [u8, u14, u15, u16, u18, u19, u20]⟩⟩
  rintro m τ _ ⟨j, b, ⟨rfl, hj, rfl, nx, t⟩⟩
  simp at t
  obtain ⟨t8, t14, t15, t18, t16, t19, t20⟩ := t
  by_cases q : j < M.length
  · obtain ⟨o, off, s, a1, a2, a3, a4, a5⟩ := Pairs.idx (hM.sl pairc_len) (k := .i64) (i := (j : Int)) (by omega) (by omega)
    rw [Int.toNat_natCast] at a1
    obtain ⟨x, b1, b2, b3⟩ := hU.idx (i := j) (by omega)
    have wi : IntKind.i64.wrap ((j : Int) + 1) = (j : Int) + 1 := wrap64 (by omega) (by omega)
    have keep : (x = false → s.1 ≠ to) → Nxt M U to (j + 1) b := fun hno => by
      rcases nx with ⟨rfl, h⟩ | ⟨k, r, rfl, h1, h2⟩
      · refine .inl ⟨rfl, fun i r hi hr hf => ?_⟩
        by_cases e : i = j
        · subst e; rw [a1] at hr; cases hr; rw [b1] at hf; cases hf; exact hno rfl
        · exact h i r (by omega) hr hf
      · exact .inr ⟨k, r, rfl, by omega, h2⟩
    cases x with
    | true =>
      have b3' : loadA H none (.ptr o15 j) = some (.bool true) := b3
      simp [q, t8, t15, t20, hM.len, b2, b3', wi]
      exact ⟨_, by omega, j + 1, b, ⟨rfl, by omega, rfl, keep (by simp), by simp [t8, t14, t15, t16, t18, t19]⟩⟩
    | false =>
      have b3' : loadA H none (.ptr o15 j) = some (.bool false) := b3
      by_cases d : s.1 = to
      · simp [q, t8, t15, t19, t20, hM.len, b2, b3', wi, a2, a4, d]
        exact ⟨_, by omega, j + 1, j, ⟨rfl, by omega, rfl, .inr ⟨j, s, rfl, by omega, a1, b1, d⟩, by simp [t8, t14, t15, t18, t19]⟩⟩
      · simp [q, t8, t15, t19, t20, hM.len, b2, b3', wi, a2, a4, d]
        exact ⟨_, by omega, j + 1, b, ⟨rfl, by omega, rfl, keep (fun _ => d), by simp [t8, t14, t15, t16, t18, t19]⟩⟩
  · have hjl : j = M.length := by omega
    subst hjl
    simp [t8, t20, hM.len]
    exact ⟨b, rfl, nx, by simp [t8, t14, t15, t16, t18]⟩
/-- Where a way stands: at a place, or at its end. -/
def Way (M : List (Int × Int)) (U : List Bool) (b : Int) (ring R : List Int) (N : Nx) : Prop :=
  (b = -1 ∧ ring = R ∧ remU M U = N) ∨ ∃ (k : Nat) (s : Int × Int), b = k ∧ M[k]? = some s ∧ U[k]? = some false ∧ ring ++ (goes (remU M U) s.1).1 = R ∧ (goes (remU M U) s.1).2 = N
theorem way_next {M : List (Int × Int)} (hn : (keys M).Nodup) {U : List Bool} (hl : U.length = M.length) {k : Nat} {s : Int × Int} {ring R : List Int} {N : Nx} (h2 : M[k]? = some s) (h3 : U[k]? = some false) (h4 : ring ++ (goes (remU M U) s.1).1 = R) (h5 : (goes (remU M U) s.1).2 = N) {b : Int} (nx : Nxt M (U.set k true) s.2 M.length b) :
    Way M (U.set k true) b (ring ++ [s.1]) R N ∧ (remU M (U.set k true)).length < (remU M U).length := by
  have hnr := remU_nodup hn U
  have hat : at1 (remU M U) s.1 = some s := (at1_eq hnr).2 ⟨(remU_mem hl).2 ⟨k, h2, h3⟩, rfl⟩
  have hset := remU_set hn hl h2
  have hlt := without_len hat
  rw [goes_some hat] at h4 h5
  simp only at h4 h5
  rw [← hset] at h4 h5 hlt
  refine ⟨?_, hlt⟩
  rcases nx with ⟨rfl, h⟩ | ⟨k', s', rfl, h1', h2', h3', h4'⟩
  · have hk : s.2 ∉ keys (remU M (U.set k true)) := fun q => by
      obtain ⟨e, he, hes⟩ := List.mem_map.1 q
      obtain ⟨i, hi1, hi2⟩ := (remU_mem (by simpa using hl)).1 he
      exact h i e (List.getElem?_eq_some_iff.1 hi1).1 hi1 hi2 hes
    rw [goes_none hk] at h4 h5
    exact .inl ⟨rfl, by simpa using h4, h5⟩
  · refine .inr ⟨k', s', rfl, h2', h3', ?_, ?_⟩
    · rw [h4', List.append_assoc]; exact h4
    · rw [h4']; exact h5
structure Rd1 (H H' : Heap) (v8 v15 v18 x14 : AV) (o15 : Nat) (M : List (Int × Int)) (U : List Bool) (ring R : List Int) (N : Nx) (b : Int) (τ : Env) (m : Nat) : Prop where
  fr : Fr [o15] H H'
  arr : Arr boolV H' v15 o15 U
  ul : U.length = M.length
  mine : Mine 1 i64c H H' v18 ring
  rl : ring.length + (remU M U).length ≤ M.length
  way : Way M U b ring R N
  hm : m = (remU M U).length
  t : Tm τ [(8, v8), (14, x14), (15, v15), (18, v18), (16, .int .i64 b)]
structure Rqd (H H' : Heap) (v8 v15 v18 x14 : AV) (o15 : Nat) (M : List (Int × Int)) (U : List Bool) (R : List Int) (N : Nx) (τ : Env) : Prop where
  fr : Fr [o15] H H'
  arr : Arr boolV H' v15 o15 U
  ul : U.length = M.length
  mine : Mine 1 i64c H H' v18 R
  rl : R.length ≤ M.length
  rem : remU M U = N
  t : Tm τ [(8, v8), (14, x14), (15, v15), (18, v18)]
theorem rim_d (hw : H.Wf) {v8 v15 x14 : AV} {M : List (Int × Int)} {U : List Bool} {o15 : Nat} (hn : (keys M).Nodup) (hM : Rw 2 pairc H v8 M) (h8 : rowObj v8 ≠ some o15) (hU : Arr boolV H v15 o15 U) (hl : U.length = M.length) (hb : M.length ≤ 1000000000) {k : Nat} {s : Int × Int} (hk : M[k]? = some s) (hu : U[k]? = some false) {τ0 : Env}
    (u : Tm τ0 [(8, v8), (14, x14), (15, v15), (18, .nils), (16, .int .i64 k)]) :
    Wp FT k31d τ0 H (fun c τ H' => c = .next ∧ ∃ v18 U', Rqd H H' v8 v15 v18 x14 o15 M U' (goes (remU M U) s.1).1 (goes (remU M U) s.1).2 τ) := by
  simp at u
  obtain ⟨u8, u14, u15, u18, u16⟩ := u
  rw [body31d]
  generalize hke : k31e = ke
  simp [k31d, subAt, putAt, A31]
  refine Wp_loop (fun m τ H' => ∃ v18 U' ring b, Rd1 H H' v8 v15 v18 x14 o15 M U' ring (goes (remU M U) s.1).1 (goes (remU M U) s.1).2 b τ m) ?_ _ _ _ ⟨.nils, U, [], k, ⟨Fr.refl hw, hU, hl, Mine.nil, by have := remU_len M U; simpa using this, .inr ⟨k, s, rfl, hk, hu, by simp, rfl⟩, rfl, by simp [u8, u14, u15, u16, u18]⟩⟩
  rintro m τ H1 ⟨v18, U1, ring, b, ⟨fr, arr, ul, mine, rl, way, rfl, t⟩⟩
  simp at t
  obtain ⟨t8, t14, t15, t18, t16⟩ := t
  have ho : o15 < H.next := hU.lt hw
  have hM1 := hM.fr fr (fun o q r => h8 (by simp at r; rw [← r]; exact q))
  rcases way with ⟨rfl, rfl, hN⟩ | ⟨j, r, rfl, h2, h3, h4, h5⟩
  · simp [t16]
    exact ⟨v18, U1, ⟨fr, arr, ul, mine, by omega, hN, by simp [t8, t14, t15, t18]⟩⟩
  · have hj : j < M.length := (List.getElem?_eq_some_iff.1 h2).1
    have hneg : (0 : Int) ≤ (j : Int) := by omega
    obtain ⟨x, b1, b2, b3⟩ := arr.idx (i := j) (by omega)
    obtain ⟨H2, s1, s2, s3⟩ := arr.set fr.wf (i := j) (by omega) true rfl
    have s1' : storeA H1 1 (.ptr o15 j) (.bool true) = some (undefA, H2) := s1
    have f02 : Fr [o15] H H2 := fr.trans hw s3 (fun o q => .inl q)
    have mine2 := mine.fr s3 (fun p hp q => by have := mine.new p hp; simp at q; omega)
    have hM2 := hM1.fr s3 (fun o q r => h8 (by simp at r; rw [← r]; exact q))
    obtain ⟨v', H3, c1, c2, c3, c4⟩ := mine2.app1 i64c_len (by omega) i64c_one (bytes := 8) f02.wf f02.next r.1 (by omega)
    have c1' : appendA 1 8 (H2.push (.cells [.int .i64 r.1])) v18 (.slc H2.next 0 1 1 1 true) = some (v', H3) := c1
    have f03 : Fr [o15] H H3 := f02.trans hw c3 (fun o q => .inr (mine.new o (by simpa using q)))
    have arr3 : Arr boolV H3 v15 o15 (U1.set j true) := s2.fr c3 (fun q => by have := mine.new o15 (by simpa using q); omega)
    have hM3 := hM.fr f03 (fun o q r => h8 (by simp at r; rw [← r]; exact q))
    obtain ⟨o, off, r', a1, a2, _, a4, a5⟩ := Pairs.idx (hM2.sl pairc_len) (k := .i64) (i := (j : Int)) (by omega) (by omega)
    rw [Int.toNat_natCast, h2] at a1
    cases a1
    obtain ⟨o', off', r', a1', a2', _, a4', a5'⟩ := Pairs.idx (hM3.sl pairc_len) (k := .i64) (i := (j : Int)) (by omega) (by omega)
    rw [Int.toNat_natCast, h2] at a1'
    cases a1'
    have a2e : (AV.ptr o' off') = .ptr o off := by rw [a2] at a2'; exact (Option.some.inj a2').symm
    cases a2e
    simp [hneg, t8, t14, t15, t16, t18, b2, s1', a2, a4, a5', c1']
    rw [← hke]
    refine (rim_e (to := r.2) (v18 := v') (x14 := x14) hM3 arr3 (by simpa using ul) hb (by simp [t8, t14, t15])).mono ?_
    rintro c τ' _ ⟨rfl, b', ⟨rfl, nx, t'⟩⟩
    simp at t'
    obtain ⟨t8', t14', t15', t18', t16'⟩ := t'
    obtain ⟨w1, w2⟩ := way_next hn ul h2 h3 h4 h5 nx
    simp
    exact ⟨_, w2, v', U1.set j true, ring ++ [r.1], b', ⟨f03, arr3, by simpa using ul, c2, by simp; omega, w1, rfl, by simp [t8', t14', t15', t16', t18']⟩⟩
structure Rm1 (Hb H' : Heap) (v8 v14 v15 : AV) (o15 : Nat) (M : List (Int × Int)) (U : List Bool) (out R : List (List Int)) (τ : Env) (m : Nat) : Prop where
  fr : Fr [o15] Hb H'
  arr : Arr boolV H' v15 o15 U
  ul : U.length = M.length
  rows : AI.Rows Hb H' v14 out
  rl : out.length + (remU M U).length ≤ M.length
  ok : out ++ ringsF (srtI (keys M)) (remU M U) = R
  hm : m = (remU M U).length
  t : Tm τ [(8, v8), (14, v14), (15, v15)]
def rimsR (n : Int) (F : List (List Int)) (H' : Heap) (r : AV) : Prop :=
  (chkF n F ≠ 0 ∧ r = .tup [.nils, .int .i64 (chkF n F)]) ∨ (chkF n F = 0 ∧ ¬ (keys (rimE (allE F))).Nodup ∧ r = .tup [.nils, .int .i64 81]) ∨ (chkF n F = 0 ∧ (keys (rimE (allE F))).Nodup ∧ ∃ v, r = .tup [v, .int .i64 0] ∧ Gd H' v (rimsF (allE F)))
theorem rims31 (h31 : FT 31 = some (.code A31)) (h25 : FT 25 = some (.code A25)) (h59 : FT 59 = some (.code A59)) {n : Int} {vF : AV} {F : List (List Int)} (hF : Gd H vF F) (hs : Fsz F) (hw : H.Wf) :
    Cp FT 31 [.int .i64 n, vF] H (fun r H' => rimsR n F H' r ∧ Ext H H') := by
  refine Cp_code A31 h31 rfl ?_
  have hA : A31.results = [.tmp 4, .tmp 5] := rfl
  rw [hA, body31]
  generalize hka : k31a = ka
  generalize hkb : k31b = kb
  generalize hkc : k31c = kc
  generalize hkd : k31d = kd
  simp [A31, putAt]
  refine (ref25 (n := n) h25 h59 hF hs.row hs.len hs.tot hw).mono ?_
  rintro _ H1 ⟨rfl, e1⟩
  by_cases z : chkF n F = 0
  · have hF1 := hF.ext e1
    simp [z]
    refine (all59 h59 hF1 hs.len hs.tot e1.wf).mono ?_
    rintro vL H2 ⟨hL, e2⟩
    have hL : Rw 2 pairc H2 vL (allE F) := hL
    have hLl : (allE F).length ≤ 1000000000 := by have := hs.tot; rw [← flat_edges] at this; exact this
    have e02 := e1.trans e2
    unfold rimsR rimsF
    have hMl : (rimE (allE F)).length ≤ 1000000000 := by have := List.length_filter_le (fun s => decide (rev s ∉ allE F)) (allE F); unfold rimE; omega
    simp [z]
    rw [← hka]
    refine (rim_a e2.wf hL hLl (vF := vF) (by simp)).mono ?_
    rintro _ τ H3 ⟨rfl, v8, ⟨e3, mine, t⟩⟩
    simp at t
    obtain ⟨t1, t8⟩ := t
    generalize rimE (allE F) = M at hMl mine ⊢
    have hM : Rw 2 pairc H3 v8 M := mine.ow.rw pairc_len
    simp
    rw [← hkb]
    refine (rim_b hM hMl (by simp [t8])).mono ?_
    rintro c τ _ ⟨rfl, ⟨rfl, nd, t⟩ | ⟨rfl, nd, t⟩⟩
    · simp at t
      simp [t, hM.len]
      obtain ⟨v15, Hb, a1, a2, a3, a4⟩ := Arr.make (enc := boolV) e3.wf false rfl hMl (bytes := 1) (by omega)
      have a1' : makeSlA H3 1 1 [.bool false] (.int .i64 M.length) (.int .i64 M.length) = some (v15, Hb) := a1
      simp [a1']
      have hMb := hM.ext a3
      have h8 : rowObj v8 ≠ some H3.next := fun q => by have := hM.rowLt pairc_len e3.wf q; omega
      have e0b := (e02.trans e3).trans a3
      have hnx : H.next ≤ H3.next := (e02.trans e3).next
      refine Wp_loop (fun m τ H' => ∃ v14 U out, Rm1 Hb H' v8 v14 v15 H3.next M U out (ringsF (srtI (keys M)) M) τ m) ?_ M.length _ _ ⟨.nils, List.replicate M.length false, [], ⟨Fr.refl a3.wf, a2, by simp, Rows.nil, by rw [remU_all]; simp, by rw [remU_all]; rfl, by rw [remU_all], by simp [t]⟩⟩
      clear t a2 a1 a1'
      rintro m τ H4 ⟨v14, U, out, ⟨fr, arr, ul, rows, rl, ok, rfl, t⟩⟩
      simp at t
      obtain ⟨t8, t14, t15⟩ := t
      have hM4 := hMb.fr fr (fun o q r => h8 (by simp at r; rw [← r]; exact q))
      simp
      rw [← hkc]
      refine (rim_c (x14 := v14) hM4 arr ul hMl (by simp [t8, t14, t15])).mono ?_
      rintro c τ _ ⟨rfl, b, ⟨rfl, best, t⟩⟩
      simp at t
      obtain ⟨t8, t14, t15, t16⟩ := t
      rcases best with ⟨rfl, h⟩ | ⟨k, s, rfl, k1, k2, k3, k4⟩
      · have hnil := best_none ul h
        rw [hnil, rings_empty, List.append_nil] at ok
        simp [t14, t16]
        exact ⟨⟨nd, by rw [← ok]; exact rows.gd⟩, ext_fr hw e0b fr (fun p hp => by simp at hp; omega)⟩
      · have hneg : ¬ ((k : Int) < 0) := by omega
        simp [t16, hneg]
        rw [← hkd]
        refine (rim_d fr.wf (x14 := v14) nd hM4 h8 arr ul hMl k2 k3 (by simp [t8, t14, t15, t16])).mono ?_
        rintro c τ H5 ⟨rfl, v18, U', ⟨fr5, arr5, ul5, mine5, rl5, rem5, t⟩⟩
        simp at t
        obtain ⟨t8, t14, t15, t18⟩ := t
        have hkey : s.1 ∈ keys (remU M U) := List.mem_map.2 ⟨s, (remU_mem ul).2 ⟨k, k2, k3⟩, rfl⟩
        have hleast : ∀ x, x ∈ keys (remU M U) → s.1 ≤ x := fun x hx => by
          obtain ⟨e, he, rfl⟩ := List.mem_map.1 hx
          obtain ⟨i, i1, i2⟩ := (remU_mem ul).1 he
          exact k4 i e (List.getElem?_eq_some_iff.1 i1).1 i1 i2
        have hring := rings_least (srtI_le (keys M)) (M := remU M U) (fun x hx => srtI_mem.2 (((remU_sub M U).map _).subset hx)) hkey hleast
        rw [hring, ← rem5] at ok
        have hlt : (remU M U').length < (remU M U).length := by
          rw [rem5]
          obtain ⟨e, he⟩ : ∃ e, at1 (remU M U) s.1 = some e := by
            cases q : at1 (remU M U) s.1 with
            | none => exact absurd hkey (at1_none.1 q)
            | some e => exact ⟨e, rfl⟩
          rw [goes_some he]
          have h1 := without_len he
          have h2 := (goes_sub (without (remU M U) s.1) e.2).length_le
          simp only; omega
        have rows5 := rows.fr fr5 (fun p hp => by simp at hp; omega)
        have rw5 : Rw 1 i64c H5 v18 _ := mine5.ow.rw i64c_len
        obtain ⟨v', H6, c1, c2, c3, c4⟩ := rows5.snoc fr5.wf (Nat.le_trans fr.next fr5.next) rw5 (fun p hp => Nat.le_trans fr.next (mine5.new p hp)) (fun p hp hv => by
          have h1 := mine5.new p hp
          obtain ⟨rs, m1, _, _⟩ := rows.ex
          have h2 := m1.lt fr.wf hv
          omega) (bytes := 24) (by omega)
        have fv : ∀ (e : Opd → AV), fillV e [.nils] 0 1 v18 [] = some [v18] := fun e => by rw [fillV_val rw5.one.1 rw5.one.2]; simp [setSeg]
        simp [t14, t18, fv, c1]
        refine ⟨_, hlt, v', U', out ++ [(goes (remU M U) s.1).1], ⟨?_, ?_, ul5, c2, by simp; omega, by rw [List.append_assoc]; exact ok, rfl, by simp [t8, t15]⟩⟩
        · have f1 : Fr [H3.next] Hb H5 := fr.trans a3.wf fr5 (fun o q => .inl q)
          refine f1.trans a3.wf c3 (fun o q => .inr ?_)
          obtain ⟨rs, m1, _, _⟩ := rows.ex
          exact m1.new o (by simpa using q)
        · refine arr5.fr c3 (fun q => ?_)
          obtain ⟨rs, m1, _, _⟩ := rows.ex
          have := m1.new H3.next (by simpa using q)
          omega
    · simp at t
      simp [t]
      exact ⟨nd, e02.trans e3⟩
  · simp [z]
    exact ⟨.inl ⟨z, rfl⟩, e1⟩
end
end Go.Proofs.Ytcepchipgjpkhaa
