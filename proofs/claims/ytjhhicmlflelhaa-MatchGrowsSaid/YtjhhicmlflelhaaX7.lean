/- The law MatchFull, over the interpreter. No claim by itself. -/
import Derived.Test.YtjhhicmlflelhaaWC
import Derived.Test.YtjhhicmlflelhaaMD
import Derived.Test.YtjhhicmlflelhaaX3
namespace Go.Proofs.Ytjhhicmlflelhaa.Gr
open Go Go.AI
def nn (x y : Nat) : Int × Int := ((x : Int), (y : Int))
theorem nn_c {x y : Nat} : pairc (nn x y) = [.int .i64 (x : Int), .int .i64 (y : Int)] := rfl
theorem nn_inj {x y a b : Nat} (h : nn x y = nn a b) : x = a ∧ y = b := by
  simp only [nn, Prod.mk.injEq] at h; omega
def AllM (i j : Nat) (p : Int × Int) : Prop := ∃ x y, p = nn x y ∧ ((x < i ∧ y < x) ∨ (x = i ∧ y < j))
def TwoM (a b i j : Nat) (p : Int × Int) : Prop := ∃ x y, p = nn x (a + y) ∧ ((x < i ∧ y < b) ∨ (x = i ∧ y < j))
def StarM (a b k : Nat) (p : Int × Int) : Prop := ∃ j, p = nn (a + j % b) (a + b + j) ∧ j < k
def FullI (H H' : Heap) (a b i j k : Nat) (v u : AV) : Prop := ∃ xs ys, B2 H H' v u xs ys ∧ (∀ p, p ∈ xs ↔ AllM i j p) ∧ (∀ p, p ∈ ys ↔ TwoM a b i k p) ∧ xs.length ≤ 14 * i + j ∧ ys.length ≤ 14 * i + k
theorem FullI.all {H H' : Heap} {a b i j k : Nat} {v u : AV} (h : FullI H H' a b i j k v u) (hi : i ≤ 14) (hj : j ≤ 14) :
    ∃ v' H2, appendA 2 16 (H'.push (.cells [.int .i64 (i : Int), .int .i64 (j : Int)])) v (.slc H'.next 0 1 2 1 true) = some (v', H2) ∧ FullI H H2 a b i (j + 1) k v' u := by
  obtain ⟨xs, ys, b2, h1, h2, h3, h4⟩ := h
  obtain ⟨v', H2, ap, b2'⟩ := b2.app (nn i j) (by omega)
  refine ⟨v', H2, ap, xs ++ [nn i j], ys, b2', fun p => ?_, h2, by rw [List.length_append]; simp; omega, h4⟩
  rw [List.mem_append, h1, List.mem_singleton]
  constructor
  · rintro (⟨x, y, e, q | q⟩ | rfl)
    · exact ⟨x, y, e, .inl q⟩
    · exact ⟨x, y, e, .inr ⟨q.1, by omega⟩⟩
    · exact ⟨i, j, rfl, .inr ⟨rfl, by omega⟩⟩
  · rintro ⟨x, y, e, q | ⟨rfl, q⟩⟩
    · exact .inl ⟨x, y, e, .inl q⟩
    · by_cases hy : y = j
      · subst hy; exact .inr e
      · exact .inl ⟨x, y, e, .inr ⟨rfl, by omega⟩⟩
theorem FullI.two {H H' : Heap} {a b i j k : Nat} {v u : AV} (h : FullI H H' a b i j k v u) (hi : i ≤ 14) (hk : k ≤ 14) :
    ∃ u' H2, appendA 2 16 (H'.push (.cells [.int .i64 (i : Int), .int .i64 ((a + k : Nat) : Int)])) u (.slc H'.next 0 1 2 1 true) = some (u', H2) ∧ FullI H H2 a b i j (k + 1) v u' := by
  obtain ⟨xs, ys, b2, h1, h2, h3, h4⟩ := h
  obtain ⟨v', H2, ap, b2'⟩ := b2.swap.app (nn i (a + k)) (by omega)
  refine ⟨v', H2, ap, xs, ys ++ [nn i (a + k)], b2'.swap, h1, fun p => ?_, h3, by rw [List.length_append]; simp; omega⟩
  rw [List.mem_append, h2, List.mem_singleton]
  constructor
  · rintro (⟨x, y, e, q | q⟩ | rfl)
    · exact ⟨x, y, e, .inl q⟩
    · exact ⟨x, y, e, .inr ⟨q.1, by omega⟩⟩
    · exact ⟨i, k, rfl, .inr ⟨rfl, by omega⟩⟩
  · rintro ⟨x, y, e, q | ⟨rfl, q⟩⟩
    · exact .inl ⟨x, y, e, .inl q⟩
    · by_cases hy : y = k
      · subst hy; exact .inr e
      · exact .inl ⟨x, y, e, .inr ⟨rfl, by omega⟩⟩
theorem FullI.next {H H' : Heap} {a b i : Nat} {v u : AV} (h : FullI H H' a b i i b v u) (hi : i ≤ 14) (hb : b ≤ 14) : FullI H H' a b (i + 1) 0 0 v u := by
  obtain ⟨xs, ys, b2, h1, h2, h3, h4⟩ := h
  refine ⟨xs, ys, b2, fun p => ?_, fun p => ?_, by omega, by omega⟩
  · rw [h1]
    constructor
    · rintro ⟨x, y, e, q | q⟩
      · exact ⟨x, y, e, .inl ⟨by omega, q.2⟩⟩
      · exact ⟨x, y, e, .inl ⟨by omega, by omega⟩⟩
    · rintro ⟨x, y, e, q | q⟩
      · by_cases hx : x = i
        · exact ⟨x, y, e, .inr ⟨hx, by omega⟩⟩
        · exact ⟨x, y, e, .inl ⟨by omega, q.2⟩⟩
      · omega
  · rw [h2]
    constructor
    · rintro ⟨x, y, e, q | q⟩
      · exact ⟨x, y, e, .inl ⟨by omega, q.2⟩⟩
      · exact ⟨x, y, e, .inl ⟨by omega, q.2⟩⟩
    · rintro ⟨x, y, e, q | q⟩
      · by_cases hx : x = i
        · exact ⟨x, y, e, .inr ⟨hx, q.2⟩⟩
        · exact ⟨x, y, e, .inl ⟨by omega, q.2⟩⟩
      · omega
/-! ### Their greatest matchings -/
theorem adj_of {N : Nat} {l : List (Int × Int)} (hr : rightM (N : Int) l = true) {x y : Nat} (h : nn x y ∈ l ∨ nn y x ∈ l) : Adj (natE l) x y := by
  rw [Adj_iff, natE_mem hr, natE_mem hr]; exact h
theorem of_adj {N : Nat} {l : List (Int × Int)} (hr : rightM (N : Int) l = true) {x y : Nat} (h : Adj (natE l) x y) : nn x y ∈ l ∨ nn y x ∈ l := by
  rwa [Adj_iff, natE_mem hr, natE_mem hr] at h
theorem right_nn {N : Nat} {l : List (Int × Int)} (hN : N ≤ 1000) (h : ∀ p, p ∈ l → ∃ x y, p = nn x y ∧ x < N ∧ y < N ∧ x ≠ y) : rightM (N : Int) l = true := by
  refine right_of (by omega) (by omega) fun a b hm => ?_
  obtain ⟨x, y, e, h1, h2, h3⟩ := h _ hm
  simp only [nn, Prod.mk.injEq] at e
  omega
theorem gph_nat {N : Nat} {l : List (Int × Int)} (hr : rightM (N : Int) l = true) : Gph N (Adj (natE l)) := by
  have := gph_of hr
  rwa [Int.toNat_natCast] at this
theorem full_all {a : Nat} {xs : List (Int × Int)} (ha : a ≤ 14) (h : ∀ p, p ∈ xs ↔ AllM a 0 p) : rightM (a : Int) xs = true ∧ Go.Proofs.Ytjhhicmlflelhaa.cnt (mateL a (maxOf a (natE xs))) / 2 = a / 2 := by
  have hr : rightM (a : Int) xs = true := right_nn (by omega) fun p hp => by
    obtain ⟨x, y, e, q | q⟩ := (h p).1 hp
    · exact ⟨x, y, e, by omega, by omega, by omega⟩
    · omega
  refine ⟨hr, max_size hr ?_ fun m _ => ?_⟩
  · obtain ⟨m, h1, h2, _⟩ := pairs_mt (gph_nat hr) id (N := a) (fun i j _ _ e => e) (fun i hi => adj_of hr (.inr ((h _).2 ⟨2 * i + 1, 2 * i, rfl, .inl ⟨hi, by omega⟩⟩))) (a / 2) (by omega)
    exact ⟨m, h1, by omega⟩
  · have := cnt_le_n (n := a) (m := m); omega
theorem full_two {a b : Nat} {ys : List (Int × Int)} (ha : a ≤ 14) (hb : b ≤ 14) (h : ∀ p, p ∈ ys ↔ TwoM a b a 0 p) : rightM ((a + b : Nat) : Int) ys = true ∧ Go.Proofs.Ytjhhicmlflelhaa.cnt (mateL (a + b) (maxOf (a + b) (natE ys))) / 2 = min a b := by
  have hr : rightM ((a + b : Nat) : Int) ys = true := right_nn (by omega) fun p hp => by
    obtain ⟨x, y, e, q | q⟩ := (h p).1 hp
    · exact ⟨x, a + y, e, by omega, by omega, by omega⟩
    · omega
  refine ⟨hr, max_size hr ?_ fun m hm => ?_⟩
  · obtain ⟨m, h1, h2, _⟩ := pairs_mt (gph_nat hr) (fun q => if q % 2 = 0 then q / 2 else a + q / 2) (N := 2 * min a b) (fun i j hi hj e => by
      have e : (if i % 2 = 0 then i / 2 else a + i / 2) = (if j % 2 = 0 then j / 2 else a + j / 2) := e
      by_cases c1 : i % 2 = 0 <;> by_cases c2 : j % 2 = 0 <;> simp only [c1, c2, if_true, if_false] at e <;> omega) (fun i hi => adj_of hr (.inl ((h _).2 ⟨i, i, by
        have c1 : (2 * i) % 2 = 0 := by omega
        have c2 : ¬ (2 * i + 1) % 2 = 0 := by omega
        simp only [if_pos c1, if_neg c2]
        rw [show 2 * i / 2 = i by omega, show (2 * i + 1) / 2 = i by omega], .inl ⟨by omega, by omega⟩⟩))) (min a b) (Nat.le_refl _)
    exact ⟨m, h1, by omega⟩
  · have c1 : Gr.cnt (a + b) m ≤ 2 * (List.range a).length := cover hm fun i j e => by
      rcases of_adj hr e with q | q
      · obtain ⟨x, y, e, q | q⟩ := (h _).1 q
        · left; exact List.mem_range.2 (by have := nn_inj e; omega)
        · omega
      · obtain ⟨x, y, e, q | q⟩ := (h _).1 q
        · right; exact List.mem_range.2 (by have := nn_inj e; omega)
        · omega
    have c2 : Gr.cnt (a + b) m ≤ 2 * ((List.range b).map (a + ·)).length := cover hm fun i j e => by
      rcases of_adj hr e with q | q
      · obtain ⟨x, y, e, q | q⟩ := (h _).1 q
        · right; exact List.mem_map.2 ⟨y, List.mem_range.2 q.2, by have := nn_inj e; omega⟩
        · omega
      · obtain ⟨x, y, e, q | q⟩ := (h _).1 q
        · left; exact List.mem_map.2 ⟨y, List.mem_range.2 q.2, by have := nn_inj e; omega⟩
        · omega
    rw [List.length_range] at c1
    rw [List.length_map, List.length_range] at c2
    omega
theorem full_star {a b : Nat} {zs : List (Int × Int)} (ha : a ≤ 14) (hb : b ≤ 14) (h : ∀ p, p ∈ zs ↔ StarM a b (3 * b) p) : rightM ((a + 4 * b : Nat) : Int) zs = true ∧ Go.Proofs.Ytjhhicmlflelhaa.cnt (mateL (a + 4 * b) (maxOf (a + 4 * b) (natE zs))) / 2 = b := by
  have hlt : ∀ j, j < 3 * b → j % b < b := fun j hj => Nat.mod_lt _ (by omega)
  have hr : rightM ((a + 4 * b : Nat) : Int) zs = true := right_nn (by omega) fun p hp => by
    obtain ⟨j, e, q⟩ := (h p).1 hp
    have := hlt j q
    exact ⟨_, _, e, by omega, by omega, by omega⟩
  refine ⟨hr, max_size hr ?_ fun m hm => ?_⟩
  · obtain ⟨m, h1, h2, _⟩ := pairs_mt (gph_nat hr) (fun q => if q % 2 = 0 then a + q / 2 else a + b + q / 2) (N := 2 * b) (fun i j hi hj e => by
      have e : (if i % 2 = 0 then a + i / 2 else a + b + i / 2) = (if j % 2 = 0 then a + j / 2 else a + b + j / 2) := e
      by_cases c1 : i % 2 = 0 <;> by_cases c2 : j % 2 = 0 <;> simp only [c1, c2, if_true, if_false] at e <;> omega) (fun i hi => adj_of hr (.inl ((h _).2 ⟨i, by
        have c1 : (2 * i) % 2 = 0 := by omega
        have c2 : ¬ (2 * i + 1) % 2 = 0 := by omega
        simp only [if_pos c1, if_neg c2]
        rw [show 2 * i / 2 = i by omega, show (2 * i + 1) / 2 = i by omega, Nat.mod_eq_of_lt (by omega)], by omega⟩))) b (Nat.le_refl _)
    exact ⟨m, h1, by omega⟩
  · have c1 : Gr.cnt (a + 4 * b) m ≤ 2 * ((List.range b).map (a + ·)).length := cover hm fun i j e => by
      rcases of_adj hr e with q | q
      · obtain ⟨k, e, q⟩ := (h _).1 q
        left; exact List.mem_map.2 ⟨k % b, List.mem_range.2 (hlt k q), (nn_inj e).1.symm⟩
      · obtain ⟨k, e, q⟩ := (h _).1 q
        right; exact List.mem_map.2 ⟨k % b, List.mem_range.2 (hlt k q), (nn_inj e).1.symm⟩
    rw [List.length_map, List.length_range] at c1
    omega
def StI (H H' : Heap) (a b k : Nat) (v : AV) : Prop := ∃ zs, Bd 2 pairc H H' v zs ∧ (∀ p, p ∈ zs ↔ StarM a b k p) ∧ zs.length ≤ k
theorem StI.step {H H' : Heap} {a b k : Nat} {v : AV} (h : StI H H' a b k v) (hk : k ≤ 100) :
    ∃ v' H2, appendA 2 16 (H'.push (.cells [.int .i64 ((a + k % b : Nat) : Int), .int .i64 ((a + b + k : Nat) : Int)])) v (.slc H'.next 0 1 2 1 true) = some (v', H2) ∧ StI H H2 a b (k + 1) v' := by
  obtain ⟨zs, bd, h1, h2⟩ := h
  obtain ⟨v', H2, ap, bd', _⟩ := bd.app1 (bytes := 16) pairc_len (by omega) pairc_one (nn (a + k % b) (a + b + k)) (by omega)
  refine ⟨v', H2, ap, zs ++ [nn (a + k % b) (a + b + k)], bd', fun p => ?_, by rw [List.length_append]; simp; omega⟩
  rw [List.mem_append, h1, List.mem_singleton]
  constructor
  · rintro (⟨j, e, q⟩ | rfl)
    · exact ⟨j, e, by omega⟩
    · exact ⟨k, rfl, by omega⟩
  · rintro ⟨j, e, q⟩
    by_cases hj : j = k
    · subst hj; exact .inr e
    · exact .inl ⟨j, e, by omega⟩
theorem wrapS {n : Nat} (h : n ≤ 1000000) : IntKind.wrap .i64 (n : Int) = (n : Int) := wrap64 (by omega) (by omega)
set_option maxRecDepth 20000 in
theorem full7 {n k : Int} {H : Heap} (hw : H.Wf) : Cp FK 7 [.int .i64 n, .int .i64 k] H (fun r _ => r = .bool true) := by
  refine Cp_code A7 rfl rfl ?_
  obtain ⟨a, ha, ea⟩ := mod_u64 n 14 (by omega)
  obtain ⟨b, hb, eb⟩ := mod_u64 k 14 (by omega)
  have ea : Int.tmod (IntKind.wrap .u64 n) 14 = (a : Int) := ea
  have eb : Int.tmod (IntKind.wrap .u64 k) 14 = (b : Int) := eb
  have wa := wrapS (n := a) (by omega)
  have wb := wrapS (n := b) (by omega)
  simp [A7, ea, eb, wa, wb]
  refine Wp_loop (fun f τ H' => ∃ (i : Nat) (v u : AV), i ≤ a ∧ f = a - i ∧ FullI H H' a b i 0 0 v u ∧ Env.at τ 5 = .int .i64 (a : Int) ∧ Env.at τ 6 = .int .i64 (b : Int) ∧ Env.at τ 7 = v ∧ Env.at τ 8 = u ∧ Env.at τ 9 = .nils ∧ Env.at τ 10 = .int .i64 (i : Int)) ?_ a _ _ ⟨0, .nils, .nils, by omega, rfl, ⟨[], [], ⟨Bd.init hw, Bd.init hw, fun o q => by cases q⟩, fun p => by simp [AllM], fun p => by simp [TwoM], by simp, by simp⟩, by simp, by simp, by simp, by simp, by simp, by simp⟩
  rintro f τ H1 ⟨i, v, u, hi, rfl, fi, t5, t6, t7, t8, t9, t10⟩
  simp only [Wp_seq, Wp_region, Wp_block]
  by_cases hc : i < a
  · have w : IntKind.i64.wrap ((i : Int) + 1) = (i : Int) + 1 := wrap64 (by omega) (by omega)
    simp [t5, t6, t7, t8, t9, t10, hc]
    refine Wp_loop (fun f τ H' => ∃ (j : Nat) (v : AV), j ≤ i ∧ f = i - j ∧ FullI H H' a b i j 0 v u ∧ Env.at τ 5 = .int .i64 (a : Int) ∧ Env.at τ 6 = .int .i64 (b : Int) ∧ Env.at τ 7 = v ∧ Env.at τ 8 = u ∧ Env.at τ 9 = .nils ∧ Env.at τ 10 = .int .i64 (i : Int) ∧ Env.at τ 11 = .int .i64 (j : Int)) ?_ i _ _ ⟨0, v, by omega, rfl, fi, by simp [t5], by simp [t6], by simp [t7], by simp [t8], by simp [t9], by simp [t10], by simp⟩
    rintro f τ H2 ⟨j, v, hj, rfl, fi, t5, t6, t7, t8, t9, t10, t11⟩
    simp only [Wp_seq, Wp_region, Wp_block]
    by_cases hcj : j < i
    · have w1 : IntKind.i64.wrap ((j : Int) + 1) = (j : Int) + 1 := wrap64 (by omega) (by omega)
      obtain ⟨v', H3, ap, fi'⟩ := fi.all (by omega) (by omega)
      simp [t5, t6, t7, t8, t9, t10, t11, hcj, ap, w1]
      exact ⟨_, by omega, j + 1, by omega, rfl, v', fi', rfl, by simp⟩
    · have : j = i := by omega
      subst this
      simp [t5, t6, t7, t8, t9, t10, t11]
      refine Wp_loop (fun f τ H' => ∃ (q : Nat) (u : AV), q ≤ b ∧ f = b - q ∧ FullI H H' a b j j q v u ∧ Env.at τ 5 = .int .i64 (a : Int) ∧ Env.at τ 6 = .int .i64 (b : Int) ∧ Env.at τ 7 = v ∧ Env.at τ 8 = u ∧ Env.at τ 9 = .nils ∧ Env.at τ 10 = .int .i64 (j : Int) ∧ Env.at τ 12 = .int .i64 (q : Int)) ?_ b _ _ ⟨0, u, by omega, rfl, fi, by simp [t5], by simp [t6], by simp [t7], by simp [t8], by simp [t9], by simp [t10], by simp⟩
      rintro f τ H3 ⟨q, u, hq, rfl, fi, t5, t6, t7, t8, t9, t10, t12⟩
      simp only [Wp_seq, Wp_region, Wp_block]
      by_cases hcq : q < b
      · have w1 : IntKind.i64.wrap ((q : Int) + 1) = (q : Int) + 1 := wrap64 (by omega) (by omega)
        have w2 : IntKind.i64.wrap ((a : Int) + (q : Int)) = (a : Int) + (q : Int) := wrap64 (by omega) (by omega)
        obtain ⟨u', H4, ap, fi'⟩ := fi.two (by omega) (by omega)
        rw [Int.natCast_add] at ap
        simp [t5, t6, t7, t8, t9, t10, t12, hcq, w2, ap, w1]
        exact ⟨_, by omega, q + 1, by omega, rfl, u', fi', rfl, by simp⟩
      · have : q = b := by omega
        subst this
        simp [t5, t6, t7, t8, t9, t10, t12, w]
        exact ⟨_, by omega, j + 1, by omega, rfl, v, u, fi.next (by omega) (by omega), rfl, rfl, by simp⟩
  · have : i = a := by omega
    subst this
    simp [t5, t6, t7, t8, t9, t10]
    obtain ⟨xs, ys, b2, hx, hy, lx, ly⟩ := fi
    obtain ⟨rx, sx⟩ := full_all (a := i) (by omega) hx
    obtain ⟨ry, sy⟩ := full_two (a := i) (b := b) (by omega) (by omega) hy
    have w3 : IntKind.i64.wrap (3 * (b : Int)) = 3 * (b : Int) := wrap64 (by omega) (by omega)
    refine Wp_loop (fun f τ H' => ∃ (j : Nat) (z : AV), j ≤ 3 * b ∧ f = 3 * b - j ∧ StI H1 H' i b j z ∧ Env.at τ 5 = .int .i64 (i : Int) ∧ Env.at τ 6 = .int .i64 (b : Int) ∧ Env.at τ 7 = v ∧ Env.at τ 8 = u ∧ Env.at τ 9 = z ∧ Env.at τ 13 = .int .i64 (j : Int)) ?_ (3 * b) _ _ ⟨0, .nils, by omega, rfl, ⟨[], Bd.init b2.l.wf, fun p => by simp [StarM], by simp⟩, by simp [t5], by simp [t6], by simp [t7], by simp [t8], by simp [t9], by simp⟩
    rintro f τ H2 ⟨j, z, hj, rfl, si, t5, t6, t7, t8, t9, t13⟩
    simp only [Wp_seq, Wp_region, Wp_block]
    by_cases hcj : j < 3 * b
    · have cj : (j : Int) < 3 * (b : Int) := by omega
      have w1 : IntKind.i64.wrap ((j : Int) + 1) = (j : Int) + 1 := wrap64 (by omega) (by omega)
      obtain ⟨z', H3, ap, si'⟩ := si.step (by omega)
      have hb0 : ¬ b = 0 := by omega
      have hmod : j % b < b := Nat.mod_lt _ (by omega)
      have tm := tmod_nat j b
      rw [Int.natCast_add, Int.natCast_add, Int.natCast_add] at ap
      generalize j % b = r at hmod tm ap
      have w4 : IntKind.i64.wrap ((i : Int) + (r : Int)) = (i : Int) + (r : Int) := wrap64 (by omega) (by omega)
      have w5 : IntKind.i64.wrap ((i : Int) + (b : Int)) = (i : Int) + (b : Int) := wrap64 (by omega) (by omega)
      have w6 : IntKind.i64.wrap ((i : Int) + (b : Int) + (j : Int)) = (i : Int) + (b : Int) + (j : Int) := wrap64 (by omega) (by omega)
      simp [t5, t6, t7, t8, t9, t13, w3, cj, hb0, tm, w4, w5, w6, ap, w1]
      exact ⟨_, by omega, j + 1, by omega, rfl, z', si', rfl, by simp⟩
    · have : j = 3 * b := by omega
      subst this
      have cj : ¬ (((3 * b : Nat) : Int) < 3 * (b : Int)) := by omega
      have cj' : ¬ (3 * (b : Int) < 3 * (b : Int)) := by omega
      obtain ⟨zs, bd, hz, lz⟩ := si
      obtain ⟨rz, sz⟩ := full_star (a := i) (b := b) (by omega) (by omega) hz
      have w5 : IntKind.i64.wrap ((i : Int) + (b : Int)) = (i : Int) + (b : Int) := wrap64 (by omega) (by omega)
      have w7 : IntKind.i64.wrap (4 * (b : Int)) = 4 * (b : Int) := wrap64 (by omega) (by omega)
      have w8 : IntKind.i64.wrap ((i : Int) + 4 * (b : Int)) = (i : Int) + 4 * (b : Int) := wrap64 (by omega) (by omega)
      have e1 := bd.ext b2.l.wf
      have px : Pairs H2 v xs := (b2.l.sl pairc_len).ext e1
      have py : Pairs H2 u ys := (b2.r.sl pairc_len).ext e1
      have pz : Pairs H2 z zs := bd.sl pairc_len
      rw [Int.natCast_add] at ry
      rw [show ((i + 4 * b : Nat) : Int) = (i : Int) + 4 * (b : Int) by omega] at rz
      simp [t5, t6, t7, t8, t9, t13, w3, cj']
      refine (max10 tbK bd.wf (n := (i : Int)) px (by omega)).mono ?_
      rintro r H3 ⟨he3, ⟨_, u1, rfl, hu1, _⟩ | ⟨hr, rfl⟩⟩
      rotate_left
      · rw [rx] at hr; cases hr
      rw [Int.toNat_natCast] at hu1
      simp [t5, t6, t7, t8, t9, w5]
      refine (max10 tbK he3.wf (n := (i : Int) + (b : Int)) (py.ext he3) (by omega)).mono ?_
      rintro r H4 ⟨he4, ⟨_, u2, rfl, hu2, _⟩ | ⟨hr, rfl⟩⟩
      rotate_left
      · rw [ry] at hr; cases hr
      rw [show ((i : Int) + (b : Int)).toNat = i + b by omega] at hu2
      simp [t5, t6, t7, t8, t9, w7, w8]
      refine (max10 tbK he4.wf (n := (i : Int) + 4 * (b : Int)) ((pz.ext he3).ext he4) (by omega)).mono ?_
      rintro r H5 ⟨he5, ⟨_, u3, rfl, hu3, _⟩ | ⟨hr, rfl⟩⟩
      rotate_left
      · rw [rz] at hr; cases hr
      rw [show ((i : Int) + 4 * (b : Int)).toNat = i + 4 * b by omega] at hu3
      have hu1 := (hu1.ext he4).ext he5
      have hu2 := hu2.ext he5
      simp
      refine (size13 tbK.h13 hu1 (by rw [mateL_len]; omega)).mono ?_
      rintro r _ ⟨rfl, rfl⟩
      rw [sx]
      have q1 : IntKind.i64.wrap ((i : Int) / 2) = ((i / 2 : Nat) : Int) := by
        rw [show (i : Int) / 2 = ((i / 2 : Nat) : Int) by omega]; exact wrapS (by omega)
      generalize i / 2 = i2 at q1
      simp [t5, q1]
      refine (size13 tbK.h13 hu2 (by rw [mateL_len]; omega)).mono ?_
      rintro r _ ⟨rfl, rfl⟩
      rw [sy]
      have q2 : maxA false (.int .i64 (i : Int)) [.int .i64 (b : Int)] = some (.int .i64 ((min i b : Nat) : Int)) := by
        simp only [maxA, if_true]
        congr 2
        by_cases q : b < i
        · rw [Nat.min_eq_right (by omega)]; simp [q]
        · rw [Nat.min_eq_left (by omega)]; simp [q]
      generalize min i b = mi at q2
      simp [t5, t6, q2]
      refine (size13 tbK.h13 hu3 (by rw [mateL_len]; omega)).mono ?_
      rintro r _ ⟨rfl, rfl⟩
      rw [sz]
      simp [t6]
      apply hk9; simp
end Go.Proofs.Ytjhhicmlflelhaa.Gr
