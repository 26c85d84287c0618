/- The law MatchRings, over the interpreter. No claim by itself. -/
import Derived.Test.YtjhhicmlflelhaaX7
namespace Go.Proofs.Ytjhhicmlflelhaa.Gr
open Go Go.AI
def RingM (n f : Nat) (p : Int × Int) : Prop := ∃ i, i < n ∧ p = nn (f + i) (f + (if i + 1 = n then 0 else i + 1))
def TailM (n c t : Nat) (p : Int × Int) : Prop := ∃ j, j < t ∧ p = nn (if j = 0 then c else n + j - 1) (n + j)
def RowM (r : Nat) (p : Int × Int) : Prop := ∃ i, i < r ∧ (RingM 3 (3 * i) p ∨ (0 < i ∧ p = nn (3 * i - 1) (3 * i)))
theorem ring_mem {n f : Nat} {p : Int × Int} : p ∈ ringL n f ↔ RingM n f p := by
  unfold ringL RingM
  rw [List.mem_map]
  have key : ∀ i, i < n → (i + 1) % n = if i + 1 = n then 0 else i + 1 := by
    intro i hi
    by_cases h : i + 1 = n
    · rw [if_pos h, h, Nat.mod_self]
    · rw [if_neg h, Nat.mod_eq_of_lt (by omega)]
  constructor
  · rintro ⟨i, hi, rfl⟩
    have hi := List.mem_range.1 hi
    exact ⟨i, hi, by rw [← key i hi]; rfl⟩
  · rintro ⟨i, hi, rfl⟩
    exact ⟨i, List.mem_range.2 hi, by rw [← key i hi]; rfl⟩
theorem rings_a {n : Nat} (h3 : 3 ≤ n) (hn : n ≤ 20) : rightM (n : Int) (ringL n 0) = true ∧ Go.Proofs.Ytjhhicmlflelhaa.cnt (mateL n (maxOf n (natE (ringL n 0)))) / 2 = n / 2 := by
  have hr : rightM (n : Int) (ringL n 0) = true := right_nn (by omega) fun p hp => by
    obtain ⟨i, hi, e⟩ := ring_mem.1 hp
    refine ⟨_, _, e, by omega, ?_, ?_⟩ <;> split <;> omega
  refine ⟨hr, max_size hr ?_ fun m _ => ?_⟩
  · obtain ⟨m, h1, h2, _⟩ := pairs_mt (gph_nat hr) id (N := n) (fun i j _ _ e => e) (fun i hi => adj_of hr (.inl (ring_mem.2 ⟨2 * i, by omega, by
      rw [if_neg (by omega), Nat.zero_add, Nat.zero_add]; rfl⟩))) (n / 2) (by omega)
    exact ⟨m, h1, by omega⟩
  · have := cnt_le_n (n := n) (m := m); omega
theorem rings_b {n c t : Nat} {xs : List (Int × Int)} (h3 : 3 ≤ n) (hn : n ≤ 20) (hodd : n % 2 = 1) (hc : c < n) (ht : t < 6) (h : ∀ p, p ∈ xs ↔ RingM n 0 p ∨ TailM n c t p) :
    rightM ((n + t : Nat) : Int) xs = true ∧ Go.Proofs.Ytjhhicmlflelhaa.cnt (mateL (n + t) (maxOf (n + t) (natE xs))) / 2 = (n + t) / 2 := by
  have hr : rightM ((n + t : Nat) : Int) xs = true := right_nn (by omega) fun p hp => by
    rcases (h p).1 hp with ⟨i, hi, e⟩ | ⟨j, hj, e⟩
    · refine ⟨_, _, e, by omega, ?_, ?_⟩ <;> split <;> omega
    · refine ⟨_, _, e, ?_, by omega, ?_⟩ <;> split <;> omega
  have ring : ∀ x y, x < n → y = (if x + 1 = n then 0 else x + 1) → Adj (natE xs) x y := fun x y hx hy => adj_of hr (.inl ((h _).2 (.inl ⟨x, hx, by rw [hy, Nat.zero_add, Nat.zero_add]⟩)))
  have tail : ∀ x j, j < t → x = (if j = 0 then c else n + j - 1) → Adj (natE xs) x (n + j) := fun x j hj hx => adj_of hr (.inl ((h _).2 (.inr ⟨j, hj, by rw [hx]⟩)))
  refine ⟨hr, max_size hr ?_ fun m _ => ?_⟩
  · by_cases hte : t % 2 = 0
    · obtain ⟨m, h1, h2, _⟩ := pairs_mt (gph_nat hr) (fun j => if j < n - 1 then j else j + 1) (N := n + t - 1) (fun i j hi hj e => by
        have e : (if i < n - 1 then i else i + 1) = (if j < n - 1 then j else j + 1) := e
        split at e <;> split at e <;> omega) (fun i hi => by
        by_cases c1 : 2 * i + 1 < n - 1
        · rw [if_pos (by omega), if_pos c1]
          exact ring _ _ (by omega) (by rw [if_neg (by omega)])
        · rw [if_neg (by omega), if_neg c1, show 2 * i + 1 + 1 = n + (2 * i + 2 - n) by omega]
          exact tail _ _ (by omega) (by rw [if_neg (by omega)]; omega)) ((n + t) / 2) (by omega)
      exact ⟨m, h1, by omega⟩
    · obtain ⟨m, h1, h2, _⟩ := pairs_mt (gph_nat hr) (fun j => if j < n - 1 then (if c + 1 + j < n then c + 1 + j else c + 1 + j - n) else if j = n - 1 then c else j) (N := n + t) (fun i j hi hj e => by
        have e : (if i < n - 1 then (if c + 1 + i < n then c + 1 + i else c + 1 + i - n) else if i = n - 1 then c else i) = (if j < n - 1 then (if c + 1 + j < n then c + 1 + j else c + 1 + j - n) else if j = n - 1 then c else j) := e
        (repeat' split at e) <;> omega) (fun i hi => by
        by_cases c1 : 2 * i + 1 < n - 1
        · have c0 : 2 * i < n - 1 := by omega
          simp only [if_pos c0, if_pos c1]
          refine ring _ _ ?_ ?_
          · split <;> omega
          · split <;> split <;> split <;> omega
        · have c0 : ¬ 2 * i < n - 1 := by omega
          simp only [if_neg c0, if_neg c1]
          rw [if_neg (show ¬ 2 * i + 1 = n - 1 by omega), show 2 * i + 1 = n + (2 * i + 1 - n) by omega]
          exact tail _ _ (by omega) (by split <;> split <;> omega)) ((n + t) / 2) (by omega)
      exact ⟨m, h1, by omega⟩
  · have := cnt_le_n (n := n + t) (m := m); omega
theorem rings_c {r : Nat} {xs : List (Int × Int)} (hr0 : r ≤ 8) (h : ∀ p, p ∈ xs ↔ RowM r p) :
    rightM ((3 * r : Nat) : Int) xs = true ∧ Go.Proofs.Ytjhhicmlflelhaa.cnt (mateL (3 * r) (maxOf (3 * r) (natE xs))) / 2 = 3 * r / 2 := by
  have hr : rightM ((3 * r : Nat) : Int) xs = true := right_nn (by omega) fun p hp => by
    obtain ⟨i, hi, ⟨j, hj, e⟩ | ⟨h0, e⟩⟩ := (h p).1 hp
    · refine ⟨_, _, e, by omega, ?_, ?_⟩ <;> split <;> omega
    · exact ⟨_, _, e, by omega, by omega, by omega⟩
  have ring : ∀ x y i j, i < r → j < 3 → x = 3 * i + j → y = 3 * i + (if j + 1 = 3 then 0 else j + 1) → Adj (natE xs) x y := fun x y i j hi hj hx hy => adj_of hr (.inl ((h _).2 ⟨i, hi, .inl ⟨j, hj, by rw [hx, hy]⟩⟩))
  have join : ∀ i, i < r → 0 < i → Adj (natE xs) (3 * i - 1) (3 * i) := fun i hi h0 => adj_of hr (.inl ((h _).2 ⟨i, hi, .inr ⟨h0, rfl⟩⟩))
  refine ⟨hr, max_size hr ?_ fun m _ => ?_⟩
  · obtain ⟨m, h1, h2, _⟩ := pairs_mt (gph_nat hr) id (N := 3 * r) (fun i j _ _ e => e) (fun i hi => by
      simp only [id]
      by_cases c0 : 2 * i % 3 = 2
      · have := join (2 * i / 3 + 1) (by omega) (by omega)
        rwa [show 3 * (2 * i / 3 + 1) - 1 = 2 * i by omega, show 3 * (2 * i / 3 + 1) = 2 * i + 1 by omega] at this
      · exact ring _ _ (2 * i / 3) (2 * i % 3) (by omega) (by omega) (by omega) (by rw [if_neg (by omega)]; omega)) (3 * r / 2) (by omega)
    exact ⟨m, h1, by omega⟩
  · have := cnt_le_n (n := 3 * r) (m := m); omega
def TlI (X : Option Nat) (H H' : Heap) (n c t : Nat) (v : AV) : Prop := ∃ xs, Bx X 2 pairc H H' v xs ∧ (∀ p, p ∈ xs ↔ RingM n 0 p ∨ TailM n c t p) ∧ xs.length ≤ 20 + t
theorem TlI.step {X : Option Nat} {H H' : Heap} {n c t : Nat} {v : AV} (h : TlI X H H' n c t v) (ht : t ≤ 6) :
    ∃ v' H2, appendA 2 16 (H'.push (.cells [.int .i64 ((if t = 0 then c else n + t - 1 : Nat) : Int), .int .i64 ((n + t : Nat) : Int)])) v (.slc H'.next 0 1 2 1 true) = some (v', H2) ∧ TlI X H H2 n c (t + 1) v' := by
  obtain ⟨xs, bd, h1, h2⟩ := h
  obtain ⟨v', H2, ap, bd', _⟩ := bd.app1 (bytes := 16) pairc_len (by omega) pairc_one (nn (if t = 0 then c else n + t - 1) (n + t)) (by omega)
  refine ⟨v', H2, ap, xs ++ [nn (if t = 0 then c else n + t - 1) (n + t)], bd', fun p => ?_, by rw [List.length_append]; simp; omega⟩
  rw [List.mem_append, h1, List.mem_singleton]
  constructor
  · rintro ((q | ⟨j, hj, e⟩) | rfl)
    · exact .inl q
    · exact .inr ⟨j, by omega, e⟩
    · exact .inr ⟨t, by omega, rfl⟩
  · rintro (q | ⟨j, hj, e⟩)
    · exact .inl (.inl q)
    · by_cases hjt : j = t
      · subst hjt; exact .inr e
      · exact .inl (.inr ⟨j, by omega, e⟩)
def RwI (H H' : Heap) (i : Nat) (z : AV) : Prop := ∃ zs, Bd 2 pairc H H' z zs ∧ (∀ p, p ∈ zs ↔ RowM i p) ∧ zs.length ≤ 4 * i
theorem RwI.step {H H1 H' : Heap} {i : Nat} {z w : AV} (h : RwI H H1 i z) (hi : i ≤ 8) (hw : Bd 2 pairc H1 H' w (ringL 3 (3 * i))) :
    ∃ z' H2, appendA 2 16 H' z w = some (z', H2) ∧ (i = 0 → RwI H H2 (i + 1) z') ∧ (0 < i → ∃ z'' H3, appendA 2 16 (H2.push (.cells [.int .i64 ((3 * i - 1 : Nat) : Int), .int .i64 ((3 * i : Nat) : Int)])) z' (.slc H2.next 0 1 2 1 true) = some (z'', H3) ∧ RwI H H3 (i + 1) z'') := by
  obtain ⟨zs, bd, h1, h2⟩ := h
  have bd1 := bd.after (hw.ext bd.wf)
  have hlen : (ringL 3 (3 * i)).length = 3 := by simp [ringL]
  obtain ⟨z', H2, ap, bd2, _⟩ := bd1.appS (bytes := 16) pairc_len (by omega) pairc_one (hw.ow.sw pairc_len) (by rw [hlen]; omega)
  have nx : ∀ p, RowM (i + 1) p ↔ RowM i p ∨ RingM 3 (3 * i) p ∨ (0 < i ∧ p = nn (3 * i - 1) (3 * i)) := by
    intro p
    constructor
    · rintro ⟨j, hj, q⟩
      by_cases hji : j = i
      · subst hji; exact .inr q
      · exact .inl ⟨j, by omega, q⟩
    · rintro (⟨j, hj, q⟩ | q)
      · exact ⟨j, by omega, q⟩
      · exact ⟨i, by omega, q⟩
  refine ⟨z', H2, ap, fun h0 => ⟨_, bd2, fun p => ?_, by rw [List.length_append, hlen]; omega⟩, fun h0 => ?_⟩
  · rw [List.mem_append, h1, ring_mem, nx]
    constructor
    · rintro (q | q)
      · exact .inl q
      · exact .inr (.inl q)
    · rintro (q | q | q)
      · exact .inl q
      · exact .inr q
      · omega
  · obtain ⟨z'', H3, ap2, bd3, _⟩ := bd2.app1 (bytes := 16) pairc_len (by omega) pairc_one (nn (3 * i - 1) (3 * i)) (by rw [List.length_append, hlen]; omega)
    refine ⟨z'', H3, ap2, _, bd3, fun p => ?_, by rw [List.length_append, List.length_append, hlen]; simp; omega⟩
    rw [List.mem_append, List.mem_append, h1, ring_mem, nx, List.mem_singleton]
    constructor
    · rintro ((q | q) | q)
      · exact .inl q
      · exact .inr (.inl q)
      · exact .inr (.inr ⟨h0, q⟩)
    · rintro (q | q | q)
      · exact .inl (.inl q)
      · exact .inl (.inr q)
      · exact .inr q.2
set_option maxRecDepth 20000 in
theorem rings6 {k tail rows : Int} {H : Heap} (hw : H.Wf) : Cp FK 6 [.int .i64 k, .int .i64 tail, .int .i64 rows] H (fun r _ => r = .bool true) := by
  refine Cp_code A6 rfl rfl ?_
  obtain ⟨q, hq, eq⟩ := mod_u64 k 8 (by omega)
  have eq : Int.tmod (IntKind.wrap .u64 k) 8 = (q : Int) := eq
  obtain ⟨n, hn⟩ : ∃ n : Nat, n = 3 + 2 * q := ⟨_, rfl⟩
  obtain ⟨c, hc, ec⟩ := mod_u64 k n (by omega)
  obtain ⟨t, ht, et⟩ := mod_u64 tail 6 (by omega)
  have et : Int.tmod (IntKind.wrap .u64 tail) 6 = (t : Int) := et
  obtain ⟨r', hr', er⟩ := mod_u64 rows 8 (by omega)
  have er : Int.tmod (IntKind.wrap .u64 rows) 8 = (r' : Int) := er
  obtain ⟨r, hr⟩ : ∃ r : Nat, r = 1 + r' := ⟨_, rfl⟩
  have w1 : IntKind.i64.wrap (2 * (q : Int)) = 2 * (q : Int) := wrap64 (by omega) (by omega)
  have w2 : IntKind.i64.wrap (3 + 2 * (q : Int)) = (n : Int) := by rw [show 3 + 2 * (q : Int) = (n : Int) by omega]; exact wrapS (by omega)
  have w3 : IntKind.u64.wrap (n : Int) = (n : Int) := wrapU64 (by omega) (by omega)
  have w4 : IntKind.i64.wrap (1 + (r' : Int)) = (r : Int) := by rw [show 1 + (r' : Int) = (r : Int) by omega]; exact wrapS (by omega)
  have n0 : ¬ n = 0 := by omega
  have wq := wrapS (n := q) (by omega)
  have wc := wrapS (n := c) (by omega)
  have wt := wrapS (n := t) (by omega)
  have wr' := wrapS (n := r') (by omega)
  have w5 : IntKind.i64.wrap ((n : Int) + (t : Int)) = (n : Int) + (t : Int) := wrap64 (by omega) (by omega)
  have w6 : IntKind.i64.wrap (3 * (r : Int)) = 3 * (r : Int) := wrap64 (by omega) (by omega)
  obtain ⟨ra, sa⟩ := rings_a (n := n) (by omega) (by omega)
  simp [A6, eq, wq, w1, w2]
  refine (ring18 tbK.h18 hw (n := n) (f := 0) (by omega) (by omega)).mono ?_
  rintro v H1 bd1
  have hlr : (ringL n 0).length = n := by simp [ringL]
  simp
  refine (max10 tbK bd1.wf (n := (n : Int)) (bd1.sl pairc_len) (by rw [hlr]; omega)).mono ?_
  rintro r1 H2 ⟨he2, ⟨_, u1, rfl, hu1, fu1⟩ | ⟨hr, rfl⟩⟩
  rotate_left
  · rw [ra] at hr; cases hr
  rw [Int.toNat_natCast] at hu1
  have ow2 := (bd1.after he2).ow
  have dv : ∀ o, rowObj u1 = some o → rowObj v ≠ some o := fun o a b => by
    have h1 := fu1 o a
    have h2 := (bd1.fresh o b).2
    omega
  simp [et, wt, w3, ec, n0, wc]
  refine Wp_loop (fun f τ H' => ∃ (i : Nat) (w : AV), i ≤ t ∧ f = t - i ∧ TlI (rowObj v) H2 H' n c i w ∧ Env.at τ 2 = .int .i64 rows ∧ Env.at τ 7 = .int .i64 (n : Int) ∧ Env.at τ 8 = w ∧ Env.at τ 9 = u1 ∧ Env.at τ 10 = .int .i64 0 ∧ Env.at τ 11 = .int .i64 (t : Int) ∧ Env.at τ 12 = .int .i64 ((if i = 0 then c else n + i - 1 : Nat) : Int) ∧ Env.at τ 13 = .int .i64 (i : Int)) ?_ t _ _ ⟨0, v, by omega, rfl, ⟨_, Bx.start he2.wf ow2, fun p => by rw [ring_mem]; constructor; exact .inl; rintro (q | ⟨j, hj, _⟩); exact q; omega, by rw [hlr]; omega⟩, by simp, by simp, by simp, by simp, by simp, by simp, by simp, by simp⟩
  rintro f τ H3 ⟨i, w, hi, rfl, tl, t2, t7, t8, t9, t10, t11, t12, t13⟩
  simp only [Wp_seq, Wp_region, Wp_block]
  by_cases hci : i < t
  · have x1 : IntKind.i64.wrap ((i : Int) + 1) = (i : Int) + 1 := wrap64 (by omega) (by omega)
    have x2 : IntKind.i64.wrap ((n : Int) + (i : Int)) = (n : Int) + (i : Int) := wrap64 (by omega) (by omega)
    obtain ⟨w', H4, ap, tl'⟩ := tl.step (by omega)
    rw [Int.natCast_add] at ap
    have hcc : (if i + 1 = 0 then c else n + (i + 1) - 1) = n + i := by rw [if_neg (by omega)]; omega
    generalize (if i = 0 then c else n + i - 1 : Nat) = cc at ap t12
    simp [t2, t7, t8, t9, t10, t11, t12, t13, hci, x2, ap, x1]
    exact ⟨_, by omega, i + 1, by omega, rfl, w', tl', rfl, by rw [hcc]; simp, by simp⟩
  · have : i = t := by omega
    subst this
    obtain ⟨xs, bx, hx, lx⟩ := tl
    obtain ⟨rb, sb⟩ := rings_b (n := n) (c := c) (t := i) (by omega) (by omega) (by omega) hc ht hx
    rw [Int.natCast_add] at rb
    have hu1' := bx.keep he2.wf hu1 dv
    simp [t2, t7, t8, t9, t10, t11, t12, t13, w5]
    refine (max10 tbK bx.wf (n := (n : Int) + (i : Int)) (bx.sl pairc_len) (by omega)).mono ?_
    rintro r1 H4 ⟨he4, ⟨_, u2, rfl, hu2, _⟩ | ⟨hr, rfl⟩⟩
    rotate_left
    · rw [rb] at hr; cases hr
    rw [show ((n : Int) + (i : Int)).toNat = n + i by omega] at hu2
    have px4 := (bx.sl pairc_len).ext he4
    simp [t2, er, wr', w4]
    refine Wp_loop (fun f τ H' => ∃ (j : Nat) (z : AV), j ≤ r ∧ f = r - j ∧ RwI H4 H' j z ∧ Env.at τ 7 = .int .i64 (n : Int) ∧ Env.at τ 8 = w ∧ Env.at τ 9 = u1 ∧ Env.at τ 10 = .int .i64 0 ∧ Env.at τ 11 = .int .i64 (i : Int) ∧ Env.at τ 14 = u2 ∧ Env.at τ 15 = .int .i64 0 ∧ Env.at τ 16 = .int .i64 (r : Int) ∧ Env.at τ 17 = z ∧ Env.at τ 18 = .int .i64 (j : Int)) ?_ r _ _ ⟨0, .nils, by omega, rfl, ⟨[], Bd.init he4.wf, fun p => by simp [RowM], by simp⟩, by simp [t7], by simp [t8], by simp [t9], by simp [t10], by simp [t11], by simp, by simp, by simp, by simp, by simp⟩
    rintro f τ H5 ⟨j, z, hj, rfl, rw5, t7, t8, t9, t10, t11, t14, t15, t16, t17, t18⟩
    simp only [Wp_seq, Wp_region, Wp_block]
    by_cases hcj : j < r
    · have x1 : IntKind.i64.wrap ((j : Int) + 1) = (j : Int) + 1 := wrap64 (by omega) (by omega)
      have x2 : IntKind.i64.wrap (3 * (j : Int)) = ((3 * j : Nat) : Int) := by rw [show 3 * (j : Int) = ((3 * j : Nat) : Int) by omega]; exact wrapS (by omega)
      obtain ⟨zs, bdz, hz, lz⟩ := rw5
      obtain ⟨j3, hj3⟩ : ∃ j3 : Nat, j3 = 3 * j := ⟨_, rfl⟩
      rw [← hj3] at x2
      simp [t7, t8, t9, t10, t11, t14, t15, t16, t17, t18, hcj, x2]
      refine (ring18 tbK.h18 bdz.wf (n := 3) (f := j3) (by omega) (by omega)).mono ?_
      rintro w3 H6 bd6
      rw [hj3] at bd6
      obtain ⟨z', H7, ap, s0, s1⟩ := RwI.step ⟨zs, bdz, hz, lz⟩ (by omega) bd6
      by_cases hj0 : 0 < j
      · obtain ⟨z'', H8, ap2, rw8⟩ := s1 hj0
        have c0 : ((j : Int) > 0) := by omega
        have x3 : IntKind.i64.wrap ((j3 : Int) - 1) = ((3 * j - 1 : Nat) : Int) := by rw [show (j3 : Int) - 1 = ((3 * j - 1 : Nat) : Int) by omega]; exact wrapS (by omega)
        rw [← hj3] at ap2
        rw [← hj3] at x3
        generalize j3 - 1 = j4 at ap2 x3
        simp [t7, t8, t9, t10, t11, t14, t15, t16, t17, t18, ap, c0, hj0, x2, x3, ap2, x1]
        exact ⟨_, by omega, j + 1, by omega, rfl, z'', rw8, rfl, by simp⟩
      · have c0 : ¬ ((j : Int) > 0) := by omega
        simp [t7, t8, t9, t10, t11, t14, t15, t16, t17, t18, ap, hj0, x1]
        exact ⟨_, by omega, j + 1, by omega, rfl, z', s0 (by omega), rfl, by simp⟩
    · have : j = r := by omega
      subst this
      obtain ⟨zs, bdz, hz, lz⟩ := rw5
      obtain ⟨rc, sc⟩ := rings_c (r := j) (by omega) hz
      rw [show ((3 * j : Nat) : Int) = 3 * (j : Int) by omega] at rc
      simp [t7, t8, t9, t10, t11, t14, t15, t16, t17, t18, w6]
      refine (max10 tbK bdz.wf (n := 3 * (j : Int)) (bdz.sl pairc_len) (by omega)).mono ?_
      rintro r1 H6 ⟨he6, ⟨_, u3, rfl, hu3, _⟩ | ⟨hr, rfl⟩⟩
      rotate_left
      · rw [rc] at hr; cases hr
      rw [show (3 * (j : Int)).toNat = 3 * j by omega] at hu3
      have e46 := (bdz.ext he4.wf).trans he6
      have g1 := (hu1'.ext he4).ext e46
      have g2 := hu2.ext e46
      have px := px4.ext e46
      have pz := (bdz.sl pairc_len).ext he6
      simp [t7, t8, t9, t10, t11, t14, t15, t16, t17]
      refine (size13 tbK.h13 g1 (by rw [mateL_len]; omega)).mono ?_
      rintro r1 _ ⟨rfl, rfl⟩
      rw [sa]
      have q1 : IntKind.i64.wrap ((n : Int) / 2) = ((n / 2 : Nat) : Int) := by
        rw [show (n : Int) / 2 = ((n / 2 : Nat) : Int) by omega]; exact wrapS (by omega)
      generalize n / 2 = n2 at q1
      simp [t7, t8, t9, t10, t11, t14, t15, t16, t17, q1]
      refine (size13 tbK.h13 g2 (by rw [mateL_len]; omega)).mono ?_
      rintro r1 _ ⟨rfl, rfl⟩
      rw [sb]
      have q2 : IntKind.i64.wrap (((n : Int) + (i : Int)).tdiv 2) = (((n + i) / 2 : Nat) : Int) := by
        rw [show ((n : Int) + (i : Int)).tdiv 2 = (((n + i) / 2 : Nat) : Int) by rw [← Int.natCast_add]; rfl]; exact wrapS (by omega)
      generalize (n + i) / 2 = n3 at q2
      simp [t7, t8, t9, t10, t11, t14, t15, t16, t17, w5, q2]
      refine (size13 tbK.h13 hu3 (by rw [mateL_len]; omega)).mono ?_
      rintro r1 _ ⟨rfl, rfl⟩
      rw [sc]
      have q3 : IntKind.i64.wrap ((3 * (j : Int)).tdiv 2) = ((3 * j / 2 : Nat) : Int) := by
        rw [show (3 * (j : Int)).tdiv 2 = ((3 * j / 2 : Nat) : Int) by rw [show 3 * (j : Int) = ((3 * j : Nat) : Int) by omega]; rfl]; exact wrapS (by omega)
      generalize 3 * j / 2 = n4 at q3
      simp [t7, t8, t9, t10, t11, t14, t15, t16, t17, w6, q3]
      have ic := isM_of rc (maxOf_ok rc).2.1
      rw [show (3 * (j : Int)).toNat = 3 * j by omega] at ic
      have ib := isM_of rb (maxOf_ok rb).2.1
      rw [show ((n : Int) + (i : Int)).toNat = n + i by omega] at ib
      refine (is12 (n := 3 * (j : Int)) tbK.h12 tbK.h11 tbK.h26 pz hu3 (by omega) (by rw [mateL_len]; omega)).mono ?_
      rintro r1 _ ⟨rfl, rfl⟩
      simp [t7, t8, t9, t10, t11, t14, t15, t16, t17, ic, w5]
      refine (is12 (n := (n : Int) + (i : Int)) tbK.h12 tbK.h11 tbK.h26 px g2 (by omega) (by rw [mateL_len]; omega)).mono ?_
      rintro r1 _ ⟨rfl, rfl⟩
      simp [ib]
      apply hk9; simp
end Go.Proofs.Ytjhhicmlflelhaa.Gr
