/- The law MatchSame, over the interpreter. No claim by itself. -/
import Derived.Test.YtjhhicmlflelhaaX7
namespace Go.Proofs.Ytjhhicmlflelhaa.Gr
open Go Go.AI
/-- Another numbering. -/
def sg (n k x : Nat) : Nat := n - 1 - (if x + k < n then x + k else x + k - n)
def gs (n k y : Nat) : Nat := if k ≤ n - 1 - y then n - 1 - y - k else n - 1 - y + n - k
theorem sg_gs {n k x : Nat} (hk : k < n) (hx : x < n) : sg n k x < n ∧ gs n k (sg n k x) = x := by
  unfold sg gs
  split <;> (constructor; omega; split <;> omega)
theorem gs_sg {n k x : Nat} (hk : k < n) (hx : x < n) : gs n k x < n ∧ sg n k (gs n k x) = x := by
  unfold sg gs
  split <;> (constructor; omega; split <;> omega)
theorem sg_mod {n k x : Nat} (hk : k < n) (hx : x < n) : sg n k x = n - 1 - (x + k) % n := by
  unfold sg
  split
  · rw [Nat.mod_eq_of_lt (by assumption)]
  · rw [Nat.mod_eq_sub_mod (by omega), Nat.mod_eq_of_lt (by omega)]
theorem same_q {n k : Nat} {l xs : List (Int × Int)} (hr : rightM (n : Int) l = true) (hk : k < n) (h : ∀ p, p ∈ xs ↔ ∃ a b, nn a b ∈ l ∧ p = nn (sg n k b) (sg n k a)) :
    rightM (n : Int) xs = true ∧ Gr.cnt n (maxOf n (natE xs)) = Gr.cnt n (maxOf n (natE l)) := by
  have hrm := right_mem hr
  have lt : ∀ {a b}, nn a b ∈ l → a < n ∧ b < n ∧ a ≠ b := fun {a b} q => by have := hrm.2.2 _ _ q; omega
  have hr' : rightM (n : Int) xs = true := right_nn (by omega) fun p hp => by
    obtain ⟨a, b, q, e⟩ := (h p).1 hp
    obtain ⟨h1, h2, h3⟩ := lt q
    have s1 := sg_gs hk h1
    have s2 := sg_gs hk h2
    refine ⟨_, _, e, s2.1, s1.1, fun e => h3 ?_⟩
    rw [← s1.2, ← s2.2, e]
  refine ⟨hr', ?_⟩
  obtain ⟨_, k2, k3⟩ := maxOf_ok hr
  obtain ⟨_, j2, j3⟩ := maxOf_ok hr'
  rw [Int.toNat_natCast] at k2 k3 j2 j3
  obtain ⟨m1, a1, a2⟩ := transport (n' := n) (E' := Adj (natE xs)) (f := sg n k) (h := gs n k) k2 (gph_nat hr) (fun i hi => sg_gs hk hi) (fun i hi => gs_sg hk hi) (fun a b q => by
    rcases of_adj hr q with q | q
    · exact adj_of hr' (.inr ((h _).2 ⟨a, b, q, rfl⟩))
    · exact adj_of hr' (.inl ((h _).2 ⟨b, a, q, rfl⟩)))
  obtain ⟨m2, b1, b2⟩ := transport (n' := n) (E' := Adj (natE l)) (f := gs n k) (h := sg n k) j2 (gph_nat hr') (fun i hi => gs_sg hk hi) (fun i hi => sg_gs hk hi) (fun a b q => by
    rcases of_adj hr' q with q | q
    · obtain ⟨x, y, q, e⟩ := (h _).1 q
      have e := nn_inj e
      have := lt q
      rw [e.1, e.2, (sg_gs hk this.1).2, (sg_gs hk this.2.1).2]
      exact adj_of hr (.inr q)
    · obtain ⟨x, y, q, e⟩ := (h _).1 q
      have e := nn_inj e
      have := lt q
      rw [e.1, e.2, (sg_gs hk this.1).2, (sg_gs hk this.2.1).2]
      exact adj_of hr (.inl q))
  have := j3 m1 a1
  have := k3 m2 b1
  omega
theorem same_r {n x y : Nat} {l os : List (Int × Int)} (hr : rightM (n : Int) l = true) (hx : x < n) (hy : y < n) (h : ∀ p, p ∈ os ↔ p ∈ l ∨ (x ≠ y ∧ p = nn x y)) :
    rightM (n : Int) os = true ∧ Gr.cnt n (maxOf n (natE l)) ≤ Gr.cnt n (maxOf n (natE os)) ∧ Gr.cnt n (maxOf n (natE os)) ≤ Gr.cnt n (maxOf n (natE l)) + 2 := by
  have hrm := right_mem hr
  have hr' : rightM (n : Int) os = true := right_of (by omega) (by omega) fun a b q => by
    rcases (h _).1 q with q | ⟨q1, q2⟩
    · exact hrm.2.2 a b q
    · simp only [nn, Prod.mk.injEq] at q2; omega
  obtain ⟨_, k2, k3⟩ := maxOf_ok hr
  obtain ⟨_, j2, j3⟩ := maxOf_ok hr'
  rw [Int.toNat_natCast] at k2 k3 j2 j3
  have back : ∀ i j, Adj (natE os) i j → Adj (natE l) i j ∨ (x ≠ y ∧ ((i = x ∧ j = y) ∨ (i = y ∧ j = x))) := by
    intro i j q
    rcases of_adj hr' q with q | q
    · rcases (h _).1 q with q | ⟨q1, q2⟩
      · exact .inl (adj_of hr (.inl q))
      · have := nn_inj q2; exact .inr ⟨q1, .inl this⟩
    · rcases (h _).1 q with q | ⟨q1, q2⟩
      · exact .inl (adj_of hr (.inr q))
      · have := nn_inj q2; exact .inr ⟨q1, .inr ⟨this.2, this.1⟩⟩
  refine ⟨hr', j3 _ ⟨fun e => k2.sym e, fun {i j} e => ?_⟩, ?_⟩
  · rcases of_adj hr (k2.edge e) with q | q
    · exact adj_of hr' (.inl ((h _).2 (.inl q)))
    · exact adj_of hr' (.inr ((h _).2 (.inl q)))
  · generalize maxOf n (natE os) = m at j2 j3
    by_cases hm : m x = some y
    · obtain ⟨m', a1, a2⟩ := less_pair (E' := Adj (natE l)) (gph_nat hr') j2 hm (fun i j q h1 h2 => by
        rcases back i j q with q | ⟨_, ⟨q, _⟩ | ⟨q, _⟩⟩
        · exact q
        · exact (h1 q).elim
        · exact (h2 q).elim)
      have := k3 m' a1; omega
    · have := k3 m ⟨fun e => j2.sym e, fun {i j} e => by
        rcases back i j (j2.edge e) with q | ⟨_, ⟨rfl, rfl⟩ | ⟨rfl, rfl⟩⟩
        · exact q
        · exact (hm e).elim
        · exact (hm (j2.sym e)).elim⟩
      omega
theorem Sw.ext {α : Type} {e : Nat} {enc : α → List AV} {H H' : Heap} {v : AV} {xs : List α} (h : Sw e enc H v xs) (k : Ext H H') : Sw e enc H' v xs := by
  rcases h with h | ⟨o, off, lo, ex, rfl, hr⟩
  · exact .inl h
  · refine .inr ⟨o, off, lo, ex, rfl, ?_⟩
    unfold Heap.readSeg at hr ⊢
    cases hc : H.cellsAt o with
    | none => rw [hc] at hr; cases hr
    | some cs => rw [hc] at hr; rw [k.cells hc]; exact hr
def SmM (n K : Nat) (L : List (Nat × Nat)) (j : Nat) (p : Int × Int) : Prop := ∃ i a b, j ≤ i ∧ L[i]? = some (a, b) ∧ p = nn (sg n K b) (sg n K a)
def SmI (H H' : Heap) (n K : Nat) (L : List (Nat × Nat)) (j : Nat) (v : AV) : Prop := ∃ xs, Bd 2 pairc H H' v xs ∧ (∀ p, p ∈ xs ↔ SmM n K L j p) ∧ xs.length ≤ 2 * (L.length - j)
theorem SmI.step {H H' : Heap} {n K j a b : Nat} {L : List (Nat × Nat)} {v : AV} (h : SmI H H' n K L (j + 1) v) (hg : L[j]? = some (a, b)) (hL : L.length ≤ 1000) :
    ∃ v' H2 ln o off, appendA 2 16 (H'.push (.cells [.int .i64 (sg n K b : Int), .int .i64 (sg n K a : Int)])) v (.slc H'.next 0 1 2 1 true) = some (v', H2) ∧ SmI H H2 n K L j v' ∧ ln ≤ 10000 ∧ lenA v' = some (.int .i64 ((ln + 1 : Nat) : Int)) ∧ indexAddrV 2 v' (.int .i64 (ln : Int)) = some (.ptr o off) ∧ loadA H2 (some 2) (.ptr o off) = some (.agg [.int .i64 (sg n K b : Int), .int .i64 (sg n K a : Int)]) ∧
      ∃ v'' H3, appendA 2 16 (H2.push (.cells [.int .i64 (sg n K b : Int), .int .i64 (sg n K a : Int)])) v' (.slc H2.next 0 1 2 1 true) = some (v'', H3) ∧ SmI H H3 n K L j v'' := by
  obtain ⟨xs, bd, h1, h2⟩ := h
  have hj := (List.getElem?_eq_some_iff.1 hg).1
  obtain ⟨v', H2, ap, bd2, _⟩ := bd.app1 (bytes := 16) pairc_len (by omega) pairc_one (nn (sg n K b) (sg n K a)) (by omega)
  obtain ⟨v'', H3, ap2, bd3, _⟩ := bd2.app1 (bytes := 16) pairc_len (by omega) pairc_one (nn (sg n K b) (sg n K a)) (by rw [List.length_append]; simp; omega)
  have nx : ∀ p, SmM n K L j p ↔ SmM n K L (j + 1) p ∨ p = nn (sg n K b) (sg n K a) := by
    intro p
    constructor
    · rintro ⟨i, x, y, q1, q2, q3⟩
      by_cases hij : i = j
      · subst hij; rw [hg] at q2; cases q2; exact .inr q3
      · exact .inl ⟨i, x, y, by omega, q2, q3⟩
    · rintro (⟨i, x, y, q1, q2, q3⟩ | q)
      · exact ⟨i, x, y, by omega, q2, q3⟩
      · exact ⟨j, a, b, Nat.le_refl _, hg, q⟩
  have hlen : (xs ++ [nn (sg n K b) (sg n K a)]).length = xs.length + 1 := by rw [List.length_append]; rfl
  have hP := bd2.sl pairc_len
  obtain ⟨po, poff, x, hx, hp, hld, _⟩ := Pairs.idx hP (k := .i64) (i := (xs.length : Int)) (by omega) (by rw [hlen]; omega)
  rw [Int.toNat_natCast, List.getElem?_append, if_neg (by omega), Nat.sub_self] at hx
  cases hx
  have hl := hP.len
  rw [hlen] at hl
  refine ⟨v', H2, xs.length, po, poff, ap, ⟨_, bd2, fun p => ?_, by rw [hlen]; omega⟩, by omega, hl, hp, hld, v'', H3, ap2, ⟨_, bd3, fun p => ?_, by rw [List.length_append, hlen]; simp; omega⟩⟩
  · rw [List.mem_append, h1, List.mem_singleton, nx]
  · rw [List.mem_append, List.mem_append, h1, List.mem_singleton, nx]
    constructor
    · rintro (q | q)
      · exact q
      · exact .inr q
    · exact .inl
set_option maxRecDepth 20000 in
theorem same5 {n by_ a b : Int} {v : AV} {l : List (Int × Int)} {H : Heap} (hw : H.Wf) (h : Pairs H v l) (hs : Sw 2 pairc H v l) (hl : l.length ≤ 9223372036854775806) :
    Cp FK 5 [.int .i64 n, v, .int .i64 by_, .int .i64 a, .int .i64 b] H (fun r _ => r = .bool true) := by
  refine Cp_code A5 rfl rfl ?_
  by_cases c1 : 60 < n
  · simp [A5, c1]
    apply hk9; simp
  by_cases c2 : n < 2
  · simp [A5, c1, c2]
    apply hk9; simp
  by_cases c3 : 200 < (l.length : Int)
  · simp [A5, c1, c2, h.len, c3]
    apply hk9; simp
  simp [A5, c1, c2, h.len, c3]
  refine (right11 tbK.h11 h hl).mono ?_
  rintro r _ ⟨rfl, rfl⟩
  cases hr : rightM n l with
  | false =>
    simp
    apply hk9; simp
  | true =>
    have hrm := right_mem hr
    obtain ⟨N, rfl⟩ : ∃ N : Nat, n = (N : Int) := ⟨n.toNat, by omega⟩
    have w3 : IntKind.u64.wrap (N : Int) = (N : Int) := wrapU64 (by omega) (by omega)
    obtain ⟨K, hK, eK⟩ := mod_u64 by_ N (by omega)
    obtain ⟨x, hx, ex⟩ := mod_u64 a N (by omega)
    obtain ⟨y, hy, ey⟩ := mod_u64 b N (by omega)
    have wK := wrapS (n := K) (by omega)
    have wx := wrapS (n := x) (by omega)
    have wy := wrapS (n := y) (by omega)
    have n0 : ¬ N = 0 := by omega
    have hLn : (natE l).length = l.length := by unfold natE; rw [List.length_map]
    have wl : IntKind.i64.wrap ((l.length : Int) - 1) = (l.length : Int) - 1 := wrap64 (by omega) (by omega)
    simp [w3, eK, n0, wK, h.len, wl]
    refine Wp_loop (fun f τ H' => ∃ (j : Nat) (u : AV), j ≤ l.length ∧ f = j ∧ SmI _ H' N K (natE l) j u ∧ Env.at τ 0 = .int .i64 (N : Int) ∧ Env.at τ 1 = v ∧ Env.at τ 3 = .int .i64 a ∧ Env.at τ 4 = .int .i64 b ∧ Env.at τ 11 = .int .i64 (K : Int) ∧ Env.at τ 12 = u ∧ Env.at τ 13 = .int .i64 ((j : Int) - 1)) ?_ l.length _ _ ⟨l.length, .nils, Nat.le_refl _, rfl, ⟨[], Bd.init hw, fun p => ?_, by simp⟩, by simp, by simp, by simp, by simp, by simp, by simp, by simp⟩
    rotate_left
    · constructor
      · intro q; cases q
      · rintro ⟨i, a, b, q1, q2, _⟩
        have := (List.getElem?_eq_some_iff.1 q2).1; omega
    rintro j τ H1 ⟨_, u, hj, rfl, sm, t0, t1, t3, t4, t11, t12, t13⟩
    simp only [Wp_seq, Wp_region, Wp_block]
    cases j with
    | succ j =>
      have t13 : Env.at τ 13 = .int .i64 (j : Int) := by rw [t13]; congr 1; omega
      have hg : (natE l)[j]? = some (natE l)[j] := List.getElem?_eq_getElem (by omega)
      generalize (natE l)[j] = ab at hg
      obtain ⟨A, B⟩ := ab
      have hlt := natE_lt hr A B (List.mem_of_getElem? hg)
      rw [Int.toNat_natCast] at hlt
      have hgl : l[j]? = some (up2 (A, B)) := by
        conv => lhs; rw [← natE_up hr]
        rw [List.getElem?_map, hg]; rfl
      obtain ⟨xs, bd, _, _⟩ := sm
      have sm : SmI _ H1 N K (natE l) (j + 1) u := ⟨xs, bd, by assumption, by assumption⟩
      have hP := h.ext (bd.ext hw)
      obtain ⟨po, poff, z, hz, hp, _, hl1, hl2⟩ := Pairs.idx hP (k := .i64) (i := (j : Int)) (by omega) (by omega)
      rw [Int.toNat_natCast, hgl] at hz
      cases hz
      obtain ⟨v', H2, ln, o, off, ap, sm2, hln, len2, ix2, ld2, v'', H3, ap2, sm3⟩ := sm.step hg (by omega)
      have eB := sg_mod hK hlt.2
      have eA := sg_mod hK hlt.1
      have mB : (B + K) % N < N := Nat.mod_lt _ (by omega)
      have mA : (A + K) % N < N := Nat.mod_lt _ (by omega)
      have tB := tmod_nat (B + K) N
      have tA := tmod_nat (A + K) N
      rw [Int.natCast_add] at tA tB
      generalize (B + K) % N = rB at eB mB tB
      generalize (A + K) % N = rA at eA mA tA
      have y1 : IntKind.i64.wrap ((N : Int) - 1) = (N : Int) - 1 := wrap64 (by omega) (by omega)
      have y2 : IntKind.i64.wrap ((B : Int) + (K : Int)) = (B : Int) + (K : Int) := wrap64 (by omega) (by omega)
      have y3 : IntKind.i64.wrap ((A : Int) + (K : Int)) = (A : Int) + (K : Int) := wrap64 (by omega) (by omega)
      have y4 : IntKind.i64.wrap ((N : Int) - 1 - (rB : Int)) = (sg N K B : Int) := by rw [show (N : Int) - 1 - (rB : Int) = (sg N K B : Int) by omega]; exact wrapS (by omega)
      have y5 : IntKind.i64.wrap ((N : Int) - 1 - (rA : Int)) = (sg N K A : Int) := by rw [show (N : Int) - 1 - (rA : Int) = (sg N K A : Int) by omega]; exact wrapS (by omega)
      have y6 : IntKind.i64.wrap ((j : Int) - 1) = (j : Int) - 1 := wrap64 (by omega) (by omega)
      have y7 := wrapS (n := ln) (by omega)
      rw [Int.natCast_add] at len2
      have t3' := tmod_nat j 3
      have t3' : Int.tmod (j : Int) 3 = ((j % 3 : Nat) : Int) := t3'
      simp only [up2] at hl1 hl2
      by_cases hj3 : j % 3 = 0
      · rw [hj3] at t3'
        simp [t0, t1, t3, t4, t11, t12, t13, y1, hp, hl1, hl2, y2, y3, n0, tB, tA, y4, y5, ap, t3', len2, y7, ix2, ld2, ap2, y6]
        exact ⟨j, by omega, j, by omega, rfl, v'', sm3, rfl, rfl⟩
      · have c0 : (((j % 3 : Nat) : Int) == 0) = false := by rw [beq_eq_false_iff_ne]; omega
        generalize j % 3 = j3 at t3' c0
        simp [t0, t1, t3, t4, t11, t12, t13, y1, hp, hl1, hl2, y2, y3, n0, tB, tA, y4, y5, ap, t3', c0, y6]
        exact ⟨j, by omega, j, by omega, rfl, v', sm2, rfl, rfl⟩
    | zero =>
      have t13 : Env.at τ 13 = .int .i64 (-1) := by rw [t13]; rfl
      obtain ⟨xs, bd, hxs, lxs⟩ := sm
      have eH1 := bd.ext hw
      obtain ⟨rq, sq⟩ := same_q (xs := xs) hr hK (fun p => by
        rw [hxs]
        constructor
        · rintro ⟨i, A, B, _, q2, q3⟩
          exact ⟨A, B, (natE_mem hr).1 (List.mem_of_getElem? q2), q3⟩
        · rintro ⟨A, B, q1, q2⟩
          obtain ⟨i, hi⟩ := List.getElem?_of_mem ((natE_mem hr).2 q1)
          exact ⟨i, A, B, Nat.zero_le _, hi, q2⟩)
      obtain ⟨o0, H2, ap0, bo0, _⟩ := (Bd.init (e := 2) (enc := pairc) bd.wf).appS (bytes := 16) pairc_len (by omega) pairc_one (hs.ext eH1) (by simp; omega)
      rw [List.nil_append] at bo0
      by_cases hxy : x = y
      rotate_left
      have hne : ((x : Int) != (y : Int)) = true := by rw [bne_iff_ne]; omega
      obtain ⟨o, H3, ap1, bo, _⟩ := bo0.app1 (bytes := 16) pairc_len (by omega) pairc_one (nn x y) (by omega)
      have ho : ∀ p, p ∈ l ++ [nn x y] ↔ p ∈ l ∨ (x ≠ y ∧ p = nn x y) := fun p => by
        rw [List.mem_append, List.mem_singleton]; simp [hxy]
      have lo : (l ++ [nn x y]).length ≤ 1000 := by rw [List.length_append]; simp; omega
      generalize l ++ [nn x y] = os at bo ho lo
      rw [nn_c] at ap1
      simp [t0, t1, t3, t4, t11, t12, t13, ap0, w3, ex, ey, n0, wx, wy, hne, ap1]
      rotate_left
      have hne : ((x : Int) != (y : Int)) = false := by rw [hxy]; simp
      obtain ⟨o, H3, os, eo, eH, bo, ho, lo⟩ : ∃ o H3 os, o = o0 ∧ H3 = H2 ∧ Bd 2 pairc H1 H3 o os ∧ (∀ p, p ∈ os ↔ p ∈ l ∨ (x ≠ y ∧ p = nn x y)) ∧ os.length ≤ 1000 :=
        ⟨o0, H2, l, rfl, rfl, bo0, fun p => by simp [hxy], by omega⟩
      rw [← eo, ← eH] at ap0
      simp [t0, t1, t3, t4, t11, t12, t13, ap0, w3, ex, ey, n0, wx, wy, hne]
      all_goals
        have e13 := Bd.ext bo bd.wf
        have pl := (h.ext eH1).ext e13
        have pm := (bd.sl pairc_len).ext e13
        have po := bo.sl pairc_len
        obtain ⟨rr, sr1, sr2⟩ := same_r hr hx hy ho
        have iN : (N : Int).toNat = N := Int.toNat_natCast N
        refine (max10 tbK bo.wf (n := (N : Int)) pl (by omega)).mono ?_
        rintro r H4 ⟨he4, ⟨_, u1, rfl, hu1, _⟩ | ⟨hr', rfl⟩⟩
        rotate_left
        · rw [hr] at hr'; cases hr'
        simp [t0, t1, t3, t4, t11, t12, t13]
        refine (max10 tbK he4.wf (n := (N : Int)) (pm.ext he4) (by omega)).mono ?_
        rintro r H5 ⟨he5, ⟨_, u2, rfl, hu2, _⟩ | ⟨hr', rfl⟩⟩
        rotate_left
        · rw [rq] at hr'; cases hr'
        simp [t0, t1, t3, t4, t11, t12, t13]
        refine (max10 tbK he5.wf (n := (N : Int)) ((po.ext he4).ext he5) (by omega)).mono ?_
        rintro r H6 ⟨he6, ⟨_, u3, rfl, hu3, _⟩ | ⟨hr', rfl⟩⟩
        rotate_left
        · rw [rr] at hr'; cases hr'
        simp [t0, t1, t3, t4, t11, t12, t13]
        have pl6 := ((pl.ext he4).ext he5).ext he6
        refine (max10 tbK he6.wf (n := (N : Int)) pl6 (by omega)).mono ?_
        rintro r H7 ⟨he7, ⟨_, u4, rfl, hu4, _⟩ | ⟨hr', rfl⟩⟩
        rotate_left
        · rw [hr] at hr'; cases hr'
        rw [iN] at hu1 hu2 hu3 hu4
        have g1 := ((hu1.ext he5).ext he6).ext he7
        have g2 := (hu2.ext he6).ext he7
        have g3 := hu3.ext he7
        have pl7 := pl6.ext he7
        have pm7 := (((pm.ext he4).ext he5).ext he6).ext he7
        have po7 := (((po.ext he4).ext he5).ext he6).ext he7
        have i1 := isM_of hr (maxOf_ok hr).2.1
        have i2 := isM_of rq (maxOf_ok rq).2.1
        have i3 := isM_of rr (maxOf_ok rr).2.1
        rw [iN] at i1 i2 i3
        simp [t0, t1, t3, t4, t11, t12, t13]
        refine (size13 tbK.h13 g1 (by rw [mateL_len]; omega)).mono ?_
        rintro r1 _ ⟨rfl, rfl⟩
        rw [cnt_mateL]
        obtain ⟨s1, hs1⟩ : ∃ s1, s1 = Gr.cnt N (maxOf N (natE l)) / 2 := ⟨_, rfl⟩
        rw [← hs1]
        simp [t0, t1, t3, t4, t11, t12, t13]
        refine (size13 tbK.h13 g3 (by rw [mateL_len]; omega)).mono ?_
        rintro r1 _ ⟨rfl, rfl⟩
        rw [cnt_mateL]
        obtain ⟨s3, hs3⟩ : ∃ s3, s3 = Gr.cnt N (maxOf N (natE os)) / 2 := ⟨_, rfl⟩
        rw [← hs3]
        have hs1N : s1 ≤ 1000 := by have := cnt_le_n (n := N) (m := maxOf N (natE l)); omega
        simp [t0, t1, t3, t4, t11, t12, t13]
        refine (is12 (n := (N : Int)) tbK.h12 tbK.h11 tbK.h26 pl7 g1 (by omega) (by rw [mateL_len]; omega)).mono ?_
        rintro r1 _ ⟨rfl, rfl⟩
        simp [t0, t1, t3, t4, t11, t12, t13, i1]
        refine (is12 (n := (N : Int)) tbK.h12 tbK.h11 tbK.h26 pm7 g2 (by omega) (by rw [mateL_len]; omega)).mono ?_
        rintro r1 _ ⟨rfl, rfl⟩
        simp [t0, t1, t3, t4, t11, t12, t13, i2]
        refine (is12 (n := (N : Int)) tbK.h12 tbK.h11 tbK.h26 po7 g3 (by omega) (by rw [mateL_len]; omega)).mono ?_
        rintro r1 _ ⟨rfl, rfl⟩
        simp [t0, t1, t3, t4, t11, t12, t13, i3]
        refine (size13 tbK.h13 g2 (by rw [mateL_len]; omega)).mono ?_
        rintro r1 _ ⟨rfl, rfl⟩
        rw [cnt_mateL, sq, ← hs1]
        have c5 : (s1 : Int) ≤ (s3 : Int) := by omega
        have w9 : IntKind.i64.wrap ((s1 : Int) + 1) = (s1 : Int) + 1 := wrap64 (by omega) (by omega)
        have c6 : (s3 : Int) ≤ (s1 : Int) + 1 := by omega
        have c5' : s1 ≤ s3 := by omega
        simp [t0, t1, t3, t4, t11, t12, t13, c5, c5', w9, c6]
        refine (same17 tbK.h17 g1 hu4 (by rw [mateL_len]; omega)).mono ?_
        rintro r1 _ ⟨rfl, rfl⟩
        simp
        apply hk9; simp
end Go.Proofs.Ytjhhicmlflelhaa.Gr
