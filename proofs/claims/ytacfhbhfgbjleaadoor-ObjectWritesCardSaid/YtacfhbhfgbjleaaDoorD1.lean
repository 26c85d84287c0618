/- The document's numbers by digits: trimmed, small ones, tenths, their texts. No claim by itself. -/
import Derived.Test.YtacfhbhfgbjleaaDoorTab
import Derived.Test.YtacfhbhfgbjleaaDoorE34
namespace Go.Proofs.YtacfhbhfgbjleaaDoor
open Go Go.AI
def n64c (n : Nat) : List AV := [.int .i64 (n : Int)]
abbrev Nats := Sl 1 n64c
theorem n64c_len (x : Nat) : (n64c x).length = 1 := rfl
theorem n64c_one (x : Nat) : allOne (n64c x) = true := rfl
theorem Nats.idx {H : Heap} {v : AV} {xs : List Nat} (h : Nats H v xs) {k : IntKind} {i : Nat} (h1 : i < xs.length) :
    ∃ p x, xs[i]? = some x ∧ indexAddrV 1 v (.int k i) = some p ∧ loadA H none p = some (.int .i64 x) := by
  obtain ⟨p, x, a, b, _, d⟩ := Sl.idx h (k := k) (i := (i : Int)) (by omega) (by omega); exact ⟨p, x, by simpa using a, b, d _ rfl rfl⟩
theorem slTake {α : Type} {e : Nat} {enc : α → List AV} {H : Heap} {v : AV} {xs : List α} (h : Sl e enc H v xs) (hc : capOk v = true) {n : Nat} (hn : n ≤ xs.length) :
    ∃ v', sliceA e v none (some (.int .i64 (n : Int))) none = some v' ∧ Sl e enc H v' (xs.take n) ∧ capOk v' = true ∧ (∀ p, rowObj v' = some p → rowObj v = some p) := by
  rcases h with ⟨rfl, rfl⟩ | ⟨o, off, lo, ex, cs, rfl, hc2, hx⟩
  · have : n = 0 := by simpa using hn
    subst this
    exact ⟨.nils, rfl, .inl ⟨rfl, rfl⟩, rfl, fun p q => q⟩
  · have hlo : xs.length ≤ lo := by simpa [capOk] using hc
    have hb : (0 : Int) ≤ (n : Int) ∧ (n : Int) ≤ (lo : Int) := by omega
    refine ⟨.slc o (off + 0 * e) (n - 0) e (lo - 0) ex, ?_, .inr ⟨o, off, lo, ex, cs, ?_, hc2, fun i y hy => ?_⟩, by simp [capOk]; omega, fun p q => q⟩
    · simp only [sliceA, Nat.beq_refl, cond_true, boundsA, boundA, if_pos hb, Option.map_some, Int.toNat_natCast]
    · simp only [Nat.zero_mul, Nat.add_zero, Nat.sub_zero, List.length_take]
      rw [Nat.min_eq_left hn]
    · refine hx i y ?_
      rw [List.getElem?_take] at hy
      split at hy
      · exact hy
      · cases hy
theorem Ow.cap {α : Type} {e : Nat} {enc : α → List AV} {H : Heap} {v : AV} {xs : List α} (h : Ow e enc H v xs) : capOk v = true := by
  rcases h with ⟨rfl, _⟩ | ⟨o, rfl, _⟩
  · rfl
  · simp [capOk]
/-- A number by its digits, in memory. -/
structure NumR (H : Heap) (v : AV) (m : Bool) (ds : List Nat) : Prop where
  dg : Dg ds
  nm : Nm ds
  len : ds.length ≤ 100
  at_ : ∃ u, v = .agg [.bool m, u] ∧ capOk u = true ∧ Nats H u ds
theorem NumR.ext {H H' : Heap} {v : AV} {m : Bool} {ds : List Nat} (h : NumR H v m ds) (k : Ext H H') : NumR H' v m ds := by
  obtain ⟨a, b, c, u, d, e, f⟩ := h; exact ⟨a, b, c, u, d, e, f.ext k⟩
theorem isEmpty_take {ds : List Nat} {k : Nat} (h : k ≤ ds.length) : (ds.take k).isEmpty = decide (k = 0) := by
  cases ds with
  | nil => have : k = 0 := by simpa using h
           simp [this]
  | cons d ds => cases k <;> simp
theorem Mine.num {H0 H : Heap} {v : AV} {m : Bool} {ds : List Nat} (h : Mine 1 n64c H0 H v ds) (dg : Dg ds) (nm : Nm ds) (hl : ds.length ≤ 100) : NumR H (.agg [.bool m, v]) m ds := ⟨dg, nm, hl, v, rfl, Ow.cap h.ow, h.sl n64c_len⟩
theorem div_small (x : Int) : ∃ (y : Int) (d : Nat), d < 65536 ∧ (x.tmod 65536 = d ∨ (x.tmod 65536 = -(d : Int) ∧ 0 < d)) ∧ x.tdiv 65536 = y ∧ x.natAbs = d + 65536 * y.natAbs ∧ (x ≤ 0 → y ≤ 0) ∧ (0 ≤ x → 0 ≤ y) := by
  rcases Int.natAbs_eq x with h | h
  · generalize x.natAbs = a at h
    subst h
    refine ⟨((a / 65536 : Nat) : Int), a % 65536, Nat.mod_lt _ (by omega), .inl rfl, rfl, by omega, by omega, by omega⟩
  · generalize x.natAbs = a at h
    subst h
    have e1 : (-(a : Int)).tmod 65536 = -((a % 65536 : Nat) : Int) := by rw [Int.neg_tmod]; rfl
    have e2 : (-(a : Int)).tdiv 65536 = -((a / 65536 : Nat) : Int) := by rw [Int.neg_tdiv]; rfl
    by_cases h0 : a % 65536 = 0
    · exact ⟨-((a / 65536 : Nat) : Int), 0, by omega, .inl (by rw [e1, h0]; rfl), e2, by omega, by omega, by omega⟩
    · exact ⟨-((a / 65536 : Nat) : Int), a % 65536, Nat.mod_lt _ (by omega), .inr ⟨e1, by omega⟩, e2, by omega, by omega, by omega⟩
def rest52 : ACode := tailN 3 A52.body
theorem body52 : A52.body = headsN 3 A52.body rest52 := rfl
section
variable {FT : Nat → Option FnD} {H : Heap}
def Tr37 (H H' : Heap) (v : AV) (m : Bool) (ds : List Nat) (r : AV) : Prop := ∃ u, r = .agg [.bool (m && !(trimD ds).isEmpty), u] ∧ capOk u = true ∧ Nats H' u (trimD ds) ∧ (∀ p, rowObj u = some p → rowObj v = some p) ∧ Ext H H'
theorem trim52 (h52 : FT 52 = some (.code A52)) (hw : H.Wf) {v : AV} {ds : List Nat} {m : Bool} (h : Nats H v ds) (hc : capOk v = true) (hl : ds.length ≤ 1000) :
    Cp FT 52 [.bool m, v] H (fun r H' => Tr37 H H' v m ds r) := by
  refine Cp_code A52 h52 rfl ?_
  rw [body52]
  have hA : A52.results = [.cell 4 (some 2)] := rfl
  rw [hA]
  obtain ⟨g0, e0⟩ := push_new hw (.cells [.bool false, .nils])
  simp [A52, headsN, h.len]
  refine Wp_loop (fun k τ H' => H' = H.push (.cells [.bool false, .nils]) ∧ ∃ n : Nat, n ≤ ds.length ∧ k = n ∧ trimN ds ds.length = trimN ds n ∧ Env.at τ 0 = .bool m ∧ Env.at τ 1 = v ∧ Env.at τ 4 = .ptr H.next 0 ∧ Env.at τ 5 = .int .i64 n) ?_ ds.length _ _ ⟨rfl, ds.length, Nat.le_refl _, rfl, rfl, by simp, by simp, by simp, by simp⟩
  rintro k τ _ ⟨rfl, n, hn, rfl, ht, t0, t1, t4, t5⟩
  have fin : trimN ds k = k → ∀ {τ : Env}, Env.at τ 0 = .bool m → Env.at τ 1 = v → Env.at τ 4 = .ptr H.next 0 → Env.at τ 5 = .int .i64 k →
      Wp FT rest52 τ (H.push (.cells [.bool false, .nils])) (finQ [.cell 4 (some 2)] fun r H' => Tr37 H H' v m ds r) := by
    intro hk τ t0 t1 t4 t5
    have hd : trimD ds = ds.take k := by unfold trimD; rw [ht, hk]
    obtain ⟨u, hu, hs, hcu, hru⟩ := slTake (h.ext e0) hc (n := k) hn
    obtain ⟨ou, cu⟩ := hs.one
    have hemp := isEmpty_take hn
    have gen : ∀ b : Bool, ∃ H', storeA (H.push (.cells [.bool false, .nils])) 2 (.ptr H.next 0) (.agg [.bool b, u]) = some (undefA, H') ∧ H'.get H.next = some (.cells [.bool b, u]) ∧ Ext H H' := by
      intro b
      obtain ⟨H', a1, a2, a3, _⟩ := store_new hw (z := [.bool false, .nils]) (n := 2) (x := .agg [.bool b, u]) rfl rfl rfl (by simp [allOne_of ou])
      exact ⟨H', a1, a2, a3⟩
    have hsx : ∀ {H' : Heap}, Ext H H' → Nats H' u (ds.take k) := by
      intro H' ex
      obtain ⟨u', hu', hs', _⟩ := slTake (h.ext ex) hc (n := k) hn
      rw [hu] at hu'; cases hu'; exact hs'
    unfold Tr37
    rw [hd, hemp]
    cases m with
    | false =>
      obtain ⟨H', a1, a2, a3⟩ := gen false
      simp [rest52, tailN, A52, t0, t1, t4, t5, hu, fillV_val ou cu, a1, resultsA, resultA, cellsAt_get a2, partA, seg, packA, hcu]
      exact ⟨hsx a3, hru, a3⟩
    | true =>
      by_cases hk0 : k = 0
      · subst hk0
        obtain ⟨H', a1, a2, a3⟩ := gen false
        simp only [Int.natCast_zero] at t5 hu
        simp [rest52, tailN, A52, t0, t1, t4, t5, hu, fillV_val ou cu, a1, resultsA, resultA, cellsAt_get a2, partA, seg, packA, hcu]
        have := hsx a3
        rw [List.take_zero] at this
        exact ⟨this, hru, a3⟩
      · obtain ⟨H', a1, a2, a3⟩ := gen true
        have hk1 : 0 < k := by omega
        simp [rest52, tailN, A52, t0, t1, t4, t5, hu, hk1, fillV_val ou cu, a1, resultsA, resultA, cellsAt_get a2, partA, seg, packA, hcu, hk0]
        exact ⟨hsx a3, hru, a3⟩
  simp only [Wp_seq, Wp_region]
  cases k with
  | zero =>
    have t5' : Env.at τ 5 = .int .i64 0 := by simpa using t5
    simp [t5']
    exact fin rfl (by simp [t0]) (by simp [t1]) (by simp [t4]) (by simp [t5'])
  | succ n =>
    obtain ⟨p, x, hx, hp, hld⟩ := Nats.idx (h.ext e0) (k := .i64) (i := n) (by omega)
    have w : IntKind.i64.wrap (((n + 1 : Nat) : Int) - 1) = (n : Int) := by rw [wrap64 (by omega) (by omega)]; omega
    have hpos : (0 : Int) < ((n + 1 : Nat) : Int) := by omega
    by_cases hx0 : x = 0
    · subst hx0
      simp only [Int.natCast_zero] at hld
      simp [-Int.natCast_add, t5, t1, w, hp, hld, t0, t4]
      exact ⟨n, by omega, n, by omega, rfl, by rw [ht, trimN, if_pos hx], rfl⟩
    · have hx1 : ((x : Int) == 0) = false := by rw [beq_eq_false_iff_ne]; omega
      simp [-Int.natCast_add, t5, t1, w, hp, hld, hx1]
      exact fin (by rw [trimN, if_neg (by rw [hx]; simp [hx0])]) (by simp [t0]) (by simp [t1]) (by simp [t4]) (by simp [t5])
theorem small39 (h39 : FT 39 = some (.code A39)) (h52 : FT 52 = some (.code A52)) (hw : H.Wf) {n : Int} (h0 : -9223372036854775807 ≤ n) (h1 : n ≤ 9223372036854775807) :
    Cp FT 39 [.int .i64 n] H (fun r H' => ∃ ds, NumR H' r (decide (n < 0)) ds ∧ dval ds = n.natAbs ∧ Ext H H') := by
  refine Cp_code A39 h39 rfl ?_
  obtain ⟨g0, e0⟩ := push_new hw (.cells [.bool false, .nils])
  have hn0 : (H.push (.cells [.bool false, .nils])).next = H.next + 1 := rfl
  generalize hH0 : H.push (.cells [.bool false, .nils]) = H0 at *
  simp [A39, hH0]
  refine Wp_loop (fun k τ H' => Ext H0 H' ∧ ∃ (x : Int) (ds : List Nat) (v : AV), k = x.natAbs ∧ Mine 1 n64c H0 H' v ds ∧ Dg ds ∧ ds.length ≤ 64 ∧ x.natAbs < 65536 ^ (64 - ds.length) ∧ x.natAbs < 9223372036854775808 ∧ n.natAbs = dval ds + 65536 ^ ds.length * x.natAbs ∧ (n < 0 → x ≤ 0) ∧ (0 ≤ n → 0 ≤ x) ∧
    Env.at τ 0 = .int .i64 n ∧ Env.at τ 2 = .ptr H.next 0 ∧ Env.at τ 3 = v ∧ Env.at τ 4 = .int .i64 x) ?_ n.natAbs _ _ ⟨Ext.refl e0.wf, n, [], .nils, rfl, Mine.nil, Dg.nil, by simp, ?_, by omega, by simp [dval], by omega, by omega, by simp, by simp, by simp, by simp⟩
  · rintro k τ H1 ⟨ex, x, ds, v, rfl, mi, dg, hlen, hxb, hx63, hval, hs1, hs2, t0, t2, t3, t4⟩
    simp only [Wp_seq, Wp_region]
    by_cases hx : x = 0
    · subst hx
      have hval' : n.natAbs = dval ds := by simpa using hval
      simp [t4, t0, t3]
      refine (trim52 h52 ex.wf (mi.sl n64c_len) (Ow.cap mi.ow) (by omega)).mono ?_
      rintro _ H2 ⟨u, rfl, hcu, hu, hru, e2⟩
      obtain ⟨ou, cu⟩ := hu.one
      have g2 := e2.keep _ _ (ex.keep _ _ g0)
      have hfl : H2.floor ≤ H.next := by rw [e2.floor, ex.floor, e0.floor]; exact hw.1
      have hm : (decide (n < 0) && !(trimD ds).isEmpty) = decide (n < 0) := by
        by_cases hn : n < 0
        · have hne : trimD ds ≠ [] := fun q => by
            have := (dval_zero (trimD_nm ds)).2 q
            rw [trimD_val] at this; omega
          simp [hn, hne]
        · simp [hn]
      rw [hm]
      generalize decide (n < 0) = bm
      obtain ⟨H3, s3, g3, f3⟩ := store_whole (n := 2) (x := .agg [.bool bm, u]) e2.wf rfl rfl hfl g2 rfl (by simp [allOne_of ou])
      have f13 : Ext H H3 := ((((e0.trans ex).trans e2).fr (S := [])).trans hw f3 (by simp)).ext
      have hu3 : Nats H3 u (trimD ds) := hu.fr f3 (fun p q => by
        have := mi.new p (hru p q); simp; omega)
      have hl : (trimD ds).length ≤ 100 := by have := trimD_len ds; omega
      simp [t2, s3, resultsA, resultA, cellsAt_get g3, partA, seg, packA]
      exact ⟨trimD ds, ⟨trimD_dg dg, trimD_nm ds, hl, u, rfl, hcu, hu3⟩, by rw [trimD_val, hval'], f13⟩
    · obtain ⟨y, d, hd, hrem, hdiv, hxy, hy1, hy2⟩ := div_small x
      have wy : IntKind.i64.wrap y = y := wrap64 (by omega) (by omega)
      have hlt : ds.length < 64 := by
        refine Classical.byContradiction fun q => ?_
        have : 64 - ds.length = 0 := by omega
        rw [this] at hxb; simp at hxb; omega
      obtain ⟨v', H2, ap, mi2, f2, _⟩ := mi.app1 n64c_len (by omega) n64c_one ex.wf ex.next d (bytes := 8) (by omega)
      have ex2 : Ext H0 H2 := ((ex.fr (S := [])).trans e0.wf f2 (by intro p hp; right; simp at hp; exact mi.new p hp)).ext
      have hb2 : y.natAbs < 65536 ^ (64 - (ds.length + 1)) := by
        have : 65536 ^ (64 - ds.length) = 65536 * 65536 ^ (64 - (ds.length + 1)) := by
          rw [show 64 - ds.length = (64 - (ds.length + 1)) + 1 from by omega, Nat.pow_succ, Nat.mul_comm]
        rw [this] at hxb; omega
      have hv2 : n.natAbs = dval (ds ++ [d]) + 65536 ^ (ds ++ [d]).length * y.natAbs := by
        rw [hval, dval_append, hxy]; simp [dval, Nat.pow_succ, Nat.mul_add, Nat.mul_assoc]; omega
      have hx' : (x != 0) = true := by simpa using hx
      simp only [n64c] at ap
      rcases hrem with hrem | ⟨hrem, hd0⟩
      · have hneg : ¬ (d : Int) < 0 := by omega
        simp [t4, hx', hrem, hneg, t3, hdiv, wy, ap, t0, t2]
        exact ⟨y.natAbs, by omega, ex2, y, rfl, ds ++ [d], v', mi2, dg.app (Dg.one hd), by simp; omega, by simpa using hb2, by omega, hv2, by omega, by omega, rfl, rfl⟩
      · have hneg : -(d : Int) < 0 := by omega
        have wd : IntKind.i64.wrap (d : Int) = d := wrap64 (by omega) (by omega)
        simp [t4, hx', hrem, hd0, unA, t3, hdiv, wy, wd, ap, t0, t2]
        exact ⟨y.natAbs, by omega, ex2, y, rfl, ds ++ [d], v', mi2, dg.app (Dg.one hd), by simp; omega, by simpa using hb2, by omega, hv2, by omega, by omega, rfl, rfl⟩
  · have : (65536 : Nat) ^ 64 = 65536 ^ 4 * 65536 ^ 60 := by rw [← Nat.pow_add]
    have h3 : 0 < 65536 ^ 60 := Nat.pow_pos (by omega)
    have h4 : 65536 ^ 4 * 1 ≤ 65536 ^ 4 * 65536 ^ 60 := Nat.mul_le_mul_left _ h3
    have h5 : (65536 : Nat) ^ 4 = 18446744073709551616 := by decide
    simp only [List.length_nil, Nat.sub_zero]
    omega
end
end Go.Proofs.YtacfhbhfgbjleaaDoor
