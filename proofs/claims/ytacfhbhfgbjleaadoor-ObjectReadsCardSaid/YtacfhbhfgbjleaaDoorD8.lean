/- A word's number, as the document reads it. No claim by itself. -/
import Derived.Test.YtacfhbhfgbjleaaDoorDA
import Derived.Test.YtacfhbhfgbjleaaDoorC6
namespace Go.Proofs.YtacfhbhfgbjleaaDoor
open Go Go.AI
theorem nm_len {ds : List Nat} {k : Nat} (h : Nm ds) (hv : dval ds < 65536 ^ k) : ds.length ≤ k := by
  refine Classical.byContradiction fun q => ?_
  have h2 := dval_ge h (fun r => by rw [r] at q; simp at q)
  have h3 : 65536 ^ k ≤ 65536 ^ (ds.length - 1) := Nat.pow_le_pow_right (by omega) (by omega)
  omega
theorem NumR.up {H : Heap} {v : AV} {m : Bool} {ds : List Nat} (h : NumR H v m ds) : NumR H.up v m ds := ⟨h.dg, h.nm, h.len, h.at_⟩
theorem NumR.fl {H : Heap} {v : AV} {m : Bool} {ds : List Nat} {f : Nat} (h : NumR H v m ds) : NumR { H with floor := f } v m ds := ⟨h.dg, h.nm, h.len, h.at_⟩
theorem NumR.cells {H : Heap} {v : AV} {m : Bool} {ds : List Nat} (h : NumR H v m ds) : ∃ u, v = .agg [.bool m, u] ∧ allOne [AV.bool m, u] = true := by
  obtain ⟨_, _, _, u, rfl, _, hu⟩ := h
  exact ⟨u, rfl, by simp [allOne_of hu.one.1]⟩
section
variable {FT : Nat → Option FnD} {H : Heap}
theorem cmp69 (h69 : FT 69 = some (.code A69)) (h76 : FT 76 = some (.code A76)) (h77 : FT 77 = some (.code A77)) (h68 : FT 68 = some (.code A68)) (h75 : FT 75 = some (.code A75)) (h74 : FT 74 = some (.code A74)) (h52 : FT 52 = some (.code A52)) (hw : H.Wf) {x y : AV} {ma mb : Bool} {a b : List Nat}
    (ha : NumR H x ma a) (hb : NumR H y mb b) (la : a.length ≤ 90) (lb : b.length ≤ 90) (cb : mb = true → b ≠ []) : Cp FT 69 [x, y] H (fun r H' => r = .int .i64 (zval ma a - zval mb b).sign ∧ Ext H H') := by
  obtain ⟨u, hx, hou⟩ := ha.cells
  obtain ⟨v, hy, hov⟩ := hb.cells
  subst hx hy
  refine Cp_code A69 h69 rfl ?_
  obtain ⟨g0, e0⟩ := push_new hw (.cells [.bool ma, u])
  obtain ⟨g1, e1⟩ := push_new e0.wf (.cells [.bool mb, v])
  have e01 := e0.trans e1
  have g0' := e1.keep _ _ g0
  simp [A69, hou, hov]
  generalize hH1 : (H.push (.cells [.bool ma, u])).push (.cells [.bool mb, v]) = H1 at *
  have g1' : H1.get (H.next + 1) = some (.cells [.bool mb, v]) := g1
  have l0 : loadA H1 (some 2) (.ptr H.next 0) = some (.agg [.bool ma, u]) := load_agg g0' (by simp [seg])
  have l1 : loadA H1 (some 2) (.ptr (H.next + 1) 0) = some (.agg [.bool mb, v]) := load_agg g1' (by simp [seg])
  simp [l0, l1]
  refine (neg76 h76 e1.wf.up (hb.ext e01).up).quiet ?_
  rintro r H2 ⟨hr, e2⟩
  have e12 := e2.back e1.wf
  have hr' := hr.fl (f := H1.floor)
  generalize ({ t := H2.t, next := H2.next, floor := H1.floor } : Heap) = H2' at *
  simp
  refine (plus68 h68 h75 h74 h52 e12.wf (ha.ext (e01.trans e12)) hr' la lb).mono ?_
  rintro r3 H3 ⟨m, ds, hn, hz, hm, _, e3⟩
  simp
  refine (sign77 h77 e3.wf hn).mono ?_
  rintro _ H4 ⟨rfl, e4⟩
  have : zval m ds = zval ma a - zval mb b := by
    rw [hz]
    unfold zval
    cases mb with
    | true => simp
    | false =>
      by_cases hb0 : b = []
      · subst hb0; simp [dval]
      · simp [hb0]; omega
  simp [this]
  exact (e01.trans e12).trans (e3.trans e4)
end
/-! ### Plain facts of decimal digits -/
def okC (i b : Nat) : Bool := isDg b || (decide (i = 0) && decide (b = 45))
theorem digV_foldl (l : List Nat) (n : Nat) : l.foldl (fun n d => 10 * n + (d - 48)) n = 10 ^ l.length * n + digV l := by
  induction l generalizing n with
  | nil => simp [digV]
  | cons d l ih =>
    unfold digV
    simp only [List.foldl_cons, List.length_cons]
    rw [ih, ih (10 * 0 + (d - 48))]
    rw [Nat.pow_succ, Nat.mul_add, Nat.mul_zero, Nat.zero_add, Nat.mul_assoc, Nat.add_assoc]
theorem digV_append (a b : List Nat) : digV (a ++ b) = 10 ^ b.length * digV a + digV b := by
  rw [digV, List.foldl_append]; exact digV_foldl b _
theorem digV_cons (d : Nat) (l : List Nat) : digV (d :: l) = 10 ^ l.length * (d - 48) + digV l := by
  have := digV_append [d] l
  simpa [digV] using this
theorem digV_take_le (l : List Nat) (i : Nat) : digV (l.take i) ≤ digV l := by
  have h := digV_append (l.take i) (l.drop i)
  rw [List.take_append_drop] at h
  have : 1 * digV (l.take i) ≤ 10 ^ (l.drop i).length * digV (l.take i) := Nat.mul_le_mul_right _ (Nat.pow_pos (by omega))
  omega
theorem digV_all_lt {l : List Nat} (h : l.all isDg = true) : digV l < 10 ^ l.length := by
  induction l with
  | nil => simp [digV]
  | cons d l ih =>
    simp only [List.all_cons, Bool.and_eq_true] at h
    have h1 := ih h.2
    have h2 : d ≤ 57 := by have := h.1; simp [isDg] at this; omega
    rw [digV_cons, List.length_cons, Nat.pow_succ]
    have : 10 ^ l.length * (d - 48) ≤ 10 ^ l.length * 9 := Nat.mul_le_mul_left _ (by omega)
    omega
theorem digV_ge {d : Nat} {l : List Nat} (h : 48 < d) : 10 ^ l.length ≤ digV (d :: l) := by
  rw [digV_cons]
  have : 10 ^ l.length * 1 ≤ 10 ^ l.length * (d - 48) := Nat.mul_le_mul_left _ (by omega)
  omega
theorem digV_take_succ {l : List Nat} {i b : Nat} (h : l[i]? = some b) : digV (l.take (i + 1)) = 10 * digV (l.take i) + (b - 48) := by
  rw [List.take_add_one, h]; exact digV_snoc _ _
theorem all_get {l : List Nat} {f : Nat → Bool} (h : l.all f = true) {i b : Nat} (k : l[i]? = some b) : f b = true := List.all_eq_true.1 h b (List.mem_of_getElem? k)
section
variable {FT : Nat → Option FnD} {H : Heap}
/-- A number stays when an object that holds a number is written. -/
theorem NumR.store {H H' : Heap} {o : Nat} {b b' : Bool} {w w' v : AV} {m : Bool} {ds : List Nat} (h : NumR H v m ds) (g : H.get o = some (.cells [.bool b, w])) (g' : H'.get o = some (.cells [.bool b', w'])) (hw : ∀ k n, w ≠ .int k n) (k : Fr [o] H H') : NumR H' v m ds := by
  obtain ⟨a1, a2, a3, u, a4, a5, hu⟩ := h
  refine ⟨a1, a2, a3, u, a4, a5, ?_⟩
  rcases hu with hu | ⟨q, off, lo, ex, cs, rfl, hc, hx⟩
  · exact .inl hu
  · by_cases hq : q = o
    · subst hq
      have hcs : cs = [.bool b, w] := by rw [cellsAt_get g] at hc; exact (Option.some.inj hc).symm
      subst hcs
      cases ds with
      | nil => exact .inr ⟨q, off, lo, ex, _, rfl, cellsAt_get g', fun i x hi => by simp at hi⟩
      | cons d ds =>
        exfalso
        have h0 := hx 0 d rfl
        have h1 := seg_one (x := .int .i64 (d : Int)) h0
        simp only [Nat.zero_mul, Nat.add_zero] at h1
        match off, h1 with
        | 0, h1 => simp at h1
        | 1, h1 => simp at h1; exact hw _ _ h1
        | n + 2, h1 => simp at h1
    · exact .inr ⟨q, off, lo, ex, cs, rfl, cellsAt_get (k.keep _ _ (by simp [hq]) (get_cellsAt hc)), hx⟩
theorem NumR.notInt {H : Heap} {u : AV} {b m : Bool} {ds : List Nat} (h : NumR H (.agg [.bool b, u]) m ds) : ∀ k n, u ≠ .int k n := by
  obtain ⟨_, _, _, u', a4, _, hu⟩ := h
  cases a4
  rintro k n rfl
  rcases hu with ⟨q, _⟩ | ⟨_, _, _, _, _, q, _⟩ <;> cases q
theorem zval_nat {m : Bool} {ds : List Nat} {n : Nat} (hm : m = true → ds ≠ []) (nm : Nm ds) (h : zval m ds = (n : Int)) : m = false ∧ dval ds = n := by
  cases m with
  | false => unfold zval at h; simp at h; exact ⟨rfl, by omega⟩
  | true =>
    have := dval_pos nm (hm rfl)
    unfold zval at h; simp at h; omega
def r36a : ACode := subAt [1,1] A62.body
def r36l : ACode := subAt [1,1,1,1,1] A62.body
def r36b : ACode := subAt [1,1,1,1,1,1,1] A62.body
def r36c : ACode := subAt [1,1,1,1,1,1,1,1] A62.body
theorem body62 : A62.body = putAt [1,1] A62.body r36a := rfl
def r36k : ACode := subAt [1,1,1,1] A62.body
theorem r36a_eq : r36a = putAt [1,1] r36a r36k := rfl
theorem r36k_eq : r36k = putAt [1] r36k r36l := rfl
theorem r36l_eq : r36l = putAt [1,1] r36l r36b := rfl
theorem r36b_eq : r36b = putAt [1] r36b r36c := rfl
structure Lp3 (d s : List Nat) (H : Heap) (n : Nat) (τ : Env) (H' : Heap) : Prop where
  hh : H' = H
  ri : ∃ i : Nat, i ≤ d.length ∧ n = d.length - i ∧ Env.at τ 0 = .str s ∧ Env.at τ 7 = .str d ∧ Env.at τ 10 = .int .i64 (digV (d.take i)) ∧ Env.at τ 11 = .int .i64 i
theorem wrap48 {a : Int} (h0 : 0 ≤ a) (h1 : a ≤ 9223372036854775807) : IntKind.i64.wrap (IntKind.i64.wrap (a + 48) - 48) = a := by
  unfold IntKind.wrap
  simp [IntKind.bits, IntKind.signed]
  omega
theorem r36c_ok {s d : List Nat} (hd : d.all isDg = true) (hlen : d.length ≤ s.length) (hsl : s.length ≤ 1099511627776) (hb : (digV d : Int) ≤ 9223372036854775807) {τ : Env} (t0 : Env.at τ 0 = .str s) (t7 : Env.at τ 7 = .str d) :
    Wp FT r36c τ H (finQ [.tmp 4, .tmp 5] fun r H' => r = .tup [.int .i64 (if d.length < s.length then -(digV d : Int) else digV d), .int .i64 0] ∧ H' = H) := by
  simp [r36c, subAt, A62]
  refine Wp_loop (Lp3 d s H) ?_ d.length _ _ ⟨rfl, 0, by omega, rfl, by simp [t0], by simp [t7], by simp [digV], by simp⟩
  rintro n τ _ ⟨rfl, i, hi, rfl, t0, t7, t10, t11⟩
  simp only [Wp_seq, Wp_region]
  by_cases hc : i < d.length
  · obtain ⟨b, hbi⟩ : ∃ b, d[i]? = some b := ⟨_, List.getElem?_eq_getElem hc⟩
    have hdb := all_get hd hbi
    have hb48 : 48 ≤ b ∧ b ≤ 57 := by simp [isDg] at hdb; omega
    have hts := digV_take_succ hbi
    have hle := digV_take_le d (i + 1)
    have w10 : IntKind.i64.wrap ((digV (d.take i) : Int) * 10) = (digV (d.take i) : Int) * 10 := wrap64 (by omega) (by omega)
    have wb : IntKind.i64.wrap (b : Int) = b := wrap64 (by omega) (by omega)
    have w48 : IntKind.i64.wrap (IntKind.i64.wrap ((digV (d.take i) : Int) * 10 + (b : Int)) - 48) = (digV (d.take (i + 1)) : Int) := by
      rw [show (digV (d.take i) : Int) * 10 + (b : Int) = (digV (d.take (i + 1)) : Int) + 48 from by omega]
      exact wrap48 (by omega) (by omega)
    have wi : IntKind.i64.wrap ((i : Int) + 1) = ((i + 1 : Nat) : Int) := wrap64 (by omega) (by omega)
    have hidx : d[i] = b := (List.getElem?_eq_some_iff.1 hbi).2
    simp [-Int.natCast_add, t7, t10, t11, hc, w10, wb, w48, wi, hidx, byteA]
    exact ⟨_, by omega, rfl, i + 1, by omega, rfl, by simp [t0], by simp [t7], by simp, by simp⟩
  · have hin : i = d.length := by omega
    subst hin
    rw [List.take_length] at t10
    by_cases hl : d.length < s.length
    · have wn : IntKind.i64.wrap (-(digV d : Int)) = -(digV d : Int) := wrap64 (by omega) (by omega)
      simp [t0, t7, t10, t11, hl, unA, wn]
    · simp [t0, t7, t10, t11, hl]
theorem r36b_ok (h39 : FT 39 = some (.code A39)) (h69 : FT 69 = some (.code A69)) (h76 : FT 76 = some (.code A76)) (h77 : FT 77 = some (.code A77)) (h68 : FT 68 = some (.code A68)) (h75 : FT 75 = some (.code A75)) (h74 : FT 74 = some (.code A74)) (h52 : FT 52 = some (.code A52))
    (hw : H.Wf) {s d : List Nat} (hd : d.all isDg = true) (hlen : d.length ≤ s.length) (hsl : s.length ≤ 1099511627776) (hhead : d.length > 30 → ∃ c r, d = c :: r ∧ 48 < c) {most : Int} (hm0 : -9223372036854775807 ≤ most) (hm : most ≤ 9223372036854775807) {o : Nat} {v : AV} {ds : List Nat}
    (g : ∃ u, H.get o = some (.cells [.bool false, u]) ∧ v = .agg [.bool false, u]) (hv : NumR H v false ds) (hval : dval ds = digV (d.take 30)) {τ : Env} (t0 : Env.at τ 0 = .str s) (t1 : Env.at τ 1 = .int .i64 most) (t7 : Env.at τ 7 = .str d) (t8 : Env.at τ 8 = .ptr o 0) :
    Wp FT r36b τ H (finQ [.tmp 4, .tmp 5] fun r H' => r = .tup [.int .i64 (if most < 0 ∨ most < digV d then 0 else if d.length < s.length then -(digV d : Int) else digV d), .int .i64 (if most < 0 ∨ most < digV d then 10 else 0)] ∧ Ext H H') := by
  rw [r36b_eq]
  by_cases h30 : 30 < d.length
  · obtain ⟨c, r, rfl, hc⟩ := hhead h30
    have hge := digV_ge (l := r) hc
    have h10 : 10 ^ 30 ≤ 10 ^ r.length := Nat.pow_le_pow_right (by omega) (by simp at h30; omega)
    have h11 : (10 : Nat) ^ 30 = 1000000000000000000000000000000 := by decide
    have hbig : most < 0 ∨ most < (digV (c :: r) : Int) := .inr (by omega)
    have h30' : (30 : Int) < ((c :: r).length : Nat) := by omega
    rw [if_pos hbig, if_pos hbig]
    simp only [List.length_cons] at h30 h30'
    simp [-Int.natCast_add, r36b, subAt, putAt, A62, t7, h30']
    exact Ext.refl hw
  · have h30' : ¬ (30 : Int) < (d.length : Int) := by omega
    rw [List.take_of_length_le (by omega)] at hval
    by_cases hneg : most < 0
    · rw [if_pos (.inl hneg), if_pos (.inl hneg)]
      simp [r36b, subAt, putAt, A62, t7, t1, h30', hneg]
      exact Ext.refl hw
    · obtain ⟨u, g, rfl⟩ := g
      have ld : loadA H (some 2) (.ptr o 0) = some (.agg [.bool false, u]) := load_agg g (by simp [seg])
      have hdlt := digV_all_lt hd
      have h13 : 10 ^ d.length ≤ 10 ^ 30 := Nat.pow_le_pow_right (by omega) (by omega)
      have h14 : (10 : Nat) ^ 30 ≤ 65536 ^ 7 := by decide
      have hdl : ds.length ≤ 7 := nm_len hv.nm (by rw [hval]; omega)
      simp [r36b, subAt, putAt, A62, t7, t1, t8, h30', hneg, ld]
      refine (small39 h39 h52 hw.up (n := most) (by omega) (by omega)).quiet ?_
      rintro r H1 ⟨es, hes, hesv, e1⟩
      have e1' := e1.back hw
      have hes' := hes.fl (f := H.floor)
      generalize ({ t := H1.t, next := H1.next, floor := H.floor } : Heap) = H1' at *
      have hmd : decide (most < 0) = false := by simpa using hneg
      rw [hmd] at hes'
      have hel : es.length ≤ 7 := nm_len hes.nm (by
        have : (9223372036854775808 : Nat) ≤ 65536 ^ 7 := by decide
        omega)
      simp
      refine (cmp69 h69 h76 h77 h68 h75 h74 h52 e1'.wf (hv.ext e1') hes' (by omega) (by omega) (by simp)).mono ?_
      rintro _ H2 ⟨rfl, e2⟩
      have hz : zval false ds - zval false es = (digV d : Int) - most := by unfold zval; simp [hval, hesv]; omega
      rw [hz]
      by_cases hgt : most < (digV d : Int)
      · have hs : ((digV d : Int) - most).sign = 1 := Int.sign_eq_one_of_pos (by omega)
        simp [hs, hgt]
        exact e1'.trans e2
      · have hs : ¬ (0 : Int) < ((digV d : Int) - most).sign := by
          rw [Int.sign_pos_iff]; omega
        simp [hs, hgt]
        refine (r36c_ok (s := s) (d := d) hd hlen hsl (by omega) (by simp [t0]) (by simp [t7])).fin ?_
        rintro r H3 ⟨rfl, rfl⟩
        exact ⟨rfl, e1'.trans e2⟩
structure Lp2 (H : Heap) (d s : List Nat) (most : Int) (n : Nat) (τ : Env) (H' : Heap) : Prop where
  ex : Fr [H.next] (H.push (.cells [.bool false, .nils])) H'
  ri : ∃ (i : Nat) (u : AV) (ds : List Nat), i ≤ d.length ∧ i ≤ 30 ∧ n = d.length - i ∧ H'.get H.next = some (.cells [.bool false, u]) ∧ NumR H' (.agg [.bool false, u]) false ds ∧ dval ds = digV (d.take i) ∧ 
    Env.at τ 0 = .str s ∧ Env.at τ 1 = .int .i64 most ∧ Env.at τ 7 = .str d ∧ Env.at τ 8 = .ptr H.next 0 ∧ Env.at τ 9 = .int .i64 i
theorem r36l_ok (h67 : FT 67 = some (.code A67)) (h39 : FT 39 = some (.code A39)) (h69 : FT 69 = some (.code A69)) (h76 : FT 76 = some (.code A76)) (h77 : FT 77 = some (.code A77)) (h68 : FT 68 = some (.code A68)) (h75 : FT 75 = some (.code A75)) (h74 : FT 74 = some (.code A74)) (h52 : FT 52 = some (.code A52))
    (hw : H.Wf) {s d : List Nat} (hd : d.all isDg = true) (hlen : d.length ≤ s.length) (hsl : s.length ≤ 1099511627776) (hhead : d.length > 30 → ∃ c r, d = c :: r ∧ 48 < c) {most : Int} (hm0 : -9223372036854775807 ≤ most) (hm : most ≤ 9223372036854775807)
    {τ : Env} (t0 : Env.at τ 0 = .str s) (t1 : Env.at τ 1 = .int .i64 most) (t7 : Env.at τ 7 = .str d) :
    Wp FT r36l τ H (finQ [.tmp 4, .tmp 5] fun r H' => r = .tup [.int .i64 (if most < 0 ∨ most < digV d then 0 else if d.length < s.length then -(digV d : Int) else digV d), .int .i64 (if most < 0 ∨ most < digV d then 10 else 0)] ∧ Ext H H') := by
  rw [r36l_eq]
  obtain ⟨g0, e0⟩ := push_new hw (.cells [.bool false, .nils])
  obtain ⟨H1, s1, g1, f1⟩ := store_whole (n := 2) (x := .agg [.bool false, .nils]) e0.wf rfl rfl hw.1 g0 rfl rfl
  simp [r36l, subAt, putAt, A62, s1]
  refine Wp_loop (Lp2 H d s most) ?_ d.length _ _ ⟨f1, 0, .nils, [], by omega, by omega, rfl, g1, ⟨Dg.nil, Nm.nil, by simp, .nils, rfl, rfl, .inl ⟨rfl, rfl⟩⟩, by simp [dval, digV], by simp [t0], by simp [t1], by simp [t7], by simp, by simp⟩
  rintro n τ H2 ⟨fr, i, u, ds, hi, hi30, rfl, g, hv, hval, t0, t1, t7, t8, t9⟩
  have ld : loadA H2 (some 2) (.ptr H.next 0) = some (.agg [.bool false, u]) := load_agg g (by simp [seg])
  have exH : Ext H H2 := ((e0.fr (S := [])).trans hw fr (by simp)).ext
  simp only [Wp_seq, Wp_region]
  by_cases hgo : i < d.length ∧ i < 30
  · obtain ⟨hc, hc30⟩ := hgo
    have hc30' : (i : Int) < 30 := by omega
    obtain ⟨b, hbi⟩ : ∃ b, d[i]? = some b := ⟨_, List.getElem?_eq_getElem hc⟩
    have hdb := all_get hd hbi
    have hb48 : 48 ≤ b ∧ b ≤ 57 := by simp [isDg] at hdb; omega
    have hidx : d[i] = b := (List.getElem?_eq_some_iff.1 hbi).2
    have hts := digV_take_succ hbi
    have htl : (d.take (i + 1)).all isDg = true := by
      rw [List.all_eq_true] at hd ⊢; exact fun x hx => hd x (List.mem_of_mem_take hx)
    have hlt := digV_all_lt htl
    have h13 : 10 ^ (d.take (i + 1)).length ≤ 10 ^ 30 := Nat.pow_le_pow_right (by omega) (by simp; omega)
    have h14 : (10 : Nat) ^ 30 ≤ 65536 ^ 7 := by decide
    have hdl : ds.length ≤ 7 := nm_len hv.nm (by rw [hval]; omega)
    simp [t7, t8, t9, hc, hc30', ld]
    refine (small39 h39 h52 exH.wf.up (n := 10) (by omega) (by omega)).quiet ?_
    rintro r10 H3 ⟨es, hes, hesv, e3⟩
    have e3' := e3.back exH.wf
    have hes' := hes.fl (f := H2.floor)
    generalize ({ t := H3.t, next := H3.next, floor := H2.floor } : Heap) = H3' at *
    have hel : es.length ≤ 1 := nm_len hes.nm (by rw [hesv]; decide)
    simp
    refine (times67 h67 h74 h52 e3'.wf (hv.ext e3') hes' (by omega)).mono ?_
    rintro r4 H4 ⟨ps, hps, hpsv, _, e4⟩
    have hpv : dval ps = 10 * digV (d.take i) := by rw [hpsv, hesv, hval]; simp; omega
    have hpl : ps.length ≤ 7 := nm_len hps.nm (by rw [hpv]; omega)
    have wb : IntKind.i64.wrap (b : Int) = b := wrap64 (by omega) (by omega)
    have wb2 : IntKind.i64.wrap ((b : Int) - 48) = ((b - 48 : Nat) : Int) := by rw [wrap64 (by omega) (by omega)]; omega
    simp [t7, t9, hc, hidx, byteA, wb, wb2]
    refine (small39 h39 h52 e4.wf (n := ((b - 48 : Nat) : Int)) (by omega) (by omega)).mono ?_
    rintro r5 H5 ⟨qs, hqs, hqsv, e5⟩
    have hql : qs.length ≤ 1 := nm_len hqs.nm (by rw [hqsv]; simp; omega)
    have hmd : decide (((b - 48 : Nat) : Int) < 0) = false := by simp
    rw [hmd] at hqs
    simp
    refine (plus68 h68 h75 h74 h52 e5.wf (hps.ext e5) hqs (by omega) (by omega)).mono ?_
    rintro r6 H6 ⟨m6, zs, hzs, hzv, hzm, _, e6⟩
    have hz : zval m6 zs = ((digV (d.take (i + 1)) : Nat) : Int) := by
      rw [hzv]; unfold zval; simp [hpv, hqsv]; omega
    obtain ⟨rfl, hzd⟩ := zval_nat hzm hzs.nm hz
    obtain ⟨u', rfl, hone⟩ := hzs.cells
    have e26 : Ext H2 H6 := (e3'.trans e4).trans (e5.trans e6)
    have g6 := e26.keep _ _ g
    have hfl6 : H6.floor ≤ H.next := by rw [e26.floor, exH.floor]; exact hw.1
    obtain ⟨H7, s7, g7, f7⟩ := store_whole (n := 2) (x := .agg [.bool false, u']) e26.wf rfl rfl hfl6 g6 rfl hone
    have hz7 := hzs.store g6 g7 hv.notInt f7
    have wi : IntKind.i64.wrap ((i : Int) + 1) = ((i + 1 : Nat) : Int) := wrap64 (by omega) (by omega)
    simp [-Int.natCast_add, t8, t9, s7, wi]
    exact ⟨_, by omega, (fr.thenE e0.wf e26).trans e0.wf f7 (by simp), i + 1, u', zs, by omega, by omega, rfl, g7, hz7, hzd, by simp [t0], by simp [t1], by simp [t7], by simp [t8], by simp⟩
  · have htk : d.take i = d.take 30 := by
      by_cases h : i < d.length
      · have : i = 30 := by omega
        rw [this]
      · rw [List.take_of_length_le (by omega), List.take_of_length_le (by omega)]
    rw [htk] at hval
    have fin : ∀ {τ : Env}, Env.at τ 0 = .str s → Env.at τ 1 = .int .i64 most → Env.at τ 7 = .str d → Env.at τ 8 = .ptr H.next 0 →
        Wp FT r36b τ H2 (finQ [.tmp 4, .tmp 5] fun r H' => r = .tup [.int .i64 (if most < 0 ∨ most < digV d then 0 else if d.length < s.length then -(digV d : Int) else digV d), .int .i64 (if most < 0 ∨ most < digV d then 10 else 0)] ∧ Ext H H') := by
      intro τ u0 u1 u7 u8
      refine (r36b_ok h39 h69 h76 h77 h68 h75 h74 h52 exH.wf hd hlen hsl hhead hm0 hm ⟨u, g, rfl⟩ hv hval u0 u1 u7 u8).fin ?_
      rintro r H' ⟨hr, hx⟩
      exact ⟨hr, exH.trans hx⟩
    by_cases hc : i < d.length
    · have hc30 : ¬ (i : Int) < 30 := by omega
      simp [t7, t9, hc, hc30]
      exact fin (by simp [t0]) (by simp [t1]) (by simp [t7]) (by simp [t8])
    · simp [t7, t9, hc]
      exact fin (by simp [t0]) (by simp [t1]) (by simp [t7]) (by simp [t8])
theorem r36k_ok (h67 : FT 67 = some (.code A67)) (h39 : FT 39 = some (.code A39)) (h69 : FT 69 = some (.code A69)) (h76 : FT 76 = some (.code A76)) (h77 : FT 77 = some (.code A77)) (h68 : FT 68 = some (.code A68)) (h75 : FT 75 = some (.code A75)) (h74 : FT 74 = some (.code A74)) (h52 : FT 52 = some (.code A52))
    (hw : H.Wf) {s : List Nat} (hd : (digsOf s).all isDg = true) (hsl : s.length ≤ 1099511627776) {most : Int} (hm0 : -9223372036854775807 ≤ most) (hm : most ≤ 9223372036854775807)
    {τ : Env} (t0 : Env.at τ 0 = .str s) (t1 : Env.at τ 1 = .int .i64 most) (t7 : Env.at τ 7 = .str (digsOf s)) :
    Wp FT r36k τ H (finQ [.tmp 4, .tmp 5] fun r H' => r = .tup [.int .i64 (numT s most).1, .int .i64 (numT s most).2] ∧ Ext H H') := by
  have hlen : (digsOf s).length ≤ s.length := by unfold digsOf; split <;> simp
  have hsv : (if (digsOf s).length < s.length then -(digV (digsOf s) : Int) else digV (digsOf s)) = sval s := by
    unfold digsOf sval
    cases s with
    | nil => simp
    | cons c r => split <;> simp
  have last : (wfN s = true) → ((digsOf s).length > 30 → ∃ c r, digsOf s = c :: r ∧ 48 < c) → ∀ {τ : Env}, Env.at τ 0 = .str s → Env.at τ 1 = .int .i64 most → Env.at τ 7 = .str (digsOf s) →
      Wp FT r36l τ H (finQ [.tmp 4, .tmp 5] fun r H' => r = .tup [.int .i64 (numT s most).1, .int .i64 (numT s most).2] ∧ Ext H H') := by
    intro hwf hh τ u0 u1 u7
    refine (r36l_ok h67 h39 h69 h76 h77 h68 h75 h74 h52 hw hd hlen hsl hh hm0 hm u0 u1 u7).fin ?_
    rintro r H' ⟨rfl, hx⟩
    refine ⟨?_, hx⟩
    have e1 : numT s most = if most < 0 ∨ most < digV (digsOf s) then (0, 10) else (sval s, 0) := by unfold numT; rw [hwf]; simp
    rw [e1, hsv]
    split <;> rfl
  rw [r36k_eq]
  generalize hD : digsOf s = D at *
  cases D with
  | nil =>
    have hx : numT s most = (0, 11) := by unfold numT wfN; rw [hD]; simp
    simp [r36k, subAt, putAt, A62, t7, hx]
    exact Ext.refl hw
  | cons c r =>
    have hl : (((r.length : Int) + 1) == 0) = false := by rw [beq_eq_false_iff_ne]; omega
    have hcd : isDg c = true := by simp at hd; exact hd.1
    by_cases h48 : c = 48
    · subst h48
      by_cases hs1 : s = [48]
      · have hwf : wfN s = true := by rw [hs1]; rfl
        have hr : r = [] := by rw [hs1] at hD; simp [digsOf] at hD; exact hD
        subst hr
        subst hs1
        simp [r36k, subAt, putAt, A62, t0, t7, byteA]
        exact last hwf (by simp) (by simp [t0]) (by simp [t1]) (by simp [t7])
      · have hx : numT s most = (0, 11) := by unfold numT wfN; rw [hD]; simp [hs1]
        have hsb : (s == [48]) = false := by simpa using hs1
        simp [r36k, subAt, putAt, A62, t0, t7, hl, byteA, hsb, hx]
        exact Ext.refl hw
    · have hb48 : ((c : Int) == 48) = false := by rw [beq_eq_false_iff_ne]; omega
      have hwf : wfN s = true := by unfold wfN; rw [hD]; simp [h48]; simpa using hd
      simp [r36k, subAt, putAt, A62, t7, hl, byteA, hb48]
      exact last hwf (fun _ => ⟨c, r, rfl, by simp [isDg] at hcd; omega⟩) (by simp [t0]) (by simp [t1]) (by simp [t7])
/-- All characters so far are such as a number may have. -/
def okTo (s : List Nat) (i : Nat) : Prop := ∀ j b, j < i → s[j]? = some b → okC j b = true
structure Lp1 (H : Heap) (s : List Nat) (most : Int) (n : Nat) (τ : Env) (H' : Heap) : Prop where
  hh : H' = H
  ri : ∃ i : Nat, i ≤ s.length ∧ n = s.length - i ∧ okTo s i ∧ Env.at τ 0 = .str s ∧ Env.at τ 1 = .int .i64 most ∧ Env.at τ 6 = .int .i64 i
theorem wfN_bad {s : List Nat} {i b : Nat} (h : s[i]? = some b) (hb : okC i b = false) : wfN s = false := by
  have hd : isDg b = false := by cases q : isDg b <;> simp [okC, q] at hb ⊢
  have hmem : b ∈ digsOf s := by
    unfold digsOf
    cases s with
    | nil => simp at h
    | cons c r =>
      split
      · rename_i q
        cases i with
        | zero =>
          simp at h q
          subst h
          subst q
          simp [okC] at hb
        | succ i => exact List.mem_of_getElem? (by simpa using h)
      · exact List.mem_of_getElem? h
  have : (digsOf s).all isDg = false := by rw [List.all_eq_false]; exact ⟨b, hmem, by simp [hd]⟩
  unfold wfN; rw [this]; simp
theorem okTo_all {s : List Nat} (h : okTo s s.length) : (digsOf s).all isDg = true := by
  rw [List.all_eq_true]
  intro b hb
  unfold digsOf at hb
  cases s with
  | nil => simp at hb
  | cons c r =>
    split at hb
    · obtain ⟨i, hi⟩ := List.getElem?_of_mem hb
      have hl : i < r.length := (List.getElem?_eq_some_iff.1 hi).1
      have := h (i + 1) b (by simp; omega) (by simpa using hi)
      simpa [okC] using this
    · rename_i q
      obtain ⟨i, hi⟩ := List.getElem?_of_mem hb
      have hl : i < (c :: r).length := (List.getElem?_eq_some_iff.1 hi).1
      have := h i b hl hi
      cases i with
      | succ i => simpa [okC] using this
      | zero =>
        simp at hi q
        subst hi
        simpa [okC, q] using this
theorem number62 (h62 : FT 62 = some (.code A62)) (h67 : FT 67 = some (.code A67)) (h39 : FT 39 = some (.code A39)) (h69 : FT 69 = some (.code A69)) (h76 : FT 76 = some (.code A76)) (h77 : FT 77 = some (.code A77)) (h68 : FT 68 = some (.code A68)) (h75 : FT 75 = some (.code A75)) (h74 : FT 74 = some (.code A74)) (h52 : FT 52 = some (.code A52))
    (hw : H.Wf) {s : List Nat} (hs : ∀ b, b ∈ s → b < 256) (hsl : s.length ≤ 1099511627776) {most : Int} (hm0 : -9223372036854775807 ≤ most) (hm : most ≤ 9223372036854775807) :
    Cp FT 62 [.str s, .int .i64 most] H (fun r H' => r = .tup [.int .i64 (numT s most).1, .int .i64 (numT s most).2] ∧ Ext H H') := by
  refine Cp_code A62 h62 rfl ?_
  rw [body62]
  have hA : A62.results = [.tmp 4, .tmp 5] := rfl
  rw [hA]
  simp [A62, putAt]
  refine Wp_loop (Lp1 H s most) ?_ s.length _ _ ⟨rfl, 0, by omega, rfl, fun j b hj => by omega, by simp, by simp, by simp⟩
  rintro n τ H ⟨rfl, i, hi, rfl, hok, t0, t1, t6⟩
  simp only [Wp_seq, Wp_region]
  by_cases hc : i < s.length
  · obtain ⟨b, hbi⟩ : ∃ b, s[i]? = some b := ⟨_, List.getElem?_eq_getElem hc⟩
    have hidx : s[i] = b := (List.getElem?_eq_some_iff.1 hbi).2
    have hb := hs b (List.mem_of_getElem? hbi)
    have wi : IntKind.i64.wrap ((i : Int) + 1) = ((i + 1 : Nat) : Int) := wrap64 (by omega) (by omega)
    have nxt : okC i b = true → okTo s (i + 1) := fun q j b' hj hb' => by
      by_cases h : j = i
      · subst h; rw [hbi] at hb'; cases hb'; exact q
      · exact hok j b' (by omega) hb'
    have bad : okC i b = false → numT s most = (0, 11) := fun q => by unfold numT; rw [wfN_bad hbi q]; simp
    by_cases c1 : b < 48
    · have c1' : (b : Int) < 48 := by omega
      have hnd : isDg b = false := by simp [isDg]; omega
      by_cases h0 : i = 0
      · subst h0
        by_cases h68 : b = 45
        · subst h68
          have t6' : Env.at τ 6 = .int .i64 0 := by simpa using t6
          simp at wi
          simp [t0, t6', hc, hidx, byteA]
          exact ⟨_, by omega, rfl, 1, by omega, rfl, nxt rfl, by simp [t0], by simp [t1], by simp [wi]⟩
        · have hb45 : ((b : Int) != 45) = true := by rw [bne_iff_ne]; omega
          have hx := bad (by simp [okC, hnd, h68])
          have t6' : Env.at τ 6 = .int .i64 0 := by simpa using t6
          simp [t0, t6', hc, hidx, byteA, c1', hb45, hx]
          exact Ext.refl hw
      · have hi0 : 0 < i := by omega
        have hx := bad (by simp [okC, hnd, h0])
        simp [t0, t6, hc, hidx, byteA, c1', hi0, hx]
        exact Ext.refl hw
    · have c1' : ¬ (b : Int) < 48 := by omega
      by_cases c2 : 57 < b
      · have c2' : (57 : Int) < b := by omega
        have hnd : isDg b = false := by simp [isDg]; omega
        have h68 : b ≠ 45 := by omega
        have hb45 : ((b : Int) != 45) = true := by rw [bne_iff_ne]; omega
        by_cases h0 : i = 0
        · subst h0
          have hx := bad (by simp [okC, hnd, h68])
          have t6' : Env.at τ 6 = .int .i64 0 := by simpa using t6
          simp [t0, t6', hc, hidx, byteA, c1', c2', hb45, hx]
          exact Ext.refl hw
        · have hi0 : 0 < i := by omega
          have hx := bad (by simp [okC, hnd, h0])
          simp [t0, t6, hc, hidx, byteA, c1', c2', hi0, hx]
          exact Ext.refl hw
      · have c2' : ¬ (57 : Int) < b := by omega
        have hnd : isDg b = true := by simp [isDg]; omega
        simp [-Int.natCast_add, t0, t6, hc, hidx, byteA, c1', c2', wi]
        exact ⟨_, by omega, rfl, i + 1, by omega, rfl, nxt (by simp [okC, hnd]), by simp [t0], by simp [t1], by simp⟩
  · have hin : i = s.length := by omega
    subst hin
    have hall := okTo_all hok
    have hcc : ¬ ((s.length : Int) < s.length) := by omega
    have fin : ∀ {τ : Env}, Env.at τ 0 = .str s → Env.at τ 1 = .int .i64 most → Env.at τ 7 = .str (digsOf s) → Wp FT r36k τ H (finQ [.tmp 4, .tmp 5] fun r H' => r = .tup [.int .i64 (numT s most).1, .int .i64 (numT s most).2] ∧ Ext H H') := fun u0 u1 u7 =>
      r36k_ok h67 h39 h69 h76 h77 h68 h75 h74 h52 hw hall hsl hm0 hm u0 u1 u7
    simp [t0, t6]
    rw [r36a_eq]
    cases s with
    | nil =>
      simp [r36a, subAt, putAt, A62, t0]
      exact fin (by simp [t0]) (by simp [t1]) (by simp [digsOf])
    | cons c r =>
      have hl : (0 : Int) < (r.length : Int) + 1 := by omega
      by_cases h68 : c = 45
      · subst h68
        simp [r36a, subAt, putAt, A62, t0, hl, byteA, slSA_tail]
        exact fin (by simp [t0]) (by simp [t1]) (by simp [digsOf])
      · have hb45 : ((c : Int) == 45) = false := by rw [beq_eq_false_iff_ne]; omega
        simp [r36a, subAt, putAt, A62, t0, hl, byteA, hb45]
        exact fin (by simp [t0]) (by simp [t1]) (by simp [digsOf, h68])
end
end Go.Proofs.YtacfhbhfgbjleaaDoor
