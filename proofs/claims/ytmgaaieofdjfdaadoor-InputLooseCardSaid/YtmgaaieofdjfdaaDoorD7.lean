/- The document's numbers by digits: sums, comparisons. No claim by itself. -/
import Derived.Test.YtmgaaieofdjfdaaDoorD6
namespace Go.Proofs.YtmgaaieofdjfdaaDoor
open Go Go.AI
theorem dval_take_getD (l : List Nat) (k : Nat) : dval (l.take (k + 1)) = dval (l.take k) + 65536 ^ k * (l[k]?).getD 0 := by
  cases hq : l[k]? with
  | some z => exact dval_take_succ hq
  | none =>
    have : l.length ≤ k := by simpa using hq
    rw [List.take_of_length_le (by omega), List.take_of_length_le (by omega)]; simp
theorem getD_lt {l : List Nat} (h : Dg l) (k : Nat) : (l[k]?).getD 0 < 65536 := by
  cases hq : l[k]? with
  | none => simp
  | some z => simpa using h z (List.mem_of_getElem? hq)
theorem step_add {D R S P ai bi c r c' : Nat} (h0 : D + P * c = R + S) (hx : ai + bi + c = r + 65536 * c') : D + P * r + P * 65536 * c' = R + P * ai + (S + P * bi) := by
  have e := congrArg (fun z => P * z) hx
  simp only [Nat.mul_add] at e
  have e1 : P * (65536 * c') = P * 65536 * c' := by rw [← Nat.mul_assoc]
  rw [e1] at e
  omega
theorem step_sub {D R S P ai bi c r c' : Nat} (h0 : R + P * c = D + S) (hx : ai + 65536 * c' = r + bi + c) : R + P * ai + P * 65536 * c' = D + P * r + (S + P * bi) := by
  have e := congrArg (fun z => P * z) hx
  simp only [Nat.mul_add] at e
  have e1 : P * (65536 * c') = P * 65536 * c' := by rw [← Nat.mul_assoc]
  rw [e1] at e
  omega
theorem dval_snoc (l : List Nat) (x : Nat) : dval (l ++ [x]) = dval l + 65536 ^ l.length * x := by rw [dval_append]; simp [dval]
section
variable {FT : Nat → Option FnD} {H : Heap}
structure Add45 (H H3 : Heap) (a b : List Nat) (n : Nat) (τ : Env) (H' : Heap) : Prop where
  ex : Ext H H'
  ex3 : Ext H3 H'
  ri : ∃ (ds : List Nat) (w : AV) (c i : Nat), Mine 1 n64c H3 H' w ds ∧ Dg ds ∧ ds.length = i ∧ c ≤ 1 ∧ i ≤ max a.length b.length + 1 ∧ n = max a.length b.length + 1 - i ∧ (i = max a.length b.length + 1 → c = 0) ∧
    dval ds + 65536 ^ i * c = dval (a.take i) + dval (b.take i) ∧
    Env.at τ 2 = .ptr H.next 0 ∧ Env.at τ 3 = .ptr (H.next + 1) 0 ∧ Env.at τ 4 = .ptr (H.next + 2) 0 ∧ Env.at τ 5 = w ∧ Env.at τ 6 = .int .i64 c ∧ Env.at τ 7 = .int .i64 i
structure Sub45 (H H3 : Heap) (o9 o10 : Nat) (a b : List Nat) (n : Nat) (τ : Env) (H' : Heap) : Prop where
  ex : Ext H H'
  ex3 : Ext H3 H'
  ri : ∃ (ds : List Nat) (w : AV) (c i : Nat), Mine 1 n64c H3 H' w ds ∧ Dg ds ∧ ds.length = i ∧ c ≤ 1 ∧ i ≤ a.length ∧ n = a.length - i ∧ dval (a.take i) + 65536 ^ i * c = dval ds + dval (b.take i) ∧
    Env.at τ 4 = .ptr (H.next + 2) 0 ∧ Env.at τ 5 = w ∧ Env.at τ 6 = .int .i64 c ∧ Env.at τ 9 = .ptr o9 0 ∧ Env.at τ 10 = .ptr o10 0 ∧ Env.at τ 11 = .int .i64 i
def Sum45 (H H' : Heap) (ma mb : Bool) (a b : List Nat) (r : AV) : Prop := ∃ m ds, NumR H' r m ds ∧ zval m ds = zval ma a + zval mb b ∧ (m = true → ds ≠ []) ∧ ds.length ≤ max a.length b.length + 1 ∧ Ext H H'
def rest45 : ACode := subAt [1,1,1,1,1,1,1] A45.body
def rest45a : ACode := subAt [1,1,1,0,1,0,1] A45.body
theorem body45 : A45.body = putAt [1,1,1,1,1,1,1] (putAt [1,1,1,0,1,0,1] A45.body rest45a) rest45 := rfl
/-- The end: a list of digits, trimmed, with a sign. -/
theorem fin45 (h37 : FT 37 = some (.code A37)) {H1 : Heap} (hw : H.Wf) {o : Nat} (ho : H.next ≤ o) (ex : Ext H H1) (go : H1.get o = some (.cells [.bool false, .nils])) {w : AV} {H3 : Heap} {ds : List Nat} (mi : Mine 1 n64c H3 H1 w ds) (h3 : o < H3.next) (dg : Dg ds) (hl : ds.length ≤ 95) {m : Bool}
    {K : AV → Heap → Prop} (k : ∀ (u : AV) (m' : Bool) (H6 : Heap), (∃ H7, storeA H6 2 (.ptr o 0) (.agg [.bool m', u]) = some (undefA, H7) ∧ H7.cellsAt o = some [.bool m', u] ∧ NumR H7 (.agg [.bool m', u]) (m && decide (trimD ds ≠ [])) (trimD ds) ∧ Ext H H7) → K (.agg [.bool m', u]) H6) :
    Cp FT 37 [.bool m, w] H1 K := by
  refine (trim37 h37 ex.wf (mi.sl n64c_len) (Ow.cap mi.ow) (by omega)).mono ?_
  rintro _ H6 ⟨u, rfl, hcu, hu, hru, e6⟩
  obtain ⟨ou, cu⟩ := hu.one
  have hm : (m && !(trimD ds).isEmpty) = (m && decide (trimD ds ≠ [])) := by cases m <;> cases trimD ds <;> rfl
  have htl := trimD_len ds
  refine k u _ H6 ?_
  obtain ⟨H7, s7, g7, f7⟩ := store_whole (n := 2) (x := .agg [.bool (m && !(trimD ds).isEmpty), u]) e6.wf rfl rfl (by rw [e6.floor, ex.floor]; have := hw.1; omega) (e6.keep _ _ go) rfl (by simp [allOne_of ou])
  have ex7 : Ext H H7 := (((ex.trans e6).fr (S := [])).trans hw f7 (by simp; omega)).ext
  exact ⟨H7, s7, cellsAt_get g7, ⟨trimD_dg dg, trimD_nm ds, by omega, u, by rw [hm], hcu, hu.fr f7 (fun p q => by have h9 := mi.new p (hru p q); simp; omega)⟩, ex7⟩
/-- The lesser number taken from the greater one. -/
theorem sub45 (h51 : FT 51 = some (.code A51)) (h37 : FT 37 = some (.code A37)) {H3 H4 : Heap} (hw : H.Wf) (_hw3 : H3.Wf) (e03 : Ext H H3) (ex : Ext H3 H4) {o9 o10 : Nat} {u v : AV} {m m2 : Bool} {a b : List Nat} (hu : Nats H3 u a) (hv : Nats H3 v b) (dga : Dg a) (dgb : Dg b) (_na : Nm a) (nb : Nm b) (la : a.length ≤ 90) (lb : b.length ≤ 90)
    (hge : dval b ≤ dval a) (hn3 : H3.next ≥ H.next + 3) (g9 : H4.get o9 = some (.cells [.bool m, u])) (g10 : H4.get o10 = some (.cells [.bool m2, v])) (go : H3.get (H.next + 2) = some (.cells [.bool false, .nils]))
    {τ : Env} (t4 : Env.at τ 4 = .ptr (H.next + 2) 0) (t5 : Env.at τ 5 = .nils) (t6 : Env.at τ 6 = .int .i64 0) (t9 : Env.at τ 9 = .ptr o9 0) (t10 : Env.at τ 10 = .ptr o10 0) :
    Wp FT rest45 τ H4 (finQ [.cell 4 (some 2)] fun r H' => ∃ ds, NumR H' r (m && decide (ds ≠ [])) ds ∧ dval ds = dval a - dval b ∧ ds.length ≤ a.length ∧ Ext H H') := by
  simp [rest45, subAt, A45]
  refine Wp_loop (Sub45 H H4 o9 o10 a b) ?_ a.length _ _ ⟨e03.trans ex, Ext.refl ex.wf, [], .nils, 0, 0, Mine.nil, Dg.nil, rfl, by omega, by omega, rfl, by simp [dval], by simp [t4], by simp [t5], by simp [t6], by simp [t9], by simp [t10], by simp⟩
  have hba : b.length ≤ a.length := by
    refine Classical.byContradiction fun q => ?_
    have h1 := dval_lt dga
    have h2 := dval_ge nb (fun r => by rw [r] at q; simp at q)
    have h3 : 65536 ^ a.length ≤ 65536 ^ (b.length - 1) := Nat.pow_le_pow_right (by omega) (by omega)
    omega
  rintro n τ H5 ⟨ex0, ex4, ds, w, c, i, mi, dg, hdl, hc1, hi, rfl, hval, t4, t5, t6, t9, t10, t11⟩
  have l9 : loadA H5 none (.ptr o9 1) = some u := load_get (ex4.keep _ _ g9) rfl
  have l90 : loadA H5 none (.ptr o9 0) = some (.bool m) := load_get (ex4.keep _ _ g9) rfl
  have l10 : loadA H5 none (.ptr o10 1) = some v := load_get (ex4.keep _ _ g10) rfl
  simp only [Wp_seq, Wp_region]
  by_cases hgo : i < a.length
  · obtain ⟨p, ai, hai, hp, hld⟩ := Nats.idx (hu.ext (ex.trans ex4)) (k := .i64) hgo
    have ha6 := dga ai (List.mem_of_getElem? hai)
    have hbx := digit51 (H := H5.up) h51 (hv.ext (ex.trans ex4)).up (by omega) (i := i) (by omega)
    have hb6 := getD_lt dgb i
    have hta := dval_take_succ hai
    have htb := dval_take_getD b i
    generalize (b[i]?).getD 0 = bi at *
    have w1 : IntKind.i64.wrap ((ai : Int) - (bi : Int)) = (ai : Int) - bi := wrap64 (by omega) (by omega)
    have w2 : IntKind.i64.wrap ((ai : Int) - (bi : Int) - (c : Int)) = (ai : Int) - bi - c := wrap64 (by omega) (by omega)
    have wi : IntKind.i64.wrap ((i : Int) + 1) = ((i + 1 : Nat) : Int) := wrap64 (by omega) (by omega)
    have step : ∀ (x c' : Nat), ai + 65536 * c' = x + bi + c → x < 65536 → c' ≤ 1 → ∃ w' H6, appendA 1 8 (H5.push (.cells [.int .i64 (x : Int)])) w (.slc H5.next 0 1 1 1 true) = some (w', H6) ∧
        ∀ {τ' : Env}, Env.at τ' 4 = .ptr (H.next + 2) 0 → Env.at τ' 5 = w' → Env.at τ' 6 = .int .i64 c' → Env.at τ' 9 = .ptr o9 0 → Env.at τ' 10 = .ptr o10 0 → Env.at τ' 11 = .int .i64 ((i + 1 : Nat) : Int) → ∃ m', m' < a.length - i ∧ Sub45 H H4 o9 o10 a b m' τ' H6 := by
      intro x c' hx hx6 hc'
      obtain ⟨w', H6, ap, mi2, f6, _⟩ := mi.app1 n64c_len (by omega) n64c_one ex0.wf ex4.next x (bytes := 8) (by omega)
      have ex46 : Ext H4 H6 := ((ex4.fr (S := [])).trans ex.wf f6 (by intro p hp; right; simp at hp; exact mi.new p hp)).ext
      refine ⟨w', H6, ap, fun q4 q5 q6 q9 q10 q11 => ⟨a.length - (i + 1), by omega, (e03.trans ex).trans ex46, ex46, ds ++ [x], w', c', i + 1, mi2, dg.app (Dg.one hx6), by simp [hdl], hc', by omega, rfl, ?_, q4, q5, q6, q9, q10, q11⟩⟩
      rw [dval_snoc, hdl, hta, htb, Nat.pow_succ]
      exact step_sub hval (by omega)
    simp [t9, t10, t11, l9, l10, hu.len, hgo, hp, hld]
    refine hbx.quietEq ?_
    by_cases hneg : (ai : Int) - bi - c < 0
    · have wn : IntKind.i64.wrap ((ai : Int) - bi - c + 65536) = ((ai + 65536 - bi - c : Nat) : Int) := by rw [wrap64 (by omega) (by omega)]; omega
      obtain ⟨w', H6, ap, fin⟩ := step (ai + 65536 - bi - c) 1 (by omega) (by omega) (by omega)
      simp [t5, t6, t11, w1, w2, hneg, wn, ap, wi]
      exact fin (by simp [t4]) (by simp) (by simp) (by simp [t9]) (by simp [t10]) (by simp)
    · have wn : (ai : Int) - bi - c = ((ai - bi - c : Nat) : Int) := by omega
      obtain ⟨w', H6, ap, fin⟩ := step (ai - bi - c) 0 (by omega) (by omega) (by omega)
      rw [wn] at w2 hneg
      simp [t5, t6, t11, w1, wn, w2, hneg, ap, wi]
      exact fin (by simp [t4]) (by simp) (by simp) (by simp [t9]) (by simp [t10]) (by simp)
  · have hia : i = a.length := by omega
    subst hia
    rw [List.take_length, List.take_of_length_le hba] at hval
    have hlt := dval_lt dg
    rw [hdl] at hlt
    have hc0 : c = 0 := by
      refine Classical.byContradiction fun q => ?_
      have : c = 1 := by omega
      rw [this] at hval; omega
    subst hc0
    simp at hval
    simp [t9, t11, l9, hu.len]
    simp [t5, l90]
    refine fin45 (o := H.next + 2) h37 hw (by omega) ex0 (ex4.keep _ _ (ex.keep _ _ go)) mi (by have := ex.next; omega) dg (by omega) ?_
    rintro u' m' H6 ⟨H7, s7, g7, n7, e7⟩
    have htl := trimD_len ds
    simp [t4, s7, resultsA, resultA, g7, partA, seg, packA]
    exact ⟨trimD ds, by simpa using n7, by rw [trimD_val]; omega, by omega, e7⟩
theorem plus45 (h45 : FT 45 = some (.code A45)) (h52 : FT 52 = some (.code A52)) (h51 : FT 51 = some (.code A51)) (h37 : FT 37 = some (.code A37)) (hw : H.Wf) {x y : AV} {ma mb : Bool} {a b : List Nat} (ha : NumR H x ma a) (hb : NumR H y mb b) (la : a.length ≤ 90) (lb : b.length ≤ 90) :
    Cp FT 45 [x, y] H (fun r H' => Sum45 H H' ma mb a b r) := by
  obtain ⟨dga, nma, lena, u, rfl, hcu, hu⟩ := ha
  obtain ⟨dgb, nmb, lenb, v, rfl, hcv, hv⟩ := hb
  refine Cp_code A45 h45 rfl ?_
  rw [body45]
  have hA : A45.results = [.cell 4 (some 2)] := rfl
  rw [hA]
  obtain ⟨ou, cu⟩ := hu.one
  obtain ⟨ov, cv⟩ := hv.one
  have hou : allOne [AV.bool ma, u] = true := by simp [allOne_of ou]
  have hov : allOne [AV.bool mb, v] = true := by simp [allOne_of ov]
  obtain ⟨g0, e0⟩ := push_new hw (.cells [.bool ma, u])
  obtain ⟨g1, e1⟩ := push_new e0.wf (.cells [.bool mb, v])
  obtain ⟨g2, e2⟩ := push_new e1.wf (.cells [.bool false, .nils])
  have e02 := (e0.trans e1).trans e2
  have g0' := e2.keep _ _ (e1.keep _ _ g0)
  have g1' := e2.keep _ _ g1
  simp [A45, putAt, hou, hov]
  generalize hH3 : ((H.push (.cells [.bool ma, u])).push (.cells [.bool mb, v])).push (.cells [.bool false, .nils]) = H3 at *
  have hn3 : H3.next = H.next + 3 := by rw [← hH3]; rfl
  have g1' : H3.get (H.next + 1) = some (.cells [.bool mb, v]) := g1'
  have g2' : H3.get (H.next + 2) = some (.cells [.bool false, .nils]) := g2
  have ld : ∀ {H' : Heap}, Ext H3 H' → loadA H' none (.ptr H.next 1) = some u ∧ loadA H' none (.ptr (H.next + 1) 1) = some v ∧ loadA H' none (.ptr H.next 0) = some (.bool ma) ∧ loadA H' none (.ptr (H.next + 1) 0) = some (.bool mb) ∧
      loadA H' (some 2) (.ptr H.next 0) = some (.agg [.bool ma, u]) ∧ loadA H' (some 2) (.ptr (H.next + 1) 0) = some (.agg [.bool mb, v]) := fun k =>
    ⟨load_get (k.keep _ _ g0') rfl, load_get (k.keep _ _ g1') rfl, load_get (k.keep _ _ g0') rfl, load_get (k.keep _ _ g1') rfl, load_agg (k.keep _ _ g0') (by simp [seg]), load_agg (k.keep _ _ g1') (by simp [seg])⟩
  obtain ⟨l0, l1, lm0, lm1, lw0, lw1⟩ := ld (Ext.refl e2.wf)
  by_cases hm : ma = mb
  · subst hm
    simp [lm0, lm1]
    refine Wp_loop (Add45 H H3 a b) ?_ (max a.length b.length + 1) _ _ ⟨e02, Ext.refl e2.wf, [], .nils, 0, 0, Mine.nil, Dg.nil, rfl, by omega, by omega, rfl, by omega, by simp [dval], by simp, by simp, by simp, by simp, by simp, by simp⟩
    rintro n τ H5 ⟨ex, ex3, ds, w, c, i, mi, dg, hdl, hc1, hi, rfl, hic, hval, t2, t3, t4, t5, t6, t7⟩
    obtain ⟨l0, l1, lm0, lm1, lw0, lw1⟩ := ld ex3
    simp only [Wp_seq, Wp_region]
    by_cases hgo : i < a.length ∨ i < b.length ∨ 0 < c
    · have him : i ≤ max a.length b.length := by
        refine Classical.byContradiction fun q => ?_
        have := hic (by omega)
        rcases hgo with r | r | r <;> omega
      have hax := digit51 (H := H5.up) h51 (hu.ext ex).up (by omega) (i := i) (by omega)
      have hbx := digit51 (H := H5) h51 (hv.ext ex) (by omega) (i := i) (by omega)
      have ha6 := getD_lt dga i
      have hb6 := getD_lt dgb i
      have hta := dval_take_getD a i
      have htb := dval_take_getD b i
      generalize (a[i]?).getD 0 = ai at *
      generalize (b[i]?).getD 0 = bi at *
      have wab : IntKind.i64.wrap ((ai : Int) + (bi : Int)) = ((ai + bi : Nat) : Int) := by rw [wrap64 (by omega) (by omega)]; omega
      have wc : IntKind.i64.wrap (((ai + bi : Nat) : Int) + (c : Int)) = ((ai + bi + c : Nat) : Int) := by rw [wrap64 (by omega) (by omega)]; omega
      obtain ⟨X, hX⟩ : ∃ X : Nat, X = ai + bi + c := ⟨_, rfl⟩
      rw [← hX] at wc
      have hrem : (X : Int).tmod 65536 = ((X % 65536 : Nat) : Int) := rfl
      have hquo : (X : Int).tdiv 65536 = ((X / 65536 : Nat) : Int) := rfl
      have wq : IntKind.i64.wrap ((X / 65536 : Nat) : Int) = ((X / 65536 : Nat) : Int) := wrap64 (by omega) (by omega)
      have wi : IntKind.i64.wrap ((i : Int) + 1) = ((i + 1 : Nat) : Int) := wrap64 (by omega) (by omega)
      obtain ⟨w', H6, ap, mi2, f6, _⟩ := mi.app1 n64c_len (by omega) n64c_one ex.wf ex3.next (X % 65536) (bytes := 8) (by omega)
      have ex36 : Ext H3 H6 := ((ex3.fr (S := [])).trans e2.wf f6 (by intro p hp; right; simp at hp; exact mi.new p hp)).ext
      simp only [n64c] at ap
      have fin : ∀ {τ' : Env}, Env.at τ' 2 = .ptr H.next 0 → Env.at τ' 3 = .ptr (H.next + 1) 0 → Env.at τ' 4 = .ptr (H.next + 2) 0 → Env.at τ' 5 = w' → Env.at τ' 6 = .int .i64 ((X / 65536 : Nat) : Int) → Env.at τ' 7 = .int .i64 ((i + 1 : Nat) : Int) →
          ∃ m', m' < max a.length b.length + 1 - i ∧ Add45 H H3 a b m' τ' H6 := by
        intro τ' q2 q3 q4 q5 q6 q7
        refine ⟨max a.length b.length + 1 - (i + 1), by omega, e02.trans ex36, ex36, ds ++ [X % 65536], w', X / 65536, i + 1, mi2, dg.app (Dg.one (by omega)), by simp [hdl], by omega, by omega, rfl, fun q => ?_, ?_, q2, q3, q4, q5, q6, q7⟩
        · have h1 : a.length ≤ i := by omega
          have h2 : b.length ≤ i := by omega
          rw [List.take_of_length_le h1, List.take_of_length_le (by omega)] at hta
          rw [List.take_of_length_le h2, List.take_of_length_le (by omega)] at htb
          have hp : 0 < 65536 ^ i := Nat.pow_pos (by omega)
          have h3 : ai = 0 := by
            rcases Nat.mul_eq_zero.1 (show 65536 ^ i * ai = 0 by omega) with r | r
            · omega
            · exact r
          have h4 : bi = 0 := by
            rcases Nat.mul_eq_zero.1 (show 65536 ^ i * bi = 0 by omega) with r | r
            · omega
            · exact r
          omega
        · rw [dval_snoc, hdl, hta, htb, Nat.pow_succ]
          exact step_add hval (by omega)
      by_cases h1 : i < a.length
      · simp [t2, t7, l0, hu.len, h1]
        refine hax.quietEq ?_
        simp [t3, t7, l1]
        refine hbx.mono ?_
        rintro _ H5 ⟨rfl, rfl⟩
        simp [-Int.natCast_add, -Int.natCast_emod, -Int.natCast_ediv, t5, t6, t7, wab, wc, hrem, hquo, wq, ap, wi]
        exact fin (by simp [t2]) (by simp [t3]) (by simp [t4]) (by simp) (by simp) (by simp)
      · by_cases h2 : i < b.length
        · simp [t2, t3, t7, l0, l1, hu.len, hv.len, h1, h2]
          refine hax.quietEq ?_
          simp [t3, t7, l1]
          refine hbx.mono ?_
          rintro _ H5 ⟨rfl, rfl⟩
          simp [-Int.natCast_add, -Int.natCast_emod, -Int.natCast_ediv, t5, t6, t7, wab, wc, hrem, hquo, wq, ap, wi]
          exact fin (by simp [t2]) (by simp [t3]) (by simp [t4]) (by simp) (by simp) (by simp)
        · have h3 : 0 < c := by omega
          simp [t2, t3, t6, t7, l0, l1, hu.len, hv.len, h1, h2, h3]
          refine hax.quietEq ?_
          simp [t3, t7, l1]
          refine hbx.mono ?_
          rintro _ H5 ⟨rfl, rfl⟩
          simp [-Int.natCast_add, -Int.natCast_emod, -Int.natCast_ediv, t5, t6, t7, wab, wc, hrem, hquo, wq, ap, wi]
          exact fin (by simp [t2]) (by simp [t3]) (by simp [t4]) (by simp) (by simp) (by simp)
    · have h1 : ¬ i < a.length := fun q => hgo (.inl q)
      have h2 : ¬ i < b.length := fun q => hgo (.inr (.inl q))
      have h3 : c = 0 := by omega
      subst h3
      rw [List.take_of_length_le (by omega), List.take_of_length_le (by omega)] at hval
      simp at hval
      simp [t2, t3, t6, t7, l0, l1, hu.len, hv.len, h1, h2]
      simp [rest45a, subAt, A45, t2, t5, lm0]
      refine fin45 (o := H.next + 2) h37 hw (by omega) ex (ex3.keep _ _ g2') mi (by omega) dg (by omega) ?_
      rintro u' m' H6 ⟨H7, s7, g7, n7, e7⟩
      simp [t4, s7, resultsA, resultA, g7, partA, seg, packA]
      refine ⟨_, _, n7, ?_, by simp, by have := trimD_len ds; omega, e7⟩
      unfold zval
      rw [trimD_val, hval]
      cases ma with
      | false => simp
      | true =>
        by_cases hz : trimD ds = []
        · have : dval ds = 0 := by rw [← trimD_val, hz]; rfl
          simp [hz]; omega
        · simp [hz]; omega
  · have hmb : (ma == mb) = false := by simpa using hm
    have hsz := size52 h52 (hu.ext e02) (hv.ext e02) dga dgb nma nmb (by omega) (by omega)
    have hz : ∀ {m : Bool} {ds : List Nat} {A B : List Nat}, dval B ≤ dval A → dval ds = dval A - dval B → zval (m && decide (ds ≠ [])) ds = zval m A + zval (!m) B := by
      intro m ds A B h1 h2
      unfold zval
      cases m with
      | false => simp; omega
      | true =>
        by_cases hd : ds = []
        · have : dval ds = 0 := by rw [hd]; rfl
          simp [hd, dval]; omega
        · simp [hd]; omega
    obtain ⟨g9, e9⟩ := push_new e2.wf (.cells [.bool ma, u])
    obtain ⟨g10, e10⟩ := push_new e9.wf (.cells [.bool mb, v])
    -- the two copies
    obtain ⟨H4, s4, g4, e4, n4⟩ := store_new e2.wf (z := [.bool false, .nils]) (n := 2) (x := .agg [.bool ma, u]) (cs := [.bool ma, u]) rfl rfl rfl hou
    obtain ⟨_, _, _, _, _, lw14⟩ := ld e4
    obtain ⟨H5, s5, g5, e5, n5⟩ := store_new e4.wf (z := [.bool false, .nils]) (n := 2) (x := .agg [.bool mb, v]) (cs := [.bool mb, v]) rfl rfl rfl hov
    have e35 := e4.trans e5
    obtain ⟨l05, l15, _, _, lw05, lw15⟩ := ld e35
    have g45 := e5.keep _ _ g4
    have hne : H4.next ≠ H3.next := by omega
    have hsz5 := size52 h52 (hu.ext (e02.trans e35)) (hv.ext (e02.trans e35)) dga dgb nma nmb (by omega) (by omega)
    simp [lm0, lm1, hmb, lw0, s4, lw14, s5, l05, l15]
    refine hsz5.mono ?_
    rintro _ H5 ⟨n, rfl, hn1, hn2, rfl⟩
    by_cases hneg : n < 0
    · have hlt := hn1.1 hneg
      have hfl : H5.floor ≤ H3.next := by rw [e35.floor]; exact e2.wf.1
      obtain ⟨H6, s6, g6, f6⟩ := store_whole (n := 2) (x := .agg [.bool mb, v]) e35.wf rfl rfl hfl g45 rfl hov
      have e36 : Ext H3 H6 := ((e35.fr (S := [])).trans e2.wf f6 (by simp)).ext
      obtain ⟨_, _, _, _, lw06, _⟩ := ld e36
      have g56 := f6.keep _ _ (by simp [hne]) g5
      obtain ⟨H7, s7, g7, f7⟩ := store_whole (n := 2) (x := .agg [.bool ma, u]) f6.wf rfl rfl (by rw [e36.floor]; have := e2.wf.1; omega) g56 rfl hou
      have e37 : Ext H3 H7 := ((e36.fr (S := [])).trans e2.wf f7 (by simp; omega)).ext
      have g67 := f7.keep _ _ (by simp; omega) g6
      simp [hneg, lw15, s6, lw06, s7]
      refine (sub45 h51 h37 hw e2.wf e02 e37 (hv.ext e02) (hu.ext e02) dgb dga nmb nma lb la (by omega) (by omega) g67 g7 g2' (by simp) (by simp) (by simp) (by simp) (by simp)).fin ?_
      rintro r H' ⟨ds, k1, k2, k3, k4⟩
      refine ⟨_, ds, k1, ?_, by simp, by omega, k4⟩
      rw [hz (by omega) k2]
      cases ma <;> cases mb <;> simp at hm ⊢ <;> omega
    · have hge : dval b ≤ dval a := by
        refine Classical.byContradiction fun q => hneg (hn1.2 (by omega))
      simp [hneg]
      refine (sub45 h51 h37 hw e2.wf e02 e35 (hu.ext e02) (hv.ext e02) dga dgb nma nmb la lb hge (by omega) g45 g5 g2' (by simp) (by simp) (by simp) (by simp) (by simp)).fin ?_
      rintro r H' ⟨ds, k1, k2, k3, k4⟩
      refine ⟨_, ds, k1, ?_, by simp, by omega, k4⟩
      rw [hz (by omega) k2]
      cases ma <;> cases mb <;> simp at hm ⊢
end
end Go.Proofs.YtmgaaieofdjfdaaDoor
