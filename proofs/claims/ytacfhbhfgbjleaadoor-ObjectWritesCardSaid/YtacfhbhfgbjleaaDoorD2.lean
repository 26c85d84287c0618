/- The document's numbers by digits: tenths, texts. No claim by itself. -/
import Derived.Test.YtacfhbhfgbjleaaDoorD1
namespace Go.Proofs.YtacfhbhfgbjleaaDoor
open Go Go.AI
theorem flat64 (zs : List Nat) : zs.flatMap n64c = zs.map fun (n : Nat) => AV.int .i64 (n : Int) := by
  induction zs with
  | nil => rfl
  | cons z zs ih => simp [n64c, ih]
theorem flat64_set (zs : List Nat) (i y : Nat) : (zs.flatMap n64c).set i (.int .i64 (y : Int)) = (zs.set i y).flatMap n64c := by
  rw [flat64, flat64, List.map_set]
theorem makeNats {H : Heap} {n : Nat} (hn : n ≤ 100000) : makeSlA H 1 8 [.int .i64 0] (.int .i64 n) (.int .i64 n) = some (.slc H.next 0 n 1 n true, H.push (.cells ((List.replicate n 0).flatMap n64c))) := by
  have e : (List.replicate n [AV.int .i64 0]).flatten = (List.replicate n 0).flatMap n64c := by
    induction n with
    | zero => rfl
    | succ n ih => simp only [List.replicate_succ, List.flatten_cons, List.flatMap_cons, ih (by omega)]; rfl
  unfold makeSlA
  simp only
  rw [if_pos ⟨by omega, by omega, by omega, by omega⟩]
  simp [e]
/-- A slice made here: its object holds just its items. -/
theorem made_sl {H : Heap} {o n : Nat} {zs : List Nat} (hl : zs.length = n) (g : H.get o = some (.cells (zs.flatMap n64c))) : Nats H (.slc o 0 n 1 n true) zs := by
  subst hl
  exact .inr ⟨o, 0, _, true, _, rfl, cellsAt_get g, fun i x hx => by rw [Nat.zero_add]; exact seg_flat n64c_len zs i x hx⟩
theorem set_mid (k : Nat) (qs : List Nat) (y : Nat) : (List.replicate (k + 1) 0 ++ qs).set k y = List.replicate k 0 ++ (y :: qs) := by
  rw [List.replicate_succ', List.append_assoc, List.set_append_right _ _ (by simp)]
  simp
section
variable {FT : Nat → Option FnD} {H : Heap}
def rest53 : ACode := tailN 4 A53.body
theorem body53 : A53.body = headsN 4 A53.body rest53 := rfl
structure Inv38 (H H1 : Heap) (v : AV) (ds : List Nat) (m : Nat) (τ : Env) (H' : Heap) : Prop where
  ex : Ext H H'
  fl : H'.floor = H1.floor
  ri : ∃ (left : Nat) (qs : List Nat), m ≤ ds.length ∧ left < 10 ∧ qs.length = ds.length - m ∧ Dg qs ∧ 10 * dval qs + left = dval (ds.drop m) ∧ H'.get H.next = some (.cells ((List.replicate m 0 ++ qs).flatMap n64c)) ∧
    Env.at τ 0 = v ∧ Env.at τ 4 = .slc H.next 0 ds.length 1 ds.length true ∧ Env.at τ 5 = .int .i64 left ∧ Env.at τ 6 = .int .i64 ((m : Int) - 1)
theorem tenth53 (h53 : FT 53 = some (.code A53)) (h52 : FT 52 = some (.code A52)) (hw : H.Wf) {v : AV} {ds : List Nat} (h : Nats H v ds) (hdg : Dg ds) (hl : ds.length ≤ 100) :
    Cp FT 53 [v] H (fun r H' => ∃ (u : AV) (r' : Nat) (qs : List Nat), r = .tup [u, .int .i64 r'] ∧ capOk u = true ∧ Nats H' u qs ∧ Dg qs ∧ Nm qs ∧ qs.length ≤ ds.length ∧ r' < 10 ∧ 10 * dval qs + r' = dval ds ∧ Ext H H') := by
  refine Cp_code A53 h53 rfl ?_
  rw [body53]
  have hA : A53.results = [.tmp 2, .tmp 3] := rfl
  rw [hA]
  obtain ⟨g0, e0⟩ := push_new hw (.cells ((List.replicate ds.length 0).flatMap n64c))
  have w1 : IntKind.i64.wrap ((ds.length : Int) - 1) = (ds.length : Int) - 1 := wrap64 (by omega) (by omega)
  simp [A53, headsN, h.len, makeNats (show ds.length ≤ 100000 by omega), w1]
  refine Wp_loop (Inv38 H (H.push (.cells ((List.replicate ds.length 0).flatMap n64c))) v ds) ?_ ds.length _ _ ⟨e0, rfl, 0, [], Nat.le_refl _, by omega, by simp, Dg.nil, by simp [dval], by simpa using g0, by simp, by simp, by simp, by simp⟩
  rintro m τ H1 ⟨ex, hfl, left, qs, hm, hleft, hql, hqd, hval, g, t0, t4, t5, t6⟩
  have hlo : H1.floor ≤ H.next := by rw [ex.floor]; exact hw.1
  simp only [Wp_seq, Wp_region]
  cases m with
  | zero =>
    have t6' : Env.at τ 6 = .int .i64 (-1) := by simpa using t6
    have hn : qs.length = ds.length := by simpa using hql
    have hs : Nats H1 (.slc H.next 0 ds.length 1 ds.length true) qs := made_sl hn (by simpa using g)
    simp [rest53, tailN, A53, t6', t4, t5]
    refine (trim52 h52 ex.wf hs (by simp [capOk]) (by omega)).mono ?_
    rintro _ H2 ⟨u, rfl, hcu, hu, _, e2⟩
    simp [partA, t5]
    exact ⟨u, left, ⟨rfl, rfl⟩, hcu, trimD qs, hu, trimD_dg hqd, trimD_nm _, by have := trimD_len qs; omega, hleft, by rw [trimD_val]; simpa using hval, ex.trans e2⟩
  | succ k =>
    obtain ⟨p, d, hd, hp, hld⟩ := Nats.idx (h.ext ex) (k := .i64) (i := k) (by omega)
    have hdlt := hdg d (List.mem_of_getElem? hd)
    have hdrop : ds.drop k = d :: ds.drop (k + 1) := drop_get hd
    have t6' : Env.at τ 6 = .int .i64 (k : Int) := by rw [t6]; congr 1; omega
    have wl : IntKind.i64.wrap ((left : Int) * 65536) = ((left * 65536 : Nat) : Int) := by rw [wrap64 (by omega) (by omega)]; omega
    have wx : IntKind.i64.wrap (((left * 65536 : Nat) : Int) + (d : Int)) = ((left * 65536 + d : Nat) : Int) := by rw [wrap64 (by omega) (by omega)]; omega
    have hq : ((left * 65536 + d : Nat) : Int).tdiv 10 = (((left * 65536 + d) / 10 : Nat) : Int) := rfl
    have hr : ((left * 65536 + d : Nat) : Int).tmod 10 = (((left * 65536 + d) % 10 : Nat) : Int) := rfl
    have wq : IntKind.i64.wrap (((left * 65536 + d) / 10 : Nat) : Int) = (((left * 65536 + d) / 10 : Nat) : Int) := wrap64 (by omega) (by omega)
    generalize hx : left * 65536 + d = x at *
    have wk : IntKind.i64.wrap ((k : Int) - 1) = (k : Int) - 1 := wrap64 (by omega) (by omega)
    obtain ⟨H2, s2, g2, f2⟩ := store_cell (x := .int .i64 ((x / 10 : Nat) : Int)) ex.wf hlo g (off := k) (by rw [flat64]; simp; omega) rfl
    have ex2 : Ext H H2 := ((ex.fr (S := [])).trans hw f2 (by simp)).ext
    rw [flat64_set, set_mid] at g2
    have ix : (0 : Int) ≤ (k : Int) ∧ (k : Int) < ((ds.length : Nat) : Int) := by omega
    simp [-Int.natCast_mul, -Int.natCast_add, -Int.natCast_ediv, -Int.natCast_emod, t0, t4, t5, t6', hp, hld, wl, wx, hq, hr, wq, wk, ix, s2]
    exact ⟨k, by omega, ex2, by rw [f2.floor, hfl], x % 10, (x / 10) :: qs, by omega, by omega, by simp; omega, hqd.cons (by omega), by rw [hdrop]; simp only [dval]; omega, g2, by simp [t0], by simp [t4], by simp, by simp⟩
def rest40 : ACode := tailN 5 A40.body
theorem body40 : A40.body = headsN 5 A40.body rest40 := rfl
/-- The text of a number told by its sign and digits. -/
def txt (m : Bool) (ds : List Nat) : List Nat := if ds = [] then [48] else (if m = true then [45] else []) ++ decP 30 (dval ds)
structure Inv22 (H H0 : Heap) (m : Bool) (u0 : AV) (ds0 : List Nat) (k : Nat) (τ : Env) (H' : Heap) : Prop where
  ex : Ext H0 H'
  ri : ∃ (s : List Nat) (ds : List Nat) (v : AV), k = dval ds ∧ Nats H' v ds ∧ Dg ds ∧ Nm ds ∧ ds.length ≤ 100 ∧ decP 30 (dval ds0) = decP (30 - s.length) (dval ds) ++ s ∧ s.length ≤ 30 ∧ dval ds < 10 ^ (30 - s.length) ∧
    Env.at τ 1 = .ptr H.next 0 ∧ Env.at τ 3 = .str s ∧ Env.at τ 4 = v
theorem decP_zero (f : Nat) : decP f 0 = [] := by cases f <;> simp [decP]
theorem decP_len : ∀ f u, (decP f u).length ≤ f
  | 0, _ => by simp [decP]
  | f + 1, u => by
    unfold decP; split
    · simp
    · have := decP_len f (u / 10); simp; omega
theorem dval_pos {ds : List Nat} (h : Nm ds) (k : ds ≠ []) : 0 < dval ds := Nat.pos_of_ne_zero fun q => k ((dval_zero h).1 q)
theorem bytes_one {H : Heap} {o : Nat} {b : Nat} (hb : b < 256) (g : H.get o = some (.cells [.int .u8 (b : Int)])) : toStrA H (.slc o 0 1 1 1 true) = some (.str [b], H) := by
  have h1 : (0 : Int) ≤ (b : Int) ∧ (b : Int) < 256 := by omega
  have h2 : bytesOf [AV.int .u8 (b : Int)] = some [b] := by simp only [bytesOf, if_pos h1, Option.map_some, Int.toNat_natCast]
  simp [toStrA, Heap.readSeg, cellsAt_get g, seg, h2]
theorem text40 (h40 : FT 40 = some (.code A40)) (h53 : FT 53 = some (.code A53)) (h52 : FT 52 = some (.code A52)) (hw : H.Wf) {v : AV} {m : Bool} {ds : List Nat} (h : NumR H v m ds) (hb : dval ds < 10 ^ 25) :
    Cp FT 40 [v] H (fun r H' => r = .str (txt m ds) ∧ Ext H H') := by
  obtain ⟨dg, nm, hlen, u, rfl, hcu, hu⟩ := h
  refine Cp_code A40 h40 rfl ?_
  rw [body40]
  have hA : A40.results = [.tmp 2] := rfl
  rw [hA]
  obtain ⟨ou, cu⟩ := hu.one
  obtain ⟨g0, e0⟩ := push_new hw (.cells [.bool m, u])
  have hone : allOne [AV.bool m, u] = true := by simp [allOne_of ou]
  have l0 : loadA (H.push (.cells [.bool m, u])) none (.ptr H.next 0) = some (.bool m) := load_get g0 rfl
  have l1 : loadA (H.push (.cells [.bool m, u])) none (.ptr H.next 1) = some u := load_get g0 rfl
  by_cases hd : ds = []
  · subst hd
    simp [A40, headsN, hone, l1, hu.len, txt]
    exact e0
  have hl0 : ((ds.length : Int) == 0) = false := by
    rw [beq_eq_false_iff_ne]
    have : ds.length ≠ 0 := fun q => hd (List.length_eq_zero_iff.1 q)
    omega
  have htx : txt m ds = (if m = true then [45] else []) ++ decP 30 (dval ds) := by unfold txt; rw [if_neg hd]
  rw [htx]
  have hmax : IntKind.max .i64 = 9223372036854775807 := rfl
  simp [A40, headsN, hone, l1, hu.len, hl0]
  refine Wp_loop (Inv22 H (H.push (.cells [.bool m, u])) m u ds) ?_ (dval ds) _ _ ⟨Ext.refl e0.wf, [], ds, u, rfl, hu.ext e0, dg, nm, hlen, by simp, by simp, ?_, by simp, by simp, by simp⟩
  · rintro k τ H1 ⟨ex, s, ds1, v1, rfl, hv1, dg1, nm1, hl1, hs, hsl, hlt, t1, t3, t4⟩
    simp only [Wp_seq, Wp_region]
    by_cases hd1 : ds1 = []
    · subst hd1
      have hs' : decP 30 (dval ds) = s := by rw [hs]; simp [dval, decP_zero]
      have lm : loadA H1 none (.ptr H.next 0) = some (.bool m) := load_get (ex.keep _ _ g0) rfl
      rw [hs']
      cases m with
      | false =>
        simp [rest40, tailN, A40, t1, t3, t4, hv1.len, lm]
        exact e0.trans ex
      | true =>
        have hb3 : ¬ (9223372036854775807 : Int) < 1 + (s.length : Int) := by omega
        simp [rest40, tailN, A40, t1, t3, t4, hv1.len, lm, hmax, hb3]
        exact e0.trans ex
    · have hpos := dval_pos nm1 hd1
      have hl1p : (0 : Int) < (ds1.length : Int) := by
        have : ds1.length ≠ 0 := fun q => hd1 (List.length_eq_zero_iff.1 q)
        omega
      have hl1n : 0 < ds1.length := by omega
      simp [t4, hv1.len, hl1n]
      refine (tenth53 h53 h52 ex.wf hv1 dg1 hl1).mono ?_
      rintro _ H2 ⟨u2, r, qs, rfl, hcu2, hu2, dgq, nmq, hlq, hr, hval, e2⟩
      obtain ⟨g3, e3⟩ := push_new e2.wf (.cells [.int .u8 ((48 + r : Nat) : Int)])
      have w1 : IntKind.i64.wrap (48 + (r : Int)) = ((48 + r : Nat) : Int) := by rw [wrap64 (by omega) (by omega)]; omega
      have w2 : IntKind.u8.wrap ((48 + r : Nat) : Int) = ((48 + r : Nat) : Int) := by
        unfold IntKind.wrap; simp [IntKind.bits, IntKind.signed]; omega
      have hbs := bytes_one (b := 48 + r) (by omega) g3
      have hslt : s.length < 30 := by
        refine Classical.byContradiction fun q => ?_
        have : 30 - s.length = 0 := by omega
        rw [this] at hlt; omega
      have hb3 : ¬ (9223372036854775807 : Int) < ((1 + s.length : Nat) : Int) := by omega
      simp [-Int.natCast_add, t3, w1, w2, hbs, hmax, hb3]
      have hsub : 30 - s.length = (30 - (s.length + 1)) + 1 := by omega
      have hstep : decP (30 - s.length) (dval ds1) = decP (30 - (s.length + 1)) (dval qs) ++ [48 + r] := by
        rw [hsub, decP, if_neg (by omega), show dval ds1 / 10 = dval qs from by omega, show dval ds1 % 10 = r from by omega]
      rw [hsub, Nat.pow_succ] at hlt
      exact ⟨dval qs, by omega, ex.trans (e2.trans e3), (48 + r) :: s, qs, u2, rfl, hu2.ext e3, dgq, nmq, by omega, by rw [hs, hstep]; simp, by simp; omega, by simp only [List.length_cons]; omega, by simp [t1], by simp, by simp⟩
  · simp only [List.length_nil, Nat.sub_zero]
    have : (10 : Nat) ^ 30 = 10 ^ 25 * 10 ^ 5 := by rw [← Nat.pow_add]
    omega
theorem txt_itoa {n : Int} {ds : List Nat} (h : dval ds = n.natAbs) (nm : Nm ds) (hb : n.natAbs < 10 ^ 25) : txt (decide (n < 0)) ds = itoaN n := by
  have h30 : ∀ u, u < 10 ^ 25 → decP 30 u = decP 25 u := by
    have gen : ∀ k f u, u < 10 ^ f → decP (f + k) u = decP f u := by
      intro k f
      induction f with
      | zero => intro u hu; have : u = 0 := by simpa using hu
                subst this; rw [decP_zero, decP_zero]
      | succ f ih =>
        intro u hu
        rw [show f + 1 + k = (f + k) + 1 from by omega, decP, decP]
        split
        · rfl
        · rw [ih (u / 10) (by rw [Nat.pow_succ] at hu; omega)]
    intro u hu; exact gen 5 25 u hu
  unfold txt
  cases n with
  | ofNat k =>
    simp only [Int.ofNat_eq_natCast, Int.natAbs_natCast] at h hb
    have hn : ¬ ((k : Int) < 0) := by omega
    by_cases hd : ds = []
    · have : k = 0 := by rw [← h, hd]; rfl
      subst this; simp [hd, itoaN, decF, Nat.blt]
    · have hk : 0 < k := by rw [← h]; exact dval_pos nm hd
      rw [if_neg hd, h]
      simp only [Int.ofNat_eq_natCast, hn, decide_false, itoaN]
      rw [h30 k hb, decF_P 25 k [] hk hb]; simp
  | negSucc k =>
    simp only [Int.natAbs_negSucc] at h hb
    have hd : ds ≠ [] := fun q => by rw [q] at h; simp [dval] at h
    have hn : Int.negSucc k < 0 := Int.negSucc_lt_zero k
    rw [if_neg hd, h]
    simp only [hn, decide_true, if_true, itoaN]
    rw [h30 _ hb, decF_P 25 (k + 1) [] (by omega) hb]; simp
/-- A number's text: of Small, and Text. -/
theorem smallText (h39 : FT 39 = some (.code A39)) (h40 : FT 40 = some (.code A40)) (h53 : FT 53 = some (.code A53)) (h52 : FT 52 = some (.code A52)) (hw : H.Wf) {n : Int} (h0 : -9223372036854775807 ≤ n) (h1 : n ≤ 9223372036854775807)
    {K : AV → Heap → Prop} (k : ∀ r H1, Ext H H1 → Cp FT 40 [r] H1 (fun s H' => s = .str (itoaN n) ∧ Ext H H') → K r H1) : Cp FT 39 [.int .i64 n] H K := by
  refine (small39 h39 h52 hw h0 h1).mono ?_
  rintro r H1 ⟨ds, hr, hv, e1⟩
  have hb : n.natAbs < 10 ^ 25 := by
    have : (10 : Nat) ^ 25 = 10000000000000000000000000 := by decide
    omega
  refine k r H1 e1 ((text40 h40 h53 h52 e1.wf hr (by omega)).mono ?_)
  rintro s H2 ⟨rfl, e2⟩
  exact ⟨by rw [txt_itoa hv hr.nm hb], e1.trans e2⟩
theorem smallTextQ (h39 : FT 39 = some (.code A39)) (h40 : FT 40 = some (.code A40)) (h53 : FT 53 = some (.code A53)) (h52 : FT 52 = some (.code A52)) (hw : H.Wf) {n : Int} (h0 : -9223372036854775807 ≤ n) (h1 : n ≤ 9223372036854775807)
    {K : AV → Heap → Prop} (k : ∀ r H1, H1.Wf → Cp FT 40 [r] H1.up (fun s H' => s = .str (itoaN n) ∧ Ext H { H' with floor := H1.floor }) → K r H1) : Cp FT 39 [.int .i64 n] { t := H.t, next := H.next, floor := H.next } (backK H.floor K) := by
  refine (small39 h39 h52 hw.up h0 h1).quiet ?_
  rintro r H1 ⟨ds, hr, hv, e1⟩
  have hb : n.natAbs < 10 ^ 25 := by
    have : (10 : Nat) ^ 25 = 10000000000000000000000000 := by decide
    omega
  have e1' := e1.back hw
  have hr' : NumR ({ H1 with floor := H.floor } : Heap).up r (decide (n < 0)) ds := ⟨hr.dg, hr.nm, hr.len, hr.at_⟩
  refine k r _ e1'.wf ((text40 h40 h53 h52 e1'.wf.up hr' (by omega)).mono ?_)
  rintro s H2 ⟨rfl, e2⟩
  exact ⟨by rw [txt_itoa hv hr.nm hb], e1'.trans (e2.back e1'.wf)⟩
end
end Go.Proofs.YtacfhbhfgbjleaaDoor
