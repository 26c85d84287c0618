/- The document's numbers by digits: products. No claim by itself. -/
import Derived.Test.YtmgaaieofdjfdaaDoorD5
namespace Go.Proofs.YtmgaaieofdjfdaaDoor
open Go Go.AI
theorem dval_set {l : List Nat} {j x y : Nat} (h : l[j]? = some y) : dval (l.set j x) + 65536 ^ j * y = dval l + 65536 ^ j * x := by
  have hj : j < l.length := (List.getElem?_eq_some_iff.1 h).1
  have e1 : l = l.take j ++ (y :: l.drop (j + 1)) := by rw [← drop_get h, List.take_append_drop]
  have e2 : l.set j x = l.take j ++ (x :: l.drop (j + 1)) := by
    rw [List.set_eq_take_append_cons_drop, if_pos hj]
  have hl : (l.take j).length = j := by simp; omega
  rw [e2, dval_append, hl]
  have h3 : dval l = dval (l.take j) + 65536 ^ j * dval (y :: l.drop (j + 1)) := by
    have := dval_append (l.take j) (y :: l.drop (j + 1))
    rw [hl, ← e1] at this
    exact this
  rw [h3]
  simp only [dval, Nat.mul_add]
  omega
theorem dval_take_succ {l : List Nat} {k x : Nat} (h : l[k]? = some x) : dval (l.take (k + 1)) = dval (l.take k) + 65536 ^ k * x := by
  have hk : k < l.length := (List.getElem?_eq_some_iff.1 h).1
  have hl : (l.take k).length = k := by simp; omega
  rw [List.take_add_one, h, dval_append, hl]; simp [dval]
theorem dg_set {l : List Nat} (h : Dg l) {j x : Nat} (hx : x < 65536) : Dg (l.set j x) := fun d hd => by
  rcases List.mem_or_eq_of_mem_set hd with q | q
  · exact h d q
  · omega
theorem mul_digits {a b : Nat} (ha : a < 65536) (hb : b < 65536) : a * b ≤ 65535 * 65535 := Nat.mul_le_mul (by omega) (by omega)
theorem dval_rep (n : Nat) : dval (List.replicate n 0) = 0 := by
  induction n with
  | zero => rfl
  | succ n ih => simp [List.replicate_succ, dval, ih]
theorem step_mul {D D' R T Pi Pk ai bk dj c r c' : Nat} (h1 : D' + Pi * Pk * dj = D + Pi * Pk * r) (hx : dj + ai * bk + c = r + 65536 * c') (h0 : D + Pi * Pk * c = R + Pi * (ai * T)) :
    D' + Pi * Pk * 65536 * c' = R + Pi * (ai * (T + Pk * bk)) := by
  have e := congrArg (fun z => Pi * Pk * z) hx
  simp only [Nat.mul_add] at e ⊢
  have e1 : Pi * Pk * (65536 * c') = Pi * Pk * 65536 * c' := by rw [← Nat.mul_assoc]
  have e2 : Pi * (ai * (Pk * bk)) = Pi * Pk * (ai * bk) := by rw [Nat.mul_left_comm ai Pk bk, ← Nat.mul_assoc]
  rw [e1] at e; rw [e2]
  omega
section
variable {FT : Nat → Option FnD} {H : Heap}
/-- What stays through the product's loops. -/
structure Bas44 (H H0 H' : Heap) (o : Nat) (L : Nat) (u v : AV) (a b d : List Nat) (τ : Env) : Prop where
  ex : Ext H H'
  ex0 : Ext H0 H'
  dg : Dg d
  dl : d.length = L
  g : H'.get o = some (.cells (d.flatMap n64c))
  t2 : Env.at τ 2 = .ptr H.next 0
  t3 : Env.at τ 3 = .ptr (H.next + 1) 0
  t4 : Env.at τ 4 = .ptr (H.next + 2) 0
  t5 : Env.at τ 5 = .slc o 0 L 1 L true
structure Out44 (H H0 : Heap) (o L : Nat) (u v : AV) (a b : List Nat) (k : Nat) (τ : Env) (H' : Heap) : Prop where
  ri : ∃ (d : List Nat) (i : Nat), Bas44 H H0 H' o L u v a b d τ ∧ i ≤ a.length ∧ k = a.length - i ∧ (∀ j y, i + b.length ≤ j → d[j]? = some y → y = 0) ∧ dval d = dval (a.take i) * dval b ∧ Env.at τ 6 = .int .i64 i
structure In44 (H H0 : Heap) (o L : Nat) (u v : AV) (a b : List Nat) (i : Nat) (n : Nat) (τ : Env) (H' : Heap) : Prop where
  ri : ∃ (d : List Nat) (k c : Nat), Bas44 H H0 H' o L u v a b d τ ∧ k ≤ b.length + 1 ∧ n = b.length + 1 - k ∧ c < 65536 ∧ (k = b.length + 1 → c = 0) ∧ (k ≤ b.length → ∀ j y, i + b.length ≤ j → d[j]? = some y → y = 0) ∧
    (∀ j y, i + 1 + b.length ≤ j → d[j]? = some y → y = 0) ∧ dval d + 65536 ^ (i + k) * c = dval (a.take i) * dval b + 65536 ^ i * ((a[i]?.getD 0) * dval (b.take k)) ∧ Env.at τ 6 = .int .i64 i ∧ Env.at τ 7 = .int .i64 c ∧ Env.at τ 8 = .int .i64 k
def rest44 : ACode := subAt [1,1,1] A44.body
theorem body44 : A44.body = putAt [1,1,1] A44.body rest44 := rfl
theorem times44 (h44 : FT 44 = some (.code A44)) (h51 : FT 51 = some (.code A51)) (h37 : FT 37 = some (.code A37)) (hw : H.Wf) {x y : AV} {ma mb : Bool} {a b : List Nat} (ha : NumR H x ma a) (hb : NumR H y mb b) (hlen : a.length + b.length ≤ 90) :
    Cp FT 44 [x, y] H (fun r H' => ∃ ds, NumR H' r ((ma != mb) && decide (ds ≠ [])) ds ∧ dval ds = dval a * dval b ∧ ds.length ≤ a.length + b.length + 1 ∧ Ext H H') := by
  obtain ⟨dga, nma, lena, u, rfl, hcu, hu⟩ := ha
  obtain ⟨dgb, nmb, lenb, v, rfl, hcv, hv⟩ := hb
  refine Cp_code A44 h44 rfl ?_
  rw [body44]
  have hA : A44.results = [.cell 4 (some 2)] := rfl
  rw [hA]
  obtain ⟨ou, cu⟩ := hu.one
  obtain ⟨ov, cv⟩ := hv.one
  have hou : allOne [AV.bool ma, u] = true := by simp [allOne_of ou]
  have hov : allOne [AV.bool mb, v] = true := by simp [allOne_of ov]
  obtain ⟨g0, e0⟩ := push_new hw (.cells [.bool ma, u])
  obtain ⟨g1, e1⟩ := push_new e0.wf (.cells [.bool mb, v])
  obtain ⟨g2, e2⟩ := push_new e1.wf (.cells [.bool false, .nils])
  have e02 := (e0.trans e1).trans e2
  have g0' := e2.keep _ _ (e1.keep _ _ g0)
  have g1' := e2.keep _ _ g1
  simp [A44, putAt, hou, hov]
  have hn1 : ((H.push (.cells [.bool ma, u])).push (.cells [.bool mb, v])).next = H.next + 2 := rfl
  generalize hH3 : ((H.push (.cells [.bool ma, u])).push (.cells [.bool mb, v])).push (.cells [.bool false, .nils]) = H3 at *
  have hn3 : H3.next = H.next + 3 := by rw [← hH3]; rfl
  have g1' : H3.get (H.next + 1) = some (.cells [.bool mb, v]) := g1'
  have g2' : H3.get (H.next + 2) = some (.cells [.bool false, .nils]) := g2
  have ld : ∀ {H' : Heap}, Ext H3 H' → loadA H' none (.ptr H.next 1) = some u ∧ loadA H' none (.ptr (H.next + 1) 1) = some v ∧ loadA H' none (.ptr H.next 0) = some (.bool ma) ∧ loadA H' none (.ptr (H.next + 1) 0) = some (.bool mb) := fun k =>
    ⟨load_get (k.keep _ _ g0') rfl, load_get (k.keep _ _ g1') rfl, load_get (k.keep _ _ g0') rfl, load_get (k.keep _ _ g1') rfl⟩
  obtain ⟨l0, l1, _, _⟩ := ld (Ext.refl e2.wf)
  have wl : IntKind.i64.wrap ((a.length : Int) + (b.length : Int)) = ((a.length + b.length : Nat) : Int) := by rw [wrap64 (by omega) (by omega)]; omega
  have wl1 : IntKind.i64.wrap (((a.length + b.length : Nat) : Int) + 1) = ((a.length + b.length + 1 : Nat) : Int) := by rw [wrap64 (by omega) (by omega)]; omega
  have hmk := makeNats (H := H3) (n := a.length + b.length + 1) (by omega)
  obtain ⟨g4, e4⟩ := push_new e2.wf (.cells ((List.replicate (a.length + b.length + 1) 0).flatMap n64c))
  simp [-Int.natCast_add, l0, l1, hu.len, hv.len, wl, wl1, hmk]
  generalize hL : a.length + b.length + 1 = L at *
  generalize hH4 : H3.push (.cells ((List.replicate L 0).flatMap n64c)) = H4 at *
  refine Wp_loop (Out44 H H3 H3.next L u v a b) ?_ a.length _ _ ⟨List.replicate L 0, 0, ⟨e02.trans e4, e4, fun d hd => by have := List.eq_of_mem_replicate hd; omega, by simp, g4, by simp, by simp, by simp, by simp⟩, by omega, rfl, fun j y _ hj => ?_, by simp [dval_rep, dval], by simp⟩
  · rintro n τ H5 ⟨d, i, bs, hi, rfl, hz, hval, t6⟩
    obtain ⟨l0, l1, lm0, lm1⟩ := ld bs.ex0
    simp only [Wp_seq, Wp_region]
    by_cases hc : i < a.length
    · obtain ⟨_, ai, hai, _, _⟩ := Nats.idx hu (k := .i64) hc
      have hai6 := dga ai (List.mem_of_getElem? hai)
      simp [bs.t2, t6, l0, hu.len, hc]
      refine Wp_loop (In44 H H3 H3.next L u v a b i) ?_ (b.length + 1) _ _ ⟨d, 0, 0, ⟨bs.ex, bs.ex0, bs.dg, bs.dl, bs.g, by simp [bs.t2], by simp [bs.t3], by simp [bs.t4], by simp [bs.t5]⟩, by omega, rfl, by omega, by omega, fun _ => hz, fun j y hj => hz j y (by omega), by simp [hval, dval], by simp [t6], by simp, by simp⟩
      rintro n τ H6 ⟨d, k, c, bs, hk, rfl, hcl, hk1, hz1, hz2, hval, t6, t7, t8⟩
      obtain ⟨l0, l1, lm0, lm1⟩ := ld bs.ex0
      simp only [Wp_seq, Wp_region]
      by_cases hgo : k < b.length ∨ 0 < c
      · have hkl : k ≤ b.length := by
          rcases hgo with q | q
          · omega
          · refine Classical.byContradiction fun r => ?_
            have := hk1 (by omega); omega
        obtain ⟨dj, hdj⟩ : ∃ dj, d[i + k]? = some dj := ⟨_, List.getElem?_eq_getElem (by rw [bs.dl]; omega)⟩
        have hdj6 := bs.dg dj (List.mem_of_getElem? hdj)
        have hds := made_sl bs.dl bs.g
        obtain ⟨pd, dj', hdj', hpd, lpd⟩ := Nats.idx hds (k := .i64) (i := i + k) (by rw [bs.dl]; omega)
        rw [hdj] at hdj'; cases hdj'
        have hpd' : pd = .ptr H3.next (i + k) := by
          have ix : (0 : Int) ≤ ((i + k : Nat) : Int) ∧ ((i + k : Nat) : Int) < ((L : Nat) : Int) := by omega
          simp only [indexAddrV_slc, ix, and_self, if_true] at hpd
          rw [Int.toNat_natCast] at hpd
          simpa using hpd.symm
        subst hpd'
        obtain ⟨pa, ai', hai', hpa, lpa⟩ := Nats.idx (hu.ext bs.ex) (k := .i64) hc
        rw [hai] at hai'; cases hai'
        have hbk6 : ((b[k]?).getD 0) < 65536 := by
          cases hq : b[k]? with
          | none => simp
          | some z => simpa using dgb z (List.mem_of_getElem? hq)
        have hmul := mul_digits hai6 hbk6
        have hq : H6.Wf := bs.ex.wf
        have hbx := digit51 (H := H6.up) h51 (hv.ext bs.ex).up (by omega) (i := k) (by omega)
        generalize hbk : (b[k]?).getD 0 = bk at *
        have wik : IntKind.i64.wrap ((i : Int) + (k : Int)) = ((i + k : Nat) : Int) := by rw [wrap64 (by omega) (by omega)]; omega
        have wm : IntKind.i64.wrap ((ai : Int) * (bk : Int)) = ((ai * bk : Nat) : Int) := by rw [wrap64 (by rw [← Int.natCast_mul]; omega) (by rw [← Int.natCast_mul]; omega), Int.natCast_mul]
        have wa : IntKind.i64.wrap ((dj : Int) + ((ai * bk : Nat) : Int)) = ((dj + ai * bk : Nat) : Int) := by rw [wrap64 (by omega) (by omega)]; omega
        have wc : IntKind.i64.wrap (((dj + ai * bk : Nat) : Int) + (c : Int)) = ((dj + ai * bk + c : Nat) : Int) := by rw [wrap64 (by omega) (by omega)]; omega
        have hxx : ∃ X : Nat, X = dj + ai * bk + c := ⟨_, rfl⟩
        obtain ⟨X, hX⟩ := hxx
        rw [← hX] at wc
        have hrem : (X : Int).tmod 65536 = ((X % 65536 : Nat) : Int) := rfl
        have hquo : (X : Int).tdiv 65536 = ((X / 65536 : Nat) : Int) := rfl
        have wq : IntKind.i64.wrap ((X / 65536 : Nat) : Int) = ((X / 65536 : Nat) : Int) := wrap64 (by omega) (by omega)
        have wk : IntKind.i64.wrap ((k : Int) + 1) = ((k + 1 : Nat) : Int) := wrap64 (by omega) (by omega)
        have hfl : H6.floor ≤ H3.next := by rw [bs.ex0.floor]; exact e2.wf.1
        have ix : (0 : Int) ≤ ((i + k : Nat) : Int) ∧ ((i + k : Nat) : Int) < ((L : Nat) : Int) := by omega
        obtain ⟨H7, s7, g7, f7⟩ := store_cell (x := .int .i64 ((X % 65536 : Nat) : Int)) bs.ex.wf hfl bs.g (off := i + k) (by rw [flat64]; simp; have := bs.dl; omega) rfl
        rw [flat64_set] at g7
        have ex7 : Ext H H7 := ((bs.ex.fr (S := [])).trans hw f7 (by simp; omega)).ext
        have ex07 : Ext H3 H7 := ((bs.ex0.fr (S := [])).trans e2.wf f7 (by simp)).ext
        have hX65 : X / 65536 < 65536 := by omega
        have hfin : dval (d.set (i + k) (X % 65536)) + 65536 ^ (i + (k + 1)) * (X / 65536) = dval (a.take i) * dval b + 65536 ^ i * (ai * dval (b.take (k + 1))) := by
          have h1 := dval_set (x := X % 65536) hdj
          have e : 65536 ^ (i + (k + 1)) = 65536 ^ i * 65536 ^ k * 65536 := by rw [← Nat.add_assoc, Nat.pow_succ, Nat.pow_add]
          have hbt : dval (b.take (k + 1)) = dval (b.take k) + 65536 ^ k * bk := by
            cases hq : b[k]? with
            | none =>
              rw [hq] at hbk
              have hkb : b.length ≤ k := by simpa using hq
              have : bk = 0 := by simpa using hbk.symm
              rw [this, List.take_of_length_le (by omega), List.take_of_length_le (by omega)]; simp
            | some z => rw [hq] at hbk; simp at hbk; subst hbk; exact dval_take_succ hq
          rw [hai] at hval
          simp only [Option.getD_some] at hval
          rw [Nat.pow_add] at h1 hval
          rw [e, hbt]
          exact step_mul h1 (by omega) hval
        have fin : ∀ {τ' : Env}, Env.at τ' 2 = .ptr H.next 0 → Env.at τ' 3 = .ptr (H.next + 1) 0 → Env.at τ' 4 = .ptr (H.next + 2) 0 → Env.at τ' 5 = .slc H3.next 0 L 1 L true → Env.at τ' 6 = .int .i64 i → Env.at τ' 7 = .int .i64 ((X / 65536 : Nat) : Int) → Env.at τ' 8 = .int .i64 ((k + 1 : Nat) : Int) →
            In44 H H3 H3.next L u v a b i (b.length + 1 - (k + 1)) τ' H7 := by
          intro τ' q2 q3 q4 q5 q6 q7 q8
          refine ⟨d.set (i + k) (X % 65536), k + 1, X / 65536, ⟨ex7, ex07, dg_set bs.dg (by omega), by rw [List.length_set]; exact bs.dl, g7, q2, q3, q4, q5⟩, by omega, rfl, hX65, fun q => ?_, fun q j y hj hy => ?_, fun j y hj hy => ?_, by rw [hfin, hai]; rfl, q6, q7, q8⟩
          · have hk : k = b.length := by omega
            have hdj0 : dj = 0 := hz1 hkl (i + k) dj (by omega) hdj
            have hbk0 : bk = 0 := by rw [← hbk, List.getElem?_eq_none (by omega)]; rfl
            rw [hdj0, hbk0] at hX
            omega
          · rw [List.getElem?_set_ne (by omega)] at hy; exact hz1 hkl j y hj hy
          · rw [List.getElem?_set_ne (by omega)] at hy; exact hz2 j y hj hy
        by_cases hkb : k < b.length
        · simp [-Int.natCast_add, -Int.natCast_mul, -Int.natCast_emod, -Int.natCast_ediv, bs.t2, bs.t3, bs.t5, t6, t8, l0, l1, hv.len, hkb, wik, ix, lpd, hpa, lpa]
          refine hbx.quietEq ?_
          simp [-Int.natCast_add, -Int.natCast_mul, -Int.natCast_emod, -Int.natCast_ediv, bs.t5, t6, t7, t8, wm, wa, wc, wik, ix, hrem, hquo, wq, s7, wk]
          exact ⟨_, by omega, fin (by simp [bs.t2]) (by simp [bs.t3]) (by simp [bs.t4]) (by simp [bs.t5]) (by simp [t6]) (by simp) (by simp)⟩
        · have hc0 : 0 < c := by omega
          simp [-Int.natCast_add, -Int.natCast_mul, -Int.natCast_emod, -Int.natCast_ediv, bs.t2, bs.t3, bs.t5, t6, t7, t8, l0, l1, hv.len, hkb, hc0, wik, ix, lpd, hpa, lpa]
          refine hbx.quietEq ?_
          simp [-Int.natCast_add, -Int.natCast_mul, -Int.natCast_emod, -Int.natCast_ediv, bs.t5, t6, t7, t8, wm, wa, wc, wik, ix, hrem, hquo, wq, s7, wk]
          exact ⟨_, by omega, fin (by simp [bs.t2]) (by simp [bs.t3]) (by simp [bs.t4]) (by simp [bs.t5]) (by simp [t6]) (by simp) (by simp)⟩
      · have hc0 : c = 0 := by omega
        have hkb : ¬ k < b.length := fun q => hgo (.inl q)
        subst hc0
        have hbt : b.take k = b := List.take_of_length_le (by omega)
        have hfin : dval d = dval (a.take (i + 1)) * dval b := by
          rw [dval_take_succ hai]
          simp [hbt, hai] at hval
          rw [hval, Nat.add_mul, Nat.mul_assoc]
        have wi : IntKind.i64.wrap ((i : Int) + 1) = ((i + 1 : Nat) : Int) := wrap64 (by omega) (by omega)
        simp [bs.t3, t6, t7, t8, l1, hv.len, hkb]
        simp [-Int.natCast_add, wi]
        exact ⟨a.length - (i + 1), by omega, d, i + 1, ⟨bs.ex, bs.ex0, bs.dg, bs.dl, bs.g, by simp [bs.t2], by simp [bs.t3], by simp [bs.t4], by simp [bs.t5]⟩, by omega, rfl, fun j y hj => hz2 j y (by omega), hfin, by simp⟩
    · have hin : i = a.length := by omega
      subst hin
      rw [List.take_length] at hval
      have hfl : H5.floor ≤ H.next + 2 := by rw [bs.ex.floor]; have := hw.1; omega
      simp [bs.t2, t6, l0, hu.len]
      simp [rest44, subAt, A44, bs.t2, bs.t3, bs.t5, lm0, lm1]
      refine (trim37 h37 bs.ex.wf (made_sl bs.dl bs.g) (by simp [capOk]) (by have := bs.dl; omega)).mono ?_
      rintro _ H6 ⟨u', rfl, hcu', hu', hru, e6⟩
      obtain ⟨ou', cu'⟩ := hu'.one
      have hm : (!(ma == mb) && !(trimD d).isEmpty) = ((ma != mb) && decide (trimD d ≠ [])) := by
        cases ma <;> cases mb <;> cases trimD d <;> rfl
      rw [hm]
      generalize hbm : ((ma != mb) && decide (trimD d ≠ [])) = bm
      obtain ⟨H7, s7, g7, f7⟩ := store_whole (n := 2) (x := .agg [.bool bm, u']) e6.wf rfl rfl (by rw [e6.floor]; exact hfl) (e6.keep _ _ (bs.ex0.keep _ _ g2')) rfl (by simp [allOne_of ou'])
      have ex7 : Ext H H7 := (((bs.ex.trans e6).fr (S := [])).trans hw f7 (by simp)).ext
      have hdl := bs.dl
      have htl := trimD_len d
      have hlen2 : (trimD d).length ≤ a.length + b.length + 1 := by omega
      simp [bs.t4, s7, resultsA, resultA, cellsAt_get g7, partA, seg, packA]
      exact ⟨trimD d, ⟨trimD_dg bs.dg, trimD_nm d, by omega, u', by rw [← hbm]; simp, hcu', hu'.fr f7 (fun p q => by have h9 := hru p q; cases h9; simp; omega)⟩, by rw [trimD_val, hval], by omega, ex7⟩
  · rw [List.getElem?_replicate] at hj; split at hj
    · cases hj; rfl
    · cases hj
end
end Go.Proofs.YtmgaaieofdjfdaaDoor
