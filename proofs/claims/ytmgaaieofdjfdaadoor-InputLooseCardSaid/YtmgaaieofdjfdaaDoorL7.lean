/- The law InputRanges, over the interpreter. No claim by itself. -/
import Derived.Test.YtmgaaieofdjfdaaDoorL6
namespace Go.Proofs.YtmgaaieofdjfdaaDoor
open Go Go.AI
/-- A number that is too great, at that word. -/
def farN (n k m : Nat) : Nat := if k = 1 then m + 1 + 200 else if k < 4 then m + 1 + 400 else if k < 4 + 2 * n then m + 1 + 1048576 else m + n
theorem far_lim {P L I : List (Int × Int)} (hv : validP P L I = true) {k m : Nat} (hk : k < (numsI P L I).length) :
    (limI k ((numsI P L I).take k)).2 < (farN P.length (k + 1) m : Int) ∧ -(farN P.length (k + 1) m : Int) < (limI k ((numsI P L I).take k)).1 ∧ 1 ≤ farN P.length (k + 1) m := by
  have hl := numsI_lim hv k _ (List.getElem?_eq_getElem hk)
  match k, hk, hl with
  | 0, _, _ => simp [limI, farN]; omega
  | 1, _, _ => simp [limI, farN]; omega
  | 2, _, _ => simp [limI, farN]; omega
  | j + 3, hk, hl =>
    rw [limI_take (by omega)] at hl ⊢
    have h0 : (numsI P L I)[0]? = some (P.length : Int) := by simp [numsI]
    by_cases hj : ((j + 3 : Nat) : Int) < 3 + 2 * (P.length : Int)
    · have e1 : limI (j + 3) (numsI P L I) = (-1048576, 1048576) := by
        unfold limI; rw [if_neg (by omega), if_neg (by omega), h0]; simp only [Option.getD_some]; rw [if_pos hj]
      have e2 : farN P.length (j + 3 + 1) m = m + 1 + 1048576 := by
        unfold farN; rw [if_neg (by omega), if_neg (by omega), if_pos (by omega)]
      rw [e1, e2]
      simp only; omega
    · have e1 : limI (j + 3) (numsI P L I) = (0, (P.length : Int) - 1) := by
        unfold limI; rw [if_neg (by omega), if_neg (by omega), h0]; simp only [Option.getD_some]; rw [if_neg hj]
      have e2 : farN P.length (j + 3 + 1) m = m + P.length := by
        unfold farN; rw [if_neg (by omega), if_neg (by omega), if_neg (by omega)]
      rw [e1] at hl ⊢
      rw [e2]
      simp only at hl ⊢
      omega
theorem itoa_minus {n : Nat} (h : 1 ≤ n) (h2 : n < 10 ^ 24) : itoaN (-(n : Int)) = [45] ++ itoaN (n : Int) := by
  obtain ⟨j, rfl⟩ : ∃ j, n = j + 1 := ⟨n - 1, by omega⟩
  have e : (-((j + 1 : Nat) : Int)) = Int.negSucc j := rfl
  have h3 : j + 1 < 10 ^ 25 := Nat.lt_trans h2 (by decide)
  rw [e, itoa_neg j h3, itoa_nat (j + 1) h3, if_neg (by omega)]
  rfl
structure Far7 (s u d num : List Nat) (p q : Nat) : Prop where
  sl : s.length ≤ 100000
  ul : u.length ≤ 100000
  dl : d.length ≤ 100000
  nl : num.length ≤ 26
  tk : slSA (.str s) none (some (.int .i64 (p : Int))) = some (.str u)
  dr : slSA (.str s) (some (.int .i64 (q : Int))) none = some (.str d)
  ql : q ≤ s.length
  u8 : ∀ b, b ∈ u → b < 256
  d8 : ∀ b, b ∈ d → b < 256
  n8 : ∀ b, b ∈ num → b < 256
  c1 : parI (u ++ num ++ d) = (([], [], []), (p : Int), 10)
  c2 : parI (u ++ [45] ++ num ++ d) = (([], [], []), (p : Int), 10)
theorem far_all {P L I : List (Int × Int)} (hv : validP P L I = true) {k m : Nat} (hk : k + 1 < (wordsN (textI P L I)).length) (hm : m ≤ 65535) {t : Tok} (ht : (wordsN (textI P L I))[k + 1]? = some t) :
    Far7 (textI P L I) ((textI P L I).take t.1) ((textI P L I).drop (t.1 + t.2.length)) (itoaN (farN P.length (k + 1) m)) t.1 (t.1 + t.2.length) := by
  have h8 := text_lt P L I
  have hl := text_len hv
  rw [words_text hv] at ht hk
  have hk' : k + 1 < (wordsI P L I).length := by rwa [toksAt_len] at hk
  have hk2 : k < (numsI P L I).length := by rw [wordsI_len] at hk'; omega
  have hP : P.length ≤ 200 := by
    simp only [validP, Bool.and_eq_true, decide_eq_true_eq] at hv
    exact hv.1.1.1.1.1
  obtain ⟨q, hq⟩ : ∃ q, (wordsI P L I)[k + 1]? = some q := ⟨_, List.getElem?_eq_getElem hk'⟩
  have ht' := toksAt_get 0 (wordsI P L I) (k + 1) q hq
  rw [ht] at ht'
  cases ht'
  have hs := rend_split hq
  obtain ⟨f1, f2, f3⟩ := far_lim hv hk2 (m := m)
  have fN : farN P.length (k + 1) m ≤ 2000000 := by unfold farN; split; omega; split; omega; split; omega; omega
  generalize farN P.length (k + 1) m = N at *
  have h24 : (10 : Nat) ^ 24 = 1000000000000000000000000 := by decide
  have hN : (N : Int).natAbs < 10 ^ 24 := by omega
  have hN' : (-(N : Int)).natAbs < 10 ^ 24 := by omega
  have hmin := itoa_minus f3 (by omega)
  have il := itoaN_len N
  have i8 := itoa_lt N
  have il' := itoaN_len (-(N : Int))
  have hc3 := cut_swap hv hq (itoa_facts hN).1 (by omega) (e := 10) (by decide) (by rw [numR_itoa hN, if_neg (by omega)])
  have hc4 := cut_swap hv hq (itoa_facts hN').1 (by omega) (e := 10) (by decide) (by rw [numR_itoa hN', if_neg (by omega)])
  rw [hmin] at hc4
  simp only [Nat.zero_add]
  generalize hA : rend ((wordsI P L I).take (k + 1)) = A at *
  generalize hB : q.2 ++ rend ((wordsI P L I).drop (k + 1 + 1)) = B at *
  generalize textI P L I = s at *
  subst hs
  have e1 : (A ++ (q.1 ++ B)).take A.length = A := by simp
  have e2 : (A ++ (q.1 ++ B)).drop (A.length + q.1.length) = B := by
    rw [← List.append_assoc, ← List.length_append, List.drop_left]
  have hl' := hl
  simp only [List.length_append] at hl'
  exact ⟨hl, by rw [e1]; omega, by rw [e2]; omega, il, slSA_take (by simp), slSA_drop (by simp), by simp, fun b hb => h8 b (List.mem_of_mem_take hb), fun b hb => h8 b (List.mem_of_mem_drop hb), i8,
    by rw [e1, e2, List.append_assoc]; exact hc3, by rw [e1, e2]; simp only [List.append_assoc] at hc4 ⊢; exact hc4⟩
theorem tok_at {H : Heap} {v : AV} {W : List Tok} (h : Sl 2 tokA H v W) {k : Nat} {t : Tok} (hk : W[k]? = some t) : ∃ o off, indexAddrV 2 v (.int .i64 (k : Int)) = some (.ptr o off) ∧ loadA H none (.ptr o off) = some (.int .i64 (t.1 : Int)) ∧ loadA H none (.ptr o (off + 1)) = some (.str t.2) := by
  obtain ⟨o, off, t', a, b, _, c, d⟩ := toks_idx h (List.getElem?_eq_some_iff.1 hk).1
  rw [hk] at a
  cases a
  exact ⟨o, off, b, c, d⟩
def r7m : ACode := subAt [1,1,1,1,1,1,1,1] A7.body
def r7b : ACode := subAt [1,1,1,1,1,1,1,1,1] A7.body
def r7c : ACode := subAt [1,1,1,1,1,1,1,1,1,1] A7.body
theorem body7 : A7.body = putAt [1,1,1,1,1,1,1,1] A7.body r7m := rfl
theorem body7m : r7m = putAt [1] r7m r7b := rfl
theorem body7b : r7b = putAt [1] r7b r7c := rfl
structure Ev7 (s : List Nat) (uv : AV) (k N p : Nat) (τ : Env) : Prop where
  t7 : Env.at τ 7 = .str s
  t9 : Env.at τ 9 = uv
  t11 : Env.at τ 11 = .int .i64 (k : Int)
  t12 : Env.at τ 12 = .int .i64 (N : Int)
  t13 : Env.at τ 13 = .int .i64 (p : Int)
theorem r7c_ok {H : Heap} (hw : H.Wf) {s u d : List Nat} {N p k : Nat} {w : List Nat} {W : List Tok} {uv : AV} (h : Far7 s u d (itoaN N) p (p + w.length)) (hN : N ≤ 2000000) (su : Sl 2 tokA H uv W) (hk : W[k]? = some (p, w)) {τ : Env} (t : Ev7 s uv k N p τ)
    (t15 : Env.at τ 15 = .int .i64 (p : Int)) (t16 : Env.at τ 16 = .int .i64 10) : Wp FK r7c τ H (finQ [.tmp 6] fun r _ => r = .bool true) := by
  obtain ⟨sl, ul, dl, nl, tk, dr, ql, u8, d8, n8, c1, c2⟩ := h
  obtain ⟨t7, t9, t11, t12, t13⟩ := t
  have hwq : IntKind.i64.wrap ((p : Int) + (w.length : Int)) = ((p + w.length : Nat) : Int) := by rw [wrap64 (by omega) (by omega)]; omega
  have k9 := bytes_lt_app (bytes_lt_app (bytes_lt_app u8 (b := [45]) (by simp)) n8) d8
  simp [r7c, subAt, A7, t7, t13, tk, -List.append_assoc]
  rw [if_neg (by omega)]
  simp [t12, -List.append_assoc]
  refine smallTextQ (n := (N : Int)) rfl rfl rfl rfl hw (by omega) (by omega) ?_
  intro r1 H1 hw1 k1
  simp [-List.append_assoc]
  refine k1.quiet ?_
  rintro _ H2 ⟨rfl, e2⟩
  generalize ({ t := H2.t, next := H2.next, floor := H1.floor } : Heap) = H2 at *
  obtain ⟨po, pf, hix, hl1, hl2⟩ := tok_at (su.ext e2) hk
  have hal : (u ++ [45] ++ itoaN N).length = u.length + 1 + (itoaN N).length := by simp; omega
  simp [-List.append_assoc]
  rw [if_neg (by omega)]
  simp [t7, t9, t11, t13, hix, hl2, hwq, dr, -List.append_assoc, -Int.natCast_add]
  rw [if_neg (by omega)]
  generalize u ++ [45] ++ itoaN N ++ d = S3 at *
  obtain ⟨hb3, _⟩ := bytes_of_str (H := H2) k9
  have ep3 := Ext.push e2.wf (.cells (S3.map byteA))
  simp
  refine (Cp.quiet (H := H2.push (.cells (S3.map byteA))) (parse18 (FT := FK) rfl rfl rfl rfl rfl rfl rfl rfl ep3.wf.up hb3) ?_)
  rintro _ H5 ⟨a3, b3, c3', rfl, ma3, mb3, mc3, _, e5⟩
  have e5' := e5.back ep3.wf
  rw [c2] at ma3 mb3 mc3 ⊢
  have pol3 : Pol H5 a3 b3 c3' [] [] [] := ⟨ma3.sl pairc_len, mb3.sl pairc_len, mc3.sl pairc_len⟩
  have pol4 : Pol { H5 with floor := (H2.push (.cells (S3.map byteA))).floor } a3 b3 c3' [] [] [] := ⟨pol3.p, pol3.l, pol3.i⟩
  generalize ({ H5 with floor := (H2.push (.cells (S3.map byteA))).floor } : Heap) = H6 at *
  obtain ⟨H7, s7, g7, e7, n7⟩ := store_new e5'.wf (z := [.nils, .nils, .nils]) (n := 3) (x := .agg [a3, b3, c3']) (cs := [a3, b3, c3']) rfl rfl rfl pol4.one
  simp [s7, t13, t15, t16]
  apply hk11
  simp
theorem r7b_ok {H : Heap} (hw : H.Wf) {s u d : List Nat} {N p k : Nat} {w : List Nat} {W : List Tok} {uv : AV} (h : Far7 s u d (itoaN N) p (p + w.length)) (hN : N ≤ 2000000) (su : Sl 2 tokA H uv W) (hk : W[k]? = some (p, w)) {τ : Env} (t : Ev7 s uv k N p τ) :
    Wp FK r7b τ H (finQ [.tmp 6] fun r _ => r = .bool true) := by
  have h' := h
  obtain ⟨sl, ul, dl, nl, tk, dr, ql, u8, d8, n8, c1, c2⟩ := h
  obtain ⟨t7, t9, t11, t12, t13⟩ := t
  have hwq : IntKind.i64.wrap ((p : Int) + (w.length : Int)) = ((p + w.length : Nat) : Int) := by rw [wrap64 (by omega) (by omega)]; omega
  have k9 := bytes_lt_app (bytes_lt_app u8 n8) d8
  rw [body7b]
  simp [r7b, subAt, putAt, A7, t7, t12, t13, tk, -List.append_assoc]
  refine smallTextQ (n := (N : Int)) rfl rfl rfl rfl hw (by omega) (by omega) ?_
  intro r1 H1 hw1 k1
  simp [-List.append_assoc]
  refine k1.quiet ?_
  rintro _ H2 ⟨rfl, e2⟩
  generalize ({ t := H2.t, next := H2.next, floor := H1.floor } : Heap) = H2 at *
  obtain ⟨po, pf, hix, hl1, hl2⟩ := tok_at (su.ext e2) hk
  have hal : (u ++ itoaN N).length = u.length + (itoaN N).length := by simp
  simp [-List.append_assoc]
  rw [if_neg (by omega)]
  simp [t7, t9, t11, t13, hix, hl2, hwq, dr, -List.append_assoc, -Int.natCast_add]
  rw [if_neg (by omega)]
  generalize u ++ itoaN N ++ d = S3 at *
  obtain ⟨hb3, _⟩ := bytes_of_str (H := H2) k9
  have ep3 := Ext.push e2.wf (.cells (S3.map byteA))
  simp
  refine (Cp.quiet (H := H2.push (.cells (S3.map byteA))) (parse18 (FT := FK) rfl rfl rfl rfl rfl rfl rfl rfl ep3.wf.up hb3) ?_)
  rintro _ H5 ⟨a3, b3, c3', rfl, ma3, mb3, mc3, _, e5⟩
  have e5' := e5.back ep3.wf
  rw [c1] at ma3 mb3 mc3 ⊢
  have pol3 : Pol H5 a3 b3 c3' [] [] [] := ⟨ma3.sl pairc_len, mb3.sl pairc_len, mc3.sl pairc_len⟩
  have pol4 : Pol { H5 with floor := (H2.push (.cells (S3.map byteA))).floor } a3 b3 c3' [] [] [] := ⟨pol3.p, pol3.l, pol3.i⟩
  generalize ({ H5 with floor := (H2.push (.cells (S3.map byteA))).floor } : Heap) = H6 at *
  obtain ⟨H7, s7, g7, e7, n7⟩ := store_new e5'.wf (z := [.nils, .nils, .nils]) (n := 3) (x := .agg [a3, b3, c3']) (cs := [a3, b3, c3']) rfl rfl rfl pol4.one
  simp [s7]
  exact r7c_ok e7.wf h' hN (su.ext (((e2.trans ep3).trans e5').trans e7)) hk ⟨by simp [t7], by simp [t9], by simp [t11], by simp [t12], by simp [t13]⟩ (by simp) (by simp)
theorem r7m_ok {H : Heap} (hw : H.Wf) {P L I : List (Int × Int)} (hv : validP P L I = true) {k m : Nat} (hk : k + 1 < (wordsN (textI P L I)).length) (hm : m ≤ 65535) {uv : AV} (su : Sl 2 tokA H uv (wordsN (textI P L I))) {τ : Env}
    (t7 : Env.at τ 7 = .str (textI P L I)) (t9 : Env.at τ 9 = uv) (t11 : Env.at τ 11 = .int .i64 ((k + 1 : Nat) : Int)) (t12 : Env.at τ 12 = .int .i64 (farN P.length (k + 1) m : Int)) : Wp FK r7m τ H (finQ [.tmp 6] fun r _ => r = .bool true) := by
  obtain ⟨t, ht⟩ : ∃ t, (wordsN (textI P L I))[k + 1]? = some t := ⟨_, List.getElem?_eq_getElem hk⟩
  obtain ⟨p, w⟩ := t
  have hf := far_all hv hk hm ht
  obtain ⟨po, pf, hix, hl1, hl2⟩ := tok_at su ht
  have hP : P.length ≤ 200 := by
    simp only [validP, Bool.and_eq_true, decide_eq_true_eq] at hv
    exact hv.1.1.1.1.1
  have fN : farN P.length (k + 1) m ≤ 2000000 := by unfold farN; split; omega; split; omega; split; omega; omega
  rw [body7m]
  simp [r7m, subAt, putAt, A7, t9, t11, hix, hl1, -Int.natCast_add]
  refine r7b_ok hw hf fN su ht ⟨by simp [t7], by simp [t9], by simp [t11], by simp [t12], by simp⟩
theorem w7a {m : Nat} (h : m ≤ 65535) : IntKind.i64.wrap (((m + 1 : Nat) : Int) + 200) = ((m + 1 + 200 : Nat) : Int) := by rw [wrap64 (by omega) (by omega)]; omega
theorem w7b {m : Nat} (h : m ≤ 65535) : IntKind.i64.wrap (((m + 1 : Nat) : Int) + 400) = ((m + 1 + 400 : Nat) : Int) := by rw [wrap64 (by omega) (by omega)]; omega
theorem w7c {m : Nat} (h : m ≤ 65535) : IntKind.i64.wrap (((m + 1 : Nat) : Int) + 1048576) = ((m + 1 + 1048576 : Nat) : Int) := by rw [wrap64 (by omega) (by omega)]; omega
theorem w7d {m n : Nat} (h : m ≤ 65535) (hn : n ≤ 200) : IntKind.i64.wrap (((m + 1 : Nat) : Int) + (n : Int)) = ((m + 1 + n : Nat) : Int) := by rw [wrap64 (by omega) (by omega)]; omega
theorem w7e {m n : Nat} (h : m ≤ 65535) (hn : n ≤ 200) : IntKind.i64.wrap (((m + 1 + n : Nat) : Int) - 1) = ((m + n : Nat) : Int) := by rw [wrap64 (by omega) (by omega)]; omega
theorem w7f {n : Nat} (hn : n ≤ 200) : IntKind.i64.wrap (2 * (n : Int)) = ((2 * n : Nat) : Int) := by rw [wrap64 (by omega) (by omega)]; omega
theorem w7g {n : Nat} (hn : n ≤ 200) : IntKind.i64.wrap (4 + ((2 * n : Nat) : Int)) = ((4 + 2 * n : Nat) : Int) := by rw [wrap64 (by omega) (by omega)]; omega
theorem ranges7 {H : Heap} (hw : H.Wf) {a b c : AV} {P L I : List (Int × Int)} (h : PolA H a b c P L I) {x y : Int} (_hx : -9223372036854775808 ≤ x ∧ x ≤ 9223372036854775807) (hy : 0 ≤ y ∧ y ≤ 65535) : Cp FK 7 [.agg [a, b, c], .int .i64 x, .int .u16 y] H (fun r _ => r = .bool true) := by
  refine Cp_code A7 rfl rfl ?_
  rw [body7]
  have hA : A7.results = [.tmp 6] := rfl
  rw [hA]
  obtain ⟨g0, e0⟩ := push_new hw (.cells [a, b, c])
  have ld : ∀ {H' : Heap}, ExtC (H.push (.cells [a, b, c])) H' → loadA H' (some 3) (.ptr H.next 0) = some (.agg [a, b, c]) := fun k => load_agg (k.keep _ _ g0) (by simp [seg])
  have l0 := ld (ExtC.refl e0.wf)
  simp [A7, putAt, h.pol.one, l0]
  refine (print14 (FT := FK) rfl rfl rfl rfl rfl rfl rfl rfl e0.wf (h.pol.ext e0)).mono ?_
  rintro _ H1 ⟨rfl, e1⟩
  have l1 := ld e1
  have q1 := (h.pol.ext e0).extC e1
  simp [l1]
  refine (long10 (FT := FK) rfl e1.wf q1).mono ?_
  rintro _ H2 ⟨rfl, e2⟩
  by_cases hl : (decide (300 < P.length) || decide (500 < L.length) || decide (500 < I.length)) = true
  · rw [hl]
    simp
    apply hk11
    simp
  have hl0 : (decide (300 < P.length) || decide (500 < L.length) || decide (500 < I.length)) = false := by simpa using hl
  rw [hl0]
  by_cases hv : validP P L I = true
  · have k0 : chkI P L I = 0 := by simp [chkI, hv]
    have p0 : prtI P L I = textI P L I := by simp [prtI, hv]
    rw [k0, p0]
    obtain ⟨hb, hcap⟩ := bytes_of_str (H := H2) (text_lt P L I)
    have ep := Ext.push e2.wf (.cells ((textI P L I).map byteA))
    have hle := text_len hv
    simp
    refine (all20 (FT := FK) rfl ep.wf hb hcap).mono ?_
    rintro _ H3 ⟨u, rfl, su, e3⟩
    rw [if_neg (by omega)] at su ⊢
    have hlen := su.len
    have hlw : 4 ≤ (wordsN (textI P L I)).length := by
      rw [words_text hv, toksAt_len, wordsI_len]; have := (numsI_small hv).1; omega
    have hlw2 : (wordsN (textI P L I)).length ≤ 10000 := by
      rw [words_text hv, toksAt_len, wordsI_len]; have := (numsI_small hv).2; omega
    have hn4 : ¬ ((wordsN (textI P L I)).length : Int) < 4 := by omega
    have hP : P.length ≤ 200 := by
      simp only [validP, Bool.and_eq_true, decide_eq_true_eq] at hv
      exact hv.1.1.1.1.1
    obtain ⟨m, hm⟩ := Int.eq_ofNat_of_zero_le hy.1
    have hy' := hy.2
    subst hm
    have wl : IntKind.i64.wrap (((wordsN (textI P L I)).length : Int) - 1) = (((wordsN (textI P L I)).length - 1 : Nat) : Int) := by rw [wrap64 (by omega) (by omega)]; omega
    obtain ⟨k, hk, wk1, wk2⟩ := remU x (n := (wordsN (textI P L I)).length - 1) (by omega) (by omega)
    have wk3 : IntKind.i64.wrap (k : Int) = k := wrap64 (by omega) (by omega)
    have wk4 : IntKind.i64.wrap (1 + (k : Int)) = ((k + 1 : Nat) : Int) := by rw [wrap64 (by omega) (by omega)]; omega
    have wm : IntKind.i64.wrap (m : Int) = m := wrap64 (by omega) (by omega)
    have wm1 : IntKind.i64.wrap (1 + (m : Int)) = ((m + 1 : Nat) : Int) := by rw [wrap64 (by omega) (by omega)]; omega
    have hnz : ¬ (((wordsN (textI P L I)).length - 1 : Nat) : Int) = 0 := by omega
    have hnz' : ¬ (wordsN (textI P L I)).length - 1 = 0 := by omega
    have ex : ExtC (H.push (.cells [a, b, c])) H3 := (e1.trans e2.c).trans (ep.c.trans e3.c)
    have la : loadA H3 none (.ptr H.next 0) = some a := load_get (ex.keep _ _ g0) rfl
    have lena := h.pol.p.len
    have fin : ∀ N : Nat, N = farN P.length (k + 1) m → ∀ {τ : Env}, Env.at τ 7 = .str (textI P L I) → Env.at τ 9 = u → Env.at τ 11 = .int .i64 ((k + 1 : Nat) : Int) → Env.at τ 12 = .int .i64 (N : Int) → Wp FK r7m τ H3 (finQ [.tmp 6] fun r _ => r = .bool true) := by
      intro N hN τ t7 t9 t11 t12
      subst hN
      exact r7m_ok e3.wf hv (by omega) (by omega) su t7 t9 t11 t12
    have hm : m ≤ 65535 := by omega
    simp [hlen, hn4, wl, wk1, wk2, hnz', wk3, wk4, wm, wm1, -Int.natCast_add]
    by_cases c1 : k + 1 = 1
    · rw [if_pos (by omega)]
      refine fin _ (by unfold farN; rw [if_pos c1]) (by simp) (by simp) (by simp [-Int.natCast_add]) (by simp [w7a hm, -Int.natCast_add])
    rw [if_neg (by omega)]
    by_cases c2 : k + 1 < 4
    · rw [if_pos (by omega)]
      refine fin _ (by unfold farN; rw [if_neg c1, if_pos c2]) (by simp) (by simp) (by simp [-Int.natCast_add]) (by simp [w7b hm, -Int.natCast_add])
    rw [if_neg (by omega)]
    simp [la, lena, w7f hP, w7g hP, -Int.natCast_add, -Int.natCast_mul]
    by_cases c3 : k + 1 < 4 + 2 * P.length
    · rw [if_pos (by omega)]
      refine fin _ (by unfold farN; rw [if_neg c1, if_neg c2, if_pos c3]) (by simp) (by simp) (by simp [-Int.natCast_add]) (by simp [w7c hm, -Int.natCast_add])
    rw [if_neg (by omega)]
    simp [w7d hm hP, w7e hm hP, -Int.natCast_add, -Int.natCast_mul]
    exact fin _ (by unfold farN; rw [if_neg c1, if_neg c2, if_neg c3]) (by simp) (by simp) (by simp [-Int.natCast_add]) (by simp [-Int.natCast_add])
  · have k0 : chkI P L I = 2 := by simp [chkI, hv]
    rw [k0]
    simp
    apply hk11
    simp
end Go.Proofs.YtmgaaieofdjfdaaDoor
