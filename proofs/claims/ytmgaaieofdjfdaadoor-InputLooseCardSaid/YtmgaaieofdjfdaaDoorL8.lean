/- The law InputLoose, over the interpreter. No claim by itself. -/
import Derived.Test.YtmgaaieofdjfdaaDoorL7
namespace Go.Proofs.YtmgaaieofdjfdaaDoor
open Go Go.AI
def gapsW : List (List Nat) := [[32], [10], [9, 13, 32], [32, 35, 32, 112, 111, 108, 121, 32, 49, 10], [10, 10, 35, 10]]
theorem gaps_ok : ∀ g, g ∈ gapsW → sepOk g ∧ g.length ≤ 11 ∧ ∀ b, b ∈ g → b < 256 := by
  intro g hg
  simp only [gapsW, List.mem_cons, List.not_mem_nil, or_false] at hg
  rcases hg with rfl | rfl | rfl | rfl | rfl <;> exact ⟨⟨⟨_, _, rfl, rfl⟩, fun r p => rfl⟩, by decide, by decide⟩
structure Gw (w : List Nat) : Prop where
  ok : wordOk w
  ln : w.length ≤ 26
  b8 : ∀ b, b ∈ w → b < 256
structure Gp (q : Wd) : Prop where
  w : Gw q.1
  sp : sepOk q.2
  b8 : ∀ b, b ∈ q.2 → b < 256
structure Lo8 (W : List Tok) (i : Nat) (t : List Nat) : Prop where
  ln : t.length ≤ 3 + 37 * i
  ex : ∃ V : List Wd, t = [35, 120, 10] ++ rend V ∧ V.map (·.1) = (W.take i).map (·.2) ∧ ∀ q, q ∈ V → Gp q
theorem lo_next {W : List Tok} {i : Nat} {t : List Nat} (h : Lo8 W i t) {x : Tok} (hx : W[i]? = some x) (hg : Gw x.2) {g : List Nat} (g1 : g ∈ gapsW) : Lo8 W (i + 1) (t ++ x.2 ++ g) := by
  obtain ⟨hl, V, rfl, hv, hq⟩ := h
  obtain ⟨a, b, c⟩ := gaps_ok g g1
  have := hg.ln
  refine ⟨by rw [List.length_append, List.length_append]; omega, V ++ [(x.2, g)], by rw [rend_app]; simp [rend], ?_, fun q q1 => ?_⟩
  · rw [List.map_append, hv, List.take_add_one, hx]; simp
  · rcases List.mem_append.1 q1 with r | r
    · exact hq q r
    · simp at r; subst r; exact ⟨hg, a, c⟩
theorem lo_fin {P L I : List (Int × Int)} (hv : validP P L I = true) {t : List Nat} (h : Lo8 (wordsN (textI P L I)) (wordsN (textI P L I)).length t) (hl : (wordsN (textI P L I)).length ≤ 10000) : parI t = ((P, L, I), 0, 0) ∧ ∀ b, b ∈ t → b < 256 := by
  obtain ⟨hln, V, rfl, hV, hq⟩ := h
  rw [List.take_length] at hV
  refine ⟨par_words hv (by omega) ?_, ?_⟩
  · have h1 : wordsN ([35, 120, 10] ++ rend V) = toksAt 3 V := by
      have := scan_rend V [] 3 (fun q q1 => ⟨(hq q q1).w.ok, (hq q q1).sp⟩)
      rw [List.append_nil] at this
      show scanW idN ([35, 120, 10] ++ rend V) 0 .out = _
      have h2 : scanW idN ([35, 120, 10] ++ rend V) 0 .out = scanW idN (rend V) 3 .out := rfl
      rw [h2, this]
      simp [scanW]
    rw [h1, toksAt_txt, hV, words_text hv, toksAt_txt, words_txt]
  · exact bytes_lt_app (by simp) (rend_lt V fun q q1 => ⟨(hq q q1).w.b8, (hq q q1).b8⟩)
theorem words_gw {P L I : List (Int × Int)} (hv : validP P L I = true) : ∀ x, x ∈ wordsN (textI P L I) → Gw x.2 := by
  intro x hx
  have hok := words_rend (words_ok hv)
  have hm : x.2 ∈ (wordsN (textI P L I)).map (·.2) := List.mem_map.2 ⟨x, hx, rfl⟩
  rw [words_text hv, toksAt_txt] at hm
  obtain ⟨q, q1, q2⟩ := List.mem_map.1 hm
  have ok := (words_ok hv q q1).1
  rw [q2] at ok
  rw [words_txt] at hm
  rcases List.mem_cons.1 hm with r | r
  · rw [r] at ok ⊢; exact ⟨ok, by decide, by decide⟩
  · obtain ⟨n, _, hn⟩ := List.mem_map.1 r
    rw [← hn] at ok ⊢
    exact ⟨ok, itoaN_len n, itoa_lt n⟩
def r8b : ACode := subAt [1,1,1,1,1,1,1,1] A8.body
theorem body8 : A8.body = putAt [1,1,1,1,1,1,1,1] A8.body r8b := rfl
theorem r8b_ok {H : Heap} (hw : H.Wf) {P L I : List (Int × Int)} {a b c : AV} {o : Nat} (pol : Pol H a b c P L I) (g : H.get o = some (.cells [a, b, c])) (hP : P.length ≤ 9223372036854775806) (hL : L.length ≤ 9223372036854775806) (hI : I.length ≤ 9223372036854775806)
    {t : List Nat} (ht : parI t = ((P, L, I), 0, 0)) (t8 : ∀ b, b ∈ t → b < 256) {τ : Env} (t2 : Env.at τ 2 = .ptr o 0) (t10 : Env.at τ 10 = .str t) : Wp FK r8b τ H (finQ [.tmp 4] fun r _ => r = .bool true) := by
  obtain ⟨hb, _⟩ := bytes_of_str (H := H) t8
  have ep := Ext.push hw (.cells (t.map byteA))
  simp [r8b, subAt, A8, t10]
  refine (parse18 (FT := FK) rfl rfl rfl rfl rfl rfl rfl rfl ep.wf hb).mono ?_
  rintro _ H4 ⟨a', b', c', rfl, ma', mb', mc', _, e4⟩
  rw [ht] at ma' mb' mc' ⊢
  have pol' : Pol H4 a' b' c' P L I := ⟨ma'.sl pairc_len, mb'.sl pairc_len, mc'.sl pairc_len⟩
  obtain ⟨H5, s5, g5, e5, n5⟩ := store_new e4.wf (z := [.nils, .nils, .nils]) (n := 3) (x := .agg [a', b', c']) (cs := [a', b', c']) rfl rfl rfl pol'.one
  have e35 := (ep.trans e4).trans e5
  have l5 : loadA H5 (some 3) (.ptr o 0) = some (.agg [a, b, c]) := load_agg (e35.keep _ _ g) (by simp [seg])
  have l5' : loadA H5 (some 3) (.ptr H4.next 0) = some (.agg [a', b', c']) := load_agg g5 (by simp [seg])
  simp [s5, l5, l5', t2]
  refine (same17 (FT := FK) rfl rfl rfl e5.wf (pol'.ext e5) (pol.ext e35) hP hL hI).mono ?_
  rintro _ H6 ⟨rfl, e6⟩
  have : samePol P L I P L I = true := by simp [samePol]
  simp [this]
  apply hk11
  simp
structure Inv8 (H : Heap) (W : List Tok) (v uv gv p2 : AV) (k : Nat) (τ : Env) (H' : Heap) : Prop where
  hh : H' = H
  ri : ∃ (i : Nat) (t : List Nat), i ≤ W.length ∧ k = W.length - i ∧ Lo8 W i t ∧ Env.at τ 1 = v ∧ Env.at τ 2 = p2 ∧ Env.at τ 7 = uv ∧ Env.at τ 9 = gv ∧ Env.at τ 10 = .str t ∧ Env.at τ 11 = .int .i64 i
theorem loose8 {H : Heap} (hw : H.Wf) {a b c : AV} {P L I : List (Int × Int)} (h : PolA H a b c P L I) {v : AV} {s : List Nat} (hs : bytesA H v = some s) (_hcap : capOk v = true) : Cp FK 8 [.agg [a, b, c], v] H (fun r _ => r = .bool true) := by
  refine Cp_code A8 rfl rfl ?_
  rw [body8]
  have hA : A8.results = [.tmp 4] := rfl
  rw [hA]
  have hlen := bytesA_len hs
  obtain ⟨g0, e0⟩ := push_new hw (.cells [a, b, c])
  have ld : ∀ {H' : Heap}, ExtC (H.push (.cells [a, b, c])) H' → loadA H' (some 3) (.ptr H.next 0) = some (.agg [a, b, c]) := fun k => load_agg (k.keep _ _ g0) (by simp [seg])
  have l0 := ld (ExtC.refl e0.wf)
  simp [A8, putAt, h.pol.one, l0]
  refine (print14 (FT := FK) rfl rfl rfl rfl rfl rfl rfl rfl e0.wf (h.pol.ext e0)).mono ?_
  rintro _ H1 ⟨rfl, e1⟩
  have l1 := ld e1
  have q1 := (h.pol.ext e0).extC e1
  simp [l1]
  refine (long10 (FT := FK) rfl e1.wf q1).mono ?_
  rintro _ H2 ⟨rfl, e2⟩
  by_cases hl : (decide (300 < P.length) || decide (500 < L.length) || decide (500 < I.length)) = true
  · rw [hl]
    simp
    apply hk11
    simp
  have hl0 : (decide (300 < P.length) || decide (500 < L.length) || decide (500 < I.length)) = false := by simpa using hl
  rw [hl0]
  simp only [Bool.or_eq_false_iff, decide_eq_false_iff_not] at hl0
  by_cases hv : validP P L I = true
  · have k0 : chkI P L I = 0 := by simp [chkI, hv]
    have p0 : prtI P L I = textI P L I := by simp [prtI, hv]
    rw [k0, p0]
    by_cases hlong : 3000 < s.length
    · have hlong' : (3000 : Int) < s.length := by omega
      simp [hlen, hlong']
      apply hk11
      simp
    have hlong' : ¬ (3000 : Int) < s.length := by omega
    obtain ⟨hb, hcap⟩ := bytes_of_str (H := H2) (text_lt P L I)
    have ep := Ext.push e2.wf (.cells ((textI P L I).map byteA))
    have hle := text_len hv
    simp [hlen, hlong']
    refine (all20 (FT := FK) rfl ep.wf hb hcap).mono ?_
    rintro _ H3 ⟨u, rfl, su, e3⟩
    rw [if_neg (by omega)] at su ⊢
    have hlu := su.len
    have hlw : 4 ≤ (wordsN (textI P L I)).length := by
      rw [words_text hv, toksAt_len, wordsI_len]; have := (numsI_small hv).1; omega
    have hlw2 : (wordsN (textI P L I)).length ≤ 10000 := by
      rw [words_text hv, toksAt_len, wordsI_len]; have := (numsI_small hv).2; omega
    have hn4 : ¬ ((wordsN (textI P L I)).length : Int) < 4 := by omega
    have hgw := words_gw hv
    have hfin := fun t ht => lo_fin (t := t) hv ht hlw2
    generalize wordsN (textI P L I) = W at *
    have ep4 := push_new e3.wf (.cells (gapsW.flatMap strc))
    have sb := sl_lit (Sl.ofCells (enc := strc) strc_len ep4.1) 5 true
    have su4 := su.ext ep4.2
    have ex : ExtC (H.push (.cells [a, b, c])) (H3.push (.cells (gapsW.flatMap strc))) := (e1.trans e2.c).trans ((ep.c.trans e3.c).trans ep4.2.c)
    have hs4 := bytesA_extC (e0.c.trans ex) hs
    have pol4 := (h.pol.ext e0).extC ex
    have g4 := ex.keep _ _ g0
    have hw4 := ep4.2.wf
    simp [hlu, hn4, setSeg]
    show Wp FK _ _ (H3.push (.cells (gapsW.flatMap strc))) _
    generalize H3.push (.cells (gapsW.flatMap strc)) = H4 at *
    refine Wp_loop (Inv8 H4 W v u (.slc H3.next 0 5 1 5 true) (.ptr H.next 0)) ?_ W.length _ _ ⟨rfl, 0, [35, 120, 10], by omega, rfl, ⟨by simp, [], by simp [rend], by simp, by simp⟩, by simp, by simp, by simp, by simp, by simp, by simp⟩
    rintro k τ H5 ⟨rfl, i, t, hi, rfl, lo, t1, t2, t7, t9, t10, t11⟩
    simp only [Wp_seq, Wp_region]
    by_cases hc : i < W.length
    · have w : IntKind.i64.wrap ((i : Int) + 1) = ((i + 1 : Nat) : Int) := wrap64 (by omega) (by omega)
      obtain ⟨x, hx⟩ : ∃ x, W[i]? = some x := ⟨_, List.getElem?_eq_getElem hc⟩
      obtain ⟨po, pf, hix, hl1, hl2⟩ := tok_at su4 hx
      have gx := hgw x (List.mem_of_getElem? hx)
      have hxl := gx.ln
      have htl := lo.ln
      have hsb : ∀ m : Nat, m < 5 → ∃ pg g, g ∈ gapsW ∧ g.length ≤ 11 ∧ indexAddrV 1 (.slc H3.next 0 5 1 5 true) (.int .i64 (m : Int)) = some pg ∧ loadA H5 none pg = some (.str g) := by
        intro m hm
        obtain ⟨pg, g, hg, hgx, hgl⟩ := Strs.idx sb (k := .i64) (i := (m : Int)) (by omega) (by show (m : Int) < 5; omega)
        have := List.mem_of_getElem? hg
        exact ⟨pg, g, this, (gaps_ok g this).2.1, hgx, hgl⟩
      by_cases hg : i < s.length
      · have hg' : (i : Int) < (s.length : Int) := by omega
        obtain ⟨p, b, hb1, hb2, hb3⟩ := bytesA_idx hs4 (k := .i64) hg
        obtain ⟨m, hm, hm5⟩ : ∃ m : Nat, (b : Int).tmod 5 = (m : Int) ∧ m < 5 := ⟨b % 5, rfl, Nat.mod_lt _ (by omega)⟩
        have wm : IntKind.i64.wrap (m : Int) = (m : Int) := wrap64 (by omega) (by omega)
        obtain ⟨pg, g, g1, g2, g3, g5⟩ := hsb _ hm5
        simp [t1, t7, t10, t11, hlu, hc, hlen, hg, hb2, hb3, hm, wm, hix, hl2, -indexAddrV_slc, -Int.natCast_add, -List.append_assoc]
        rw [if_neg (by omega)]
        simp [t9, g3, g5, -indexAddrV_slc, -Int.natCast_add, -List.append_assoc]
        rw [if_neg (by omega)]
        simp [t11, w, -Int.natCast_add, -List.append_assoc]
        exact ⟨_, by omega, rfl, i + 1, _, by omega, rfl, lo_next lo hx gx g1, by simp [t1], by simp [t2], by simp [t7], by simp [t9], by simp, by simp⟩
      · obtain ⟨pg, g, g1, g2, g3, g5⟩ := hsb 0 (by omega)
        simp [t1, t7, t10, t11, hlu, hc, hlen, hg, hix, hl2, -indexAddrV_slc, -Int.natCast_add, -List.append_assoc]
        rw [if_neg (by omega)]
        have g3' : indexAddrV 1 (.slc H3.next 0 5 1 5 true) (.int .i64 0) = some pg := g3
        simp [t9, g3', g5, -indexAddrV_slc, -Int.natCast_add, -List.append_assoc]
        rw [if_neg (by omega)]
        simp [t11, w, -Int.natCast_add, -List.append_assoc]
        exact ⟨_, by omega, rfl, i + 1, _, by omega, rfl, lo_next lo hx gx g1, by simp [t1], by simp [t2], by simp [t7], by simp [t9], by simp, by simp⟩
    · simp [t11, t7, hlu, hc]
      have : i = W.length := by omega
      subst this
      obtain ⟨f1, f2⟩ := hfin t lo
      exact r8b_ok hw4 pol4 g4 (by omega) (by omega) (by omega) f1 f2 (by simp [t2]) (by simp [t10])
  · have k0 : chkI P L I = 2 := by simp [chkI, hv]
    rw [k0]
    simp
    apply hk11
    simp
end Go.Proofs.YtmgaaieofdjfdaaDoor
