/- The law InputCut, over the interpreter. No claim by itself. -/
import Derived.Test.YtmgaaieofdjfdaaDoorL5
import Derived.Test.YtmgaaieofdjfdaaDoorL9
import Derived.Test.YtmgaaieofdjfdaaDoorP3
namespace Go.Proofs.YtmgaaieofdjfdaaDoor
open Go Go.AI
theorem slSA_drop {s : List Nat} {n : Nat} (h : n ≤ s.length) : slSA (.str s) (some (.int .i64 (n : Int))) none = some (.str (s.drop n)) := by
  have hb : (0 : Int) ≤ (n : Int) ∧ (n : Int) ≤ ((s.length : Nat) : Int) := by omega
  simp only [slSA, boundsA, boundA, if_pos hb, Option.map_some, Int.toNat_natCast, ← List.length_drop, List.take_length]
theorem wrapU_eq {n : Int} (h0 : 0 ≤ n) (h1 : n ≤ 18446744073709551615) : IntKind.wrap .u64 n = n := by
  have : IntKind.wrap .u64 n = n % 18446744073709551616 := rfl
  rw [this]; omega
theorem wrapU_range (n : Int) : 0 ≤ IntKind.wrap .u64 n ∧ IntKind.wrap .u64 n ≤ 18446744073709551615 := by
  have : IntKind.wrap .u64 n = n % 18446744073709551616 := rfl
  rw [this]; omega
theorem remU (x : Int) {n : Nat} (h : 0 < n) (h2 : n ≤ 1000000) : ∃ k : Nat, k < n ∧ IntKind.wrap .u64 (n : Int) = n ∧ (IntKind.wrap .u64 x).tmod n = (k : Int) := by
  obtain ⟨a, b⟩ := wrapU_range x
  obtain ⟨m, hm⟩ := Int.eq_ofNat_of_zero_le a
  refine ⟨m % n, Nat.mod_lt _ h, wrapU_eq (by omega) (by omega), ?_⟩
  rw [hm]
  rfl
theorem bytes_lt_app {a b : List Nat} (ha : ∀ x, x ∈ a → x < 256) (hb : ∀ x, x ∈ b → x < 256) : ∀ x, x ∈ a ++ b → x < 256 := fun x hx => by
  rcases List.mem_append.1 hx with r | r
  · exact ha x r
  · exact hb x r
def r6a : ACode := subAt [1,1,1,1,1,1,1,1,1,1] A6.body
theorem body6 : A6.body = putAt [1,1,1,1,1,1,1,1,1,1] A6.body r6a := rfl
structure Cut6 (s bad u d : List Nat) (p q : Nat) : Prop where
  sl : s.length ≤ 100000
  bl : bad.length ≤ 100
  ul : u.length ≤ 100000
  dl : d.length ≤ 100000
  tk : slSA (.str s) none (some (.int .i64 (p : Int))) = some (.str u)
  dr : slSA (.str s) (some (.int .i64 (q : Int))) none = some (.str d)
  s8 : ∀ b, b ∈ s → b < 256
  b8 : ∀ b, b ∈ bad → b < 256
  u8 : ∀ b, b ∈ u → b < 256
  d8 : ∀ b, b ∈ d → b < 256
  c1 : parI u = (([], [], []), (p : Int), 11)
  c2 : parI (s ++ [32] ++ bad) = (([], [], []), (s.length : Int) + 1, 11)
  c3 : parI (u ++ bad ++ d) = (([], [], []), (p : Int), 11)
theorem r6a_ok {H : Heap} (hw : H.Wf) {s bad u d : List Nat} {p q : Nat} (h : Cut6 s bad u d p q) {τ : Env} (t7 : Env.at τ 7 = .str s) (t12 : Env.at τ 12 = .int .i64 p) (t13 : Env.at τ 13 = .int .i64 q) (t14 : Env.at τ 14 = .str bad) :
    Wp FK r6a τ H (finQ [.tmp 6] fun r _ => r = .bool true) := by
  have h' := h
  obtain ⟨sl, bl, ul, dl, tk, dr, s8, b8, u8, d8, c1, c2, c3⟩ := h
  obtain ⟨hb, _⟩ := bytes_of_str (H := H) u8
  have ep := Ext.push hw (.cells (u.map byteA))
  simp [r6a, subAt, A6, t7, t12, tk]
  refine (parse18 (FT := FK) rfl rfl rfl rfl rfl rfl rfl rfl ep.wf hb).mono ?_
  rintro _ H1 ⟨a, b, c, rfl, ma, mb, mc, _, e1⟩
  rw [c1] at ma mb mc ⊢
  have pol : Pol H1 a b c [] [] [] := ⟨ma.sl pairc_len, mb.sl pairc_len, mc.sl pairc_len⟩
  obtain ⟨H2, s2, g2, e2, n2⟩ := store_new e1.wf (z := [.nils, .nils, .nils]) (n := 3) (x := .agg [a, b, c]) (cs := [a, b, c]) rfl rfl rfl pol.one
  simp [s2, t7, -List.append_assoc]
  rw [if_neg (by omega)]
  simp [t14, -List.append_assoc]
  rw [if_neg (by omega)]
  have k8 := bytes_lt_app (bytes_lt_app s8 (b := [32]) (by simp)) b8
  have k9 := bytes_lt_app (bytes_lt_app u8 b8) d8
  have hal : (u ++ bad).length ≤ 200000 := by simp; omega
  have hbl : (u ++ bad).length = u.length + bad.length := by simp
  generalize s ++ [32] ++ bad = S2 at *
  obtain ⟨hb2, _⟩ := bytes_of_str (H := H2) k8
  have ep2 := Ext.push e2.wf (.cells (S2.map byteA))
  simp
  refine (parse18 (FT := FK) rfl rfl rfl rfl rfl rfl rfl rfl ep2.wf hb2).mono ?_
  rintro _ H3 ⟨a2, b2, c2', rfl, ma2, mb2, mc2, _, e3⟩
  rw [c2] at ma2 mb2 mc2 ⊢
  have pol2 : Pol H3 a2 b2 c2' [] [] [] := ⟨ma2.sl pairc_len, mb2.sl pairc_len, mc2.sl pairc_len⟩
  obtain ⟨H4, s4, g4, e4, n4⟩ := store_new e3.wf (z := [.nils, .nils, .nils]) (n := 3) (x := .agg [a2, b2, c2']) (cs := [a2, b2, c2']) rfl rfl rfl pol2.one
  simp [s4, t7, t12, t14, tk, -List.append_assoc]
  rw [if_neg (by omega)]
  simp [t7, t13, dr, -List.append_assoc]
  rw [if_neg (by omega)]
  generalize u ++ bad ++ d = S3 at *
  obtain ⟨hb3, _⟩ := bytes_of_str (H := H4) k9
  have ep3 := Ext.push e4.wf (.cells (S3.map byteA))
  simp
  refine (Cp.quiet (H := H4.push (.cells (S3.map byteA))) (parse18 (FT := FK) rfl rfl rfl rfl rfl rfl rfl rfl ep3.wf.up hb3) ?_)
  rintro _ H5 ⟨a3, b3, c3', rfl, ma3, mb3, mc3, _, e5⟩
  have e5' := e5.back ep3.wf
  rw [c3] at ma3 mb3 mc3 ⊢
  have pol3 : Pol H5 a3 b3 c3' [] [] [] := ⟨ma3.sl pairc_len, mb3.sl pairc_len, mc3.sl pairc_len⟩
  have pol4 : Pol { H5 with floor := (H4.push (.cells (S3.map byteA))).floor } a3 b3 c3' [] [] [] := ⟨pol3.p, pol3.l, pol3.i⟩
  generalize ({ H5 with floor := (H4.push (.cells (S3.map byteA))).floor } : Heap) = H6 at *
  obtain ⟨H7, s7, g7, e7, n7⟩ := store_new e5'.wf (z := [.nils, .nils, .nils]) (n := 3) (x := .agg [a3, b3, c3']) (cs := [a3, b3, c3']) rfl rfl rfl pol4.one
  have hwr : IntKind.i64.wrap ((s.length : Int) + 1) = (s.length : Int) + 1 := wrap64 (by omega) (by omega)
  simp [s7, t7, t12, hwr]
  apply hk11
  simp
def badsW : List (List Nat) := [[120], [49, 46], [45, 45, 49], [48, 49], [45, 48], [43, 50], [49, 101, 49]]
theorem bads_ok : ∀ w, w ∈ badsW → wordOk w ∧ wfN w = false ∧ w ≠ polyS ∧ w.length ≤ 100 ∧ ∀ b, b ∈ w → b < 256 := by
  intro w hw
  simp only [badsW, List.mem_cons, List.not_mem_nil, or_false] at hw
  rcases hw with rfl | rfl | rfl | rfl | rfl | rfl | rfl <;> (refine ⟨⟨by simp, by decide, by simp⟩, by decide, by decide, by decide, by decide⟩)
theorem cut_all {P L I : List (Int × Int)} (hv : validP P L I = true) {bad : List Nat} (hb : bad ∈ badsW) {k : Nat} (hk : k < (wordsN (textI P L I)).length) {t : Tok} (ht : (wordsN (textI P L I))[k]? = some t) :
    Cut6 (textI P L I) bad ((textI P L I).take t.1) ((textI P L I).drop (t.1 + t.2.length)) t.1 (t.1 + t.2.length) ∧ t.1 + t.2.length ≤ (textI P L I).length := by
  obtain ⟨w1, w2, w3, w4, w5⟩ := bads_ok bad hb
  have h8 := text_lt P L I
  have hl := text_len hv
  rw [words_text hv] at ht hk
  have hk' : k < (wordsI P L I).length := by rwa [toksAt_len] at hk
  obtain ⟨q, hq⟩ : ∃ q, (wordsI P L I)[k]? = some q := ⟨_, List.getElem?_eq_getElem hk'⟩
  have ht' := toksAt_get 0 (wordsI P L I) k q hq
  rw [ht] at ht'
  cases ht'
  have hs := rend_split hq
  have hc1 := cut_take hv hk'
  have hc2 := cut_more hv w1 w4
  have hc3 : parI (rend ((wordsI P L I).take k) ++ (bad ++ (q.2 ++ rend ((wordsI P L I).drop (k + 1))))) = (([], [], []), ((rend ((wordsI P L I).take k)).length : Int), 11) := by
    cases k with
    | zero => exact cut_first hv hq w1 w4 w3
    | succ k => exact cut_swap hv hq w1 w4 (by decide) (by unfold numR; rw [w2]; rfl)
  simp only [Nat.zero_add]
  generalize hA : rend ((wordsI P L I).take k) = A at *
  generalize hB : q.2 ++ rend ((wordsI P L I).drop (k + 1)) = B at *
  generalize textI P L I = s at *
  subst hs
  have e1 : (A ++ (q.1 ++ B)).take A.length = A := by simp
  have e2 : (A ++ (q.1 ++ B)).drop (A.length + q.1.length) = B := by
    rw [← List.append_assoc, ← List.length_append, List.drop_left]
  have hl' := hl
  simp only [List.length_append] at hl'
  refine ⟨⟨hl, w4, by rw [e1]; omega, by rw [e2]; omega, slSA_take (by simp), slSA_drop (by simp), h8, w5, fun b hb => h8 b (List.mem_of_mem_take hb), fun b hb => h8 b (List.mem_of_mem_drop hb), by rw [e1]; exact hc1, by rw [List.append_assoc]; exact hc2, by rw [e1, e2, List.append_assoc]; exact hc3⟩, by simp⟩
theorem sl_lit {α : Type} {e : Nat} {enc : α → List AV} {H : Heap} {o off n lo : Nat} {ex : Bool} {xs : List α} (h : Sl e enc H (.slc o off n e lo ex) xs) (lo' : Nat) (ex' : Bool) : Sl e enc H (.slc o off n e lo' ex') xs := by
  rcases h with ⟨h, _⟩ | ⟨o', off', lo1, ex1, cs, h, hc, hx⟩
  · cases h
  · cases h; exact .inr ⟨_, _, lo', ex', cs, rfl, hc, hx⟩
theorem cut6 {H : Heap} (hw : H.Wf) {a b c : AV} {P L I : List (Int × Int)} (h : PolA H a b c P L I) {x y : Int} (_hx : -9223372036854775808 ≤ x ∧ x ≤ 9223372036854775807) (hy : 0 ≤ y ∧ y ≤ 255) : Cp FK 6 [.agg [a, b, c], .int .i64 x, .int .u8 y] H (fun r _ => r = .bool true) := by
  refine Cp_code A6 rfl rfl ?_
  rw [body6]
  have hA : A6.results = [.tmp 6] := rfl
  rw [hA]
  obtain ⟨g0, e0⟩ := push_new hw (.cells [a, b, c])
  have ld : ∀ {H' : Heap}, ExtC (H.push (.cells [a, b, c])) H' → loadA H' (some 3) (.ptr H.next 0) = some (.agg [a, b, c]) := fun k => load_agg (k.keep _ _ g0) (by simp [seg])
  have l0 := ld (ExtC.refl e0.wf)
  simp [A6, putAt, h.pol.one, l0]
  refine (long10 (FT := FK) rfl e0.wf (h.pol.ext e0)).mono ?_
  rintro _ H1 ⟨rfl, e1⟩
  by_cases hl : (decide (300 < P.length) || decide (500 < L.length) || decide (500 < I.length)) = true
  · rw [hl]
    simp
    apply hk11
    simp
  have hl0 : (decide (300 < P.length) || decide (500 < L.length) || decide (500 < I.length)) = false := by simpa using hl
  rw [hl0]
  have l1 := ld e1.c
  have q1 := h.pol.ext (e0.trans e1)
  simp [l1]
  refine (print14 (FT := FK) rfl rfl rfl rfl rfl rfl rfl rfl e1.wf q1).mono ?_
  rintro _ H2 ⟨rfl, e2⟩
  by_cases hv : validP P L I = true
  · have k0 : chkI P L I = 0 := by simp [chkI, hv]
    have p0 : prtI P L I = textI P L I := by simp [prtI, hv]
    rw [k0, p0]
    obtain ⟨hb, hcap⟩ := bytes_of_str (H := H2) (text_lt P L I)
    have ep := Ext.push e2.wf (.cells ((textI P L I).map byteA))
    have hle := text_len hv
    simp
    refine (all20 (FT := FK) rfl ep.wf hb hcap).mono ?_
    rintro _ H3 ⟨u, rfl, su, e3⟩
    rw [if_neg (by omega)] at su ⊢
    have hlen := su.len
    have hlw : 4 ≤ (wordsN (textI P L I)).length := by
      rw [words_text hv, toksAt_len, wordsI_len]; have := (numsI_small hv).1; omega
    have hlw2 : (wordsN (textI P L I)).length ≤ 10000 := by
      rw [words_text hv, toksAt_len, wordsI_len]; have := (numsI_small hv).2; omega
    have hn4 : ¬ ((wordsN (textI P L I)).length : Int) < 4 := by omega
    obtain ⟨k, hk, wk1, wk2⟩ := remU x (n := (wordsN (textI P L I)).length) (by omega) (by omega)
    have wk3 : IntKind.i64.wrap (k : Int) = k := wrap64 (by omega) (by omega)
    have hnz : ¬ ((wordsN (textI P L I)).length : Int) = 0 := by omega
    have hne : wordsN (textI P L I) ≠ [] := fun r => by rw [r] at hlw; simp at hlw
    obtain ⟨po, pf, t, ht, hix, _, hl1, hl2⟩ := toks_idx su hk
    have hc3 := e3.c
    obtain ⟨m, hm, hm7⟩ : ∃ m : Nat, y.tmod 7 = m ∧ m < 7 := by
      obtain ⟨n, hn⟩ := Int.eq_ofNat_of_zero_le hy.1
      subst hn
      exact ⟨n % 7, rfl, Nat.mod_lt _ (by omega)⟩
    have wm : IntKind.i64.wrap (m : Int) = m := wrap64 (by omega) (by omega)
    have ep4 := push_new e3.wf (.cells (badsW.flatMap strc))
    have sb := sl_lit (Sl.ofCells (enc := strc) strc_len ep4.1) 7 true
    obtain ⟨pb, bad, hbad, hbx, hbl⟩ := Strs.idx sb (k := .i64) (i := (m : Int)) (by omega) (by show (m : Int) < 7; omega)
    have hbm : bad ∈ badsW := List.mem_of_getElem? hbad
    obtain ⟨cut, hend⟩ := cut_all hv hbm hk ht
    have hwe : IntKind.i64.wrap ((t.1 : Int) + (t.2.length : Int)) = ((t.1 + t.2.length : Nat) : Int) := by rw [wrap64 (by omega) (by omega)]; omega
    simp only [badsW, List.flatMap_cons, List.flatMap_nil, strc, List.cons_append, List.nil_append] at hbx hbl
    simp [hlen, hn4, wk1, wk2, hne, wk3, hix, hl1, hl2, hwe, hm, setSeg, -Int.natCast_add, -indexAddrV_slc]
    have hbx' : indexAddrV 1 (.slc H3.next 0 7 1 7 true) (.int .i64 (m : Int)) = some pb := hbx
    simp [wm, hbx', hbl, -Int.natCast_add, -indexAddrV_slc]
    refine r6a_ok ep4.2.wf cut ?_ ?_ ?_ ?_
    · simp
    · simp
    · simp [-Int.natCast_add]
    · simp
  · have k0 : chkI P L I = 2 := by simp [chkI, hv]
    rw [k0]
    simp
    apply hk11
    simp
end Go.Proofs.YtmgaaieofdjfdaaDoor
