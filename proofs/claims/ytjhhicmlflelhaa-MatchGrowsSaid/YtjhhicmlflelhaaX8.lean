/- The law MatchGrows, over the interpreter. No claim by itself. -/
import Derived.Test.YtjhhicmlflelhaaXG
namespace Go.Proofs.Ytjhhicmlflelhaa.Gr
open Go Go.AI
theorem Bools.idx {H : Heap} {v : AV} {xs : List Bool} (h : Bools H v xs) {k : IntKind} {i : Int} (h0 : 0 ≤ i) (h1 : i < xs.length) :
    ∃ p x, xs[i.toNat]? = some x ∧ indexAddrV 1 v (.int k i) = some p ∧ loadA H none p = some (.bool x) := by
  obtain ⟨p, x, a, b, _, d⟩ := Sl.idx h (k := k) h0 h1; exact ⟨p, x, a, b, d _ rfl rfl⟩
/-- A list of mates that is being built over the memory H. -/
structure Ms (H H' : Heap) (n : Nat) (v : AV) (m : Nat → Option Nat) : Prop where
  base : H.Wf
  ext : Ext H H'
  own : (v = .nils ∧ n = 0) ∨ ∃ o, v = .slc o 0 n 1 n false ∧ n ≠ 0 ∧ H'.get o = some (.cells (mateC n m)) ∧ H.next ≤ o ∧ H'.floor ≤ o ∧ o < H'.next
theorem Ms.ow {H H' : Heap} {n : Nat} {v : AV} {m : Nat → Option Nat} (h : Ms H H' n v m) : Ow 1 i64c H' v (mateL n m) := by
  rcases h.own with ⟨rfl, rfl⟩ | ⟨o, rfl, h0, h1, _, h3, _⟩
  · exact .inl ⟨rfl, rfl⟩
  · exact .inr ⟨o, by rw [mateL_len], fun q => h0 (by have := congrArg List.length q; rwa [mateL_len] at this), by rw [mateC_flat]; exact h1, h3⟩
theorem Ms.ld {H H' : Heap} {n : Nat} {v : AV} {m : Nat → Option Nat} (h : Ms H H' n v m) {i : Nat} (hi : i < n) : ∃ p, indexAddrV 1 v (.int .i64 (i : Int)) = some p ∧ loadA H' none p = some (.int .i64 (oi (m i))) ∧ ∀ x, ∃ H2, storeA H' 1 p (.int .i64 (oi x)) = some (undefA, H2) ∧ Ms H H2 n v (upd m i x) := by
  rcases h.own with ⟨_, rfl⟩ | ⟨o, rfl, h0, h1, h2, h3, h4⟩
  · omega
  · refine ⟨.ptr o i, ?_, load_get h1 (arr_get hi), fun x => ?_⟩
    · rw [indexAddrV_slc, if_pos ⟨by omega, by omega, rfl⟩]; simp
    · refine ⟨_, storeA_one h3 h1 (by rw [mateC, arr_len]; exact hi) rfl, ?_⟩
      rw [show setSeg (mateC n m) i [.int .i64 (oi x)] = mateC n (upd m i x) by
        unfold mateC; rw [arr_set hi, ← upd_comp (f := fun y => AV.int .i64 (oi y))]]
      refine ⟨h.base, ⟨h.ext.floor, h.ext.next, fun o' y q => ?_, Wf.set h.ext.wf h4⟩, .inr ⟨o, rfl, h0, get_setH.trans (if_pos rfl), h2, h3, h4⟩⟩
      rw [get_setH]
      split
      · rename_i e; subst e
        rw [h.base.2 _ h2] at q; cases q
      · exact h.ext.keep _ _ q
section
variable {FT : Nat → Option FnD} {H : Heap} {n : Nat}
theorem mateL_none_succ {i : Nat} : mateL (i + 1) (fun _ => none) = mateL i (fun _ => none) ++ [-1] := by
  unfold mateL; rw [List.range_succ, List.map_append]; rfl
theorem Ms.of {H' : Heap} {v : AV} (hw : H.Wf) (bd : Bd 1 i64c H H' v (mateL n fun _ => none)) : Ms H H' n v fun _ => none := by
  refine ⟨hw, Bd.ext bd hw, ?_⟩
  rcases bd.ow with ⟨rfl, e⟩ | ⟨o, rfl, h1, h2, h3⟩
  · exact .inl ⟨rfl, by have := congrArg List.length e; rwa [mateL_len] at this⟩
  · have hf := bd.fresh o rfl
    refine .inr ⟨o, by rw [mateL_len], fun q => h1 (by subst q; rfl), by rw [mateC_flat] at h2; exact h2, ?_, h3, hf.2⟩
    rcases hf.1 with q | q
    · cases q
    · exact q
theorem small19 (tb : TB FT) (hw : H.Wf) {v sv : AV} {l : List (Int × Int)} {sk : List Bool} (h : Pairs H v l) (hs : Bools H sv sk) (hll : l.length ≤ 1000000) (hsk : sk.length ≤ 9223372036854775806) (hr : rightM (n : Int) l = true) :
    Cp FT 19 [.int .i64 n, v, sv] H (fun r H' => Ext H H' ∧ ∃ m, Mt (Adj (natE l)) m ∧ Ow 1 i64c H' r (mateL n m)) := by
  have hrm := right_mem hr
  have g := gph_nat hr
  refine Cp_code A19 tb.h19 rfl ?_
  simp [A19]
  refine Wp_loop (fun f τ H' => ∃ (i : Nat) (u : AV), i ≤ n ∧ f = n - i ∧ Bd 1 i64c H H' u (mateL i fun _ => none) ∧ Env.at τ 0 = .int .i64 (n : Int) ∧ Env.at τ 1 = v ∧ Env.at τ 2 = sv ∧ Env.at τ 7 = u ∧ Env.at τ 8 = .int .i64 (i : Int)) ?_ n _ _ ⟨0, .nils, by omega, rfl, Bd.init hw, by simp, by simp, by simp, by simp, by simp⟩
  rintro f τ H1 ⟨i, u, hi, rfl, bd, t0, t1, t2, t7, t8⟩
  simp only [Wp_seq, Wp_region, Wp_block]
  by_cases hc : i < n
  · have w : IntKind.i64.wrap ((i : Int) + 1) = (i : Int) + 1 := wrap64 (by omega) (by omega)
    obtain ⟨u', H2, ap, bd2, _⟩ := bd.app1 (bytes := 8) i64c_len (by omega) i64c_one (-1) (by rw [mateL_len]; omega)
    rw [← mateL_none_succ] at bd2
    have ap : appendA 1 8 (H1.push (.cells [.int .i64 (-1)])) u (.slc H1.next 0 1 1 1 true) = some (u', H2) := ap
    simp [t0, t1, t2, t7, t8, hc, ap, w]
    exact ⟨_, by omega, i + 1, by omega, rfl, u', bd2, rfl, by simp⟩
  · have : i = n := by omega
    subst this
    have ms := Ms.of hw bd
    simp [t0, t1, t2, t7, t8]
    refine Wp_loop (fun f τ H' => ∃ (j : Nat) (m : Nat → Option Nat), j ≤ l.length ∧ f = l.length - j ∧ Ms H H' i u m ∧ Mt (Adj (natE l)) m ∧ Env.at τ 0 = .int .i64 (i : Int) ∧ Env.at τ 1 = v ∧ Env.at τ 2 = sv ∧ Env.at τ 7 = u ∧ Env.at τ 9 = .int .i64 (j : Int)) ?_ l.length _ _ ⟨0, _, by omega, rfl, ms, mt_none, by simp [t0], by simp [t1], by simp [t2], by simp [t7], by simp⟩
    rintro f τ H2 ⟨j, m, hj, rfl, ms, hm, t0, t1, t2, t7, t9⟩
    simp only [Wp_seq, Wp_region, Wp_block]
    have hP := h.ext ms.ext
    have hS := hs.ext ms.ext
    have hLn : (natE l).length = l.length := by unfold natE; rw [List.length_map]
    by_cases hcj : j < l.length
    · have w : IntKind.i64.wrap ((j : Int) + 1) = (j : Int) + 1 := wrap64 (by omega) (by omega)
      have hg : (natE l)[j]? = some (natE l)[j] := List.getElem?_eq_getElem (by omega)
      generalize (natE l)[j] = ab at hg
      obtain ⟨A, B⟩ := ab
      have hmem := List.mem_of_getElem? hg
      have hlt := natE_lt hr A B hmem
      rw [Int.toNat_natCast] at hlt
      have hgl : l[j]? = some (up2 (A, B)) := by
        conv => lhs; rw [← natE_up hr]
        rw [List.getElem?_map, hg]; rfl
      obtain ⟨po, poff, z, hz, hp, _, hl1, hl2⟩ := Pairs.idx hP (k := .i64) (i := (j : Int)) (by omega) (by omega)
      rw [Int.toNat_natCast, hgl] at hz
      cases hz
      simp only [up2] at hl1 hl2
      have go : ∀ {H' m'}, Ms H H' i u m' → Mt (Adj (natE l)) m' → ∃ m', m' < l.length - j ∧ ∃ j', j' ≤ l.length ∧ m' = l.length - j' ∧ ∃ x, Ms H H' i u x ∧ Mt (Adj (natE l)) x ∧ (j : Int) + 1 = (j' : Int) := fun h1 h2 => ⟨_, by omega, j + 1, by omega, rfl, _, h1, h2, by simp⟩
      obtain ⟨pA, iA, dA, sA⟩ := ms.ld hlt.1
      obtain ⟨pB, iB, dB, _⟩ := ms.ld hlt.2
      have hadj : Adj (natE l) A B := Adj_iff.2 (.inl hmem)
      have hne := g.ne hadj
      by_cases hk : sk.length ≤ j
      · have hk' : (sk.length : Int) ≤ (j : Int) := by omega
        cases hmA : m A with
        | some x =>
          rw [hmA] at dA
          simp [t0, t1, t2, t7, t9, hP.len, hS.len, hcj, hp, w, hk, hl1, iA, dA]
          exact go ms hm
        | none =>
          rw [hmA] at dA
          cases hmB : m B with
          | some x =>
            rw [hmB] at dB
            simp [t0, t1, t2, t7, t9, hP.len, hS.len, hcj, hp, w, hk, hl1, hl2, iA, dA, iB, dB]
            exact go ms hm
          | none =>
            rw [hmB] at dB
            obtain ⟨H3, st1, ms3⟩ := sA (some B)
            obtain ⟨pB', iB', _, sB'⟩ := ms3.ld hlt.2
            rw [iB] at iB'; cases iB'
            obtain ⟨H4, st2, ms4⟩ := sB' (some A)
            rw [oi_some] at st1 st2
            obtain ⟨po', poff', z, hz, hp', _, hl3, hl4⟩ := Pairs.idx (h.ext ms3.ext) (k := .i64) (i := (j : Int)) (by omega) (by omega)
            rw [Int.toNat_natCast, hgl] at hz
            cases hz
            rw [hp] at hp'; cases hp'
            simp only [up2] at hl3 hl4
            simp [t0, t1, t2, t7, t9, hP.len, hS.len, hcj, hp, w, hk, hl1, hl2, iA, dA, iB, dB, st1, hl3, hl4, st2]
            exact go ms4 (add_pair g hm hadj hmA hmB).1
      · obtain ⟨ps, b, hb, ips, lds⟩ := Bools.idx hS (k := .i64) (i := (j : Int)) (by omega) (by omega)
        cases b with
        | true =>
          simp [t0, t1, t2, t7, t9, hP.len, hS.len, hcj, hp, w, hk, ips, lds]
          exact go ms hm
        | false =>
          cases hmA : m A with
          | some x =>
            rw [hmA] at dA
            simp [t0, t1, t2, t7, t9, hP.len, hS.len, hcj, hp, w, hk, ips, lds, hl1, iA, dA]
            exact go ms hm
          | none =>
            rw [hmA] at dA
            cases hmB : m B with
            | some x =>
              rw [hmB] at dB
              simp [t0, t1, t2, t7, t9, hP.len, hS.len, hcj, hp, w, hk, ips, lds, hl1, hl2, iA, dA, iB, dB]
              exact go ms hm
            | none =>
              rw [hmB] at dB
              obtain ⟨H3, st1, ms3⟩ := sA (some B)
              obtain ⟨pB', iB', _, sB'⟩ := ms3.ld hlt.2
              rw [iB] at iB'; cases iB'
              obtain ⟨H4, st2, ms4⟩ := sB' (some A)
              rw [oi_some] at st1 st2
              obtain ⟨po', poff', z, hz, hp', _, hl3, hl4⟩ := Pairs.idx (h.ext ms3.ext) (k := .i64) (i := (j : Int)) (by omega) (by omega)
              rw [Int.toNat_natCast, hgl] at hz
              cases hz
              rw [hp] at hp'; cases hp'
              simp only [up2] at hl3 hl4
              simp [t0, t1, t2, t7, t9, hP.len, hS.len, hcj, hp, w, hk, ips, lds, hl1, hl2, iA, dA, iB, dB, st1, hl3, hl4, st2]
              exact go ms4 (add_pair g hm hadj hmA hmB).1
    · have : j = l.length := by omega
      subst this
      simp [t0, t1, t2, t7, t9, hP.len]
      exact ⟨ms.ext, m, hm, ms.ow⟩
end
set_option maxRecDepth 20000 in
theorem grows8 {n : Int} {v sv : AV} {l : List (Int × Int)} {sk : List Bool} {H : Heap} (h : Pairs H v l) (hs : Bools H sv sk) (hw : H.Wf) (hl : l.length ≤ 9223372036854775806) (hsk : sk.length ≤ 9223372036854775806) :
    Cp FK 8 [.int .i64 n, v, sv] H (fun r _ => r = .bool true) := by
  refine Cp_code A8 rfl rfl ?_
  by_cases c1 : 40 < n
  · simp [A8, c1]
    apply hk9; simp
  by_cases c3 : 150 < (l.length : Int)
  · simp [A8, c1, h.len, c3]
    apply hk9; simp
  simp [A8, c1, h.len, c3]
  refine (right11 tbK.h11 h hl).mono ?_
  rintro r _ ⟨rfl, rfl⟩
  cases hr : rightM n l with
  | false =>
    simp
    apply hk9; simp
  | true =>
    have hrm := right_mem hr
    obtain ⟨N, rfl⟩ : ∃ N : Nat, n = (N : Int) := ⟨n.toNat, by omega⟩
    have iN : (N : Int).toNat = N := Int.toNat_natCast N
    have hmx := maxOf_ok hr
    rw [iN] at hmx
    obtain ⟨_, hmx2, hmx3⟩ := hmx
    simp
    refine (max10 tbK hw (n := (N : Int)) h (by omega)).mono ?_
    rintro r H1 ⟨he1, ⟨_, u1, rfl, hu1, _⟩ | ⟨hr', rfl⟩⟩
    rotate_left
    · rw [hr] at hr'; cases hr'
    rw [iN] at hu1
    simp
    refine (small19 tbK he1.wf (n := N) (h.ext he1) (hs.ext he1) (by omega) hsk hr).mono ?_
    rintro u H2 ⟨he2, m0, hm0, how⟩
    have e02 := he1.trans he2
    simp
    refine Wp_loop (fun f τ H' => ∃ (i : Nat) (mv : AV) (mm : Nat → Option Nat), i ≤ N + 1 ∧ f = N + 1 - i ∧ Ext H2 H' ∧ Sw 1 i64c H' mv (mateL N mm) ∧ Ints H' mv (mateL N mm) ∧ Mt (Adj (natE l)) mm ∧ 2 * i ≤ Gr.cnt N mm ∧ Env.at τ 0 = .int .i64 (N : Int) ∧ Env.at τ 1 = v ∧ Env.at τ 7 = u1 ∧ Env.at τ 9 = mv ∧ Env.at τ 10 = .int .i64 (i : Int)) ?_ (N + 1) _ _ ⟨0, u, m0, by omega, rfl, Ext.refl he2.wf, how.sw i64c_len, how.sl i64c_len, hm0, by omega, by simp, by simp, by simp, by simp, by simp⟩
    rintro f τ H3 ⟨i, mv, mm, hi, rfl, he3, hsw, hin, hmm, hcnt, t0, t1, t7, t9, t10⟩
    simp only [Wp_seq, Wp_region, Wp_block]
    have hcn := cnt_le_n (n := N) (m := mm)
    by_cases hc : i ≤ N
    rotate_left
    · omega
    have c1' : ((i : Int) ≤ (N : Int)) := by omega
    have w : IntKind.i64.wrap ((i : Int) + 1) = (i : Int) + 1 := wrap64 (by omega) (by omega)
    obtain ⟨own, H4, ap, bo, _⟩ := (Bd.init (e := 1) (enc := i64c) he3.wf).appS (bytes := 8) i64c_len (by omega) i64c_one hsw (by rw [mateL_len]; simp; omega)
    rw [List.nil_append] at bo
    have e34 := Bd.ext bo he3.wf
    have e04 := (e02.trans he3).trans e34
    simp [t0, t1, t7, t9, t10, hc, ap]
    refine (grow20 tbK bo.wf (n := N) (h.ext e04) (by omega) hr hmm bo.ow).mono ?_
    rintro r H5 ⟨e45, u', b, m', rfl, hsw', hin', hcase⟩
    have gok := growM_ok (gph_nat hr) (next := nextTo (natE l)) (fun {a b} => Iff.rfl) (F := N + 2) (by omega) (by omega) hmm (rs := List.range N) (fun r hr => List.mem_range.1 hr)
    have e05 := e04.trans e45
    have hmv5 : Ints H5 mv (mateL N mm) := (hin.ext e34).ext e45
    have hown5 : Ints H5 own (mateL N mm) := (bo.sl i64c_len).ext e45
    have hu15 : Ints H5 u1 (mateL N (maxOf N (natE l))) := (((hu1.ext he2).ext he3).ext e34).ext e45
    have hmt' : Mt (Adj (natE l)) m' := by
      rcases hcase with ⟨_, rfl, _⟩ | ⟨_, q⟩
      · exact hmm
      · rcases gok with ⟨q', _⟩ | ⟨m2, q', h1, _⟩
        · rw [q] at q'; cases q'
        · rw [q] at q'; cases q'; exact h1
    have im := isM_of hr hmt'
    rw [iN] at im
    simp [t0, t1, t7, t9, t10]
    refine (is12 (n := (N : Int)) tbK.h12 tbK.h11 tbK.h26 (h.ext e05) hin' (by omega) (by rw [mateL_len]; omega)).mono ?_
    rintro r1 H5 ⟨rfl, rfl⟩
    simp [t0, t1, t7, t9, t10, im]
    refine (same17 tbK.h17 hown5 hmv5 (by rw [mateL_len]; omega)).mono ?_
    rintro r1 H5 ⟨rfl, rfl⟩
    rcases hcase with ⟨rfl, rfl, hnone⟩ | ⟨rfl, hsome⟩
    · simp [t0, t1, t7, t9, t10]
      refine (same17 tbK.h17 hin' hmv5 (by rw [mateL_len]; omega)).mono ?_
      rintro r1 H5 ⟨rfl, rfl⟩
      simp [t0, t1, t7, t9, t10]
      refine (size13 tbK.h13 hin' (by rw [mateL_len]; omega)).mono ?_
      rintro r1 H5 ⟨rfl, rfl⟩
      rw [cnt_mateL]
      obtain ⟨s1, hs1⟩ : ∃ s1, s1 = Gr.cnt N m' / 2 := ⟨_, rfl⟩
      rw [← hs1]
      simp [t0, t1, t7, t9, t10]
      refine (size13 tbK.h13 hu15 (by rw [mateL_len]; omega)).mono ?_
      rintro r1 H5 ⟨rfl, rfl⟩
      have heq : Gr.cnt N (maxOf N (natE l)) = Gr.cnt N m' := by
        have a1 := hmx3 m' hmm
        rcases gok with ⟨_, q⟩ | ⟨m2, q', _⟩
        · have a2 := greatest (gph_nat hr) hmm (fun r hrn hf => q r (List.mem_range.2 hrn) hf) hmx2
          omega
        · rw [hnone] at q'; cases q'
      rw [cnt_mateL, heq, ← hs1]
      simp
      apply hk9; simp
    · obtain ⟨_, q', _, hcnt', hcov⟩ : ∃ m2, growM N (nextTo (natE l)) (N + 2) mm (List.range N) = some (some m2) ∧ m2 = m' ∧ Gr.cnt N m' = Gr.cnt N mm + 2 ∧ ∀ i, mm i ≠ none → m' i ≠ none := by
        rcases gok with ⟨q', _⟩ | ⟨m2, q', _, h2, h3⟩
        · rw [hsome] at q'; cases q'
        · rw [hsome] at q'; cases q'; exact ⟨_, hsome, rfl, h2, h3⟩
      simp [t0, t1, t7, t9, t10]
      refine (size13 tbK.h13 hin' (by rw [mateL_len]; omega)).mono ?_
      rintro r1 H5 ⟨rfl, rfl⟩
      rw [cnt_mateL, hcnt']
      obtain ⟨s1, hs1⟩ : ∃ s1, s1 = Gr.cnt N mm / 2 := ⟨_, rfl⟩
      rw [show (Gr.cnt N mm + 2) / 2 = s1 + 1 by omega]
      simp [t0, t1, t7, t9, t10]
      refine (size13 tbK.h13 hmv5 (by rw [mateL_len]; omega)).mono ?_
      rintro r1 H5 ⟨rfl, rfl⟩
      rw [cnt_mateL, ← hs1]
      have w9 : IntKind.i64.wrap ((s1 : Int) + 1) = (s1 : Int) + 1 := wrap64 (by omega) (by omega)
      simp [t0, t1, t7, t9, t10, w9]
      refine Wp_loop (fun f τ H' => H' = H5 ∧ ∃ k : Nat, k ≤ N ∧ f = N - k ∧ Env.at τ 0 = .int .i64 (N : Int) ∧ Env.at τ 1 = v ∧ Env.at τ 7 = u1 ∧ Env.at τ 9 = mv ∧ Env.at τ 10 = .int .i64 (i : Int) ∧ Env.at τ 12 = u' ∧ Env.at τ 15 = .int .i64 (k : Int)) ?_ N _ _ ⟨rfl, 0, by omega, rfl, by simp [t0], by simp [t1], by simp [t7], by simp [t9], by simp [t10], by simp, by simp⟩
      rintro f τ _ ⟨rfl, k, hk, rfl, t0, t1, t7, t9, t10, t12, t15⟩
      simp only [Wp_seq, Wp_region, Wp_block]
      by_cases hck : k < N
      · have x1 : IntKind.i64.wrap ((k : Int) + 1) = (k : Int) + 1 := wrap64 (by omega) (by omega)
        obtain ⟨p1, z1, g1, i1, l1⟩ := Ints.idx hmv5 (k := .i64) (i := (k : Int)) (by omega) (by rw [mateL_len]; omega)
        obtain ⟨p2, z2, g2, i2, l2⟩ := Ints.idx hin' (k := .i64) (i := (k : Int)) (by omega) (by rw [mateL_len]; omega)
        rw [Int.toNat_natCast, mateL_get hck] at g1 g2
        cases g1; cases g2
        cases hmk : mm k with
        | none =>
          rw [hmk] at l1
          simp [t0, t1, t7, t9, t10, t12, t15, hck, i1, l1, x1]
          exact ⟨_, by omega, k + 1, by omega, rfl, by simp⟩
        | some z =>
          rw [hmk] at l1
          have := hcov k (by rw [hmk]; simp)
          cases hmk' : m' k with
          | none => exact (this hmk').elim
          | some z' =>
            rw [hmk'] at l2
            simp [t0, t1, t7, t9, t10, t12, t15, hck, i1, l1, i2, l2, x1]
            exact ⟨_, by omega, k + 1, by omega, rfl, by simp⟩
      · have : k = N := by omega
        subst this
        simp [t0, t1, t7, t9, t10, t12, t15, w]
        exact ⟨_, by omega, i + 1, by omega, rfl, (he3.trans e34).trans e45, u', m', hsw', hin', hmt', by omega, rfl, by simp⟩
end Go.Proofs.Ytjhhicmlflelhaa.Gr
