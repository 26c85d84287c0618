/- The law ObjectBack, over the interpreter. No claim by itself. -/
import Derived.Test.YtacfhbhfgbjleaaDoorLU
namespace Go.Proofs.YtacfhbhfgbjleaaDoor
open Go Go.AI
def r5a : ACode := subAt [1,1,1,1] A5.body
theorem body5 : A5.body = putAt [1,1,1,1] A5.body r5a := rfl
structure Cmp (H H' : Heap) (n : Nat) (vk vl : AV) (τ : Env) (i m : Nat) : Prop where
  hh : H = H'
  le : i ≤ n
  hm : m = n - i
  t15 : Env.at τ 15 = vk
  t17 : Env.at τ 17 = vl
  t19 : Env.at τ 19 = .int .i64 i
theorem r5a_ok {H : Heap} (hw : H.Wf) {v : AV} {s : List Nat} (hs : bytesA H v = some s) (hcap : capOk v = true) (h4k : s.length ≤ 4000) {τ : Env} (t1 : Env.at τ 1 = v) : Wp FK r5a τ H (finQ [.tmp 4] fun r _ => r = .bool true) := by
  have hlen := bytesA_len hs
  simp [r5a, subAt, A5, t1]
  refine (read15 j15 hw hs).mono ?_
  rintro _ H1 ⟨⟨vP, vF, P, W, F, a, e, hp, rfl, mo, mi⟩, e1⟩
  have hz := parO_sz hp
  obtain ⟨H2, st2, g2, e2, n2, ld⟩ := mesh_var e1.wf (W := W) mo.mo
  have l2 := ld (ExtC.refl e2.wf)
  by_cases he : e = 0
  · subst he
    obtain ⟨ha, hsl, hv, hwords⟩ := parO_ok hp
    have mo2 := mo.mo.ext e2
    simp [st2, l2.1]
    refine (write11 j11 e2.wf (W := W) mo2 hz).mono ?_
    rintro _ H3 ⟨rfl, c3⟩
    have c13 := (e1.trans e2).c.trans c3
    rw [wrT_ok hv, chkO_ok hv]
    simp [t1]
    refine (all18 (FT := FK) rfl c3.wf (bytesA_extC c13 hs) hcap).mono ?_
    rintro _ H4 ⟨uk, rfl, sk, e4⟩
    rw [if_neg (by omega)] at sk ⊢
    obtain ⟨hb, hcap2⟩ := bytes_of_str (H := H4) (textO_lt P W F)
    have ep := Ext.push e4.wf (.cells ((textO P W F).map byteA))
    have htl := textO_len hv
    have h1 := txtO_len P W F
    have hwl : (wordsN s).length = (txtO P W F).length := by rw [← hwords]; simp
    have h3 := words_len s
    simp
    refine (all18 (FT := FK) rfl ep.wf hb hcap2).mono ?_
    rintro _ H5 ⟨ul, rfl, sl, e5⟩
    have h4 := txtO_len4 hv
    have htl2 : ¬ 1048576 < (textO P W F).length := by omega
    rw [if_neg htl2] at sl ⊢
    have hwt : (wordsN (textO P W F)).map (·.2) = txtO P W F := by rw [words_text hv, toksAt_txt, wordsO_txt]
    have hll : (wordsN (textO P W F)).length = (wordsN s).length := by rw [hwl, ← hwt]; simp
    have c25 := (((c3.trans e4.c).trans ep.c).trans e5.c)
    have l5 := ld c25
    have sk5 := (sk.ext ep).ext e5
    have hlk := sk5.len
    have hlm := sl.len
    rw [hll] at hlm
    have mo5 := mo2.extC c25
    simp [l5.1]
    refine (check13 j13 e5.wf (W := W) mo5 hz).mono ?_
    rintro _ H6 ⟨rfl, e6⟩
    rw [chkO_ok hv]
    have sk6 := sk5.ext e6
    have sl6 := sl.ext e6
    simp [hlk, hlm]
    refine Wp_loop (fun m τ H' => ∃ i, Cmp H6 H' (wordsN s).length uk ul τ i m) ?_ (wordsN s).length _ _ ⟨0, ⟨rfl, by omega, by omega, by simp, by simp, by simp⟩⟩
    rintro m τ _ ⟨i, ⟨rfl, hi, rfl, t15, t17, t19⟩⟩
    simp only [Wp_seq, Wp_region]
    by_cases c : i < (wordsN s).length
    · obtain ⟨po, pf, t, ht, a1, _, _, a2⟩ := toks_idx sk6 c
      obtain ⟨qo, qf, t', ht', b1, _, _, b2⟩ := toks_idx sl6 (i := i) (by omega)
      have heq : t.2 = t'.2 := by
        have x1 : ((wordsN s).map (·.2))[i]? = some t.2 := by rw [List.getElem?_map, ht]; rfl
        have x2 : ((wordsN (textO P W F)).map (·.2))[i]? = some t'.2 := by rw [List.getElem?_map, ht']; rfl
        rw [hwords] at x1
        rw [hwt, x1] at x2
        exact Option.some.inj x2
      have w : IntKind.i64.wrap ((i : Int) + 1) = ((i + 1 : Nat) : Int) := wrap64 (by omega) (by omega)
      simp [c, t15, t17, t19, hlk, a1, a2, b1, b2, heq, w]
      exact ⟨_, by omega, i + 1, ⟨rfl, by omega, rfl, by simp [t15], by simp [t17], by simp⟩⟩
    · have c' : ¬ ((i : Int) < (wordsN s).length) := by omega
      simp [t15, t19, hlk, c']
      apply hk10
      simp
  · obtain ⟨hn, h0, h1⟩ := parO_no hp he
    unfold nilO at hn
    simp only [Prod.mk.injEq] at hn
    obtain ⟨rfl, _, rfl⟩ := hn
    have he' : (e != 0) = true := by simpa using he
    have hpl := mo.mo.p.len
    simp only [List.length_nil] at hpl
    have hpl' : lenA vP = some (.int .i64 0) := hpl
    simp [st2, he', l2.2, hpl', t1, h0, hlen, h1]
    apply hk10
    simp
theorem back5 {H : Heap} (hw : H.Wf) {vP vF : AV} {P : List (Int × Int)} {W : Int} {F : List (List Int)} (h : ObA H vP vF P F) {v : AV} {s : List Nat} (hs : bytesA H v = some s) (hcap : capOk v = true) : Cp FK 5 [.agg [vP, .int .i64 W, vF], v] H (fun r _ => r = .bool true) := by
  refine Cp_code A5 rfl rfl ?_
  rw [body5]
  have hA : A5.results = [.tmp 4] := rfl
  rw [hA]
  generalize hra : r5a = ra
  have hlen := bytesA_len hs
  obtain ⟨g0, e0⟩ := push_new hw (.cells [vP, .int .i64 W, vF])
  have ld : ∀ {H' : Heap}, ExtC (H.push (.cells [vP, .int .i64 W, vF])) H' → loadA H' (some 3) (.ptr H.next 0) = some (.agg [vP, .int .i64 W, vF]) := fun k => load_agg (k.keep _ _ g0) (by simp [seg])
  have l0 := ld (ExtC.refl e0.wf)
  simp [A5, putAt, h.mo.one W, l0]
  refine (many9 (FT := FK) rfl e0.wf (h.mo.ext e0)).mono ?_
  rintro _ H1 ⟨⟨b, rfl, hb⟩, e1⟩
  cases b with
  | true =>
    simp
    apply hk10
    simp
  | false =>
    have hs' := hb rfl
    have hz := hs'.sz
    by_cases hlong : 4000 < s.length
    · have hlong' : (4000 : Int) < s.length := by omega
      simp [hlen, hlong']
      apply hk10
      simp
    have hlong' : ¬ (4000 : Int) < s.length := by omega
    have m1 := h.mo.ext (e0.trans e1)
    simp [hlen, hlong', ld e1.c]
    refine (write11 j11 e1.wf (W := W) m1 hz).mono ?_
    rintro _ H2 ⟨rfl, c2⟩
    have c12 := e1.c.trans c2
    have c02 := e0.c.trans c12
    have m2 := m1.extC c2
    have hs2 := bytesA_extC c02 hs
    by_cases hv : ValidO P W F
    · rw [wrT_ok hv, chkO_ok hv]
      obtain ⟨hb2, hcap2⟩ := bytes_of_str (H := H2) (textO_lt P W F)
      have ep := Ext.push c2.wf (.cells ((textO P W F).map byteA))
      have htl := textO_len hv
      have hp1 := hs'.p
      have hf1 := hs'.f
      have hpt := parO_text hv (by omega)
      simp
      refine (read15 j15 ep.wf hb2).mono ?_
      rintro _ H3 ⟨⟨vP', vF', P', W', F', a, e, hp, rfl, mo, mi⟩, e3⟩
      rw [hpt] at hp
      simp only [Prod.mk.injEq] at hp
      obtain ⟨⟨rfl, rfl, rfl⟩, rfl, rfl⟩ := hp
      obtain ⟨H4, st4, g4, e4, n4, ld4⟩ := mesh_var e3.wf (W := W) mo.mo
      have x24 := (ep.trans e3).trans e4
      have l4 := ld (c12.trans x24.c)
      simp [st4, l4, (ld4 (ExtC.refl e4.wf)).1]
      refine (same17 j17 e4.wf (W := W) (W' := W) (m2.ext x24) (mo.mo.ext e4) hz).mono ?_
      rintro _ H5 ⟨rfl, e5⟩
      simp
      rw [← hra]
      exact r5a_ok e5.wf (bytesA_ext (x24.trans e5) hs2) hcap (by omega) (by simp)
    · rw [wrT_no hv, chkO_no hv]
      simp
      rw [← hra]
      exact r5a_ok c2.wf hs2 hcap (by omega) (by simp)
end Go.Proofs.YtacfhbhfgbjleaaDoor
