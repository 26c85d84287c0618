/- The law ObjectLoose, over the interpreter. No claim by itself. -/
import Derived.Test.YtacfhbhfgbjleaaDoorLU
namespace Go.Proofs.YtacfhbhfgbjleaaDoor
open Go Go.AI
theorem placeT_flen (W : Int) (P : List (Int × Int)) : (P.flatMap (placeT W)).length = 5 * P.length := by
  induction P with
  | nil => rfl
  | cons p P ih => simp only [List.flatMap_cons, List.length_append, ih]; simp [placeT]; omega
theorem tok_at {H : Heap} {v : AV} {W : List Tok} (h : Sl 2 tokA H v W) {k : Nat} {t : Tok} (hk : W[k]? = some t) : ∃ o off, indexAddrV 2 v (.int .i64 (k : Int)) = some (.ptr o off) ∧ loadA H none (.ptr o off) = some (.int .i64 (t.1 : Int)) ∧ loadA H none (.ptr o (off + 1)) = some (.str t.2) := by
  obtain ⟨o, off, t', a, b, _, c, d⟩ := toks_idx h (List.getElem?_eq_some_iff.1 hk).1
  rw [hk] at a
  cases a
  exact ⟨o, off, b, c, d⟩
theorem sl_lit {α : Type} {e : Nat} {enc : α → List AV} {H : Heap} {o off n lo : Nat} {ex : Bool} {xs : List α} (h : Sl e enc H (.slc o off n e lo ex) xs) (lo' : Nat) (ex' : Bool) : Sl e enc H (.slc o off n e lo' ex') xs := by
  rcases h with ⟨h, _⟩ | ⟨o', off', lo1, ex1, cs, h, hc, hx⟩
  · cases h
  · cases h; exact .inr ⟨_, _, lo', ex', cs, rfl, hc, hx⟩
def gapsW : List (List Nat) := [[32], [10], [9, 13, 32], [32, 35, 32, 118, 32, 49, 10], [10, 10, 35, 10]]
theorem gaps_ok : ∀ g, g ∈ gapsW → sepOk g ∧ g.length ≤ 11 ∧ ∀ b, b ∈ g → b < 256 := by
  intro g hg
  simp only [gapsW, List.mem_cons, List.not_mem_nil, or_false] at hg
  rcases hg with rfl | rfl | rfl | rfl | rfl <;> exact ⟨⟨⟨_, _, rfl, rfl⟩, fun r p => rfl⟩, by decide, by decide⟩
structure Gw (w : List Nat) : Prop where
  ok : wordOk w
  ln : w.length ≤ 26
  b8 : ∀ b, b ∈ w → b < 256
structure Gp (q : Wd) : Prop where
  w : Gw q.1
  sp : sepOk q.2
  b8 : ∀ b, b ∈ q.2 → b < 256
structure Lo8 (W : List Tok) (i : Nat) (t : List Nat) : Prop where
  ln : t.length ≤ 37 * i
  ex : ∃ V : List Wd, t = rend V ∧ V.map (·.1) = (W.take i).map (·.2) ∧ ∀ q, q ∈ V → Gp q
theorem lo_next {W : List Tok} {i : Nat} {t : List Nat} (h : Lo8 W i t) {x : Tok} (hx : W[i]? = some x) (hg : Gw x.2) {g : List Nat} (g1 : g ∈ gapsW) : Lo8 W (i + 1) (t ++ x.2 ++ g) := by
  obtain ⟨hl, V, rfl, hv, hq⟩ := h
  obtain ⟨a, b, c⟩ := gaps_ok g g1
  have := hg.ln
  refine ⟨by rw [List.length_append, List.length_append]; omega, V ++ [(x.2, g)], by rw [rend_app]; simp [rend], ?_, fun q q1 => ?_⟩
  · rw [List.map_append, hv, List.take_add_one, hx]; simp
  · rcases List.mem_append.1 q1 with r | r
    · exact hq q r
    · simp at r; subst r; exact ⟨hg, a, c⟩
theorem lo_fin {P : List (Int × Int)} {W : Int} {F : List (List Int)} (hv : ValidO P W F) {t : List Nat} (h : Lo8 (wordsN (textO P W F)) (wordsN (textO P W F)).length t) (hl : (wordsN (textO P W F)).length ≤ 10000) : parO t = ((P, W, F), 0, 0) ∧ ∀ b, b ∈ t → b < 256 := by
  obtain ⟨hln, V, rfl, hV, hq⟩ := h
  rw [List.take_length] at hV
  refine ⟨parO_rend hv (fun q q1 => ⟨(hq q q1).w.ok, (hq q q1).sp⟩) ?_ (by omega), rend_lt V fun q q1 => ⟨(hq q q1).w.b8, (hq q q1).b8⟩⟩
  rw [hV, words_text hv, toksAt_txt, wordsO_txt]
theorem words_gw {P : List (Int × Int)} {W : Int} {F : List (List Int)} (hv : ValidO P W F) : ∀ x, x ∈ wordsN (textO P W F) → Gw x.2 := by
  intro x hx
  have hm : x.2 ∈ (wordsN (textO P W F)).map (·.2) := List.mem_map.2 ⟨x, hx, rfl⟩
  rw [words_text hv, toksAt_txt] at hm
  obtain ⟨q, q1, q2⟩ := List.mem_map.1 hm
  have ok := (wordsO_ok hv q q1).1
  have b8 := (wordsO_b P W F q q1).1
  rw [q2] at ok b8
  refine ⟨ok, ?_, b8⟩
  rw [wordsO_txt] at hm
  unfold txtO at hm
  rcases List.mem_append.1 hm with hm | hm
  · obtain ⟨p, _, hp⟩ := List.mem_flatMap.1 hm
    simp only [placeT, List.mem_cons, List.not_mem_nil, or_false] at hp
    rcases hp with r | r | r | r | r <;> rw [r]
    · decide
    · exact itoaN_len _
    · exact itoaN_len _
    · decide
    · exact itoaN_len _
  · obtain ⟨f, _, hf⟩ := List.mem_flatMap.1 hm
    simp only [faceT, List.mem_cons, List.mem_map] at hf
    rcases hf with r | ⟨k, _, r⟩
    · rw [r]; decide
    · rw [← r]; exact itoaN_len _
/-- Two meshes that differ in their number alone have two texts. -/
theorem text_W {P : List (Int × Int)} {W w : Int} {F : List (List Int)} (hv : ValidO P W F) (hw : ValidO P w F) : textO P w F = textO P W F ↔ w = W := by
  constructor
  · intro h
    have h1 := congrArg (fun s => (wordsN s).map (·.2)) h
    simp only [words_text hv, words_text hw, toksAt_txt, wordsO_txt] at h1
    have hp := hv.pne
    cases P with
    | nil => exact absurd rfl hp
    | cons p P =>
      have h2 := congrArg (fun l => l[4]?) h1
      simp [txtO, placeT] at h2
      have e24 : (10 : Nat) ^ 24 = 1000000000000000000000000 := by decide
      have a := hv.w0
      have b := hv.w1
      have c := hw.w0
      have d := hw.w1
      rw [← (itoa_facts (n := w) (by omega)).2.2, ← (itoa_facts (n := W) (by omega)).2.2, h2]
  · intro h; rw [h]
def r8b : ACode := subAt [1,1,1,1,1,1,1,1,1] A8.body
theorem body8 : A8.body = putAt [1,1,1,1,1,1,1,1,1] A8.body r8b := rfl
theorem r8b_ok {H : Heap} (hw : H.Wf) {P : List (Int × Int)} {W : Int} {F : List (List Int)} (hv : ValidO P W F) {vP vF : AV} {o : Nat} (mo : Mo H vP vF P F) (hz : Sz P F) (g : H.get o = some (.cells [vP, .int .i64 W, vF]))
    {t : List Nat} (ht : parO t = ((P, W, F), 0, 0)) (t8 : ∀ b, b ∈ t → b < 256) {w : Int} {τ : Env} (u2 : Env.at τ 2 = .int .i64 w) (u3 : Env.at τ 3 = .ptr o 0) (u7 : Env.at τ 7 = .str (textO P W F)) (u12 : Env.at τ 12 = .str t) : Wp FK r8b τ H (finQ [.tmp 6] fun r _ => r = .bool true) := by
  obtain ⟨hb, _⟩ := bytes_of_str (H := H) t8
  have ep := Ext.push hw (.cells (t.map byteA))
  simp [r8b, subAt, A8, u12]
  refine (read15 j15 ep.wf hb).mono ?_
  rintro _ H1 ⟨⟨vP', vF', P', W', F', a, e, hp, rfl, mo', mi⟩, e1⟩
  rw [ht] at hp
  simp only [Prod.mk.injEq] at hp
  obtain ⟨⟨rfl, rfl, rfl⟩, rfl, rfl⟩ := hp
  obtain ⟨H2, st2, g2, e2, n2, ld2⟩ := mesh_var e1.wf (W := W) mo'.mo
  have x02 := (ep.trans e1).trans e2
  have g02 := x02.keep _ _ g
  have l0 : loadA H2 none (.ptr o 0) = some vP := load_get g02 rfl
  have l2 : loadA H2 none (.ptr o 2) = some vF := load_get g02 rfl
  have mo2 := mo.ext x02
  obtain ⟨p1, p2⟩ := mo.p.one
  obtain ⟨f1, f2⟩ := mo.f.one
  obtain ⟨H3, st3, g3, e3, n3, ld3⟩ := mesh_var e2.wf (W := w) mo2
  have mo3 := mo2.ext e3
  simp [st2, u2, u3, l0, l2, fillV_val p1 p2, fillV_val f1 f2, setSeg, st3, (ld3 (ExtC.refl e3.wf)).1]
  refine (write11 j11 e3.wf (W := w) mo3 hz).mono ?_
  rintro _ H4 ⟨rfl, c4⟩
  have c24 := e3.c.trans c4
  have l3 : loadA H4 (some 3) (.ptr o 0) = some (.agg [vP, .int .i64 W, vF]) := load_agg (c24.keep _ _ g02) (by simp [seg])
  have lW : ∀ {H' : Heap}, Ext H4 H' → loadA H' none (.ptr o 1) = some (.int .i64 W) := fun k => load_get (k.keep _ _ (c24.keep _ _ g02)) rfl
  simp [u3, l3, (ld2 c24).1]
  refine (same17 j17 c4.wf (W := W) (W' := W) (mo2.extC c24) ((mo'.mo.ext e2).extC c24) hz).mono ?_
  rintro _ H5 ⟨rfl, e5⟩
  by_cases hvw : ValidO P w F
  · have ht := text_W hv hvw
    by_cases q : w = W
    · subst q
      simp [chkO_ok hvw, wrT_ok hvw, u2, u3, u7, lW e5]
      apply hk10
      simp
    · have q1 : (textO P w F == textO P W F) = false := by
        rw [beq_eq_false_iff_ne]; exact fun k => q (ht.1 k)
      have q2 : (w == W) = false := by simpa using q
      simp [chkO_ok hvw, wrT_ok hvw, u2, u3, u7, lW e5, q1, q2]
      apply hk10
      simp
  · simp [chkO_no hvw, wrT_no hvw]
    apply hk10
    simp
structure Inv8 (H : Heap) (T : List Tok) (v uv gv p3 : AV) (w : Int) (s : List Nat) (k : Nat) (τ : Env) (H' : Heap) : Prop where
  hh : H' = H
  ri : ∃ (i : Nat) (t : List Nat), i ≤ T.length ∧ k = T.length - i ∧ Lo8 T i t ∧ Env.at τ 1 = v ∧ Env.at τ 2 = .int .i64 w ∧ Env.at τ 3 = p3 ∧ Env.at τ 7 = .str s ∧ Env.at τ 9 = uv ∧ Env.at τ 11 = gv ∧ Env.at τ 12 = .str t ∧ Env.at τ 13 = .int .i64 i
theorem loose8 {H : Heap} (hw : H.Wf) {vP vF : AV} {P : List (Int × Int)} {W : Int} {F : List (List Int)} (h : ObA H vP vF P F) {v : AV} {s : List Nat} (hs : bytesA H v = some s) (_hcap : capOk v = true) {w : Int} (_hwr : -9223372036854775808 ≤ w ∧ w ≤ 9223372036854775807) : Cp FK 8 [.agg [vP, .int .i64 W, vF], v, .int .i64 w] H (fun r _ => r = .bool true) := by
  refine Cp_code A8 rfl rfl ?_
  rw [body8]
  have hA : A8.results = [.tmp 6] := rfl
  rw [hA]
  generalize hrb : r8b = rb
  have hlen := bytesA_len hs
  obtain ⟨g0, e0⟩ := push_new hw (.cells [vP, .int .i64 W, vF])
  have ld : ∀ {H' : Heap}, ExtC (H.push (.cells [vP, .int .i64 W, vF])) H' → loadA H' (some 3) (.ptr H.next 0) = some (.agg [vP, .int .i64 W, vF]) := fun k => load_agg (k.keep _ _ g0) (by simp [seg])
  have l0 := ld (ExtC.refl e0.wf)
  simp [A8, putAt, h.mo.one W, l0]
  refine (many9 (FT := FK) rfl e0.wf (h.mo.ext e0)).mono ?_
  rintro _ H1 ⟨⟨b, rfl, hb⟩, e1⟩
  cases b with
  | true =>
    simp
    apply hk10
    simp
  | false =>
    have hs' := hb rfl
    have hz := hs'.sz
    have hp1 := hs'.p
    have hf1 := hs'.f
    by_cases hlong : 3000 < s.length
    · have hlong' : (3000 : Int) < s.length := by omega
      simp [hlen, hlong']
      apply hk10
      simp
    have hlong' : ¬ (3000 : Int) < s.length := by omega
    have m1 := h.mo.ext (e0.trans e1)
    simp [hlen, hlong', ld e1.c]
    refine (write11 j11 e1.wf (W := W) m1 hz).mono ?_
    rintro _ H2 ⟨rfl, c2⟩
    have c12 := e1.c.trans c2
    by_cases hv : ValidO P W F
    · rw [wrT_ok hv, chkO_ok hv]
      obtain ⟨hb2, hcap2⟩ := bytes_of_str (H := H2) (textO_lt P W F)
      have ep := Ext.push c2.wf (.cells ((textO P W F).map byteA))
      have htl := textO_len hv
      simp
      refine (all18 (FT := FK) rfl ep.wf hb2 hcap2).mono ?_
      rintro _ H3 ⟨u, rfl, su, e3⟩
      rw [if_neg (by omega)] at su ⊢
      have hlu := su.len
      have htx := txtO_len P W F
      have hwl : (wordsN (textO P W F)).length = (txtO P W F).length := by rw [words_text hv, toksAt_len, ← wordsO_txt]; simp
      have hpp := List.length_pos_iff.2 hv.pne
      have hlw : 1 ≤ (wordsN (textO P W F)).length := by omega
      have hlw2 : (wordsN (textO P W F)).length ≤ 10000 := by
        have h5 := placeT_flen W P
        have h6 : ∀ F : List (List Int), (∀ f, f ∈ F → f.length ≤ 4) → (F.flatMap faceT).length ≤ 5 * F.length := by
          intro F
          induction F with
          | nil => simp
          | cons f F ih =>
            intro h3
            have := ih fun g hg => h3 g (by simp [hg])
            have h4 := h3 f (by simp)
            have : (faceT f).length = f.length + 1 := by simp [faceT]
            simp only [List.flatMap_cons, List.length_append, List.length_cons]; omega
        have h7 := h6 F hv.f4
        rw [hwl]; unfold txtO; rw [List.length_append]; omega
      have hne : wordsN (textO P W F) ≠ [] := fun r => by rw [r] at hlw; simp at hlw
      have hn0 : ¬ (wordsN (textO P W F)).length = 0 := by omega
      have hgw := words_gw hv
      have hfin := fun t ht => lo_fin (t := t) hv ht hlw2
      generalize wordsN (textO P W F) = T at *
      have ep4 := push_new e3.wf (.cells (gapsW.flatMap strc))
      have sb := sl_lit (Sl.ofCells (enc := strc) strc_len ep4.1) 5 true
      have su4 := su.ext ep4.2
      have ex : ExtC (H.push (.cells [vP, .int .i64 W, vF])) (H3.push (.cells (gapsW.flatMap strc))) := c12.trans ((ep.c.trans e3.c).trans ep4.2.c)
      have hs4 := bytesA_extC (e0.c.trans ex) hs
      have mo4 := (h.mo.ext e0).extC ex
      have g4 := ex.keep _ _ g0
      have hw4 := ep4.2.wf
      simp [hlu, hne, hn0, setSeg]
      show Wp FK _ _ (H3.push (.cells (gapsW.flatMap strc))) _
      generalize H3.push (.cells (gapsW.flatMap strc)) = H4 at *
      refine Wp_loop (Inv8 H4 T v u (.slc H3.next 0 5 1 5 true) (.ptr H.next 0) w (textO P W F)) ?_ T.length _ _ ⟨rfl, 0, [], by omega, rfl, ⟨by simp, [], by simp [rend], by simp, by simp⟩, by simp, by simp, by simp, by simp, by simp, by simp, by simp, by simp⟩
      rintro k τ H5 ⟨rfl, i, t, hi, rfl, lo, t1, t2, t3, t7, t9, t11, t12, t13⟩
      simp only [Wp_seq, Wp_region]
      by_cases hc : i < T.length
      · have w : IntKind.i64.wrap ((i : Int) + 1) = ((i + 1 : Nat) : Int) := wrap64 (by omega) (by omega)
        obtain ⟨x, hx⟩ : ∃ x, T[i]? = some x := ⟨_, List.getElem?_eq_getElem hc⟩
        obtain ⟨po, pf, hix, hl1, hl2⟩ := tok_at su4 hx
        have gx := hgw x (List.mem_of_getElem? hx)
        have hxl := gx.ln
        have htl := lo.ln
        have hsb : ∀ m : Nat, m < 5 → ∃ pg g, g ∈ gapsW ∧ g.length ≤ 11 ∧ indexAddrV 1 (.slc H3.next 0 5 1 5 true) (.int .i64 (m : Int)) = some pg ∧ loadA H5 none pg = some (.str g) := by
          intro m hm
          obtain ⟨pg, g, hg, hgx, hgl⟩ := Strs.idx sb (k := .i64) (i := (m : Int)) (by omega) (by show (m : Int) < 5; omega)
          have := List.mem_of_getElem? hg
          exact ⟨pg, g, this, (gaps_ok g this).2.1, hgx, hgl⟩
        by_cases hg : i < s.length
        · have hg' : (i : Int) < (s.length : Int) := by omega
          obtain ⟨p, b, hb1, hb2, hb3⟩ := bytesA_idx hs4 (k := .i64) hg
          obtain ⟨m, hm, hm5⟩ : ∃ m : Nat, (b : Int).tmod 5 = (m : Int) ∧ m < 5 := ⟨b % 5, rfl, Nat.mod_lt _ (by omega)⟩
          have wm : IntKind.i64.wrap (m : Int) = (m : Int) := wrap64 (by omega) (by omega)
          obtain ⟨pg, g, g1, g2, g3, g5⟩ := hsb _ hm5
          simp [t1, t9, t12, t13, hlu, hc, hlen, hg, hb2, hb3, hm, wm, hix, hl2, -indexAddrV_slc, -Int.natCast_add, -List.append_assoc]
          rw [if_neg (by omega)]
          simp [t11, g3, g5, -indexAddrV_slc, -Int.natCast_add, -List.append_assoc]
          rw [if_neg (by omega)]
          simp [t13, w, -Int.natCast_add, -List.append_assoc]
          exact ⟨_, by omega, rfl, i + 1, _, by omega, rfl, lo_next lo hx gx g1, by simp [t1], by simp [t2], by simp [t3], by simp [t7], by simp [t9], by simp [t11], by simp, by simp⟩
        · obtain ⟨pg, g, g1, g2, g3, g5⟩ := hsb 0 (by omega)
          simp [t1, t9, t12, t13, hlu, hc, hlen, hg, hix, hl2, -indexAddrV_slc, -Int.natCast_add, -List.append_assoc]
          rw [if_neg (by omega)]
          have g3' : indexAddrV 1 (.slc H3.next 0 5 1 5 true) (.int .i64 0) = some pg := g3
          simp [t11, g3', g5, -indexAddrV_slc, -Int.natCast_add, -List.append_assoc]
          rw [if_neg (by omega)]
          simp [t13, w, -Int.natCast_add, -List.append_assoc]
          exact ⟨_, by omega, rfl, i + 1, _, by omega, rfl, lo_next lo hx gx g1, by simp [t1], by simp [t2], by simp [t3], by simp [t7], by simp [t9], by simp [t11], by simp, by simp⟩
      · simp [t13, t9, hlu, hc]
        have : i = T.length := by omega
        subst this
        obtain ⟨f1, f2⟩ := hfin t lo
        rw [← hrb]
        exact r8b_ok (w := w) hw4 hv mo4 hz g4 f1 f2 (by simp [t2]) (by simp [t3]) (by simp [t7]) (by simp [t12])
    · rw [wrT_no hv, chkO_no hv]
      simp
      apply hk10
      simp
end Go.Proofs.YtacfhbhfgbjleaaDoor
