/- The law InputBack, over the interpreter. No claim by itself. -/
import Derived.Test.YtmgaaieofdjfdaaDoorX2
import Derived.Test.YtmgaaieofdjfdaaDoorP3
import Derived.Test.YtmgaaieofdjfdaaDoorE35
namespace Go.Proofs.YtmgaaieofdjfdaaDoor
open Go Go.AI
theorem itoa_lt (n : Int) : ∀ b, b ∈ itoaN n → b < 256 := by
  have h : ∀ f u (acc : List Nat), (∀ b, b ∈ acc → b < 256) → ∀ b, b ∈ decF f u acc → b < 256 := by
    intro f
    induction f with
    | zero => intro u acc h b hb; exact h b hb
    | succ f ih =>
      intro u acc h b hb
      unfold decF at hb
      cases hq : Nat.blt u 10 with
      | true =>
        rw [hq] at hb
        have h10 := Nat.le_of_ble_eq_true hq
        rcases List.mem_cons.1 hb with r | r
        · omega
        · exact h b r
      | false =>
        rw [hq] at hb
        refine ih _ _ (fun c hc => ?_) b hb
        rcases List.mem_cons.1 hc with r | r
        · omega
        · exact h c r
  intro b hb
  cases n with
  | ofNat k => exact h 25 k [] (by simp) b hb
  | negSucc k =>
    rcases List.mem_cons.1 hb with r | r
    · omega
    · exact h 25 (k + 1) [] (by simp) b r
theorem rend_lt : ∀ (l : List Wd), (∀ q, q ∈ l → (∀ b, b ∈ q.1 → b < 256) ∧ (∀ b, b ∈ q.2 → b < 256)) → ∀ b, b ∈ rend l → b < 256
  | [], _, b, hb => by simp [rend] at hb
  | q :: l, h, b, hb => by
    have e : rend (q :: l) = q.1 ++ q.2 ++ rend l := by simp [rend]
    rw [e] at hb
    rcases List.mem_append.1 hb with r | r
    · rcases List.mem_append.1 r with r | r
      · exact (h q (by simp)).1 b r
      · exact (h q (by simp)).2 b r
    · exact rend_lt l (fun p hp => h p (by simp [hp])) b r
theorem text_lt (P L I : List (Int × Int)) : ∀ b, b ∈ textI P L I → b < 256 := by
  rw [← rend_words]
  refine rend_lt _ fun q hq => ?_
  have hl : ∀ l : List (Int × Int), q ∈ l.flatMap lineW → (∀ b, b ∈ q.1 → b < 256) ∧ (∀ b, b ∈ q.2 → b < 256) := fun l h => by
    obtain ⟨p, _, h2⟩ := List.mem_flatMap.1 h
    simp [lineW] at h2
    rcases h2 with rfl | rfl <;> exact ⟨itoa_lt _, by simp⟩
  unfold wordsI at hq
  rcases List.mem_append.1 hq with r | r
  · simp at r
    rcases r with rfl | rfl | rfl | rfl
    · exact ⟨by simp [polyS], by simp⟩
    · exact ⟨itoa_lt (P.length : Int), by simp⟩
    · exact ⟨itoa_lt (L.length : Int), by simp⟩
    · exact ⟨itoa_lt (I.length : Int), by simp⟩
  · rcases List.mem_append.1 r with r | r
    · exact hl _ r
    · rcases List.mem_append.1 r with r | r <;> exact hl _ r
theorem bytes_of_str {H : Heap} {s : List Nat} (h : ∀ b, b ∈ s → b < 256) : bytesA (H.push (.cells (s.map byteA))) (.slc H.next 0 s.length 1 s.length false) = some s ∧ capOk (.slc H.next 0 s.length 1 s.length false) = true := by
  have e : s.map byteA = s.flatMap bytc := by
    clear h
    induction s with
    | nil => rfl
    | cons b s ih => simp [bytc, byteA, ih]
  rw [e]
  exact ⟨bytesA_cells (get_pushN.trans (if_pos rfl)) h _ _, by simp [capOk]⟩
theorem parI_len' (s : List Nat) : (parI s).1.1.length ≤ 9223372036854775806 ∧ (parI s).1.2.1.length ≤ 9223372036854775806 ∧ (parI s).1.2.2.length ≤ 9223372036854775806 := by
  have hlen : ∀ (en : Nat) (lo hi : Int) (n : Nat) (r : St), (rdP en lo hi n r).1.length ≤ n := by
    intro en lo hi n
    induction n with
    | zero => intro r; simp [rdP]
    | succ n ih =>
      intro r
      unfold rdP
      split
      · simp only [List.length_cons]; have := ih (rd2 en lo hi r).2; omega
      · simp
  unfold parI
  split
  · simp
  · split
    · unfold body3
      have q1 := rdN_range (en := s.length) (lo := 0) (hi := 200) (by omega) (by omega) (.ok (wordsN s).tail)
      simp only
      generalize rdN s.length 0 200 (.ok (wordsN s).tail) = a at *
      have q2 := rdN_range (en := s.length) (lo := 0) (hi := 400) (by omega) (by omega) a.2
      generalize rdN s.length 0 400 a.2 = b at *
      have q3 := rdN_range (en := s.length) (lo := 0) (hi := 400) (by omega) (by omega) b.2
      generalize rdN s.length 0 400 b.2 = c at *
      have k1 := hlen s.length (-1048576) 1048576 a.1.toNat c.2
      generalize rdP s.length (-1048576) 1048576 a.1.toNat c.2 = p at *
      have k2 := hlen s.length 0 (a.1 - 1) b.1.toNat p.2
      generalize rdP s.length 0 (a.1 - 1) b.1.toNat p.2 = l at *
      have k3 := hlen s.length 0 (a.1 - 1) c.1.toNat l.2
      generalize rdP s.length 0 (a.1 - 1) c.1.toNat l.2 = i at *
      unfold fin3
      split
      · simp
      · simp only; omega
      · simp
    · simp
def r5a : ACode := subAt [1,1,1,1,1] A5.body
theorem body5 : A5.body = putAt [1,1,1,1,1] A5.body r5a := rfl
theorem r5a_ok {H : Heap} (hw : H.Wf) {v : AV} {s : List Nat} (hs : bytesA H v = some s) {τ : Env} (t1 : Env.at τ 1 = v) : Wp FK r5a τ H (finQ [.tmp 4] fun r _ => r = .bool true) := by
  have hlen := bytesA_len hs
  have hl := parI_len' s
  simp [r5a, subAt, A5, t1]
  refine (parse18 (FT := FK) rfl rfl rfl rfl rfl rfl rfl rfl hw hs).mono ?_
  rintro _ H1 ⟨a, b, c, rfl, ma, mb, mc, _, e1⟩
  have pol : Pol H1 a b c (parI s).1.1 (parI s).1.2.1 (parI s).1.2.2 := ⟨ma.sl pairc_len, mb.sl pairc_len, mc.sl pairc_len⟩
  obtain ⟨H2, s2, g2, e2, n2⟩ := store_new e1.wf (z := [.nils, .nils, .nils]) (n := 3) (x := .agg [a, b, c]) (cs := [a, b, c]) rfl rfl rfl pol.one
  have ld : ∀ {H' : Heap}, ExtC H2 H' → loadA H' (some 3) (.ptr H1.next 0) = some (.agg [a, b, c]) ∧ loadA H' none (.ptr H1.next 0) = some a ∧ loadA H' none (.ptr H1.next 1) = some b := fun k =>
    ⟨load_agg (k.keep _ _ g2) (by simp [seg]), load_get (k.keep _ _ g2) rfl, load_get (k.keep _ _ g2) rfl⟩
  have l2 := ld (ExtC.refl e2.wf)
  rcases par_res s with ⟨V, hV, hall, h3, hr⟩ | ⟨x, e, hr, he, hx0, hx1⟩
  · have hval := split_valid hV hall
    rw [hr] at pol ma mb mc hl ⊢
    have polx := pol.ext e2
    generalize (splitN V) = Q at *
    obtain ⟨P, L, I⟩ := Q
    simp only at polx pol hval hl ⊢
    have k0 : chkI P L I = 0 := by simp [chkI, hval]
    have p0 : prtI P L I = textI P L I := by simp [prtI, hval]
    simp [s2, l2.1]
    refine (print14 (FT := FK) rfl rfl rfl rfl rfl rfl rfl rfl e2.wf polx).mono ?_
    rintro _ H3 ⟨rfl, e3⟩
    rw [k0, p0]
    obtain ⟨hb, hcap⟩ := bytes_of_str (H := H3) (text_lt P L I)
    have ep := Ext.push e3.wf (.cells ((textI P L I).map byteA))
    simp
    refine (parse18 (FT := FK) rfl rfl rfl rfl rfl rfl rfl rfl ep.wf hb).mono ?_
    rintro _ H4 ⟨a', b', c', rfl, ma', mb', mc', _, e4⟩
    rw [par_text hval] at ma' mb' mc' ⊢
    have pol' : Pol H4 a' b' c' P L I := ⟨ma'.sl pairc_len, mb'.sl pairc_len, mc'.sl pairc_len⟩
    obtain ⟨H5, s5, g5, e5, n5⟩ := store_new e4.wf (z := [.nils, .nils, .nils]) (n := 3) (x := .agg [a', b', c']) (cs := [a', b', c']) rfl rfl rfl pol'.one
    have c25 : ExtC H2 H5 := (e3.trans ep.c).trans (e4.c.trans e5.c)
    have l5 := ld c25
    have l5' : ∀ {H' : Heap}, Ext H5 H' → loadA H' (some 3) (.ptr H4.next 0) = some (.agg [a', b', c']) := fun k => load_agg (k.keep _ _ g5) (by simp [seg])
    simp [s5, l5.1]
    refine (check13 (FT := FK) rfl rfl e5.wf (polx.extC c25)).mono ?_
    rintro _ H6 ⟨rfl, e6⟩
    have l6 := ld (c25.trans e6.c)
    simp [k0, l6.1, l5' e6]
    refine (same17 (FT := FK) rfl rfl rfl e6.wf (polx.extC (c25.trans e6.c)) (pol'.ext (e5.trans e6)) hl.1 hl.2.1 hl.2.2).mono ?_
    rintro _ H7 ⟨rfl, e7⟩
    have : samePol P L I P L I = true := by simp [samePol]
    simp [this]
    apply hk11
    simp
  · rw [hr] at pol ⊢
    have he' : (e != 0) = true := by simpa using he
    have hxl : x ≤ (s.length : Int) := hx1
    have p0 := pol.p.len
    have p1 := pol.l.len
    simp only at p0 p1
    simp [s2, he', l2.2.1, l2.2.2, p0, p1, t1, hx0, hlen, hxl]
    apply hk11
    simp
theorem back5 {H : Heap} (hw : H.Wf) {a b c : AV} {P L I : List (Int × Int)} (h : PolA H a b c P L I) {v : AV} {s : List Nat} (hs : bytesA H v = some s) (_hcap : capOk v = true) : Cp FK 5 [.agg [a, b, c], v] H (fun r _ => r = .bool true) := by
  refine Cp_code A5 rfl rfl ?_
  rw [body5]
  have hA : A5.results = [.tmp 4] := rfl
  rw [hA]
  have hlen := bytesA_len hs
  obtain ⟨g0, e0⟩ := push_new hw (.cells [a, b, c])
  have ld : ∀ {H' : Heap}, ExtC (H.push (.cells [a, b, c])) H' → loadA H' (some 3) (.ptr H.next 0) = some (.agg [a, b, c]) := fun k => load_agg (k.keep _ _ g0) (by simp [seg])
  have l0 := ld (ExtC.refl e0.wf)
  simp [A5, putAt, h.pol.one, l0]
  refine (long10 (FT := FK) rfl e0.wf (h.pol.ext e0)).mono ?_
  rintro _ H1 ⟨rfl, e1⟩
  by_cases hl : (decide (300 < P.length) || decide (500 < L.length) || decide (500 < I.length)) = true
  · rw [hl]
    simp
    apply hk11
    simp
  have hl0 : (decide (300 < P.length) || decide (500 < L.length) || decide (500 < I.length)) = false := by simpa using hl
  rw [hl0]
  simp only [Bool.or_eq_false_iff, decide_eq_false_iff_not] at hl0
  by_cases hlong : 9000 < s.length
  · have hlong' : (9000 : Int) < s.length := by omega
    simp [hlen, hlong']
    apply hk11
    simp
  have hlong' : ¬ (9000 : Int) < s.length := by omega
  have l1 := ld e1.c
  have q1 := h.pol.ext (e0.trans e1)
  simp [hlen, hlong', l1]
  refine (print14 (FT := FK) rfl rfl rfl rfl rfl rfl rfl rfl e1.wf q1).mono ?_
  rintro _ H2 ⟨rfl, e2⟩
  have l2 := ld (e1.c.trans e2)
  simp [l2]
  refine (check13 (FT := FK) rfl rfl e2.wf (q1.extC e2)).mono ?_
  rintro _ H3 ⟨rfl, e3⟩
  have c3 := (e1.c.trans e2).trans e3.c
  have hs3 : bytesA H3 v = some s := bytesA_extC (e0.c.trans c3) hs
  by_cases hv : validP P L I = true
  · have k0 : chkI P L I = 0 := by simp [chkI, hv]
    have p0 : prtI P L I = textI P L I := by simp [prtI, hv]
    rw [k0, p0]
    obtain ⟨hb, _⟩ := bytes_of_str (H := H3) (text_lt P L I)
    have ep := Ext.push e3.wf (.cells ((textI P L I).map byteA))
    simp
    refine (parse18 (FT := FK) rfl rfl rfl rfl rfl rfl rfl rfl ep.wf hb).mono ?_
    rintro _ H4 ⟨a', b', c', rfl, ma', mb', mc', _, e4⟩
    rw [par_text hv] at ma' mb' mc' ⊢
    have pol' : Pol H4 a' b' c' P L I := ⟨ma'.sl pairc_len, mb'.sl pairc_len, mc'.sl pairc_len⟩
    obtain ⟨H5, s5, g5, e5, n5⟩ := store_new e4.wf (z := [.nils, .nils, .nils]) (n := 3) (x := .agg [a', b', c']) (cs := [a', b', c']) rfl rfl rfl pol'.one
    have c35 : Ext H3 H5 := (ep.trans e4).trans e5
    have l5 := ld (c3.trans c35.c)
    have l5' : loadA H5 (some 3) (.ptr H4.next 0) = some (.agg [a', b', c']) := load_agg g5 (by simp [seg])
    simp [s5, l5, l5']
    refine (same17 (FT := FK) rfl rfl rfl e5.wf ((q1.extC e2).ext (e3.trans c35)) (pol'.ext e5) (by omega) (by omega) (by omega)).mono ?_
    rintro _ H6 ⟨rfl, e6⟩
    have : samePol P L I P L I = true := by simp [samePol]
    simp [this]
    exact r5a_ok e6.wf (bytesA_ext (c35.trans e6) hs3) (by simp)
  · have k0 : chkI P L I = 2 := by simp [chkI, hv]
    rw [k0]
    simp
    exact r5a_ok e3.wf hs3 (by simp)
end Go.Proofs.YtmgaaieofdjfdaaDoor
