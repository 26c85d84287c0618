/- Faces that may be, and the table of their edges, as the program makes it. No claim by itself. -/
import Derived.Test.YtcepchipgjpkhaaTab
import Derived.Test.YtcepchipgjpkhaaED
import Derived.Test.YtcepchipgjpkhaaEE
namespace Go.Proofs.Ytcepchipgjpkhaa
open Go Go.AI
section
variable {FT : Nat → Option FnD} {H : Heap}
theorem index65 (h114 : FT 114 = some (.code A114)) {v : AV} {l : List Int} {y : Int} (h : Ints H v l) (hl : l.length ≤ 9223372036854775806) :
    Cp FT 114 [v, .int .i64 y] H (fun r H' => (∃ k : Int, r = .int .i64 k ∧ (0 ≤ k ↔ y ∈ l)) ∧ H' = H) := by
  refine Cp_code A114 h114 rfl ?_
  simp [A114, h.len]
  refine Wp_loop (fun m τ H' => H' = H ∧ ∃ i : Nat, i ≤ l.length ∧ m = l.length - i ∧ Env.at τ 0 = v ∧ Env.at τ 1 = .int .i64 y ∧ Env.at τ 7 = .int .i64 l.length ∧ Env.at τ 8 = .int .i64 i ∧ y ∉ l.take i) ?_ l.length _ _ ⟨rfl, 0, by omega, by omega, by simp, by simp, by simp, by simp, by simp⟩
  rintro m τ _ ⟨rfl, i, hi, rfl, t0, t1, t7, t8, hn⟩
  simp only [Wp_seq, Wp_region]
  by_cases c : i < l.length
  · obtain ⟨p, x, hx, hp, hld⟩ := Ints.idx h (k := .i64) (i := i) (by omega) (by omega)
    rw [Int.toNat_natCast] at hx
    by_cases q : y = x
    · subst q
      have hm := List.mem_of_getElem? hx
      have h0 : (0 : Int) ≤ (i : Int) := by omega
      simp [c, t0, t1, t7, t8, hp, hld, hm]
    · have w : IntKind.i64.wrap ((i : Int) + 1) = ((i + 1 : Nat) : Int) := wrap64 (by omega) (by omega)
      have hn1 : y ∉ l.take (i + 1) := by
        rw [List.take_add_one, hx]; simp [hn, q]
      simp [c, t0, t1, t7, t8, hp, hld, q, w]
      exact ⟨_, by omega, i + 1, by omega, rfl, by simp, hn1⟩
  · have c' : ¬ ((i : Int) < l.length) := by omega
    rw [List.take_of_length_le (by omega)] at hn
    simp [c, t7, t8, hn]
theorem contains54 (h91 : FT 91 = some (.code A91)) (h114 : FT 114 = some (.code A114)) {v : AV} {l : List Int} {y : Int} (h : Ints H v l) (hl : l.length ≤ 9223372036854775806) :
    Cp FT 91 [v, .int .i64 y] H (fun r H' => r = .bool (decide (y ∈ l)) ∧ H' = H) := by
  refine Cp_code A91 h91 rfl ?_
  simp [A91]
  refine (index65 h114 h hl).mono ?_
  rintro _ _ ⟨⟨k, rfl, hk⟩, rfl⟩
  by_cases q : y ∈ l
  · have := hk.2 q
    simp [q, this]
  · have : ¬ 0 ≤ k := fun r => q (hk.1 r)
    simp [q, this]
theorem edge55 (h63 : FT 63 = some (.code A63)) (hw : H.Wf) {v : AV} {f : List Int} {k : Nat} (h : Rw 1 i64c H v f) (hk : k < f.length) (hl : f.length ≤ 9223372036854775806) :
    Cp FT 63 [v, .int .i64 k] H (fun r H' => (∃ s, (edgesF f)[k]? = some s ∧ r = .agg (pairc s)) ∧ Ext H H') := by
  refine Cp_code A63 h63 rfl ?_
  have hs := h.sl i64c_len
  have e0 := Ext.push hw (.cells [.int .i64 0, .int .i64 0])
  have hs0 := hs.ext e0
  have hmod : (k + 1) % f.length < f.length := Nat.mod_lt _ (by omega)
  obtain ⟨p, a, a1, a2, a3⟩ := Ints.idx hs0 (k := .i64) (i := (k : Int)) (by omega) (by omega)
  obtain ⟨q, b, b1, b2, b3⟩ := Ints.idx hs0 (k := .i64) (i := (((k + 1) % f.length : Nat) : Int)) (by omega) (by omega)
  rw [Int.toNat_natCast] at a1 b1
  have hE := edgesF_get a1 b1
  have w : IntKind.i64.wrap ((k : Int) + 1) = (k : Int) + 1 := wrap64 (by omega) (by omega)
  have hne : ¬ (f.length : Int) = 0 := by omega
  have hne' : ¬ f.length = 0 := by omega
  have hne2 : f ≠ [] := fun q => hne' (by rw [q]; rfl)
  have hmo : ((k : Int) + 1).tmod (f.length : Int) = (((k + 1) % f.length : Nat) : Int) := by
    rw [Int.tmod_eq_emod_of_nonneg (by omega)]; push_cast; rfl
  generalize (((k + 1) % f.length : Nat) : Int) = mo at *
  obtain ⟨H2, st, g2, e2, n2⟩ := store_new hw (z := [.int .i64 0, .int .i64 0]) (n := 2) (x := .agg [.int .i64 a, .int .i64 b]) (cs := [.int .i64 a, .int .i64 b]) rfl rfl rfl rfl
  have g2' := cellsAt_get g2
  simp [A63, a2, a3, b2, b3, w, h.len, hne2, hmo, st, resultsA, resultA, g2', partA, seg, packA]
  exact ⟨⟨a, b, hE, rfl⟩, e2⟩
theorem left58 (h58 : FT 58 = some (.code A58)) (hw : H.Wf) {o : Nat} {E : List Ent} {s : Int × Int} (h : H.get o = some (.map (E.map entc))) :
    Cp FT 58 [.agg [.map o], .int .i64 s.1, .int .i64 s.2] H (fun r H' => r = .int .i64 (lookE E s) ∧ Ext H H') := by
  refine Cp_code A58 h58 rfl ?_
  have e0 := Ext.push hw (.cells [.map o])
  have g0 : (H.push (.cells [.map o])).get H.next = some (.cells [.map o]) := get_pushN.trans (if_pos rfl)
  have l0 : loadA (H.push (.cells [.map o])) none (.ptr H.next 0) = some (.map o) := load_get g0 rfl
  obtain ⟨r, hr, hc⟩ := lookA_ent (s := s) (e0.keep _ _ h)
  have hr' : lookA (H.push (.cells [.map o])) (.flat [.int, .int]) (.map o) (.agg [.int .i64 s.1, .int .i64 s.2]) = some r := hr
  rcases hc with ⟨_, rfl, h3⟩ | ⟨_, i, k, rfl, h3, _⟩
  · simp [A58, l0, hr', lookV, h3]
    exact e0
  · simp [A58, l0, hr', lookV, h3]
    exact e0
/-- What the faces and their table come to. -/
structure KnR (H' : Heap) (n : Int) (F : List (List Int)) (vF r : AV) : Prop where
  ex : ∃ m, r = .tup [m, .int .i64 (chkF n F)] ∧ m.cells.length = 2 ∧ allOne m.cells = true ∧ (chkF n F = 0 → ∃ o, m = .agg [.map o, vF] ∧ H'.get o = some (.map ((tabF 0 F).map entc))) ∧ (chkF n F ≠ 0 → m = .agg [.nilm, .nils])
def fOkTo (n : Int) (F : List (List Int)) (i : Nat) : Prop := ∀ f, f ∈ F.take i → rowOk n f
def inTo (n : Int) (f : List Int) (j : Nat) : Prop := (f.take j).Nodup ∧ ∀ k, k ∈ f.take j → 0 ≤ k ∧ k < n
theorem chkF_bad {n : Int} {F : List (List Int)} {f : List Int} (h : f ∈ F) (hb : ¬ rowOk n f) : chkF n F = 2 := by
  unfold chkF; rw [if_neg]; exact fun q => hb (q.2 f h)
theorem inTo_succ {n : Int} {f : List Int} {j : Nat} {x : Int} (h : inTo n f j) (hx : f[j]? = some x) (h0 : 0 ≤ x ∧ x < n) (hn : x ∉ f.take j) : inTo n f (j + 1) := by
  have e : f.take (j + 1) = f.take j ++ [x] := by rw [List.take_add_one, hx]; rfl
  constructor
  · rw [e, List.nodup_append]; exact ⟨h.1, by simp, fun a ha b hb => by simp at hb; subst hb; exact fun q => hn (q ▸ ha)⟩
  · rw [e]; intro k hk
    rcases List.mem_append.1 hk with q | q
    · exact h.2 k q
    · simp at q; subst q; exact h0
theorem rowOk_no {n : Int} {f : List Int} {j : Nat} {x : Int} (hx : f[j]? = some x) (h : ¬ (0 ≤ x ∧ x < n) ∨ x ∈ f.take j) : ¬ rowOk n f := by
  rintro ⟨_, h2, h3⟩
  rcases h with h | h
  · exact h (h3 x (List.mem_of_getElem? hx))
  · have hj : j < f.length := (List.getElem?_eq_some_iff.1 hx).1
    obtain ⟨i, hi, hix⟩ := List.getElem_of_mem h
    have hi' : i < j := by simp at hi; omega
    have := List.pairwise_iff_getElem.1 h2 i j (by omega) hj hi'
    apply this
    rw [List.getElem_take] at hix
    rw [hix]
    exact (List.getElem?_eq_some_iff.1 hx).2.symm
structure K1 (H H' : Heap) (n : Int) (vF : AV) (F : List (List Int)) (o4 : Nat) (τ : Env) (i m : Nat) : Prop where
  ex : Ext H H'
  g4 : H'.get o4 = some (.cells [.nilm, .nils])
  le : i ≤ F.length
  hm : m = F.length - i
  ok : fOkTo n F i
  t0 : Env.at τ 0 = .int .i64 n
  t1 : Env.at τ 1 = vF
  t4 : Env.at τ 4 = .ptr o4 0
  t22 : Env.at τ 22 = vF
  t23 : Env.at τ 23 = .int .i64 F.length
  t24 : Env.at τ 24 = .int .i64 i
structure K2 (H H' : Heap) (n : Int) (vF : AV) (F : List (List Int)) (f : List Int) (vr : AV) (o4 : Nat) (τ : Env) (i j m : Nat) : Prop where
  ex : Ext H H'
  g4 : H'.get o4 = some (.cells [.nilm, .nils])
  le : j ≤ f.length
  hm : m = f.length - j
  ok : inTo n f j
  t0 : Env.at τ 0 = .int .i64 n
  t1 : Env.at τ 1 = vF
  t4 : Env.at τ 4 = .ptr o4 0
  t22 : Env.at τ 22 = vF
  t23 : Env.at τ 23 = .int .i64 F.length
  t24 : Env.at τ 24 = .int .i64 i
  t7 : Env.at τ 7 = vr
  t28 : Env.at τ 28 = vr
  t29 : Env.at τ 29 = .int .i64 f.length
  t30 : Env.at τ 30 = .int .i64 j
def k41a : ACode := subAt [1,1,0] A56.body
def k41b : ACode := subAt [1,1,1,1,0] A56.body
theorem body56 : A56.body = putAt [1,1,0] (putAt [1,1,1,1,0] A56.body k41b) k41a := rfl
structure Qok (H H' : Heap) (n : Int) (vF : AV) (F : List (List Int)) (o4 : Nat) (τ : Env) : Prop where
  ok : fOkTo n F F.length
  ex : Ext H H'
  g4 : H'.get o4 = some (.cells [.nilm, .nils])
  t0 : Env.at τ 0 = .int .i64 n
  t1 : Env.at τ 1 = vF
  t4 : Env.at τ 4 = .ptr o4 0
structure Qbad (H H' : Heap) (o4 : Nat) (e : Int) (τ : Env) : Prop where
  ex : Ext H H'
  g4 : H'.get o4 = some (.cells [.nilm, .nils])
  t4 : Env.at τ 4 = .ptr o4 0
  t5 : Env.at τ 5 = .int .i64 e
theorem known_a (h91 : FT 91 = some (.code A91)) (h114 : FT 114 = some (.code A114)) {n : Int} {vF : AV} {F : List (List Int)} (hF : Gd H vF F) (hsz : ∀ f, f ∈ F → f.length ≤ 1000000000) (hl : F.length ≤ 1000000000) (hw : H.Wf) {o4 : Nat} (ho : H.next ≤ o4) {τ0 : Env} {H0 : Heap} (ex0 : Ext H H0)
    (g0 : H0.get o4 = some (.cells [.nilm, .nils])) (u0 : Env.at τ0 0 = .int .i64 n) (u1 : Env.at τ0 1 = vF) (u4 : Env.at τ0 4 = .ptr o4 0) (_hn : 0 ≤ n) :
    Wp FT k41a τ0 H0 (fun s τ H' => (s = .next ∧ Qok H H' n vF F o4 τ) ∨ (s = .ret ∧ chkF n F = 2 ∧ Qbad H H' o4 2 τ)) := by
  simp [k41a, subAt, A56, u1, hF.len]
  refine Wp_loop (fun m τ H' => ∃ i, K1 H H' n vF F o4 τ i m) ?_ F.length _ _ ⟨0, ⟨ex0, g0, by omega, by omega, by simp [fOkTo], by simp [u0], by simp [u1], by simp [u4], by simp, by simp, by simp⟩⟩
  rintro m τ H1 ⟨i, ⟨ex, g4, hi, rfl, hok, t0, t1, t4, t22, t23, t24⟩⟩
  simp only [Wp_seq, Wp_region]
  by_cases c : i < F.length
  · obtain ⟨p, r, f, a1, a2, a3, a4⟩ := hF.idxE ex (k := .i64) (i := (i : Int)) (by omega) (by omega)
    rw [Int.toNat_natCast] at a1
    have hfm := List.mem_of_getElem? a1
    have hfl := hsz f hfm
    have bad : ∀ (τ' : Env) (H2 : Heap), Ext H H2 → H2.get o4 = some (.cells [.nilm, .nils]) → ∃ H3, storeA H2 2 (.ptr o4 0) (.agg [.nilm, .nils]) = some (undefA, H3) ∧ Ext H H3 ∧ H3.get o4 = some (.cells [.nilm, .nils]) := by
      intro τ' H2 ex2 g2
      obtain ⟨H3, s1, s2, s3⟩ := store_whole (n := 2) (x := .agg [.nilm, .nils]) ex2.wf rfl rfl (by rw [ex2.floor]; exact Nat.le_trans hw.1 ho) g2 rfl rfl
      refine ⟨H3, s1, ⟨s3.floor.trans ex2.floor, Nat.le_trans ex2.next s3.next, fun o x e => s3.keep o x (by simp; have := hw.lt e; omega) (ex2.keep _ _ e), s3.wf⟩, s2⟩
    simp [c, t22, t23, t24, a2, a3, a4.len]
    refine Wp_loop (fun m τ H' => ∃ j, K2 H H' n vF F f r o4 τ i j m) ?_ f.length _ _ ⟨0, ⟨ex, g4, by omega, by omega, ⟨by simp, by simp⟩, by simp [t0], by simp [t1], by simp [t4], by simp [t22], by simp [t23], by simp [t24], by simp, by simp, by simp, by simp⟩⟩
    rintro m τ H2 ⟨j, ⟨ex, g4, hj, rfl, hin, t0, t1, t4, t22, t23, t24, t7, t28, t29, t30⟩⟩
    have a4' := a4.ext ex
    simp only [Wp_seq, Wp_region]
    by_cases cj : j < f.length
    · obtain ⟨q, x, b1, b2, b3⟩ := Ints.idx (a4'.sl i64c_len) (k := .i64) (i := (j : Int)) (by omega) (by omega)
      rw [Int.toNat_natCast] at b1
      obtain ⟨H3, s1, s2, s3⟩ := bad τ H2 ex g4
      by_cases c1 : x < 0
      · have hb := chkF_bad (n := n) hfm (rowOk_no b1 (.inl (by omega)))
        simp [cj, t4, t28, t29, t30, b2, b3, c1, s1]
        exact ⟨hb, ⟨s2, s3, by simp [t4], by simp⟩⟩
      by_cases c2 : n ≤ x
      · have hb := chkF_bad (n := n) hfm (rowOk_no b1 (.inl (by omega)))
        simp [cj, t0, t4, t28, t29, t30, b2, b3, c1, c2, s1]
        exact ⟨hb, ⟨s2, s3, by simp [t4], by simp⟩⟩
      obtain ⟨v', k1, k2, _⟩ := a4'.take i64c_len (k := j) hj
      simp [cj, t0, t7, t28, t29, t30, b2, b3, c1, c2, k1]
      refine (contains54 h91 h114 (k2.sl i64c_len) (by simp; omega)).mono ?_
      rintro _ _ ⟨rfl, rfl⟩
      by_cases c3 : x ∈ f.take j
      · have hb := chkF_bad (n := n) hfm (rowOk_no b1 (.inr c3))
        simp [c3, t4, s1]
        exact ⟨hb, ⟨s2, s3, by simp [t4], by simp⟩⟩
      · have w : IntKind.i64.wrap ((j : Int) + 1) = ((j + 1 : Nat) : Int) := wrap64 (by omega) (by omega)
        simp [c3, t30, w]
        exact ⟨_, by omega, j + 1, ⟨ex, g4, by omega, rfl, inTo_succ hin b1 (by omega) c3, by simp [t0], by simp [t1], by simp [t4], by simp [t22], by simp [t23], by simp [t24], by simp [t7], by simp [t28], by simp [t29], by simp⟩⟩
    · have hjl : j = f.length := by omega
      subst hjl
      have cj' : ¬ ((f.length : Int) < f.length) := by omega
      obtain ⟨H3, s1, s2, s3⟩ := bad τ H2 ex g4
      by_cases c3 : f.length < 3
      · have hb := chkF_bad (n := n) hfm (fun q => by have := q.1; omega)
        have c3' : (f.length : Int) < 3 := by omega
        simp [t4, t7, t29, t30, a4'.len, c3', s1]
        exact ⟨hb, ⟨s2, s3, by simp [t4], by simp⟩⟩
      · have c3' : ¬ (f.length : Int) < 3 := by omega
        have w : IntKind.i64.wrap ((i : Int) + 1) = ((i + 1 : Nat) : Int) := wrap64 (by omega) (by omega)
        have hok1 : fOkTo n F (i + 1) := by
          intro g hg
          rw [List.take_add_one, a1] at hg
          rcases List.mem_append.1 hg with q | q
          · exact hok g q
          · simp at q; subst q
            unfold inTo at hin; rw [List.take_length] at hin
            exact ⟨by omega, hin.1, hin.2⟩
        simp [t7, t29, t30, a4'.len, c3', t24, w]
        exact ⟨_, by omega, i + 1, ⟨ex, g4, by omega, rfl, hok1, by simp [t0], by simp [t1], by simp [t4], by simp [t22], by simp [t23], by simp⟩⟩
  · have hil : i = F.length := by omega
    subst hil
    simp [t23, t24]
    exact ⟨hok, ex, g4, by simp [t0], by simp [t1], by simp [t4]⟩
theorem look_iff {E : List Ent} (h : ∀ q, q ∈ E → 0 ≤ q.2) {o : Nat} {H : Heap} (hg : H.get o = some (.map (E.map entc))) (s : Int × Int) : 0 ≤ lookE E s ↔ s ∈ E.map (·.1) := by
  obtain ⟨r, _, hc⟩ := lookA_ent (s := s) hg
  rcases hc with ⟨h1, _, h3⟩ | ⟨h1, i, k, _, h3, h4⟩
  · rw [h3]; exact ⟨fun q => by omega, fun q => absurd q h1⟩
  · rw [h3]; exact ⟨fun _ => h1, fun _ => h _ h4⟩
structure Tb (H H' : Heap) (vF : AV) (o4 om ot : Nat) (E : List Ent) : Prop where
  ex : Ext H H'
  g4 : H'.get o4 = some (.cells [.nilm, .nils])
  gm : H'.get om = some (.map (E.map entc))
  gt : H'.get ot = some (.cells [.map om, vF])
  n4 : o4 ≠ om
  nt : ot ≠ om
  om0 : H.next ≤ om
  o40 : H.next ≤ o4
  ps : ∀ q, q ∈ E → 0 ≤ q.2
theorem Tb.ext {H' H2 : Heap} {vF : AV} {o4 om ot : Nat} {E : List Ent} (h : Tb H H' vF o4 om ot E) (e : Ext H' H2) : Tb H H2 vF o4 om ot E :=
  ⟨h.ex.trans e, e.keep _ _ h.g4, e.keep _ _ h.gm, e.keep _ _ h.gt, h.n4, h.nt, h.om0, h.o40, h.ps⟩
theorem Tb.upd (hw : H.Wf) {H' : Heap} {vF : AV} {o4 om ot : Nat} {E : List Ent} (h : Tb H H' vF o4 om ot E) {s : Int × Int} {k : Int} (hn : s ∉ E.map (·.1)) (hk : 0 ≤ k) :
    ∃ H2, mapUpdA H' (.flat [.int, .int]) (.map om) (.agg (pairc s)) (.int .i64 k) = some (undefA, H2) ∧ Tb H H2 vF o4 om ot (E ++ [(s, k)]) := by
  refine ⟨_, mapUpd_new (by rw [h.ex.floor]; exact Nat.le_trans hw.1 h.om0) h.gm hn, ⟨h.ex.setNew hw h.om0 (h.ex.wf.lt h.gm), ?_, get_setH.trans (if_pos rfl), ?_, h.n4, h.nt, h.om0, h.o40, ?_⟩⟩
  · rw [get_setH, if_neg h.n4]; exact h.g4
  · rw [get_setH, if_neg h.nt]; exact h.gt
  · intro q hq
    rcases List.mem_append.1 hq with r | r
    · exact h.ps q r
    · simp at r; subst r; exact hk
def edTo (F : List (List Int)) (i : Nat) (f : List Int) (j : Nat) : List Ent := tabF 0 (F.take i) ++ ((edgesF f).take j).map fun s => (s, (i : Int))
theorem edTo_zero (F : List (List Int)) (i : Nat) (f : List Int) : edTo F i f 0 = tabF 0 (F.take i) := by simp [edTo]
theorem edTo_succ {F : List (List Int)} {i : Nat} {f : List Int} {j : Nat} {s : Int × Int} (h : (edgesF f)[j]? = some s) : edTo F i f (j + 1) = edTo F i f j ++ [(s, (i : Int))] := by
  unfold edTo; rw [List.take_add_one, h]; simp
theorem edTo_all {F : List (List Int)} {i : Nat} {f : List Int} (h : F[i]? = some f) : edTo F i f f.length = tabF 0 (F.take (i + 1)) := by
  unfold edTo
  have hi : i < F.length := (List.getElem?_eq_some_iff.1 h).1
  have e : (edgesF f).take f.length = edgesF f := List.take_of_length_le (by rw [edgesF_len]; exact Nat.le_refl _)
  rw [e, List.take_add_one, h, Option.toList_some, tabF_app]
  simp [tabF, List.length_take, Nat.min_eq_left (Nat.le_of_lt hi)]
theorem edTo_dup {F : List (List Int)} {i : Nat} {f : List Int} {j : Nat} {s : Int × Int} (hf : F[i]? = some f) (h : (edgesF f)[j]? = some s) (hd : s ∈ (edTo F i f j).map (·.1)) : ¬ (F.flatMap edgesF).Nodup := by
  intro hn
  have e : F.flatMap edgesF = (F.take i).flatMap edgesF ++ ((edgesF f).take j ++ s :: (edgesF f).drop (j + 1)) ++ (F.drop (i + 1)).flatMap edgesF := by
    have h1 : F = F.take i ++ f :: F.drop (i + 1) := by rw [← drop_get hf, List.take_append_drop]
    have h2 : edgesF f = (edgesF f).take j ++ s :: (edgesF f).drop (j + 1) := by rw [← drop_get h, List.take_append_drop]
    conv => lhs; rw [h1]
    rw [List.flatMap_append, List.flatMap_cons]
    conv => lhs; rw [h2]
    simp
  rw [e] at hn
  have hd2 : s ∈ (F.take i).flatMap edgesF ++ (edgesF f).take j := by
    unfold edTo at hd
    rw [List.map_append, tabF_fst] at hd
    simpa [Function.comp_def] using hd
  have e2 : (F.take i).flatMap edgesF ++ ((edgesF f).take j ++ s :: (edgesF f).drop (j + 1)) ++ (F.drop (i + 1)).flatMap edgesF = ((F.take i).flatMap edgesF ++ (edgesF f).take j) ++ (s :: ((edgesF f).drop (j + 1) ++ (F.drop (i + 1)).flatMap edgesF)) := by simp
  rw [e2, List.nodup_append] at hn
  exact hn.2.2 s hd2 s (by simp) rfl
structure K3 (H H' : Heap) (vF : AV) (F : List (List Int)) (o4 om ot : Nat) (τ : Env) (i m : Nat) : Prop where
  tb : Tb H H' vF o4 om ot (tabF 0 (F.take i))
  nd : ((tabF 0 (F.take i)).map (·.1)).Nodup
  le : i ≤ F.length
  hm : m = F.length - i
  t4 : Env.at τ 4 = .ptr o4 0
  t10 : Env.at τ 10 = .ptr ot 0
  t60 : Env.at τ 60 = vF
  t61 : Env.at τ 61 = .int .i64 F.length
  t62 : Env.at τ 62 = .int .i64 i
structure K4 (H H' : Heap) (vF : AV) (F : List (List Int)) (f : List Int) (vr : AV) (o4 om ot : Nat) (τ : Env) (i j m : Nat) : Prop where
  tb : Tb H H' vF o4 om ot (edTo F i f j)
  nd : ((edTo F i f j).map (·.1)).Nodup
  le : j ≤ f.length
  hm : m = f.length - j
  t4 : Env.at τ 4 = .ptr o4 0
  t10 : Env.at τ 10 = .ptr ot 0
  t60 : Env.at τ 60 = vF
  t61 : Env.at τ 61 = .int .i64 F.length
  t62 : Env.at τ 62 = .int .i64 i
  t11 : Env.at τ 11 = .int .i64 i
  t12 : Env.at τ 12 = vr
  t68 : Env.at τ 68 = .int .i64 f.length
  t69 : Env.at τ 69 = .int .i64 j
structure Qtb (H H' : Heap) (vF : AV) (F : List (List Int)) (o4 om ot : Nat) (τ : Env) : Prop where
  tb : Tb H H' vF o4 om ot (tabF 0 F)
  nd : (F.flatMap edgesF).Nodup
  t4 : Env.at τ 4 = .ptr o4 0
  t10 : Env.at τ 10 = .ptr ot 0
theorem known_b (h63 : FT 63 = some (.code A63)) (h58 : FT 58 = some (.code A58)) {vF : AV} {F : List (List Int)} (hF : Gd H vF F) (hsz : ∀ f, f ∈ F → f.length ≤ 1000000000) (hl : F.length ≤ 1000000000) (hw : H.Wf) {o4 om ot : Nat} {τ0 : Env} {H0 : Heap}
    (tb0 : Tb H H0 vF o4 om ot []) (u1 : Env.at τ0 1 = vF) (u4 : Env.at τ0 4 = .ptr o4 0) (u10 : Env.at τ0 10 = .ptr ot 0) :
    Wp FT k41b τ0 H0 (fun s τ H' => (s = .next ∧ Qtb H H' vF F o4 om ot τ) ∨ (s = .ret ∧ ¬ (F.flatMap edgesF).Nodup ∧ Qbad H H' o4 80 τ)) := by
  simp [k41b, subAt, A56, u1, hF.len]
  refine Wp_loop (fun m τ H' => ∃ i, K3 H H' vF F o4 om ot τ i m) ?_ F.length _ _ ⟨0, ⟨by simpa [tabF] using tb0, by simp [tabF], by omega, by omega, by simp [u4], by simp [u10], by simp, by simp, by simp⟩⟩
  rintro m τ H1 ⟨i, ⟨tb, nd, hi, rfl, t4, t10, t60, t61, t62⟩⟩
  simp only [Wp_seq, Wp_region]
  by_cases c : i < F.length
  · obtain ⟨p, r, f, a1, a2, a3, a4⟩ := hF.idxE tb.ex (k := .i64) (i := (i : Int)) (by omega) (by omega)
    rw [Int.toNat_natCast] at a1
    have hfm := List.mem_of_getElem? a1
    have hfl := hsz f hfm
    simp [c, t60, t61, t62, a2, a3, a4.len]
    refine Wp_loop (fun m τ H' => ∃ j, K4 H H' vF F f r o4 om ot τ i j m) ?_ f.length _ _ ⟨0, ⟨by rw [edTo_zero]; exact tb, by rw [edTo_zero]; exact nd, by omega, by omega, by simp [t4], by simp [t10], by simp [t60], by simp [t61], by simp [t62], by simp, by simp, by simp, by simp⟩⟩
    rintro m τ H2 ⟨j, ⟨tb, nd, hj, rfl, t4, t10, t60, t61, t62, t11, t12, t68, t69⟩⟩
    simp only [Wp_seq, Wp_region]
    by_cases cj : j < f.length
    · simp [cj, t12, t68, t69]
      refine (edge55 h63 tb.ex.wf (a4.ext tb.ex) cj (by omega)).mono ?_
      rintro _ H3 ⟨⟨s, hs, rfl⟩, e3⟩
      have tb3 := tb.ext e3
      obtain ⟨H4, st, g4, e4, n4⟩ := store_new tb3.ex.wf (z := [.int .i64 0, .int .i64 0]) (n := 2) (x := .agg (pairc s)) (cs := pairc s) rfl rfl rfl rfl
      have tb4 := tb3.ext e4
      have lt1 : loadA H4 (some 1) (.ptr ot 0) = some (.agg [.map om]) := load_agg tb4.gt (by simp [seg])
      have lp1 : loadA H4 none (.ptr H3.next 0) = some (.int .i64 s.1) := load_get g4 rfl
      have lp2 : loadA H4 none (.ptr H3.next 1) = some (.int .i64 s.2) := load_get g4 rfl
      simp [t10, st, lt1, lp1, lp2]
      refine (left58 h58 tb4.ex.wf tb4.gm).mono ?_
      rintro _ H5 ⟨rfl, e5⟩
      have tb5 := tb4.ext e5
      have hli := look_iff tb5.ps tb5.gm s
      by_cases cd : s ∈ (edTo F i f j).map (·.1)
      · have h0 := hli.2 cd
        obtain ⟨H6, s1, s2, s3⟩ := store_whole (n := 2) (x := .agg [.nilm, .nils]) tb5.ex.wf rfl rfl (by rw [tb5.ex.floor]; exact Nat.le_trans hw.1 tb5.o40) tb5.g4 rfl rfl
        have ex6 : Ext H H6 := ⟨s3.floor.trans tb5.ex.floor, Nat.le_trans tb5.ex.next s3.next, fun o x e => s3.keep o x (by simp; have := hw.lt e; have := tb5.o40; omega) (tb5.ex.keep _ _ e), s3.wf⟩
        simp [h0, t4, s1]
        exact ⟨edTo_dup a1 hs cd, ⟨ex6, s2, by simp [t4], by simp⟩⟩
      · have h0 : ¬ 0 ≤ lookE (edTo F i f j) s := fun q => cd (hli.1 q)
        obtain ⟨H6, u1, tb6⟩ := tb5.upd hw (k := (i : Int)) cd (by omega)
        have lm : loadA H5 none (.ptr ot 0) = some (.map om) := load_get tb5.gt rfl
        have g5 := e5.keep _ _ g4
        have ls : loadA H5 (some 2) (.ptr H3.next 0) = some (.agg (pairc s)) := load_agg g5 (by simp [seg, pairc])
        have w : IntKind.i64.wrap ((j : Int) + 1) = ((j + 1 : Nat) : Int) := wrap64 (by omega) (by omega)
        simp [h0, t10, t11, t69, lm, ls, u1, w]
        have hE := edTo_succ (F := F) (i := i) hs
        refine ⟨_, ?_, j + 1, ⟨by rw [hE]; exact tb6, ?_, by omega, rfl, by simp [t4], by simp [t10], by simp [t60], by simp [t61], by simp [t62], by simp [t11], by simp [t12], by simp [t68], by simp⟩⟩
        · omega
        · rw [hE, List.map_append, List.nodup_append]
          exact ⟨nd, by simp, fun a ha b hb => by simp at hb; subst hb; exact fun q => cd (q ▸ ha)⟩
    · have hjl : j = f.length := by omega
      subst hjl
      have w : IntKind.i64.wrap ((i : Int) + 1) = ((i + 1 : Nat) : Int) := wrap64 (by omega) (by omega)
      rw [edTo_all a1] at tb nd
      simp [t68, t69, t62, w]
      exact ⟨_, by omega, i + 1, ⟨tb, nd, by omega, rfl, by simp [t4], by simp [t10], by simp [t60], by simp [t61], by simp⟩⟩
  · have hil : i = F.length := by omega
    subst hil
    rw [List.take_length] at tb nd
    simp [t61, t62]
    exact ⟨tb, by rw [← tabF_fst 0 F]; exact nd, by simp [t4], by simp [t10]⟩
theorem known29 (h56 : FT 56 = some (.code A56)) (h91 : FT 91 = some (.code A91)) (h114 : FT 114 = some (.code A114)) (h63 : FT 63 = some (.code A63)) (h58 : FT 58 = some (.code A58)) {n : Int} {vF : AV} {F : List (List Int)} (hF : Gd H vF F) (hsz : ∀ f, f ∈ F → f.length ≤ 1000000000) (hl : F.length ≤ 1000000000) (hw : H.Wf) :
    Cp FT 56 [.int .i64 n, vF] H (fun r H' => KnR H' n F vF r ∧ Ext H H') := by
  refine Cp_code A56 h56 rfl ?_
  have hA : A56.results = [.cell 4 (some 2), .tmp 5] := rfl
  rw [hA, body56]
  have e0 := Ext.push hw (.cells [.nilm, .nils])
  have g0 : (H.push (.cells [.nilm, .nils])).get H.next = some (.cells [.nilm, .nils]) := get_pushN.trans (if_pos rfl)
  obtain ⟨H2, s1, s2, s3⟩ := store_whole (n := 2) (x := .agg [.nilm, .nils]) e0.wf rfl rfl hw.1 g0 rfl rfl
  have ex2 : Ext H H2 := ⟨s3.floor.trans e0.floor, Nat.le_trans e0.next s3.next, fun o x e => s3.keep o x (by simp; have := hw.lt e; omega) (e0.keep _ _ e), s3.wf⟩
  have s2' := cellsAt_get s2
  have bad : (n < 0 ∨ 1048576 < n) → chkF n F = 2 := fun h => by unfold chkF; rw [if_neg]; exact fun q => by have := q.1; omega
  generalize hka : k41a = ka
  generalize hkb : k41b = kb
  by_cases c1 : n < 0
  · have hb := bad (.inl c1)
    simp [A56, putAt, c1, s1, resultsA, resultA, s2', partA, seg, packA]
    exact ⟨⟨.agg [.nilm, .nils], by rw [hb], rfl, rfl, (fun q => by rw [hb] at q; cases q), fun _ => rfl⟩, ex2⟩
  by_cases c2 : 1048576 < n
  · have hb := bad (.inr c2)
    simp [A56, putAt, c1, c2, s1, resultsA, resultA, s2', partA, seg, packA]
    exact ⟨⟨.agg [.nilm, .nils], by rw [hb], rfl, rfl, (fun q => by rw [hb] at q; cases q), fun _ => rfl⟩, ex2⟩
  simp [A56, putAt, c1, c2]
  rw [← hka]
  refine (known_a (n := n) h91 h114 hF hsz hl hw (Nat.le_refl _) e0 g0 (by simp) (by simp) (by simp) (by omega)).mono ?_
  rintro s τ H3 (⟨rfl, hok, ex3, g3, t0, t1, t4⟩ | ⟨rfl, hb, ex3, g3, t4, t5⟩)
  · have hall : (0 ≤ n ∧ n ≤ 1048576) ∧ ∀ f, f ∈ F → rowOk n f := ⟨by omega, by unfold fOkTo at hok; rwa [List.take_length] at hok⟩
    have hone := hF.one
    have em := Ext.push ex3.wf (.map [])
    have gm : (H3.push (.map [])).get H3.next = some (.map []) := get_pushN.trans (if_pos rfl)
    have nxm : (H3.push (.map [])).next = H3.next + 1 := rfl
    have hon : allOne [.map H3.next, vF] = true := by simp [allOne_of hone.1]
    obtain ⟨H4, st, g4, e4, n4⟩ := store_new em.wf (z := [.nilm, .nils]) (n := 2) (x := .agg [.map H3.next, vF]) (cs := [.map H3.next, vF]) rfl rfl rfl hon
    have tb : Tb H H4 vF H.next H3.next (H3.next + 1) [] := by
      have hlt := ex3.wf.lt g3
      exact ⟨(ex3.trans em).trans e4, e4.keep _ _ (em.keep _ _ g3), e4.keep _ _ gm, g4, by omega, by omega, ex3.next, Nat.le_refl _, by simp⟩
    have f0 : ∀ (e : Opd → AV) (o : Nat) (r : List (Nat × Nat × Opd)), fillV e [.nilm, .nils] 0 1 (.agg [.map o]) r = fillA e [.map o, .nils] r := fun e o r => by
      simp [fillV]
    have f1 : ∀ (e : Opd → AV) (o : Nat) (r : List (Nat × Nat × Opd)), fillV e [.map o, .nils] 1 1 vF r = fillA e [.map o, vF] r := fun e o r => by
      simp [fillV, hone.2, allOne_of hone.1]
    have st' : storeA ((H3.push (.map [])).push (.cells [.nilm, .nils])) 2 (.ptr (H3.next + 1) 0) (.agg [.map H3.next, vF]) = some (undefA, H4) := st
    simp [t1, f0, f1, st']
    rw [← hkb]
    refine (known_b h63 h58 hF hsz hl hw tb (by simp [t1]) (by simp [t4]) (by simp)).mono ?_
    rintro s τ H5 (⟨rfl, tb5, nd, t4, t10⟩ | ⟨rfl, hd, ex5, g5, t4, t5⟩)
    · have hz : chkF n F = 0 := by unfold chkF; rw [if_pos hall, if_pos nd]
      have l91 : loadA H5 (some 2) (.ptr (H3.next + 1) 0) = some (.agg [.map H3.next, vF]) := load_agg tb5.gt (by simp [seg])
      obtain ⟨H6, u1, u2, u3⟩ := store_whole (n := 2) (x := .agg [.map H3.next, vF]) (xs := [.map H3.next, vF]) tb5.ex.wf rfl rfl (by rw [tb5.ex.floor]; exact hw.1) tb5.g4 rfl hon
      have ex6 : Ext H H6 := ⟨u3.floor.trans tb5.ex.floor, Nat.le_trans tb5.ex.next u3.next, fun o x e => u3.keep o x (by simp; have := hw.lt e; omega) (tb5.ex.keep _ _ e), u3.wf⟩
      have u2' := cellsAt_get u2
      have gm6 := u3.keep _ _ (by simp; have := tb5.n4; omega) tb5.gm
      simp [t4, t10, l91, u1, resultsA, resultA, u2', partA, seg, packA]
      exact ⟨⟨.agg [.map H3.next, vF], by rw [hz], rfl, hon, fun _ => ⟨_, rfl, gm6⟩, fun q => absurd hz q⟩, ex6⟩
    · have hb : chkF n F = 80 := by unfold chkF; rw [if_pos hall, if_neg hd]
      have g5' := cellsAt_get g5
      simp [t4, t5, resultsA, resultA, g5', partA, seg, packA]
      exact ⟨⟨.agg [.nilm, .nils], by rw [hb], rfl, rfl, (fun q => by rw [hb] at q; cases q), fun _ => rfl⟩, ex5⟩
  · have g3' := cellsAt_get g3
    simp [t4, t5, resultsA, resultA, g3', partA, seg, packA]
    exact ⟨⟨.agg [.nilm, .nils], by rw [hb], rfl, rfl, (fun q => by rw [hb] at q; cases q), fun _ => rfl⟩, ex3⟩
theorem check13 (h20 : FT 20 = some (.code A20)) (h56 : FT 56 = some (.code A56)) (h91 : FT 91 = some (.code A91)) (h114 : FT 114 = some (.code A114)) (h63 : FT 63 = some (.code A63)) (h58 : FT 58 = some (.code A58)) {n : Int} {vF : AV} {F : List (List Int)} (hF : Gd H vF F) (hsz : ∀ f, f ∈ F → f.length ≤ 1000000000) (hl : F.length ≤ 1000000000) (hw : H.Wf) :
    Cp FT 20 [.int .i64 n, vF] H (fun r H' => r = .int .i64 (chkF n F) ∧ Ext H H') := by
  refine Cp_code A20 h20 rfl ?_
  simp [A20]
  refine (known29 h56 h91 h114 h63 h58 hF hsz hl hw).mono ?_
  rintro _ H1 ⟨⟨m, rfl, hm, ho, _⟩, e1⟩
  obtain ⟨H2, st, g2, e2, n2⟩ := store_new e1.wf (z := [.nilm, .nils]) (n := 2) (x := m) (cs := m.cells) rfl hm rfl ho
  simp [st]
  exact e1.trans e2
end
end Go.Proofs.Ytcepchipgjpkhaa
