/- The input of bytes, as the program reads it. No claim by itself. -/
import Derived.Test.YtmgaaieofdjfdaaDoorC8
namespace Go.Proofs.YtmgaaieofdjfdaaDoor
open Go Go.AI
abbrev Pl3 := List (Int × Int) × List (Int × Int) × List (Int × Int)
def fin3 (P L I : List (Int × Int)) : St → Pl3 × Int × Int
  | .error e => (([], [], []), (e.1 : Int), e.2)
  | .ok [] => ((P, L, I), 0, 0)
  | .ok (t :: _) => (([], [], []), (t.1 : Int), 11)
def body3 (en : Nat) (ts : List Tok) : Pl3 × Int × Int :=
  let a := rdN en 0 200 (.ok ts)
  let b := rdN en 0 400 a.2
  let c := rdN en 0 400 b.2
  let p := rdP en (-1048576) 1048576 a.1.toNat c.2
  let l := rdP en 0 (a.1 - 1) b.1.toNat p.2
  let i := rdP en 0 (a.1 - 1) c.1.toNat l.2
  fin3 p.1 l.1 i.1 i.2
def polyS : List Nat := [112, 111, 108, 121]
/-- The input of bytes; where, and what, is wrong. -/
def parI (s : List Nat) : Pl3 × Int × Int :=
  if 1048576 < s.length then (([], [], []), 0, 3)
  else if ((wordsN s).head?.getD (s.length, [])).2 = polyS then body3 s.length (wordsN s).tail
  else (([], [], []), (((wordsN s).head?.getD (s.length, [])).1 : Int), 11)
theorem rdN_range {en : Nat} {lo hi : Int} (h0 : lo ≤ 0) (h1 : 0 ≤ hi) (r : St) : lo ≤ (rdN en lo hi r).1 ∧ (rdN en lo hi r).1 ≤ hi := by
  cases r with
  | error e => exact ⟨h0, h1⟩
  | ok ts =>
    unfold rdN
    split
    · rename_i e he; cases he
    · rename_i q hq; cases hq
      by_cases hz : (numR (ts.head?.getD (en, [])).2 lo hi).2 = 0
      · rw [if_pos hz]
        unfold numR at hz ⊢
        split
        · exact ⟨h0, h1⟩
        · split
          · rename_i q; exact q
          · exact ⟨h0, h1⟩
      · rw [if_neg hz]; exact ⟨h0, h1⟩
theorem byt_words {s : List Nat} (h : ∀ b, b ∈ s → b < 256) (hl : s.length ≤ 1048576) : Byt (wordsN s) := fun t ht =>
  ⟨scan_mem (fun b => b < 256) s 0 .out h trivial t ht, by have := scan_wlen s 0 .out t ht; simp at this; omega⟩
section
variable {FT : Nat → Option FnD} {H : Heap}
/-- What stands at the end. -/
def Out3 (H H' : Heap) (x : Pl3 × Int × Int) (v : AV) : Prop :=
  ∃ a b c, v = .tup [.agg [a, b, c], .int .i64 x.2.1, .int .i64 x.2.2] ∧ Mine 2 pairc H H' a x.1.1 ∧ Mine 2 pairc H H' b x.1.2.1 ∧ Mine 2 pairc H H' c x.1.2.2 ∧
    (∀ p, rowObj a = some p → rowObj b ≠ some p ∧ rowObj c ≠ some p) ∧ Ext H H'
def tail18 : ACode := tailN 12 A18.body

theorem _root_.Go.AI.Mine.one' {H0 H : Heap} {v : AV} {xs : List (Int × Int)} (h : Mine 2 pairc H0 H v xs) : v.one = true ∧ v.cells = [v] := (h.sl pairc_len).one
theorem _root_.Go.AI.Mine.base {H0 H1 H : Heap} {v : AV} {xs : List (Int × Int)} (h : Mine 2 pairc H1 H v xs) (k : H0.next ≤ H1.next) : Mine 2 pairc H0 H v xs := ⟨h.ow, fun p q => Nat.le_trans k (h.new p q)⟩
theorem tail18_ok (h30 : FT 30 = some (.code A30)) (h34 : FT 34 = some (.code A34)) {H1 : Heap} (hw : H.Wf) (f1 : Fr [] H H1) {o o2 o9 en : Nat} {tw : Option Nat} {r : St} (hr : RdS H1 o tw en r) {a b c : AV} {P L I : List (Int × Int)}
    (ha : Mine 2 pairc H H1 a P) (hb : Mine 2 pairc H H1 b L) (hc : Mine 2 pairc H H1 c I) (hd : ∀ p, rowObj a = some p → rowObj b ≠ some p ∧ rowObj c ≠ some p)
    (g9 : H1.get o9 = some (.cells [a, b, c])) (g2 : H1.get o2 = some (.cells [.nils, .nils, .nils])) (ho : H.next ≤ o) (h2 : H.next ≤ o2) (n2 : o2 ≠ o) 
    (hao : ∀ p, (rowObj a = some p ∨ rowObj b = some p ∨ rowObj c = some p) → p ≠ o ∧ p ≠ o2) {τ : Env} (t2 : Env.at τ 2 = .ptr o2 0) (t7 : Env.at τ 7 = .ptr o 0) (t9 : Env.at τ 9 = .ptr o9 0) :
    Wp FT tail18 τ H1 (finQ A18.results fun v H' => Out3 H H' (fin3 P L I r) v) := by
  have hA : A18.results = [.cell 2 (some 3), .tmp 3, .tmp 4] := rfl
  rw [hA]
  have hf2 : H1.floor ≤ o2 := by rw [f1.floor]; have := hw.1; omega
  have hfo : H1.floor ≤ o := by rw [f1.floor]; have := hw.1; omega
  obtain ⟨ts, at_, e, hrd, hbyt, hst⟩ := hr
  have hrd' := hrd
  obtain ⟨q1, v, gv, hv, hrow⟩ := hrd'
  have le : loadA H1 none (.ptr o 3) = some (.int .i64 e) := load_get gv rfl
  have la : loadA H1 none (.ptr o 2) = some (.int .i64 at_) := load_get gv rfl
  obtain ⟨oa, ca⟩ := ha.one'
  obtain ⟨ob, cb⟩ := hb.one'
  obtain ⟨oc, cc⟩ := hc.one'
  have l9 : ∀ {H2 : Heap}, H2.get o9 = some (.cells [a, b, c]) → loadA H2 (some 3) (.ptr o9 0) = some (.agg [a, b, c]) := fun g => load_agg g (by simp [seg])
  have bad : ∀ {H2 : Heap} {x : Int × Int} , Fr [o] H1 H2 → Out3 H (H2.set o2 (.cells [.nils, .nils, .nils])) (([], [], []), x) (.tup [.agg [.nils, .nils, .nils], .int .i64 x.1, .int .i64 x.2]) := by
    intro H2 x f2
    have g22 := f2.keep _ _ (by simp [n2]) g2
    have f3 := Fr.set f2.wf (f2.wf.lt g22) (.cells [.nils, .nils, .nils])
    exact ⟨.nils, .nils, .nils, rfl, Mine.nil, Mine.nil, Mine.nil, (fun p q => by cases q), ((f1.trans hw f2 (by simp; omega)).trans hw f3 (by simp; omega)).ext⟩
  rcases hst with ⟨rfl, rfl⟩ | ⟨he, a', rfl, rfl⟩
  · cases ts with
    | nil =>
      simp [tail18, tailN, A18, t7, le]
      refine (left34 h34 hrd).mono ?_
      rintro _ H1 ⟨rfl, rfl⟩
      have st := store_all (H := H1) (o := o2) (n := 3) (x := .agg [a, b, c]) (xs := [a, b, c]) rfl rfl hf2 g2 rfl (by simp [allOne, oa, ob, oc])
      have gs : (H1.set o2 (.cells [a, b, c])).get o2 = some (.cells [a, b, c]) := get_setH.trans (if_pos rfl)
      have f2 := Fr.set f1.wf (f1.wf.lt g2) (.cells [a, b, c])
      simp [t7, t2, t9, le, l9 g9, st, resultsA, resultA, cellsAt_get gs, partA, seg, packA]
      have hx : fin3 P L I (.ok []) = ((P, L, I), 0, 0) := rfl
      rw [hx]
      exact ⟨a, b, c, rfl, ha.fr f2 (fun p q => by simp; exact (hao p (.inl q)).2), hb.fr f2 (fun p q => by simp; exact (hao p (.inr (.inl q))).2), hc.fr f2 (fun p q => by simp; exact (hao p (.inr (.inr q))).2), hd, (f1.trans hw f2 (by simp; omega)).ext⟩
    | cons t ts =>
      have hl0 : (0 : Int) < (ts.length : Int) + 1 := by omega
      simp [tail18, tailN, A18, t7, le]
      refine (left34 h34 hrd).mono ?_
      rintro _ H1 ⟨rfl, rfl⟩
      simp [t7, hl0]
      refine (next30 h30 f1.wf hrd).mono ?_
      rintro _ H2 ⟨rfl, ⟨p1, w, pg, pv, prow⟩, k2⟩
      have f2 := k2.fr
      obtain ⟨H3, s3, g3, f3⟩ := store_cell (x := .int .i64 (t.1 : Int)) f2.wf p1 pg (off := 2) (by simp) rfl
      have p3 : H3.floor ≤ o := by rw [f3.floor]; exact p1
      obtain ⟨H4, s4, g4, f4⟩ := store_cell (x := .int .i64 11) f3.wf p3 g3 (off := 3) (by simp) rfl
      have f14 : Fr [o] H1 H4 := (f2.trans f1.wf f3 (by simp)).trans f1.wf f4 (by simp)
      have g24 := f14.keep _ _ (by simp [n2]) g2
      have le4 : loadA H4 none (.ptr o 3) = some (.int .i64 11) := load_get g4 rfl
      have la4 : loadA H4 none (.ptr o 2) = some (.int .i64 (t.1 : Int)) := load_get g4 rfl
      have st := store_all (H := H4) (o := o2) (n := 3) (x := .agg [.nils, .nils, .nils]) (xs := [.nils, .nils, .nils]) rfl rfl (by rw [f14.floor]; exact hf2) g24 rfl rfl
      have gs : (H4.set o2 (.cells [.nils, .nils, .nils])).get o2 = some (.cells [.nils, .nils, .nils]) := get_setH.trans (if_pos rfl)
      have ne2 : ¬ o = o2 := fun q => n2 q.symm
      simp [tokA, partA, t7, s3, s4, le4, la4, t2, st, ne2, resultsA, resultA, cellsAt_get gs, seg, packA]
      exact bad (x := ((t.1 : Int), 11)) f14
  · have he' : (e == 0) = false := by simpa using he
    have he2 : (e != 0) = true := by simpa using he
    have st := store_all (H := H1) (o := o2) (n := 3) (x := .agg [.nils, .nils, .nils]) (xs := [.nils, .nils, .nils]) rfl rfl hf2 g2 rfl rfl
    have gs : (H1.set o2 (.cells [.nils, .nils, .nils])).get o2 = some (.cells [.nils, .nils, .nils]) := get_setH.trans (if_pos rfl)
    have ne2 : ¬ o = o2 := fun q => n2 q.symm
    simp [tail18, tailN, A18, t7, le, la, he', he2, t2, st, ne2, resultsA, resultA, cellsAt_get gs, partA, seg, packA]
    exact bad (x := ((a' : Int), e)) (Fr.refl f1.wf)
def segs18 : ACode := tailN 10 A18.body
theorem segs18_eq : segs18 = headsN 2 segs18 tail18 := rfl
theorem segs18_ok (h30 : FT 30 = some (.code A30)) (h33 : FT 33 = some (.code A33)) (h32 : FT 32 = some (.code A32)) (h31 : FT 31 = some (.code A31)) (h43 : FT 43 = some (.code A43)) (h34 : FT 34 = some (.code A34))
    {H1 : Heap} (hw : H.Wf) (f1 : Fr [] H H1) {o o2 o9 en N M K : Nat} {tw : Option Nat} {r : St} (hr : RdS H1 o tw en r) {a : AV} {P : List (Int × Int)} (ha : Mine 2 pairc H H1 a P)
    (g9 : H1.get o9 = some (.cells [a, .nils, .nils])) (g2 : H1.get o2 = some (.cells [.nils, .nils, .nils])) (ho : H.next ≤ o) (h2 : H.next ≤ o2) (h9 : H.next ≤ o9) (n2 : o2 ≠ o) (n9 : o9 ≠ o) (n29 : o9 ≠ o2) (l2 : o2 < H1.next) (l9 : o9 < H1.next)
    (hao : ∀ p, rowObj a = some p → p ≠ o ∧ p ≠ o2 ∧ p ≠ o9) (htw : ∀ p, tw = some p → p < H1.next ∧ p ≠ o ∧ p ≠ o9 ∧ p ≠ o2) (hN : N ≤ 1000) (hM : M ≤ 1000) (hK : K ≤ 1000) {τ : Env}
    (t2 : Env.at τ 2 = .ptr o2 0) (t7 : Env.at τ 7 = .ptr o 0) (t9 : Env.at τ 9 = .ptr o9 0) (t10 : Env.at τ 10 = .int .i64 N) (t11 : Env.at τ 11 = .int .i64 M) (t12 : Env.at τ 12 = .int .i64 K) :
    Wp FT segs18 τ H1 (finQ A18.results fun v H' => Out3 H H' (fin3 P (rdP en 0 ((N : Int) - 1) M r).1 (rdP en 0 ((N : Int) - 1) K (rdP en 0 ((N : Int) - 1) M r).2).1 (rdP en 0 ((N : Int) - 1) K (rdP en 0 ((N : Int) - 1) M r).2).2) v) := by
  have n1 := f1.next
  rw [segs18_eq]
  simp [segs18, tailN, headsN, A18, t7, t10, t11]
  refine (segs33 h33 h32 h31 h30 h43 f1.wf hr hM hN (fun p q => (htw p q).1)).mono ?_
  rintro b H2 ⟨mb, r2, f2⟩
  have f12 : Fr [] H H2 := f1.trans hw f2 (by simp; omega)
  have n12 := f2.next
  have g92 := f2.keep _ _ (by simp [n9]) g9
  obtain ⟨ob, cb⟩ := mb.one'
  have hfl : H2.floor ≤ o9 := by rw [f12.floor]; have := hw.1; omega
  obtain ⟨H3, s3, g3, f3⟩ := store_cell (x := b) f2.wf hfl g92 (off := 1) (by simp) ob
  have f13 : Fr [o, o9] H1 H3 := (f2.mono (T := [o, o9]) (by simp)).trans f1.wf f3 (by simp)
  have r3 := r2.fr f3 (by simp; omega) (by intro p q; simp; exact (htw p q).2.2.1)
  have n13 := f13.next
  simp [s3, t7, t9, t10, t12]
  refine (segs33 h33 h32 h31 h30 h43 f3.wf r3 hK hN (fun p q => by have := (htw p q).1; omega)).mono ?_
  rintro c H4 ⟨mc, r4, f4⟩
  have f14 : Fr [o, o9] H1 H4 := f13.trans f1.wf f4 (by simp)
  have g94 := f4.keep _ _ (by simp [n9]) g3
  obtain ⟨oc, cc⟩ := mc.one'
  have hfl4 : H4.floor ≤ o9 := by rw [f14.floor, f1.floor]; have := hw.1; omega
  obtain ⟨H5, s5, g5, f5⟩ := store_cell (x := c) f4.wf hfl4 g94 (off := 2) (by simp) oc
  have f15 : Fr [o, o9] H1 H5 := f14.trans f1.wf f5 (by simp)
  have r5 := r4.fr f5 (by simp; omega) (by intro p q; simp; exact (htw p q).2.2.1)
  simp [s5, t9]
  have ha5 := ha.fr f15 (fun p q => by have := hao p q; simp; omega)
  have hb3 := mb.fr f3 (fun p q => by have := mb.new p q; simp; omega)
  have hb5 := (hb3.fr f4 (fun p q => by have := mb.new p q; have := hr.lt f1.wf; simp; omega)).fr f5 (fun p q => by have := mb.new p q; simp; omega)
  have hc5 := mc.fr f5 (fun p q => by have := mc.new p q; simp; omega)
  refine tail18_ok (o9 := o9) (o2 := o2) (o := o) h30 h34 hw (f1.trans hw f15 (by simp; omega)) r5 ha5 (hb5.base (by omega)) (hc5.base (by omega)) (fun p q => ?_) g5 (f15.keep _ _ (by simp; omega) g2) ho h2 n2 (fun p q => ?_) (by simp [t2]) (by simp [t7]) (by simp [t9])
  · have hp := ha.lt f1.wf q
    exact ⟨fun k => by have := mb.new p k; omega, fun k => by have := mc.new p k; omega⟩
  · have := hr.lt f1.wf
    rcases q with q | q | q
    · exact ⟨(hao p q).1, (hao p q).2.1⟩
    · have := mb.new p q; omega
    · have := mc.new p q; omega
theorem body18 : A18.body = headsN 10 A18.body segs18 := rfl
theorem parse18 (h18 : FT 18 = some (.code A18)) (h29 : FT 29 = some (.ext allG)) (h34 : FT 34 = some (.code A34)) (h33 : FT 33 = some (.code A33)) (h32 : FT 32 = some (.code A32)) (h31 : FT 31 = some (.code A31)) (h30 : FT 30 = some (.code A30)) (h43 : FT 43 = some (.code A43))
    (hw : H.Wf) {v : AV} {s : List Nat} (hs : bytesA H v = some s) : Cp FT 18 [v] H (fun r H' => Out3 H H' (parI s) r) := by
  refine Cp_code A18 h18 rfl ?_
  rw [body18]
  obtain ⟨g2, e2⟩ := push_new hw (.cells [.nils, .nils, .nils])
  have hlt2 := e2.wf.lt g2
  have hlen := bytesA_len hs
  rcases all_words e2.wf (bytesA_ext e2 hs) with ⟨hlong, hall⟩ | ⟨hle, tv, H2, hall, ex2, htok, hrow⟩
  · have hx : parI s = (([], [], []), 0, 3) := by unfold parI; rw [if_pos hlong]
    have st := store_all (H := H.push (.cells [.nils, .nils, .nils])) (o := H.next) (n := 3) (x := .agg [.nils, .nils, .nils]) (xs := [.nils, .nils, .nils]) rfl rfl hw.1 g2 rfl rfl
    have gs : ((H.push (.cells [.nils, .nils, .nils])).set H.next (.cells [.nils, .nils, .nils])).get H.next = some (.cells [.nils, .nils, .nils]) := get_setH.trans (if_pos rfl)
    have es := e2.setNew hw (x := .cells [.nils, .nils, .nils]) (Nat.le_refl _) hlt2
    rw [hx]
    simp [A18, headsN]
    refine Cp_ext allG h29 hall ?_
    simp [st, resultsA, resultA, cellsAt_get gs, partA, seg, packA]
    exact ⟨.nils, .nils, .nils, rfl, Mine.nil, Mine.nil, Mine.nil, (fun p q => by cases q), es⟩
  · have hbyt := byt_words (bytesA_lt hs) hle
    have hn2 := ex2.next
    have hnH : H.next + 1 ≤ H2.next := hn2
    have hx : parI s = if ((wordsN s).head?.getD (s.length, [])).2 = polyS then body3 s.length (wordsN s).tail else (([], [], []), (((wordsN s).head?.getD (s.length, [])).1 : Int), 11) := by unfold parI; rw [if_neg (by omega)]
    generalize wordsN s = W at *
    obtain ⟨tv1, tvc⟩ := htok.one
    obtain ⟨g3, e3⟩ := push_new ex2.wf (.cells [tv, .int .i64 s.length, .int .i64 0, .int .i64 0])
    have hrd : Rd (H2.push (.cells [tv, .int .i64 s.length, .int .i64 0, .int .i64 0])) H2.next (rowObj tv) W s.length 0 0 :=
      ⟨ex2.wf.1, tv, g3, htok.ext e3, fun p q => ⟨q, by have := hrow p q; omega⟩⟩
    have hHe3 : Ext H (H2.push (.cells [tv, .int .i64 s.length, .int .i64 0, .int .i64 0])) := (e2.trans ex2).trans e3
    have g23 := e3.keep _ _ (ex2.keep _ _ g2)
    simp [A18, headsN]
    refine Cp_ext allG h29 hall ?_
    simp [hlen, fillV_val tv1 tvc, fillV_2 (a := tv) (b := .int .i64 (s.length : Int)) tv1 rfl, setSeg, allOne_of tv1]
    refine (next30 h30 e3.wf hrd).mono ?_
    rintro _ H4 ⟨rfl, hrd4, k4⟩
    have f4 : Fr [] H H4 := (hHe3.fr (S := [])).trans hw k4.fr (by simp; omega)
    have g24 := k4.keep _ _ (by omega) g23
    have hn4 : H2.next + 1 ≤ H4.next := k4.next
    have hbyt' := hbyt.tail
    generalize W.head?.getD (s.length, []) = t at *
    generalize W.tail = ts at *
    obtain ⟨H5, st5, g5, e5, n5⟩ := store_new f4.wf (z := [.int .i64 0, .str []]) (n := 2) (x := .agg (tokA t)) (cs := tokA t) rfl rfl rfl rfl
    have ld0 : loadA H5 none (.ptr H4.next 0) = some (.int .i64 (t.1 : Int)) := load_get g5 rfl
    have ld1 : loadA H5 none (.ptr H4.next 1) = some (.str t.2) := load_get g5 rfl
    have hrd5 := hrd4.ext e5
    have g25 := e5.keep _ _ g24
    have f5 : Fr [] H H5 := f4.thenE hw e5
    by_cases hp : t.2 = polyS
    · rw [hx, if_pos hp]
      have hp' : t.2 = [112, 111, 108, 121] := hp
      obtain ⟨g9, e9⟩ := push_new e5.wf (.cells [.nils, .nils, .nils])
      have hrs : RdS (H5.push (.cells [.nils, .nils, .nils])) H2.next (rowObj tv) s.length (.ok ts) := ⟨ts, 0, 0, hrd5.ext e9, hbyt', .inl ⟨rfl, rfl⟩⟩
      simp [st5, ld1, hp']
      refine (numS h31 h30 h43 e9.wf hrs (lo := 0) (hi := 200) (by omega) (by omega)).mono ?_
      rintro _ H6 ⟨rfl, r6, f6⟩
      simp
      refine (numS h31 h30 h43 f6.wf r6 (lo := 0) (hi := 400) (by omega) (by omega)).mono ?_
      rintro _ H7 ⟨rfl, r7, f7⟩
      simp
      refine (numS h31 h30 h43 f7.wf r7 (lo := 0) (hi := 400) (by omega) (by omega)).mono ?_
      rintro _ Hs ⟨rfl, rs, f8⟩
      have fs : Fr [H2.next] (H5.push (.cells [.nils, .nils, .nils])) Hs := (f6.trans e9.wf f7 (by simp)).trans e9.wf f8 (by simp)
      have b3 : body3 s.length ts = fin3 (rdP s.length (-1048576) 1048576 (rdN s.length 0 200 (.ok ts)).1.toNat (rdN s.length 0 400 (rdN s.length 0 400 (rdN s.length 0 200 (.ok ts)).2).2).2).1
        (rdP s.length 0 ((rdN s.length 0 200 (.ok ts)).1 - 1) (rdN s.length 0 400 (rdN s.length 0 200 (.ok ts)).2).1.toNat (rdP s.length (-1048576) 1048576 (rdN s.length 0 200 (.ok ts)).1.toNat (rdN s.length 0 400 (rdN s.length 0 400 (rdN s.length 0 200 (.ok ts)).2).2).2).2).1
        (rdP s.length 0 ((rdN s.length 0 200 (.ok ts)).1 - 1) (rdN s.length 0 400 (rdN s.length 0 400 (rdN s.length 0 200 (.ok ts)).2).2).1.toNat (rdP s.length 0 ((rdN s.length 0 200 (.ok ts)).1 - 1) (rdN s.length 0 400 (rdN s.length 0 200 (.ok ts)).2).1.toNat (rdP s.length (-1048576) 1048576 (rdN s.length 0 200 (.ok ts)).1.toNat (rdN s.length 0 400 (rdN s.length 0 400 (rdN s.length 0 200 (.ok ts)).2).2).2).2).2).1
        (rdP s.length 0 ((rdN s.length 0 200 (.ok ts)).1 - 1) (rdN s.length 0 400 (rdN s.length 0 400 (rdN s.length 0 200 (.ok ts)).2).2).1.toNat (rdP s.length 0 ((rdN s.length 0 200 (.ok ts)).1 - 1) (rdN s.length 0 400 (rdN s.length 0 200 (.ok ts)).2).1.toNat (rdP s.length (-1048576) 1048576 (rdN s.length 0 200 (.ok ts)).1.toNat (rdN s.length 0 400 (rdN s.length 0 400 (rdN s.length 0 200 (.ok ts)).2).2).2).2).2).2 := rfl
      rw [b3]
      have q1 := rdN_range (en := s.length) (lo := 0) (hi := 200) (by omega) (by omega) (.ok ts)
      have q2 := rdN_range (en := s.length) (lo := 0) (hi := 400) (by omega) (by omega) (rdN s.length 0 200 (.ok ts)).2
      have q3 := rdN_range (en := s.length) (lo := 0) (hi := 400) (by omega) (by omega) (rdN s.length 0 400 (rdN s.length 0 200 (.ok ts)).2).2
      generalize (rdN s.length 0 200 (.ok ts)).1 = N at *
      generalize (rdN s.length 0 400 (rdN s.length 0 200 (.ok ts)).2).1 = M at *
      generalize (rdN s.length 0 400 (rdN s.length 0 400 (rdN s.length 0 200 (.ok ts)).2).2).1 = K at *
      generalize (rdN s.length 0 400 (rdN s.length 0 400 (rdN s.length 0 200 (.ok ts)).2).2).2 = r0 at *
      obtain ⟨N, rfl⟩ := Int.eq_ofNat_of_zero_le q1.1
      obtain ⟨M, rfl⟩ := Int.eq_ofNat_of_zero_le q2.1
      obtain ⟨K, rfl⟩ := Int.eq_ofNat_of_zero_le q3.1
      simp only [Int.toNat_natCast]
      have hn5 : H4.next + 1 ≤ H5.next := by omega
      have hns : H5.next + 1 ≤ Hs.next := fs.next
      have gs9 := fs.keep _ _ (by simp; omega) g9
      have gs2 := fs.keep _ _ (by simp; omega) (e9.keep _ _ g25)
      have fHs : Fr [] H Hs := (f5.thenE hw e9).trans hw fs (by simp; omega)
      have htw : ∀ p, rowObj tv = some p → p < H2.next := fun p q => (hrow p q).2
      simp
      refine Wp_loop (fun m τ H' => Fr [H2.next, H5.next] Hs H' ∧ ∃ (i : Nat) (v : AV) (xs : List (Int × Int)) (ri : St), i ≤ N ∧ m = N - i ∧ RdS H' H2.next (rowObj tv) s.length ri ∧ Mine 2 pairc Hs H' v xs ∧ xs.length = i ∧ H'.get H5.next = some (.cells [v, .nils, .nils]) ∧
        rdP s.length (-1048576) 1048576 N r0 = (xs ++ (rdP s.length (-1048576) 1048576 (N - i) ri).1, (rdP s.length (-1048576) 1048576 (N - i) ri).2) ∧
        Env.at τ 2 = .ptr H.next 0 ∧ Env.at τ 7 = .ptr H2.next 0 ∧ Env.at τ 9 = .ptr H5.next 0 ∧ Env.at τ 10 = .int .i64 N ∧ Env.at τ 11 = .int .i64 M ∧ Env.at τ 12 = .int .i64 K ∧ Env.at τ 13 = .int .i64 i) ?_ N _ _ ⟨Fr.refl fs.wf, 0, .nils, [], r0, by omega, by omega, rs, Mine.nil, rfl, gs9, by simp, by simp, by simp, by simp, by simp, by simp, by simp, by simp⟩
      rintro m τ H1 ⟨f1, i, v, xs, ri, hi, rfl, r1, mi, hxl, gl, hsp, t2, t7, t9, t10, t11, t12, t13⟩
      obtain ⟨e, le, ee1, ee2⟩ := r1.err
      have hn1 := f1.next
      simp only [Wp_seq, Wp_region]
      by_cases hgo : i < N ∧ isOk ri = true
      · obtain ⟨hc, hok⟩ := hgo
        have he := ee1 hok
        subst he
        have hsub : N - i = (N - (i + 1)) + 1 := by omega
        rw [hsub, rdP_ok hok] at hsp
        have wi : IntKind.i64.wrap ((i : Int) + 1) = ((i + 1 : Nat) : Int) := wrap64 (by omega) (by omega)
        obtain ⟨gs, es⟩ := push_new f1.wf (.cells [.int .i64 0, .int .i64 0])
        obtain ⟨gq, eq⟩ := push_new es.wf (.cells [.ptr H1.next 0, .ptr H1.next 1])
        have hnx : (H1.push (.cells [.int .i64 0, .int .i64 0])).next = H1.next + 1 := rfl
        have gs' := eq.keep _ _ gs
        have r2 := (r1.ext es).ext eq
        have hfs := eq.floor.trans (es.floor.trans (f1.floor.trans fHs.floor))
        have htw' : rowObj tv ≠ some H1.next := fun q => by have := htw _ q; omega
        have gl2 := eq.keep _ _ (es.keep _ _ gl)
        simp [hc, t7, t10, t13, le]
        generalize hHq : (H1.push (.cells [.int .i64 0, .int .i64 0])).push (.cells [.ptr H1.next 0, .ptr H1.next 1]) = Hq at *
        refine (numbers32 (lo := -1048576) (hi := 1048576) h32 h31 h30 h43 eq.wf r2 (by omega) (by omega) gs' gq (by rw [hfs]; have := hw.1; omega) (by omega) (by omega) (by omega) htw').mono ?_
        rintro _ H3 ⟨g3, r3, f3⟩
        have f13 : Fr [H2.next, H5.next] Hs H3 := ((f1.thenE fs.wf es).thenE fs.wf eq).trans fs.wf f3 (by simp; omega)
        have gl3 := f3.keep _ _ (by simp; omega) gl2
        have lv : loadA H3 none (.ptr H5.next 0) = some v := load_get gl3 rfl
        have l3 : loadA H3 (some 2) (.ptr H1.next 0) = some (.agg (pairc (rd2 s.length (-1048576) 1048576 ri).1)) := load_agg g3 (by simp [seg, pairc])
        have mi3 : Mine 2 pairc Hs H3 v xs := ((mi.ext es).ext eq).fr f3 (by
          intro p hp; have := mi.new p hp; have := mi.lt f1.wf hp; simp; omega)
        obtain ⟨v', H4', ap, mi4, f4', n4⟩ := mi3.app1 pairc_len (by omega) pairc_one f3.wf f13.next (rd2 s.length (-1048576) 1048576 ri).1 (bytes := 16) (by omega)
        have hpl : ∀ p, rowObj v = some p → Hs.next ≤ p := mi3.new
        have f14 : Fr [H2.next, H5.next] Hs H4' := f13.trans fs.wf f4' (by intro p hp; right; simp at hp; exact hpl p hp)
        have r4 : RdS H4' H2.next (rowObj tv) s.length (rd2 s.length (-1048576) 1048576 ri).2 := r3.fr f4' (by simp; intro q; have := hpl _ q; omega) (by intro p hp; simp; intro q; have := hpl p q; have := htw p hp; omega)
        have gl4 := f4'.keep _ _ (by simp; intro q; have := hpl _ q; omega) gl3
        obtain ⟨v1, vc⟩ := mi4.one'
        obtain ⟨H5', st5', g5', f5'⟩ := store_cell (x := v') f4'.wf (by rw [f14.floor, fHs.floor]; have := hw.1; omega) gl4 (off := 0) (by simp) v1
        have hpl4 : ∀ p, rowObj v' = some p → Hs.next ≤ p := mi4.new
        have r5 := r4.fr f5' (by simp; omega) (by intro p hp; simp; have := htw p hp; omega)
        have mi5 := mi4.fr f5' (by intro p hp; have := hpl4 p hp; simp; omega)
        simp only [pairc] at l3 ap
        simp [lv, l3, ap, st5', t2, t7, t9, t10, t11, t12, t13, wi]
        exact ⟨_, by omega, f14.trans fs.wf f5' (by simp), i + 1, by omega, rfl, v', xs ++ [(rd2 s.length (-1048576) 1048576 ri).1], _, r5, mi5, by simp [hxl], g5', by rw [hsp]; simp, by simp⟩
      · -- the loop's end
        have hsp' : rdP s.length (-1048576) 1048576 N r0 = (xs, ri) := by
          cases hok : isOk ri with
          | false => rw [hsp, rdP_err hok]; simp
          | true =>
            have : i = N := by
              have : ¬ i < N := fun q => hgo ⟨q, hok⟩
              omega
            subst this; rw [hsp, Nat.sub_self]; simp [rdP]
        rw [hsp']
        have hcond : ((i : Int) < N) = (i < N) := by rw [eq_iff_iff]; omega
        have hcc : (isOk ri = true → ¬ i < N) := fun q k => hgo ⟨k, q⟩
        have fH1 : Fr [] H H1 := fHs.trans hw f1 (by simp; omega)
        have gl2 := f1.keep _ _ (by simp; omega) gs2
        have nm : N ≤ 1000 := by omega
        have mm : M ≤ 1000 := by omega
        have km : K ≤ 1000 := by omega
        have hcond : (i < N ∧ ∃ e, loadA H1 none (.ptr H2.next 3) = some (.int .i64 e) ∧ (e == 0) = false) ∨ ¬ ((i : Int) < N) := by
          by_cases hi2 : i < N
          · left
            cases hok : isOk ri with
            | true => exact absurd hi2 (hcc hok)
            | false => exact ⟨hi2, e, le, by simpa using ee2 hok⟩
          · right; omega
        have post : ∀ {τ : Env}, Env.at τ 2 = .ptr H.next 0 → Env.at τ 7 = .ptr H2.next 0 → Env.at τ 9 = .ptr H5.next 0 → Env.at τ 10 = .int .i64 N → Env.at τ 11 = .int .i64 M → Env.at τ 12 = .int .i64 K →
            Wp FT segs18 τ H1 (finQ A18.results fun v H' => Out3 H H' (fin3 xs (rdP s.length 0 ((N : Int) - 1) M ri).1 (rdP s.length 0 ((N : Int) - 1) K (rdP s.length 0 ((N : Int) - 1) M ri).2).1 (rdP s.length 0 ((N : Int) - 1) K (rdP s.length 0 ((N : Int) - 1) M ri).2).2) v) := by
          intro τ u2 u7 u9 u10 u11 u12
          exact segs18_ok h30 h33 h32 h31 h43 h34 hw fH1 r1 (mi.base (by have := fHs.next; omega)) gl gl2 (by omega) (by omega) (by omega) (by omega) (by omega) (by omega) (by omega) (by omega) (fun p q => by have := mi.new p q; omega) (fun p q => by have := hrow p q; omega) nm mm km u2 u7 u9 u10 u11 u12
        rcases hcond with ⟨c1, e', le', c2⟩ | c1
        · have c1' : (i : Int) < N := by omega
          simp [c1, t7, t10, t13, le', c2]
          exact post (by simp [t2]) (by simp [t7]) (by simp [t9]) (by simp [t10]) (by simp [t11]) (by simp [t12])
        · simp [c1, t10, t13]
          exact post (by simp [t2]) (by simp [t7]) (by simp [t9]) (by simp [t10]) (by simp [t11]) (by simp [t12])
    · rw [hx, if_neg hp]
      have hp' : ¬ t.2 = [112, 111, 108, 121] := hp
      have hpb : (t.2 == [112, 111, 108, 121]) = false := by simpa using hp'
      have hne : ¬ H4.next = H.next := by omega
      have hfl5 : H5.floor ≤ H.next := by rw [f5.floor]; exact hw.1
      have st := store_all (H := H5) (o := H.next) (n := 3) (x := .agg [.nils, .nils, .nils]) (xs := [.nils, .nils, .nils]) rfl rfl hfl5 g25 rfl rfl
      have gs : (H5.set H.next (.cells [.nils, .nils, .nils])).get H.next = some (.cells [.nils, .nils, .nils]) := get_setH.trans (if_pos rfl)
      have fz := Fr.set f5.wf (f5.wf.lt g25) (.cells [.nils, .nils, .nils])
      simp [st5, ld0, ld1, hpb, hne, st, resultsA, resultA, cellsAt_get gs, partA, seg, packA]
      exact ⟨.nils, .nils, .nils, rfl, Mine.nil, Mine.nil, Mine.nil, (fun p q => by cases q), (f5.trans hw fz (by simp)).ext⟩
end
end Go.Proofs.YtmgaaieofdjfdaaDoor
