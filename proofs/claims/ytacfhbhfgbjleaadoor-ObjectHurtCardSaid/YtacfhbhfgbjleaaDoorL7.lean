/- The law ObjectHurt, over the interpreter. No claim by itself. -/
import Derived.Test.YtacfhbhfgbjleaaDoorL6
namespace Go.Proofs.YtacfhbhfgbjleaaDoor
open Go Go.AI
theorem hurtA {P : List (Int × Int)} {W : Int} {F : List (List Int)} {x : Int × Int} (hx : x ∈ P) : ¬ ValidO (x :: P) W F := fun h => (List.nodup_cons.1 h.pd).1 hx
theorem hurtB {P : List (Int × Int)} {W : Int} {F : List (List Int)} (hv : ValidO P W F) (q : Int × Int) : ¬ ValidO (P ++ [q]) W F := fun h => by
  obtain ⟨f, h1, h2⟩ := h.us P.length (by simp)
  have := ((hv.fo.fs f h1).2.2 _ h2).2
  omega
theorem hurtC {P : List (Int × Int)} {W : Int} {F : List (List Int)} (hv : ValidO P W F) {f : List Int} (hf : f ∈ F) : ¬ ValidO P W (F ++ [f]) := fun h => by
  have h1 := h.fo.es
  rw [List.flatMap_append, List.nodup_append] at h1
  have h3 := (hv.fo.fs f hf).1
  cases hq : edgesF f with
  | nil =>
    have := congrArg List.length hq
    simp only [edgesF, List.length_zip, List.length_append, List.length_tail, List.length_take, List.length_nil] at this
    omega
  | cons e es =>
    exact h1.2.2 e (List.mem_flatMap.2 ⟨f, hf, by rw [hq]; simp⟩) e (by simp [hq]) rfl
theorem hurtD {P : List (Int × Int)} {W : Int} {F : List (List Int)} : ¬ ValidO P W (F ++ [[0, 1]]) := fun h => by
  have := (h.fo.fs [0, 1] (by simp)).1
  simp at this
theorem hurtZ {P : List (Int × Int)} {F : List (List Int)} : ¬ ValidO P 0 F := fun h => by have := h.w0; omega
theorem hurt5 {P : List (Int × Int)} {W : Int} : ¬ ValidO P W [[0, 1, 2, 3, 4]] := fun h => by
  have := h.f4 [0, 1, 2, 3, 4] (by simp)
  simp at this
section
variable {α : Type} {e : Nat} {enc : α → List AV}
theorem rw_lits (hn : ∀ x, (enc x).length = e) {H : Heap} {o : Nat} {xs : List α} (hg : H.get o = some (.cells (xs.flatMap enc))) : Rw e enc H (.slc o 0 xs.length e xs.length true) xs := by
  refine ⟨.inr ⟨o, 0, xs.length, true, rfl, ?_⟩, by simp [capOk]⟩
  unfold Heap.readSeg
  rw [cellsAt_get hg]
  exact seg_all (flat_len hn xs)
theorem flat_one (h1 : ∀ x, allOne (enc x) = true) (zs : List α) : allOne (zs.flatMap enc) = true := by
  unfold allOne
  rw [List.all_eq_true]
  intro a ha
  obtain ⟨z, _, hz⟩ := List.mem_flatMap.1 ha
  have := h1 z
  unfold allOne at this
  rw [List.all_eq_true] at this
  exact this a hz
/-- A row laid behind a literal of one item. -/
theorem lit_appS (hn : ∀ x, (enc x).length = e) (h1 : ∀ x, allOne (enc x) = true) {H : Heap} (hw : H.Wf) {o : Nat} {a : α} {ys : List α} {y : AV} {bytes : Nat} (hg : H.get o = some (.cells (enc a))) (hy : Rw e enc H y ys) (h0 : ys ≠ []) (hb : (2 * (1 + ys.length) + 1024) * bytes ≤ 2 ^ 48) :
    ∃ v' H', appendA e bytes H (.slc o 0 1 e 1 true) y = some (v', H') ∧ Rw e enc H' v' (a :: ys) ∧ Ext H H' ∧ rowObj v' = some H.next := by
  rcases hy.sw with ⟨_, r⟩ | ⟨o2, off, lo, ex, rfl, hr⟩
  · exact absurd r h0
  have hl : 0 < ys.length := List.length_pos_iff.2 h0
  have hs : srcA e H (.slc o2 off ys.length e lo ex) = some (ys.length, ys.flatMap enc) := by
    unfold srcA
    simp only [nat_beq, decide_true, cond_true]
    rw [hr]; rfl
  have hr1 : H.readSeg o 0 (1 * e) = some (enc a) := by
    unfold Heap.readSeg
    rw [cellsAt_get hg]
    simp only [Option.bind_some, Nat.one_mul]
    exact seg_all (hn a)
  have hone : allOne (ys.flatMap enc) = true := flat_one h1 ys
  have ep := Ext.push hw (.cells (enc a ++ ys.flatMap enc))
  refine ⟨.slc H.next 0 (1 + ys.length) e (1 + ys.length) false, H.push (.cells (enc a ++ ys.flatMap enc)), ?_, ?_, ep, rfl⟩
  · unfold appendA
    rw [hs]
    have c1 : Nat.beq ys.length 0 = false := by rw [nat_beq]; simp; omega
    have c2 : Nat.ble (1 + ys.length) 1 = false := by rw [nat_ble]; simp; omega
    have c3 : Nat.ble ((2 * (1 + ys.length) + 1024) * bytes) (2 ^ 48) = true := Nat.ble_eq_true_of_le hb
    simp only [hone, cond_true, Nat.beq_refl, c1, cond_false, c2, c3, hr1]
  · refine ⟨.inr ⟨H.next, 0, 1 + ys.length, false, by rw [List.length_cons, Nat.add_comm], ?_⟩, by simp [capOk]⟩
    unfold Heap.readSeg
    rw [cellsAt_push]
    show seg (enc a ++ ys.flatMap enc) 0 ((a :: ys).length * e) = _
    rw [← List.flatMap_cons]
    exact seg_all (flat_len hn (a :: ys))
theorem ext_fr {S : List Nat} {H H1 H2 : Heap} (hw : H.Wf) (h : Ext H H1) (k : Fr S H1 H2) (hs : ∀ p, p ∈ S → H.next ≤ p) : Ext H H2 :=
  ⟨k.floor.trans h.floor, Nat.le_trans h.next k.next, fun o x q => k.keep o x (fun r => by have := hs o r; have := hw.lt q; omega) (h.keep o x q), k.wf⟩
/-- A variable's row, none till now, comes to be another row. -/
theorem app_nil (hn : ∀ x, (enc x).length = e) (he : 1 ≤ e) (h1 : ∀ x, allOne (enc x) = true) {H : Heap} (hw : H.Wf) {o j : Nat} {cs : List AV} (hg : H.get o = some (.cells cs)) (hf : H.floor ≤ o) (hj : j < cs.length) {y : AV} {ys : List α} (hy : Rw e enc H y ys) {bytes : Nat} (hb : (2 * (0 + ys.length) + 1024) * bytes ≤ 2 ^ 48) :
    ∃ v H2 H3, appendA e bytes H .nils y = some (v, H2) ∧ storeA H2 1 (.ptr o j) v = some (undefA, H3) ∧ H3.get o = some (.cells (cs.set j v)) ∧ Mine e enc H H3 v ys ∧ Fr [o] H H3 := by
  obtain ⟨v, H2, a, b, c, d⟩ := Mine.appS hn he h1 hw (Nat.le_refl _) (Mine.nil (e := e) (enc := enc) (H0 := H) (H := H)) hy.sw (by simpa using hb)
  rw [List.nil_append] at b
  have c0 : Fr [] H H2 := c
  obtain ⟨H3, s1, s2, s3⟩ := store_cell (x := v) c0.wf (by rw [c0.floor]; exact hf) (c0.keep _ _ (by simp) hg) hj (b.ow.rw hn).one.1
  exact ⟨v, H2, H3, a, s1, s2, b.fr s3 (fun p hp q => by
    have h1 := b.new p hp
    have h2 := hw.lt hg
    simp at q; omega), (c0.mono (by simp)).trans hw s3 (fun p q => .inl q)⟩
/-- And has one more item. -/
theorem app_one (hn : ∀ x, (enc x).length = e) (he : 1 ≤ e) (h1 : ∀ x, allOne (enc x) = true) {H0 H : Heap} (hw : H.Wf) {o j : Nat} {cs : List AV} (hg : H.get o = some (.cells cs)) (hf : H.floor ≤ o) (hj : j < cs.length) {v : AV} {ys : List α} (hy : Mine e enc H0 H v ys) (hx : H0.next ≤ H.next) (ho : o < H0.next) (x : α) {bytes : Nat} (hb : (2 * (ys.length + 1) + 1024) * bytes ≤ 2 ^ 48) :
    ∃ v' H2 H3, appendA e bytes (H.push (.cells (enc x))) v (.slc H.next 0 1 e 1 true) = some (v', H2) ∧ storeA H2 1 (.ptr o j) v' = some (undefA, H3) ∧ H3.get o = some (.cells (cs.set j v')) ∧ Rw e enc H3 v' (ys ++ [x]) ∧ Fr (o :: (rowObj v).toList) H H3 := by
  obtain ⟨v', H2, a, b, c, d⟩ := hy.app1 hn he h1 hw hx x hb
  have hno : o ∉ (rowObj v).toList := fun q => by
    have := hy.new o (by simpa using q); omega
  obtain ⟨H3, s1, s2, s3⟩ := store_cell (x := v') c.wf (by rw [c.floor]; exact hf) (c.keep _ _ hno hg) hj (b.ow.rw hn).one.1
  refine ⟨v', H2, H3, a, s1, s2, (b.fr s3 (fun p hp q => ?_)).ow.rw hn, (c.mono (fun p q => by simp at q; simp [q])).trans hw s3 (fun p q => .inl (by simp at q; simp [q]))⟩
  have h3 := b.new p hp
  simp at q; omega
end
/-- A variable that is a mesh. -/
structure MV (H : Heap) (v : AV) (P : List (Int × Int)) (W : Int) (F : List (List Int)) : Prop where
  ex : ∃ o vP vF, v = .ptr o 0 ∧ H.get o = some (.cells [vP, .int .i64 W, vF]) ∧ Mo H vP vF P F
theorem MV.extC {H H' : Heap} {v : AV} {P : List (Int × Int)} {W : Int} {F : List (List Int)} (h : MV H v P W F) (e : ExtC H H') : MV H' v P W F := by
  obtain ⟨o, vP, vF, a, b, c⟩ := h.ex
  exact ⟨o, vP, vF, a, e.keep _ _ b, c.extC e⟩
theorem MV.ext {H H' : Heap} {v : AV} {P : List (Int × Int)} {W : Int} {F : List (List Int)} (h : MV H v P W F) (e : Ext H H') : MV H' v P W F := h.extC e.c
theorem MV.ld {H : Heap} {v : AV} {P : List (Int × Int)} {W : Int} {F : List (List Int)} (h : MV H v P W F) : ∃ vP vF, loadA H (some 3) v = some (.agg [vP, .int .i64 W, vF]) ∧ Mo H vP vF P F := by
  obtain ⟨o, vP, vF, rfl, b, c⟩ := h.ex
  exact ⟨vP, vF, load_agg b (by simp [seg]), c⟩
structure Bad7 (H : Heap) (v : AV) : Prop where
  ex : ∃ P W F, MV H v P W F ∧ ¬ ValidO P W F ∧ Sz P F
theorem Bad7.ext {H H' : Heap} {v : AV} (h : Bad7 H v) (e : Ext H H') : Bad7 H' v := by
  obtain ⟨P, W, F, a, b, c⟩ := h.ex
  exact ⟨P, W, F, a.ext e, b, c⟩
def r7d : ACode := subAt [1,1,1,1,1,1,1,1,1,1,1,1,1,1] A7.body
theorem r7d_ok {H : Heap} (hw : H.Wf) {P : List (Int × Int)} {W : Int} {F : List (List Int)} (hv : ValidO P W F) (hz : Sz P F) {τ : Env} (m2 : MV H (Env.at τ 2) P W F) (m5 : Bad7 H (Env.at τ 5)) (m6 : Bad7 H (Env.at τ 6)) (m7 : Bad7 H (Env.at τ 7)) (m8 : Bad7 H (Env.at τ 8)) (m9 : Bad7 H (Env.at τ 9)) :
    Wp FK r7d τ H (finQ [.tmp 4] fun r _ => r = .bool true) := by
  obtain ⟨vP, vF, l2, mo⟩ := m2.ld
  simp [r7d, subAt, A7, l2]
  refine (check13 j13 hw (W := W) mo hz).mono ?_
  rintro _ H1 ⟨rfl, e1⟩
  obtain ⟨P5, W5, F5, a5, b5, c5⟩ := (m5.ext e1).ex
  obtain ⟨vP5, vF5, l5, mo5⟩ := a5.ld
  simp [chkO_ok hv, l5]
  refine (check13 j13 e1.wf (W := W5) mo5 c5).mono ?_
  rintro _ H2 ⟨rfl, e2⟩
  have e02 := e1.trans e2
  obtain ⟨P6, W6, F6, a6, b6, c6⟩ := (m6.ext e02).ex
  obtain ⟨vP6, vF6, l6, mo6⟩ := a6.ld
  simp [chkO_no b5, l6]
  refine (check13 j13 e2.wf (W := W6) mo6 c6).mono ?_
  rintro _ H3 ⟨rfl, e3⟩
  have e03 := e02.trans e3
  obtain ⟨P7, W7, F7, a7, b7, c7⟩ := (m7.ext e03).ex
  obtain ⟨vP7, vF7, l7, mo7⟩ := a7.ld
  simp [chkO_no b6, l7]
  refine (check13 j13 e3.wf (W := W7) mo7 c7).mono ?_
  rintro _ H4 ⟨rfl, e4⟩
  have e04 := e03.trans e4
  obtain ⟨P8, W8, F8, a8, b8, c8⟩ := (m8.ext e04).ex
  obtain ⟨vP8, vF8, l8, mo8⟩ := a8.ld
  simp [chkO_no b7, l8]
  refine (check13 j13 e4.wf (W := W8) mo8 c8).mono ?_
  rintro _ H5 ⟨rfl, e5⟩
  have e05 := e04.trans e5
  obtain ⟨P9, W9, F9, a9, b9, c9⟩ := (m9.ext e05).ex
  obtain ⟨vP9, vF9, l9, mo9⟩ := a9.ld
  simp [chkO_no b8, l9]
  refine (check13 j13 e5.wf (W := W9) mo9 c9).mono ?_
  rintro _ H6 ⟨rfl, e6⟩
  obtain ⟨g1, p1⟩ := push_new e6.wf (.cells ([((0 : Int), (0 : Int)), (4, 0), (5, 3), (2, 5), (-1, 3)].flatMap pairc))
  obtain ⟨g2, p2⟩ := push_new p1.wf (.cells ([(0 : Int), 1, 2, 3, 4].flatMap i64c))
  obtain ⟨g3, p3⟩ := push_new p2.wf (.cells (onec ⟨.slc (H6.next + 1) 0 5 1 5 true, rfl⟩))
  have rP := (rw_lits pairc_len g1).ext (p2.trans p3)
  have rI := (rw_lits i64c_len g2).ext p3
  have rF := Rw.lit (H := ((H6.push (.cells ([((0 : Int), (0 : Int)), (4, 0), (5, 3), (2, 5), (-1, 3)].flatMap pairc))).push (.cells ([(0 : Int), 1, 2, 3, 4].flatMap i64c))).push (.cells (onec ⟨.slc (H6.next + 1) 0 5 1 5 true, rfl⟩))) (enc := onec) rfl (onec_len _) g3
  simp only [pairc, i64c, onec, List.flatMap_cons, List.flatMap_nil, List.cons_append, List.nil_append] at rP rI rF p1 p2 p3
  generalize hH7 : ((H6.push (.cells [.int .i64 0, .int .i64 0, .int .i64 4, .int .i64 0, .int .i64 5, .int .i64 3, .int .i64 2, .int .i64 5, .int .i64 (-1), .int .i64 3])).push (.cells [.int .i64 0, .int .i64 1, .int .i64 2, .int .i64 3, .int .i64 4])).push (.cells [.slc (H6.next + 1) 0 5 1 5 true]) = H7 at *
  have p123 := (p1.trans p2).trans p3
  obtain ⟨H8, st, g8, e8, n8⟩ := store_new p3.wf (z := [.nils, .int .i64 0, .nils]) (n := 3) (x := .agg [.slc H6.next 0 5 2 5 true, .int .i64 1, .slc (H6.next + 1 + 1) 0 1 1 1 true]) (cs := [.slc H6.next 0 5 2 5 true, .int .i64 1, .slc (H6.next + 1 + 1) 0 1 1 1 true]) rfl rfl rfl rfl
  have ld8 : loadA H8 (some 3) (.ptr H7.next 0) = some (.agg [.slc H6.next 0 5 2 5 true, .int .i64 1, .slc (H6.next + 1 + 1) 0 1 1 1 true]) := load_agg g8 (by simp [seg])
  have mo5 : Mo H8 (.slc H6.next 0 5 2 5 true) (.slc (H6.next + 1 + 1) 0 1 1 1 true) [(0, 0), (4, 0), (5, 3), (2, 5), (-1, 3)] [[0, 1, 2, 3, 4]] := by
    refine ⟨(rP.ext e8).sl pairc_len, ⟨[⟨.slc (H6.next + 1) 0 5 1 5 true, rfl⟩], rF.ext e8, rfl, fun i r f q1 q2 => ?_⟩⟩
    cases i with
    | zero => cases q1; cases q2; exact rI.ext e8
    | succ i => simp at q1
  simp [chkO_no b9, setSeg, hH7, st, ld8]
  refine (check13 j13 e8.wf (W := 1) mo5 ⟨by simp, by simp, by simp, by simp⟩).mono ?_
  rintro _ H9 ⟨rfl, e9⟩
  simp [chkO_no hurt5]
  apply hk10
  simp
def r7b : ACode := subAt [1,1,1,1,1,1,1] A7.body
def r7a : ACode := subAt [1,1] A7.body
theorem body7 : A7.body = putAt [1,1] A7.body r7a := rfl
theorem body7a : r7a = putAt [1,1,1,1,1] r7a r7b := rfl
theorem body7b : r7b = putAt [1,1,1,1,1,1,1] r7b r7d := rfl
theorem gd_snoc {H : Heap} {v : AV} {rs : List OneV} {F : List (List Int)} {r : OneV} {f : List Int} (h : Rw 1 onec H v (rs ++ [r])) (hl : rs.length = F.length) (hr : ∀ (i : Nat) (r : OneV) (f : List Int), rs[i]? = some r → F[i]? = some f → Rw 1 i64c H r.1 f) (k : Rw 1 i64c H r.1 f) : Gd H v (F ++ [f]) := by
  refine ⟨rs ++ [r], h, by simp [hl], fun i q g a b => ?_⟩
  by_cases c : i < rs.length
  · rw [List.getElem?_append_left c] at a
    rw [List.getElem?_append_left (by omega)] at b
    exact hr i q g a b
  · rw [List.getElem?_append_right (by omega)] at a
    rw [List.getElem?_append_right (by omega), ← hl] at b
    cases hq : i - rs.length with
    | zero => rw [hq] at a b; cases a; cases b; exact k
    | succ n => rw [hq] at a; simp at a
theorem sz_snoc {P : List (Int × Int)} {F : List (List Int)} (hs : Sm P F) {f : List Int} (hf : f.length ≤ 200) : Sz P (F ++ [f]) := by
  obtain ⟨s1, s2, s3, s4⟩ := hs
  refine ⟨by omega, by simp; omega, fun g hg => ?_, by rw [List.flatten_append, List.length_append]; simp only [List.flatten_cons, List.flatten_nil, List.append_nil]; omega⟩
  rcases List.mem_append.1 hg with q | q
  · have := s3 g q; omega
  · simp at q; subst q; omega
theorem r7b_ok {H : Heap} (hw : H.Wf) {P : List (Int × Int)} {W : Int} {F : List (List Int)} {vP vF : AV} (h : ObA H vP vF P F) (hv : ValidO P W F) (hs : Sm P F) {o : Nat} (g : H.get o = some (.cells [vP, .int .i64 W, vF])) {x : Int} {τ : Env} (t1 : Env.at τ 1 = .int .i64 x) (t2 : Env.at τ 2 = .ptr o 0) {a b : AV} (ma : Bad7 H a) (mb : Bad7 H b) (t5 : Env.at τ 5 = a) (t6 : Env.at τ 6 = b) :
    Wp FK r7b τ H (finQ [.tmp 4] fun r _ => r = .bool true) := by
  have fin : ∀ {H' : Heap} {σ : Env} {c d e : AV}, Ext H H' → Bad7 H' c → Bad7 H' d → Bad7 H' e → Env.at σ 2 = .ptr o 0 → Env.at σ 5 = a → Env.at σ 6 = b → Env.at σ 7 = c → Env.at σ 8 = d → Env.at σ 9 = e → Wp FK r7d σ H' (finQ [.tmp 4] fun r _ => r = .bool true) := by
    intro H' σ c d e k mc md me u2 u5 u6 u7 u8 u9
    refine r7d_ok k.wf hv hs.sz (by rw [u2]; exact ⟨_, _, _, rfl, k.keep _ _ g, h.mo.ext k⟩) ?_ ?_ ?_ ?_ ?_
    · rw [u5]; exact ma.ext k
    · rw [u6]; exact mb.ext k
    · rw [u7]; exact mc
    · rw [u8]; exact md
    · rw [u9]; exact me
  rw [body7b]
  generalize hrb : r7d = rb at *
  have ldo : ∀ {H' : Heap}, Ext H H' → loadA H' none (.ptr o 0) = some vP ∧ loadA H' none (.ptr o 1) = some (.int .i64 W) ∧ loadA H' none (.ptr o 2) = some vF := fun k => ⟨load_get (k.keep _ _ g) rfl, load_get (k.keep _ _ g) rfl, load_get (k.keep _ _ g) rfl⟩
  have hF0 := List.length_pos_iff.2 hv.ne
  have hF1 := hs.f
  obtain ⟨k, hk, wk1, wk2⟩ := remU x (n := F.length) (by omega) (by omega)
  have wk3 : IntKind.i64.wrap (k : Int) = k := wrap64 (by omega) (by omega)
  have hnp : ¬ F.length = 0 := by omega
  have hlen := h.f.len
  obtain ⟨q1, q2⟩ := h.p.one
  obtain ⟨f1, f2⟩ := h.f.one
  obtain ⟨rs, ra, rl, rc⟩ := h.f.ex
  have honeP : allOne [vP, .int .i64 W, .nils] = true := by
    show (vP.one && (true && (true && true))) = true
    rw [q1]; rfl
  have honeZ : allOne [vP, .int .i64 0, vF] = true := by
    show (vP.one && (true && (vF.one && true))) = true
    rw [q1, f1]; rfl
  -- a face twice
  obtain ⟨H1, st1, g1, e1, n1⟩ := store_new hw (z := [.nils, .int .i64 0, .nils]) (n := 3) (x := .agg [vP, .int .i64 W, .nils]) (cs := [vP, .int .i64 W, .nils]) rfl rfl rfl honeP
  have fl1 : H1.floor ≤ H.next := by rw [e1.floor]; exact hw.1
  obtain ⟨l0, l1, l2⟩ := ldo (Ext.refl hw)
  obtain ⟨_, _, l2a⟩ := ldo e1
  have o7a : loadA H1 none (.ptr H.next 2) = some .nils := load_get g1 rfl
  obtain ⟨v2, H2', H2, a2, s2, g2, m2, f2'⟩ := app_nil (bytes := 24) onec_len (by omega) onec_one e1.wf g1 fl1 (j := 2) (by simp) (ra.ext e1) (by omega)
  have e2 : Ext H H2 := ext_fr hw e1 f2' (fun p hp => by simp at hp; omega)
  have o7b : loadA H2 none (.ptr H.next 2) = some v2 := load_get g2 rfl
  obtain ⟨_, _, l2b⟩ := ldo e2
  have fl2 : H2.floor ≤ H.next := by rw [f2'.floor]; exact fl1
  obtain ⟨p, y, hy, hix, _, hl2⟩ := Sl.idx ((ra.ext e2).sl onec_len) (k := .i64) (i := (k : Int)) (by omega) (by omega)
  have hl2 := hl2 y.1 rfl rfl
  obtain ⟨f0, hf0⟩ : ∃ f, F[k]? = some f := ⟨_, List.getElem?_eq_getElem hk⟩
  have hfm : f0 ∈ F := List.mem_of_getElem? hf0
  have hr0 := rc k y f0 (by simpa using hy) hf0
  obtain ⟨v3, H3', H3, a3, s3, g3, r3, f3⟩ := app_one (bytes := 24) onec_len (by omega) onec_one f2'.wf g2 fl2 (j := 2) (by simp) m2 f2'.next (e1.wf.lt g1) y (by omega)
  have f13 := f2'.trans e1.wf f3 (fun p q => by
    rcases List.mem_cons.1 q with r | r
    · exact .inl (by simp [r])
    · exact .inr (m2.new p (by simpa using r)))
  have e3 : Ext H H3 := ext_fr hw e1 f13 (fun p hp => by simp at hp; omega)
  have b7 : Bad7 H3 (.ptr H.next 0) := ⟨P, W, F ++ [f0], ⟨_, _, _, rfl, g3, ⟨(h.p.ext e3).sl pairc_len, gd_snoc r3 rl (fun i r f q q' => (rc i r f q q').ext e3) (hr0.ext e3)⟩⟩, hurtC hv hfm, sz_snoc hs (hs.r f0 hfm)⟩
  obtain ⟨y1, y2⟩ := hr0.one
  -- a face of two places
  obtain ⟨H4, st4, g4, e4, n4⟩ := store_new e3.wf (z := [.nils, .int .i64 0, .nils]) (n := 3) (x := .agg [vP, .int .i64 W, .nils]) (cs := [vP, .int .i64 W, .nils]) rfl rfl rfl honeP
  obtain ⟨l0c, l1c, _⟩ := ldo e3
  have e04 := e3.trans e4
  have fl4 : H4.floor ≤ H3.next := by rw [e4.floor]; exact e3.wf.1
  have o8a : loadA H4 none (.ptr H3.next 2) = some .nils := load_get g4 rfl
  obtain ⟨_, _, l2d⟩ := ldo e04
  obtain ⟨v5, H5', H5, a5, s5, g5, m5, f5⟩ := app_nil (bytes := 24) onec_len (by omega) onec_one e4.wf g4 fl4 (j := 2) (by simp) (ra.ext e04) (by omega)
  have e05 : Ext H H5 := ext_fr hw e04 f5 (fun p hp => by have := e3.next; simp at hp; omega)
  have o8b : loadA H5 none (.ptr H3.next 2) = some v5 := load_get g5 rfl
  have fl5 : H5.floor ≤ H3.next := by rw [f5.floor]; exact fl4
  obtain ⟨gr, er⟩ := push_new f5.wf (.cells [.int .i64 0, .int .i64 1])
  have rI := rw_lits (xs := [(0 : Int), 1]) i64c_len gr
  obtain ⟨v6, H6', H6, a6, s6, g6, r6, f6⟩ := app_one (bytes := 24) onec_len (by omega) onec_one er.wf (er.keep _ _ g5) (by rw [er.floor]; exact fl5) (j := 2) (by simp) (m5.ext er) (Nat.le_trans f5.next er.next) (e4.wf.lt g4) ⟨.slc H5.next 0 2 1 2 true, rfl⟩ (by omega)
  have e5r : Ext H (H5.push (.cells [.int .i64 0, .int .i64 1])) := e05.trans er
  have f46 := (f5.thenE e4.wf er).trans e4.wf f6 (fun p q => by
    rcases List.mem_cons.1 q with r | r
    · exact .inl (by simp [r])
    · exact .inr (m5.new p (by simpa using r)))
  have e06 : Ext H H6 := ext_fr hw e04 f46 (fun p hp => by have := e3.next; simp at hp; omega)
  have e36 : Ext H3 H6 := ext_fr e3.wf e4 f46 (fun p hp => by simp at hp; omega)
  have b8 : Bad7 H6 (.ptr H3.next 0) := by
    refine ⟨P, W, F ++ [[0, 1]], ⟨_, _, _, rfl, g6, ⟨(h.p.ext e06).sl pairc_len, gd_snoc r6 rl (fun i r f q q' => (rc i r f q q').ext e06) (rI.fr f6 (fun p q r => ?_))⟩⟩, hurtD, sz_snoc hs (by simp)⟩
    cases q
    have h1 : H3.next < H5.next := Nat.lt_of_lt_of_le (e4.wf.lt g4) f5.next
    rcases List.mem_cons.1 r with r | r
    · omega
    · have := m5.lt f5.wf (p := H5.next) (by simpa using r)
      omega
  -- divided by nought
  obtain ⟨H7, st7, g7, e7, n7⟩ := store_new e06.wf (z := [.nils, .int .i64 0, .nils]) (n := 3) (x := .agg [vP, .int .i64 0, vF]) (cs := [vP, .int .i64 0, vF]) rfl rfl rfl honeZ
  obtain ⟨l0e, _, l2e⟩ := ldo e06
  have e07 := e06.trans e7
  have b9 : Bad7 H7 (.ptr H6.next 0) := ⟨P, 0, F, ⟨_, _, _, rfl, g7, h.mo.ext e07⟩, hurtZ, hs.sz⟩
  have nR : (H5.push (.cells [.int .i64 0, .int .i64 1])).next = H5.next + 1 := rfl
  simp only [onec, nR] at a3 a6
  simp [r7b, subAt, A7, putAt, t1, t2, l0, l1, fillV_val q1 q2, fillV_val f1 f2, st1, o7a, l2a, a2, s2, o7b, l2b, hlen, wk1, wk2, wk3, hnp, hix, hl2, fillV_val y1 y2, setSeg, a3, s3, l0c, l1c, st4, o8a, l2d, a5, s5, o8b, a6, s6, l0e, l2e, st7]
  refine fin e07 ((b7.ext e36).ext e7) (b8.ext e7) b9 ?_ ?_ ?_ ?_ ?_ ?_ <;> simp [t2, t5, t6]
theorem r7a_ok {H : Heap} (hw : H.Wf) {P : List (Int × Int)} {W : Int} {F : List (List Int)} {vP vF : AV} (h : ObA H vP vF P F) (hv : ValidO P W F) (hs : Sm P F) {o : Nat} (g : H.get o = some (.cells [vP, .int .i64 W, vF])) {x : Int} {τ : Env} (t1 : Env.at τ 1 = .int .i64 x) (t2 : Env.at τ 2 = .ptr o 0) :
    Wp FK r7a τ H (finQ [.tmp 4] fun r _ => r = .bool true) := by
  have fin : ∀ {H' : Heap} {σ : Env} {a b : AV}, Ext H H' → Bad7 H' a → Bad7 H' b → Env.at σ 1 = .int .i64 x → Env.at σ 2 = .ptr o 0 → Env.at σ 5 = a → Env.at σ 6 = b → Wp FK r7b σ H' (finQ [.tmp 4] fun r _ => r = .bool true) := fun k m n u1 u2 u5 u6 => r7b_ok k.wf (h.ext k) hv hs (k.keep _ _ g) u1 u2 m n u5 u6
  rw [body7a]
  generalize hrb : r7b = rb at *
  have l0 : loadA H none (.ptr o 0) = some vP := load_get g rfl
  have l1 : loadA H none (.ptr o 1) = some (.int .i64 W) := load_get g rfl
  have l2 : loadA H none (.ptr o 2) = some vF := load_get g rfl
  have hp0 := List.length_pos_iff.2 hv.pne
  have hp1 := hs.p
  obtain ⟨k, hk, wk1, wk2⟩ := remU x (n := P.length) (by omega) (by omega)
  have wk3 : IntKind.i64.wrap (k : Int) = k := wrap64 (by omega) (by omega)
  have hnp : ¬ P.length = 0 := by omega
  have hlen := h.p.len
  obtain ⟨q1, q2⟩ := h.p.one
  obtain ⟨f1, f2⟩ := h.f.one
  obtain ⟨po, pf, y, hy, hix, hl2, _, _⟩ := Pairs.idx (h.p.sl pairc_len) (k := .i64) (i := (k : Int)) (by omega) (by omega)
  have hym : y ∈ P := List.mem_of_getElem? hy
  simp only [pairc] at hl2
  -- a place twice
  obtain ⟨gL, e1⟩ := push_new hw (.cells [.int .i64 y.1, .int .i64 y.2])
  have nL : (H.push (.cells [.int .i64 y.1, .int .i64 y.2])).next = H.next + 1 := rfl
  obtain ⟨H2, st2, g2, e2, n2⟩ := store_new e1.wf (z := [.nils, .int .i64 0, .nils]) (n := 3) (x := .agg [.slc H.next 0 1 2 1 true, .int .i64 W, vF]) (cs := [.slc H.next 0 1 2 1 true, .int .i64 W, vF]) rfl rfl rfl (by
    show (true && (true && (vF.one && true))) = true
    rw [h.f.one.1]; rfl)
  rw [nL] at st2 g2
  have e02 := e1.trans e2
  have o2a : loadA H2 none (.ptr o 0) = some vP := load_get (e02.keep _ _ g) rfl
  have o5a : loadA H2 none (.ptr (H.next + 1) 0) = some (.slc H.next 0 1 2 1 true) := load_get g2 rfl
  obtain ⟨v3, H3, a3, r3, e3, q3⟩ := lit_appS (bytes := 16) pairc_len pairc_one e2.wf (a := y) (e2.keep _ _ gL) (h.p.ext e02) hv.pne (by omega)
  have e03 := e02.trans e3
  obtain ⟨H4, s4, g4, f4⟩ := store_cell (x := v3) (off := 0) e3.wf (by rw [e03.floor]; have := hw.1; omega) (e3.keep _ _ g2) (by simp) r3.one.1
  have e04 : Ext H H4 := ext_fr hw e03 f4 (fun p hp => by simp at hp; omega)
  have hg4 := e04.keep _ _ g
  have b5 : Bad7 H4 (.ptr (H.next + 1) 0) := by
    refine ⟨y :: P, W, F, ⟨_, _, _, rfl, g4, ⟨((r3.fr f4 (fun p hp q => ?_)).sl pairc_len), h.f.ext e04⟩⟩, hurtA hym, ?_⟩
    · rw [q3] at hp; cases hp
      simp at q; omega
    · obtain ⟨s1, s2, s3, s4⟩ := hs
      exact ⟨by simp; omega, by omega, fun f hf => by have := s3 f hf; omega, by omega⟩
  have l1' : loadA (H.push (.cells [.int .i64 y.1, .int .i64 y.2])) none (.ptr o 1) = some (.int .i64 W) := load_get (e1.keep _ _ g) rfl
  have l2' : loadA (H.push (.cells [.int .i64 y.1, .int .i64 y.2])) none (.ptr o 2) = some vF := load_get (e1.keep _ _ g) rfl
  -- a place that is in no face
  obtain ⟨H5, st5, g5, e5, n5⟩ := store_new e04.wf (z := [.nils, .int .i64 0, .nils]) (n := 3) (x := .agg [.nils, .int .i64 W, vF]) (cs := [.nils, .int .i64 W, vF]) rfl rfl rfl (by
    show (true && (true && (vF.one && true))) = true
    rw [h.f.one.1]; rfl)
  have e05 := e04.trans e5
  have fl5 : H5.floor ≤ H4.next := by rw [e5.floor]; exact e04.wf.1
  have o6a : loadA H5 none (.ptr H4.next 0) = some .nils := load_get g5 rfl
  have o2d : loadA H5 none (.ptr o 0) = some vP := load_get (e05.keep _ _ g) rfl
  obtain ⟨v6, H6', H6, a6, s6, g6, m6, f6⟩ := app_nil (bytes := 16) pairc_len (by omega) pairc_one e5.wf g5 fl5 (j := 0) (by simp) (h.p.ext e05) (by omega)
  have o6b : loadA H6 none (.ptr H4.next 0) = some v6 := load_get g6 rfl
  have fl6 : H6.floor ≤ H4.next := by rw [f6.floor]; exact fl5
  obtain ⟨v7, H7', H7, a7, s7, g7, r7, f7⟩ := app_one (bytes := 16) pairc_len (by omega) pairc_one f6.wf g6 fl6 (j := 0) (by simp) m6 f6.next (e5.wf.lt g5) ((4294967296 : Int), (-4294967296 : Int)) (by omega)
  have e07 : Ext H H7 := ext_fr hw e05 (f6.trans e5.wf f7 (fun p q => by
    rcases List.mem_cons.1 q with r | r
    · exact .inl (by simp [r])
    · exact .inr (m6.new p (by simpa using r)))) (fun p hp => by have := e04.next; simp at hp; omega)
  have o2b : loadA H4 none (.ptr o 1) = some (.int .i64 W) := load_get hg4 rfl
  have o2c : loadA H4 none (.ptr o 2) = some vF := load_get hg4 rfl
  have b6 : Bad7 H7 (.ptr H4.next 0) := by
    refine ⟨P ++ [(4294967296, -4294967296)], W, F, ⟨_, _, _, rfl, g7, ⟨r7.sl pairc_len, h.f.ext e07⟩⟩, hurtB hv _, ?_⟩
    obtain ⟨s1, s2, s3, s4⟩ := hs
    exact ⟨by simp; omega, by omega, fun f hf => by have := s3 f hf; omega, by omega⟩
  have e47 : Ext H4 H7 := ext_fr e04.wf e5 (f6.trans e5.wf f7 (fun p q => by
    rcases List.mem_cons.1 q with r | r
    · exact .inl (by simp [r])
    · exact .inr (m6.new p (by simpa using r)))) (fun p hp => by simp at hp; omega)
  have b5' := b5.ext e47
  simp only [pairc] at a7
  have qp : ({ t := (Heap.push { t := (H.push (.cells [.int .i64 y.1, .int .i64 y.2])).t, next := H.next + 1, floor := H.next + 1 } (.cells [.nils, .int .i64 0, .nils])).t, next := H.next + 1 + 1, floor := H.floor } : Heap) = (H.push (.cells [.int .i64 y.1, .int .i64 y.2])).push (.cells [.nils, .int .i64 0, .nils]) := rfl
  simp [r7a, subAt, A7, putAt, qp, t1, t2, l0, hlen, wk1, wk2, wk3, hnp, hix, hl2, setSeg, fillV_val f1 f2, l1', l2', st2, o2a, o5a, a3, s4, o2b, o2c, st5, o6a, o2d, a6, s6, o6b, a7, s7]
  refine fin e07 b5' b6 ?_ ?_ ?_ ?_ <;> simp [t1, t2]
theorem hurt7 {H : Heap} (hw : H.Wf) {vP vF : AV} {P : List (Int × Int)} {W : Int} {F : List (List Int)} (h : ObA H vP vF P F) {x : Int} (_hx : -9223372036854775808 ≤ x ∧ x ≤ 9223372036854775807) : Cp FK 7 [.agg [vP, .int .i64 W, vF], .int .i64 x] H (fun r _ => r = .bool true) := by
  refine Cp_code A7 rfl rfl ?_
  rw [body7]
  have hA : A7.results = [.tmp 4] := rfl
  rw [hA]
  obtain ⟨g0, e0⟩ := push_new hw (.cells [vP, .int .i64 W, vF])
  have ld : ∀ {H' : Heap}, Ext (H.push (.cells [vP, .int .i64 W, vF])) H' → loadA H' (some 3) (.ptr H.next 0) = some (.agg [vP, .int .i64 W, vF]) ∧ loadA H' none (.ptr H.next 2) = some vF := fun k => ⟨load_agg (k.keep _ _ g0) (by simp [seg]), load_get (k.keep _ _ g0) rfl⟩
  have l0 := (ld (Ext.refl e0.wf)).1
  have fin := fun {H : Heap} (hw : H.Wf) (h : ObA H vP vF P F) (hv : ValidO P W F) (hs : Sm P F) {o : Nat} (g : H.get o = some (.cells [vP, .int .i64 W, vF])) {τ : Env} => r7a_ok hw h hv hs g (x := x) (τ := τ)
  generalize hra : r7a = ra at *
  simp [A7, putAt, h.mo.one W, l0]
  refine (many9 (FT := FK) rfl e0.wf (h.mo.ext e0)).mono ?_
  rintro _ H1 ⟨⟨b, rfl, hb⟩, e1⟩
  cases b with
  | true =>
    simp
    apply hk10
    simp
  | false =>
    have hs' := hb rfl
    have hz := hs'.sz
    have m1 := h.ext (e0.trans e1)
    simp [ld e1]
    refine (check14 j14 e1.wf (W := W) m1.mo hz).mono ?_
    rintro _ H2 ⟨rfl, e2⟩
    have m2 := m1.ext e2
    have hlen := m2.f.len
    by_cases hv : ValidO P W F
    · have hne : ¬ F.length = 0 := fun q => hv.ne (List.length_eq_zero_iff.1 q)
      simp [chkO_ok hv, ld (e1.trans e2), hlen, hne]
      refine fin e2.wf m2 hv hs' ((e1.trans e2).keep _ _ g0) ?_ ?_ <;> simp
    · simp [chkO_no hv]
      apply hk10
      simp
end Go.Proofs.YtacfhbhfgbjleaaDoor
