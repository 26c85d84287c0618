/- The edges of faces, as the program tells them. No claim by itself. -/
import Derived.Test.YtcepchipgjpkhaaF2
import Derived.Test.YtcepchipgjpkhaaX1
import Derived.Test.YtcepchipgjpkhaaEH
namespace Go.Proofs.Ytcepchipgjpkhaa
open Go Go.AI
section
variable {H : Heap}
structure Pe1 (Hs H' : Heap) (L : List (Int × Int)) (E : List Ent) (v3 : AV) (T : List (Int × Int)) (om ob : Nat) (vF : AV) (it : Nat) (seen : List Nat) (τ : Env) : Prop where
  ex : Ext Hs H'
  mine : Mine 2 pairc Hs H' v3 T
  perm : T.Perm (((came E seen).map (·.1)).filter (edT L) |>.map upE)
  nx : H'.next ≤ Hs.next + 4 * seen.length
  nd : seen.Nodup
  lt : ∀ i, i ∈ seen → i < E.length
  t : Tm τ [(1, .ptr ob 0), (3, v3), (8, .ptr it 0)]
theorem look_lt {E : List Ent} (h : ∀ q, q ∈ E → 0 ≤ q.2) (s : Int × Int) : lookE E s < 0 ↔ s ∉ E.map (·.1) := by
  unfold lookE
  cases q : E.find? (fun q => decide (s = q.1)) with
  | none =>
    have := look_none.1 q
    simp only [Option.map_none, Option.getD_none]
    exact ⟨fun _ => this, fun _ => by omega⟩
  | some x =>
    have hm := List.mem_of_find?_eq_some q
    have he := List.find?_some q
    simp only [decide_eq_true_eq] at he
    have := h x hm
    simp only [Option.map_some, Option.getD_some]
    exact ⟨fun r => by omega, fun r => absurd (List.mem_map.2 ⟨x, hm, he.symm⟩) r⟩
theorem left58n {FT : Nat → Option FnD} (h58 : FT 58 = some (.code A58)) (hw : H.Wf) {o : Nat} {E : List Ent} {s : Int × Int} (h : H.get o = some (.map (E.map entc))) :
    Cp FT 58 [.agg [.map o], .int .i64 s.1, .int .i64 s.2] H (fun r H' => r = .int .i64 (lookE E s) ∧ Ext H H' ∧ H'.next = H.next + 1) := by
  refine Cp_code A58 h58 rfl ?_
  have e0 := Ext.push hw (.cells [.map o])
  have g0 : (H.push (.cells [.map o])).get H.next = some (.cells [.map o]) := get_pushN.trans (if_pos rfl)
  have l0 : loadA (H.push (.cells [.map o])) none (.ptr H.next 0) = some (.map o) := load_get g0 rfl
  obtain ⟨r, hr, hc⟩ := lookA_ent (s := s) (e0.keep _ _ h)
  have hr' : lookA (H.push (.cells [.map o])) (.flat [.int, .int]) (.map o) (.agg [.int .i64 s.1, .int .i64 s.2]) = some r := hr
  rcases hc with ⟨_, rfl, h3⟩ | ⟨_, i, k, rfl, h3, _⟩
  · simp [A58, l0, hr', lookV, h3]
    exact e0
  · simp [A58, l0, hr', lookV, h3]
    exact e0
theorem edges_wp {om : Nat} {vF : AV} {E : List Ent} (hw : H.Wf) (hg : H.get om = some (.map (E.map entc))) (hv : vF.one = true) (_hvc : vF.cells = [vF]) (hp : ∀ q, q ∈ E → 0 ≤ q.2) (hn : (E.map (·.1)).Nodup) (hd : ∀ s, s ∈ E.map (·.1) → s.1 ≠ s.2) (hl : E.length ≤ 1000000000) :
    ∃ v H', WpN FS N57.body (enterEnv 0 [.agg [.map om, vF]] .leaf) H (finQ N57.results fun r H1 => Outs r H1 v H') ∧ (∀ o, o < H.floor → H'.get o = H.get o) ∧ Rw 2 pairc H' v (edS (E.map (·.1))) ∧ Ext H H' := by
  have h58 : FS 58 = some (.code A58) := rfl
  generalize hL : E.map (·.1) = L at hn hd
  have hsrt := edL_srt hn hd
  have e1 := Ext.push hw (.cells [.map om, vF])
  have g1 := (push_new hw (.cells [.map om, vF])).1
  have e2 := Ext.push e1.wf .dead
  have hlt := hw.lt hg
  generalize hH1 : H.push (.cells [.map om, vF]) = H1 at e1 g1 e2
  have n1 : H1.next = H.next + 1 := by rw [← hH1]; rfl
  have f1 : H1.floor = H.floor := e1.floor
  have hwf := hw.1
  generalize hHs : ({ H1.push .dead with floor := H.next } : Heap) = Hs
  have ns : Hs.next = H.next + 2 := by rw [← hHs]; show (H1.push .dead).next = _; rw [next_push, n1]
  have fs : Hs.floor = H.next := by rw [← hHs]
  have ws : Hs.Wf := by rw [← hHs]; exact ⟨by show H.next ≤ (H1.push .dead).next; rw [next_push, n1]; omega, e2.wf.2⟩
  have gs : ∀ o x, H1.get o = some x → Hs.get o = some x := fun o x q => by rw [← hHs]; exact e2.keep o x q
  have gms := gs _ _ (e1.keep _ _ hg)
  have gbs := gs _ _ g1
  -- the place where the row is told to lie
  let n : Nat := H.next + 2 + 4 * E.length
  let H' : Heap := if edS L = [] then { H with next := n + 1 } else ({ H with next := n } : Heap).push (.cells ((edS L).flatMap pairc))
  let v : AV := if edS L = [] then .nils else .slc n 0 (edS L).length 2 (edS L).length false
  have hnn : H.next ≤ n := by show H.next ≤ H.next + 2 + 4 * E.length; omega
  have wn : ({ H with next := n } : Heap).Wf := ⟨Nat.le_trans hwf hnn, fun o ho => hw.2 o (Nat.le_trans hnn ho)⟩
  refine ⟨v, H', ?_, ?_, ?_, ?_⟩
  rotate_left
  · intro o ho
    show Heap.get (if _ then _ else _) o = _
    by_cases q : edS L = []
    · rw [if_pos q]; rfl
    · rw [if_neg q, get_pushN, if_neg (by show ¬ o = n; omega)]; rfl
  · show Rw 2 pairc (if _ then _ else _) (if _ then _ else _) _
    by_cases q : edS L = []
    · rw [if_pos q, if_pos q, q]; exact ⟨.inl ⟨rfl, rfl⟩, rfl⟩
    · rw [if_neg q, if_neg q]
      refine ⟨.inr ⟨n, 0, _, false, rfl, ?_⟩, by simp [capOk]⟩
      unfold Heap.readSeg
      have : (({ H with next := n } : Heap).push (.cells ((edS L).flatMap pairc))).cellsAt n = some ((edS L).flatMap pairc) := cellsAt_push (H := { H with next := n })
      rw [this]
      exact seg_all (flat_len pairc_len _)
  · show Ext H (if _ then _ else _)
    by_cases q : edS L = []
    · rw [if_pos q]; exact ⟨rfl, by show H.next ≤ n + 1; omega, fun _ _ e => e, by show H.floor ≤ n + 1; omega, fun o ho => hw.2 o (by have : n + 1 ≤ o := ho; omega)⟩
    · rw [if_neg q]
      have k : Ext H ({ H with next := n } : Heap) := ⟨rfl, hnn, fun _ _ e => e, wn⟩
      exact k.trans (Ext.push wn _)
  -- the walk
  have hov : allOne [vF] = true := by simp [allOne, hv]
  simp [N57, hov, hH1]
  rw [WpN_rng]
  unfold RngW
  have l1 : loadA H1 none (.ptr H.next 0) = some (.map om) := load_get g1 rfl
  simp [l1]
  refine ⟨E.map entc, H.next, fun seen τ H' => ∃ v3 T, Pe1 Hs H' L E v3 T om H.next vF H1.next seen τ, ?_⟩
  refine ⟨by rw [f1]; exact hwf, by omega, hlt, e1.keep _ _ hg, ?_, fun ⟨v3, T, p⟩ => by have := p.t; simp at this; exact this.2.2, ?_, ?_⟩
  · refine ⟨.nils, [], ?_⟩
    rw [hHs]
    exact ⟨Ext.refl ws, Mine.nil, by simp [came], by simp, by simp, by simp, by simp⟩
  · rintro seen τ H2 i e ⟨v3, T, ⟨ex, mine, perm, nx, nd, lt, t⟩⟩ hi he
    simp at t
    obtain ⟨t1, t3, t8⟩ := t
    rw [List.getElem?_map] at he
    cases hE : E[i]? with
    | none => rw [hE] at he; cases he
    | some q =>
      rw [hE] at he
      cases he
      have hil : i < E.length := (List.getElem?_eq_some_iff.1 hE).1
      have hqm : q.1 ∈ L := by rw [← hL]; exact List.mem_map.2 ⟨q, List.mem_of_getElem? hE, rfl⟩
      have hqd := hd _ hqm
      have hcame := came_cons (seen := seen) hE
      have nd' : (i :: seen).Nodup := List.nodup_cons.2 ⟨hi, nd⟩
      have lt' : ∀ j, j ∈ i :: seen → j < E.length := fun j hj => by
        rcases List.mem_cons.1 hj with r | r
        · rw [r]; exact hil
        · exact lt j r
      obtain ⟨H3, st, g3, e3, n3⟩ := store_new ex.wf (z := [.int .i64 0, .int .i64 0]) (n := 2) (x := .agg (pairc q.1)) (cs := pairc q.1) rfl rfl rfl rfl
      have ex3 := ex.trans e3
      have lp1 : loadA H3 none (.ptr H2.next 0) = some (.int .i64 q.1.1) := load_get g3 rfl
      have lp2 : loadA H3 none (.ptr H2.next 1) = some (.int .i64 q.1.2) := load_get g3 rfl
      have lb : loadA H3 (some 1) (.ptr H.next 0) = some (.agg [.map om]) := load_agg (ex3.keep _ _ gbs) (by simp [seg])
      have taken : ∀ (H4 : Heap), Ext H3 H4 → H4.next ≤ H3.next + 1 → edT L q.1 = true → ∃ v' H5, appendA 2 16 (H4.push (.cells (pairc (upE q.1)))) v3 (.slc H4.next 0 1 2 1 true) = some (v', H5) ∧ ∀ τ', Tm τ' [(1, .ptr H.next 0), (3, v'), (8, .ptr H1.next 0)] → Pe1 Hs H5 L E v' (T ++ [upE q.1]) om H.next vF H1.next (i :: seen) τ' := by
        intro H4 e4 n4 ht
        have ex4 := ex3.trans e4
        have hTl : T.length ≤ 1000000000 := by
          have := perm.length_eq
          rw [List.length_map] at this
          have h2 := List.length_filter_le (edT L) ((came E seen).map (·.1))
          rw [List.length_map] at h2
          have h3 : (came E seen).length ≤ seen.length := List.length_filterMap_le _ _
          have h4 : seen.length ≤ E.length := by
            have hsub : seen ⊆ List.range E.length := fun x hx => List.mem_range.2 (lt x hx)
            have := List.Nodup.length_le_of_subset nd hsub
            simpa using this
          omega
        obtain ⟨v', H5, a1, a2, a3, a4⟩ := (mine.ext (e3.trans e4)).app1 pairc_len (by omega) pairc_one (bytes := 16) ex4.wf ex4.next (upE q.1) (by omega)
        refine ⟨v', H5, a1, fun τ' ht' => ⟨ext_fr ws ex4 a3 (fun p hp => mine.new p (by simpa using hp)), a2, ?_, ?_, nd', lt', ht'⟩⟩
        · rw [hcame, List.map_cons, List.filter_cons, if_pos ht, List.map_cons]
          exact (List.perm_append_singleton _ _).trans (perm.cons _)
        · have := append_next a1
          rw [next_push] at this
          rw [List.length_cons]; omega
      have skip : ∀ (H4 : Heap), Ext H3 H4 → H4.next ≤ H3.next + 1 → edT L q.1 = false → ∀ τ', Tm τ' [(1, .ptr H.next 0), (3, v3), (8, .ptr H1.next 0)] → Pe1 Hs H4 L E v3 T om H.next vF H1.next (i :: seen) τ' := by
        intro H4 e4 n4 ht τ' ht'
        refine ⟨ex3.trans e4, mine.ext (e3.trans e4), ?_, ?_, nd', lt', ht'⟩
        · rw [hcame, List.map_cons, List.filter_cons, if_neg (by rw [ht]; simp)]; exact perm
        · rw [List.length_cons]; omega
      have f2 : ∀ (e : Opd → AV) (a b : Int), fillV e [.int .i64 0, .int .i64 0] 0 2 (.agg [.int .i64 a, .int .i64 b]) [] = some [.int .i64 a, .int .i64 b] := fun e a b => by rw [fillV_2 rfl rfl]; simp [setSeg]
      by_cases c : q.1.1 < q.1.2
      · have ht : edT L q.1 = true := by simp [edT, c]
        have hu : upE q.1 = q.1 := by unfold upE; rw [if_pos c]
        have c' : ¬ q.1.2 < q.1.1 := by omega
        obtain ⟨v', H5, a1, a2⟩ := taken H3 (Ext.refl e3.wf) (by omega) ht
        have a1' : appendA 2 16 (H3.push (.cells [.int .i64 q.1.1, .int .i64 q.1.2])) v3 (.slc H3.next 0 1 2 1 true) = some (v', H5) := by rw [hu] at a1; exact a1
        simp [entc, st, lp1, lp2, c, c', t3, maxA, f2, a1']
        exact ⟨v', _, a2 _ (by simp [t1, t8])⟩
      · have hg3 := ex3.keep _ _ gms
        have c' : q.1.2 < q.1.1 := by omega
        have hu : upE q.1 = (q.1.2, q.1.1) := by unfold upE; rw [if_neg c]
        simp [entc, st, lp1, lp2, c, t1, lb]
        refine (left58n h58 e3.wf (s := (q.1.2, q.1.1)) hg3).mono ?_
        rintro _ H4 ⟨rfl, e4, n4⟩
        have hlk := look_lt hp (q.1.2, q.1.1)
        rw [hL] at hlk
        have lp1' := load_ext lp1 e4
        have lp2' := load_ext lp2 e4
        by_cases d : (q.1.2, q.1.1) ∈ L
        · have h0 : ¬ lookE E (q.1.2, q.1.1) < 0 := fun r => hlk.1 r d
          have ht : edT L q.1 = false := by simp [edT, c, rev, d]
          simp [h0]
          exact ⟨v3, T, skip H4 e4 (by omega) ht _ (by simp [t1, t3, t8])⟩
        · have h0 : lookE E (q.1.2, q.1.1) < 0 := hlk.2 d
          have ht : edT L q.1 = true := by simp [edT, c, rev, d]
          obtain ⟨v', H5, a1, a2⟩ := taken H4 e4 (by omega) ht
          have a1' : appendA 2 16 (H4.push (.cells [.int .i64 q.1.2, .int .i64 q.1.1])) v3 (.slc H4.next 0 1 2 1 true) = some (v', H5) := by rw [hu] at a1; exact a1
          simp [h0, t3, lp1', lp2', maxA, c, c', f2, a1']
          exact ⟨v', _, a2 _ (by simp [t1, t8])⟩
  · rintro seen τ H2 ⟨v3, T, ⟨ex, mine, perm, nx, nd, lt, t⟩⟩ hall
    simp at t
    obtain ⟨t1, t3, t8⟩ := t
    rw [List.length_map] at hall
    have hca := came_all nd lt hall
    have hperm : T.Perm (edL L) := by
      refine perm.trans ?_
      unfold edL
      rw [← hL]
      exact ((hca.map _).filter _).map _
    have hsT : srtS T = edS L := by rw [← hsrt]; exact srtB_congr stoS hperm
    have hTl : T.length = (edS L).length := by rw [← hsT]; exact (srtB_len T).symm
    have hTb : T.length ≤ 1000000000 := by
      have h1 := hperm.length_eq
      have h2 := List.length_filter_le (edT L) L
      have h3 : L.length = E.length := by rw [← hL, List.length_map]
      have h4 : (edL L).length = (L.filter (edT L)).length := by unfold edL; rw [List.length_map]
      omega
    have hsl : seen.length ≤ E.length := by
      have := hca.length_eq
      have h2 : (came E seen).length = seen.length := by
        have hs : ∀ (l : List Nat), (∀ i, i ∈ l → i < E.length) → (came E l).length = l.length := by
          intro l
          induction l with
          | nil => intro _; rfl
          | cons i l ih =>
            intro h
            rw [came_cons (List.getElem?_eq_getElem (h i (by simp))), List.length_cons, List.length_cons, ih fun j hj => h j (List.mem_cons_of_mem _ hj)]
        exact hs seen lt
      omega
    -- the floor comes back
    have hfl : H1.floor = H.floor := f1
    generalize hH3 : ({ H2 with floor := H1.floor } : Heap) = H3
    have n3 : H3.next = H2.next := by rw [← hH3]
    have fl3 : H3.floor = H.floor := by rw [← hH3]; exact f1
    have g3 : ∀ o, H3.get o = H2.get o := fun o => by rw [← hH3]; rfl
    have hold : ∀ o x, H.get o = some x → H3.get o = some x := fun o x q => by rw [g3]; exact ex.keep _ _ (gs _ _ (e1.keep _ _ q))
    have w3 : H3.Wf := ⟨by have := ex.next; omega, fun o ho => by rw [g3]; exact ex.wf.2 o (by omega)⟩
    have nxb : H3.next ≤ n := by show _ ≤ H.next + 2 + 4 * E.length; omega
    simp [t3]
    rcases mine.ow with ⟨rfl, hT0⟩ | ⟨o1, rfl, hT1, hT2, hT3⟩
    · refine (sort85n rfl).mono ?_
      rintro _ H3 ⟨rfl, rfl⟩
      have he : edS L = [] := by rw [hT0] at hTl; exact List.length_eq_zero_iff.1 hTl.symm
      simp [t3]
      have ev' : v = .nils := if_pos he
      have eH : H' = { H with next := n + 1 } := if_pos he
      rw [ev', eH]
      exact Outs.same fl3.symm (by show H3.next ≤ n + 1; omega) (fun o ho => hw.2 o (by have : n + 1 ≤ o := ho; omega)) (fun o x q => hold o x q)
    · have hoi : H.next ≤ o1 := by have := mine.new o1 rfl; omega
      have hT2' : H3.get o1 = some (.cells (T.flatMap pairc)) := by rw [g3]; exact hT2
      have ho1 : o1 < H3.next := w3.lt hT2'
      refine (sort85 rfl hT2' (by omega) hT1 (by omega)).mono ?_
      rintro _ _ ⟨rfl, rfl⟩
      have he : edS L ≠ [] := fun q => hT1 (List.length_eq_zero_iff.1 (by rw [hTl, q]; rfl))
      simp [t3, hsT, hTl]
      have eH : H' = ({ H with next := n } : Heap).push (.cells ((edS L).flatMap pairc)) := if_neg he
      have ev' : v = .slc n 0 (edS L).length 2 (edS L).length false := if_neg he
      rw [eH, ev']
      refine ⟨n, 1, fun _ => o1, .slc 0 _ _ _ _ _ (by omega), fl3.symm, nxb, Nat.le_refl _, fun o ho => ?_, fun i hi => ?_, fun i j hi hj _ => by omega, fun o x ho hx => ?_, fun i hi => by show H3.floor ≤ o1; omega⟩
      · rw [get_pushN, if_neg (by show ¬ o = n; omega)]
        exact hw.2 o (by omega)
      · have : i = 0 := by omega
        subst this
        refine ⟨_, _, get_setH.trans (if_pos rfl), get_pushN.trans (if_pos rfl), rfl, fun j a b ha hb => ?_⟩
        rw [ha] at hb; cases hb; exact .same a
      · rw [get_pushN, if_neg (by show ¬ o = n; omega)] at hx
        have hx' : H.get o = some x := hx
        have := hw.lt hx'
        refine ⟨fun i _ => by show o ≠ o1; omega, ?_⟩
        rw [get_setH, if_neg (by omega)]
        exact hold o x hx'
def K57 (args : List AV) (H : Heap) (v : AV) (H' : Heap) : Prop :=
  (∀ (om : Nat) (vF : AV) (E : List Ent), args = [.agg [.map om, vF]] → H.get om = some (.map (E.map entc)) → H.Wf → Rw 2 pairc H' v (edS (E.map (·.1))) ∧ Ext H H') ∧ (args = [.agg [.nilm, .nils]] → v = .nils ∧ Ext H H')
theorem edges_wp0 (hw : H.Wf) : ∃ v H', WpN FS N57.body (enterEnv 0 [.agg [.nilm, .nils]] .leaf) H (finQ N57.results fun r H1 => Outs r H1 v H') ∧ (∀ o, o < H.floor → H'.get o = H.get o) ∧ v = .nils ∧ Ext H H' := by
  have e1 := Ext.push hw (.cells [.nilm, .nils])
  have g1 := (push_new hw (.cells [.nilm, .nils])).1
  have hn : H.next ≤ H.next + 2 := by omega
  refine ⟨.nils, { H with next := H.next + 2 }, ?_, fun o ho => rfl, rfl, ⟨rfl, hn, fun _ _ e => e, ⟨Nat.le_trans hw.1 hn, fun o ho => hw.2 o (Nat.le_trans hn ho)⟩⟩⟩
  have l1 : loadA (H.push (.cells [.nilm, .nils])) none (.ptr H.next 0) = some .nilm := load_get g1 rfl
  have e2 := Ext.push e1.wf .dead
  have hnx : ((H.push (.cells [.nilm, .nils])).push .dead).next = H.next + 2 := rfl
  have hfl : ((H.push (.cells [.nilm, .nils])).push .dead).floor = H.floor := rfl
  have hk := (e1.trans e2).keep
  simp [N57]
  rw [WpN_rng]
  unfold RngW
  simp [l1]
  generalize ((H.push (.cells [.nilm, .nils])).push .dead) = H2 at hnx hfl hk
  refine (sort85n rfl).mono ?_
  rintro _ _ ⟨rfl, rfl⟩
  simp
  exact Outs.same hfl.symm (by rw [hnx]; exact Nat.le_refl _) (fun o ho => hw.2 o (by have : H.next + 2 ≤ o := ho; omega)) (fun o x q => hk o x q)
theorem ents_inj : ∀ {A B : List Ent}, A.map entc = B.map entc → A = B
  | [], [], _ => rfl
  | [], _ :: _, h => by simp at h
  | _ :: _, [], h => by simp at h
  | a :: A, b :: B, h => by
    simp only [List.map_cons, List.cons.injEq, entc, Prod.mk.injEq, AV.agg.injEq, AV.int.injEq, pairc, and_true, true_and] at h
    obtain ⟨⟨⟨h1, h2⟩, h3⟩, h4⟩ := h
    rw [ents_inj h4, Prod.ext (Prod.ext h1 h2) h3]
theorem good57 {om : Nat} {vF : AV} {E : List Ent} (hw : H.Wf) (hg : H.get om = some (.map (E.map entc))) (hv : vF.one = true) (hvc : vF.cells = [vF]) (hp : ∀ q, q ∈ E → 0 ≤ q.2) (hn : (E.map (·.1)).Nodup) (hd : ∀ s, s ∈ E.map (·.1) → s.1 ≠ s.2) (hl : E.length ≤ 1000000000) :
    ∃ v H', AI.Good Try.prog 57 [.agg [.map om, vF]] H v H' ∧ K57 [.agg [.map om, vF]] H v H' := by
  obtain ⟨v, H', h1, h2, h3, h4⟩ := edges_wp hw hg hv hvc hp hn hd hl
  refine ⟨v, H', good_ofM (FT := FS) (fun G => FS_ok) okN57 (by show 1 ≤ 45; omega) h2 h1, ?_⟩
  refine ⟨?_, fun ha => by simp at ha⟩
  intro om' vF' E' ha hg' _
  simp only [List.cons.injEq, AV.agg.injEq, AV.map.injEq, and_true] at ha
  obtain ⟨rfl, rfl⟩ := ha
  rw [hg] at hg'
  have := ents_inj (AObj.map.inj (Option.some.inj hg'))
  subst this
  exact ⟨h3, h4⟩
theorem good57n (hw : H.Wf) : ∃ v H', AI.Good Try.prog 57 [.agg [.nilm, .nils]] H v H' ∧ K57 [.agg [.nilm, .nils]] H v H' := by
  obtain ⟨v, H', h1, h2, h3, h4⟩ := edges_wp0 hw
  exact ⟨v, H', good_ofM (FT := FS) (fun G => FS_ok) okN57 (by show 1 ≤ 45; omega) h2 h1, fun om vF E ha => by simp at ha, fun _ => ⟨h3, h4⟩⟩
end
end Go.Proofs.Ytcepchipgjpkhaa
