/- The table with all that is told, and the program's edges, sides, counts and rims of faces. No claim by itself. -/
import Derived.Test.YtcepchipgjpkhaaF4
namespace Go.Proofs.Ytcepchipgjpkhaa
open Go Go.AI
noncomputable def FZ (f : Nat) : Option FnD := if f = 57 then some (.ext (pickG Try.prog 57 K57)) else if f = 30 then some (.ext (pickG Try.prog 30 K30)) else FS f
theorem FZ_ok {G : World → Prop} : TableOk Try.prog G FZ := by
  intro f
  unfold FZ
  split
  · rename_i h; subst h; exact ⟨fun af e => (by cases e), fun g e => (by cases e; exact pick_ok)⟩
  split
  · rename_i h; subst h; exact ⟨fun af e => (by cases e), fun g e => (by cases e; exact pick_ok)⟩
  · exact FS_ok f
section
variable {H : Heap} {FT : Nat → Option FnD}
/-- The functions of the faces, in a table. -/
structure FacesT (FT : Nat → Option FnD) : Prop where
  h56 : FT 56 = some (.code A56)
  h91 : FT 91 = some (.code A91)
  h114 : FT 114 = some (.code A114)
  h63 : FT 63 = some (.code A63)
  h58 : FT 58 = some (.code A58)
  h20 : FT 20 = some (.code A20)
  h21 : FT 21 = some (.code A21)
  h22 : FT 22 = some (.code A22)
  h23 : FT 23 = some (.code A23)
  h33 : FT 33 = some (.code A33)
  h57 : FT 57 = some (.ext (pickG Try.prog 57 K57))
  h30 : FT 30 = some (.ext (pickG Try.prog 30 K30))
theorem facesT : FacesT FZ := ⟨rfl, rfl, rfl, rfl, rfl, rfl, rfl, rfl, rfl, rfl, rfl, rfl⟩
theorem edges57 (T : FacesT FT) {om : Nat} {vF : AV} {E : List Ent} (hw : H.Wf) (hg : H.get om = some (.map (E.map entc))) (hv : vF.one = true) (hvc : vF.cells = [vF]) (hp : ∀ q, q ∈ E → 0 ≤ q.2) (hn : (E.map (·.1)).Nodup) (hd : ∀ s, s ∈ E.map (·.1) → s.1 ≠ s.2) (hl : E.length ≤ 1000000000) :
    Cp FT 57 [.agg [.map om, vF]] H (fun r H' => Rw 2 pairc H' r (edS (E.map (·.1))) ∧ Ext H H') := by
  obtain ⟨v, H', g, k⟩ := good57 hw hg hv hvc hp hn hd hl
  exact (Cp_pick T.h57 g k).mono fun r H1 q => q.1 om vF E rfl hg hw
theorem edges57n (T : FacesT FT) (hw : H.Wf) : Cp FT 57 [.agg [.nilm, .nils]] H (fun r H' => r = .nils ∧ Ext H H') := by
  obtain ⟨v, H', g, k⟩ := good57n hw
  exact (Cp_pick T.h57 g k).mono fun r H1 q => q.2 rfl
theorem rims30 (T : FacesT FT) {n : Int} {vF : AV} {F : List (List Int)} (hF : Gd H vF F) (hs : Fsz F) (hw : H.Wf) :
    Cp FT 30 [.int .i64 n, vF] H (fun r H' => rimsR n F H' r ∧ Ext H H') := by
  obtain ⟨v, H', g, k⟩ := good30 (n := n) hF hs hw
  exact (Cp_pick T.h30 g k).mono fun r H1 q => q n vF F rfl hF hs hw
theorem tab_len (F : List (List Int)) : (tabF 0 F).length = F.flatten.length := by
  have h1 := congrArg List.length (tabF_fst 0 F)
  rw [List.length_map, flat_edges] at h1
  exact h1
theorem edges21 (T : FacesT FT) {vF : AV} {F : List (List Int)} (hF : Gd H vF F) (hs : Fsz F) (hw : H.Wf) :
    Cp FT 21 [vF] H (fun r H' => Rw 2 pairc H' r (if chkF 1048576 F = 0 then edS (allE F) else []) ∧ Ext H H') := by
  refine Cp_code A21 T.h21 rfl ?_
  simp [A21]
  refine (known29 T.h56 T.h91 T.h114 T.h63 T.h58 (n := 1048576) hF hs.row hs.len hw).mono ?_
  rintro _ H1 ⟨⟨m, rfl, hm2, hm3, hm4, hm5⟩, e1⟩
  obtain ⟨H2, st, g2, e2, n2⟩ := store_new e1.wf (z := [.nilm, .nils]) (n := 2) (x := m) (cs := m.cells) rfl hm2 rfl hm3
  have e02 := e1.trans e2
  simp [st]
  by_cases z : chkF 1048576 F = 0
  · obtain ⟨om, rfl, gom⟩ := hm4 z
    have l2 : loadA H2 (some 2) (.ptr H1.next 0) = some (.agg [.map om, vF]) := load_agg g2 (by simp [seg])
    have hone := hF.one
    have hE := tabF_fst 0 F
    have hz := chkF_zero z
    simp [l2, z]
    refine (edges57 T e2.wf (e2.keep _ _ gom) hone.1 hone.2 (tabF_nonneg 0 F) (by rw [hE]; exact hz.2.2) (fun s h => by rw [hE] at h; exact allE_ends z h) (by rw [tab_len]; exact hs.tot)).mono ?_
    rintro v H3 ⟨hv, e3⟩
    rw [hE] at hv
    simp
    exact ⟨hv, e02.trans e3⟩
  · have := hm5 z
    subst this
    have l2 : loadA H2 (some 2) (.ptr H1.next 0) = some (.agg [.nilm, .nils]) := load_agg g2 (by simp [seg, AV.cells])
    simp [l2, z]
    refine (edges57n T e2.wf).mono ?_
    rintro _ H3 ⟨rfl, e3⟩
    simp
    exact ⟨⟨.inl ⟨rfl, rfl⟩, rfl⟩, e02.trans e3⟩
theorem left58z (h58 : FT 58 = some (.code A58)) (hw : H.Wf) {a b : Int} : Cp FT 58 [.agg [.nilm], .int .i64 a, .int .i64 b] H (fun r H' => r = .int .i64 (-1) ∧ Ext H H') := by
  refine Cp_code A58 h58 rfl ?_
  have e0 := Ext.push hw (.cells [.nilm])
  have g0 := (push_new hw (.cells [.nilm])).1
  have l0 : loadA (H.push (.cells [.nilm])) none (.ptr H.next 0) = some .nilm := load_get g0 rfl
  have hr : lookA (H.push (.cells [.nilm])) (.flat [.int, .int]) .nilm (.agg [.int .i64 a, .int .i64 b]) = some none := by
    unfold lookA
    have := plain_pair (a, b)
    unfold pairc at this
    rw [this]; rfl
  simp [A58, l0, hr, lookV]
  exact e0
theorem left22 (T : FacesT FT) {vF : AV} {F : List (List Int)} {a b : Int} (hF : Gd H vF F) (hs : Fsz F) (hw : H.Wf) :
    Cp FT 22 [vF, .int .i64 a, .int .i64 b] H (fun r H' => r = .int .i64 (if chkF 1048576 F = 0 then leftF F (a, b) else -1) ∧ Ext H H') := by
  refine Cp_code A22 T.h22 rfl ?_
  simp [A22]
  refine (known29 T.h56 T.h91 T.h114 T.h63 T.h58 (n := 1048576) hF hs.row hs.len hw).mono ?_
  rintro _ H1 ⟨⟨m, rfl, hm2, hm3, hm4, hm5⟩, e1⟩
  obtain ⟨H2, st, g2, e2, n2⟩ := store_new e1.wf (z := [.nilm, .nils]) (n := 2) (x := m) (cs := m.cells) rfl hm2 rfl hm3
  have e02 := e1.trans e2
  simp [st]
  by_cases z : chkF 1048576 F = 0
  · obtain ⟨om, rfl, gom⟩ := hm4 z
    have l2 : loadA H2 (some 1) (.ptr H1.next 0) = some (.agg [.map om]) := load_agg g2 (by simp [seg])
    simp [l2, z]
    refine (left58 T.h58 e2.wf (s := (a, b)) (e2.keep _ _ gom)).mono ?_
    rintro _ H3 ⟨rfl, e3⟩
    rw [look_left]
    simp
    exact e02.trans e3
  · have := hm5 z
    subst this
    have l2 : loadA H2 (some 1) (.ptr H1.next 0) = some (.agg [.nilm]) := load_agg g2 (by simp [seg, AV.cells])
    simp [l2, z]
    refine (left58z T.h58 e2.wf).mono ?_
    rintro _ H3 ⟨rfl, e3⟩
    simp
    exact e02.trans e3
/-! ### How many places -/
def plc (l : List Int) : List (Int × Bool) := (firsts l).map fun a => (a, true)
theorem plc_at {l : List Int} {a : Int} : (∃ q, atK (plc l) a = some q) ↔ a ∈ firsts l := by
  unfold atK plc
  constructor
  · rintro ⟨q, hq⟩
    have h1 := List.mem_of_find?_eq_some hq
    have h2 := List.find?_some hq
    obtain ⟨b, hb, rfl⟩ := List.mem_map.1 h1
    simp only [decide_eq_true_eq] at h2
    rw [← h2]; exact hb
  · intro h
    cases q : ((firsts l).map fun a => (a, true)).find? (fun e => decide (e.1 = a)) with
    | none =>
      have := List.find?_eq_none.1 q (a, true) (List.mem_map.2 ⟨a, h, rfl⟩)
      simp at this
    | some x => exact ⟨x, rfl⟩
theorem plc_put {o : Nat} {l : List Int} {a : Int} (hf : H.floor ≤ o) (h : H.get o = some (.map ((plc l).map (entK boolV)))) :
    mapUpdA H (.prim .int) (.map o) (.int .i64 a) (.bool true) = some (undefA, H.set o (.map ((plc (l ++ [a])).map (entK boolV)))) := by
  by_cases c : a ∈ firsts l
  · obtain ⟨i, hi, hu⟩ := updA_old (enc := boolV) (x := true) hf h (plc_at.2 c)
    have hs : (plc l).set i (a, true) = plc (l ++ [a]) := by
      unfold plc at hi ⊢
      rw [firsts_snoc, if_pos c]
      rw [List.getElem?_map] at hi
      apply List.ext_getElem?
      intro j
      rw [List.getElem?_set]
      split
      · rename_i e
        subst e
        split
        · cases hg : (firsts l)[i]? with
          | none => rw [hg] at hi; cases hi
          | some b =>
            rw [hg] at hi
            cases hi
            rw [List.getElem?_map, hg]; rfl
        · rename_i e; rw [List.getElem?_eq_none (by omega)]
      · rfl
    rw [← hs]; exact hu
  · have hn : atK (plc l) a = none := by
      cases q : atK (plc l) a with
      | none => rfl
      | some x => exact absurd (plc_at.1 ⟨x, q⟩) c
    have hu := updA_new (enc := boolV) (x := true) hf h hn
    have hs : plc l ++ [(a, true)] = plc (l ++ [a]) := by
      unfold plc
      rw [firsts_snoc, if_neg c, List.map_append]; rfl
    rw [← hs]; exact hu
structure Pc1 (Hb H' : Heap) (vF : AV) (F : List (List Int)) (o5 op : Nat) (τ : Env) (i m : Nat) : Prop where
  fr : Fr [op] Hb H'
  gm : H'.get op = some (.map ((plc (F.take i).flatten).map (entK boolV)))
  le : i ≤ F.length
  hm : m = F.length - i
  t : Tm τ [(0, vF), (5, .ptr o5 0), (7, .map op), (20, vF), (21, .int .i64 F.length), (22, .int .i64 i)]
structure Pc2 (Hb H' : Heap) (vF vr : AV) (F : List (List Int)) (f : List Int) (o5 op : Nat) (τ : Env) (i j m : Nat) : Prop where
  fr : Fr [op] Hb H'
  gm : H'.get op = some (.map ((plc ((F.take i).flatten ++ f.take j)).map (entK boolV)))
  le : j ≤ f.length
  hm : m = f.length - j
  t : Tm τ [(0, vF), (5, .ptr o5 0), (7, .map op), (20, vF), (21, .int .i64 F.length), (22, .int .i64 i), (26, vr), (27, .int .i64 f.length), (28, .int .i64 j)]
theorem lenMap {e : Opd → AV} {o : Nat} {es : List (AV × AV)} {x : Opd} (he : e x = .map o) (h : H.get o = some (.map es)) : plainOp e H (.len .map x) = lft H (some (.int .i64 es.length)) := by
  show (match e x with | .nilm => some (aInt 0, H) | .map o => (match H.get o with | some (.map es) => some (aInt es.length, H) | _ => none) | _ => none) = _
  rw [he]
  simp only [h]
  rfl
theorem count23 (T : FacesT FT) {vF : AV} {F : List (List Int)} (hF : Gd H vF F) (hs : Fsz F) (hw : H.Wf) :
    Cp FT 23 [vF] H (fun r H' => r = (if chkF 1048576 F = 0 then .tup [.int .i64 (firsts F.flatten).length, .int .i64 (edS (allE F)).length, .int .i64 F.length] else .tup [.int .i64 0, .int .i64 0, .int .i64 0]) ∧ Ext H H') := by
  refine Cp_code A23 T.h23 rfl ?_
  simp [A23]
  refine (known29 T.h56 T.h91 T.h114 T.h63 T.h58 (n := 1048576) hF hs.row hs.len hw).mono ?_
  rintro _ H1 ⟨⟨m, rfl, hm2, hm3, hm4, hm5⟩, e1⟩
  obtain ⟨H2, st, g2, e2, n2⟩ := store_new e1.wf (z := [.nilm, .nils]) (n := 2) (x := m) (cs := m.cells) rfl hm2 rfl hm3
  have e02 := e1.trans e2
  have hl := hs.len
  by_cases z : chkF 1048576 F = 0
  · obtain ⟨om, rfl, gom⟩ := hm4 z
    have hF2 := hF.ext e02
    have e3 := Ext.push e2.wf (.map [])
    have g3 := (push_new e2.wf (.map [])).1
    simp [z, st, hF2.len]
    generalize hH3 : H2.push (.map []) = H3 at e3 g3
    have e03 := e02.trans e3
    have hF3 := hF2.ext e3
    refine Wp_loop (fun m τ H' => ∃ i, Pc1 H3 H' vF F H1.next H2.next τ i m) ?_ F.length _ _ ⟨0, ⟨Fr.refl e3.wf, by simpa [plc, firsts] using g3, by omega, by omega, by simp⟩⟩
    rintro m τ H4 ⟨i, ⟨fr, gm, hi, rfl, t⟩⟩
    simp at t
    obtain ⟨t0, t5, t7, t20, t21, t22⟩ := t
    have hnx := e02.next
    have ex4 : Ext H H4 := ext_fr hw e03 fr (fun p hp => by simp at hp; omega)
    have hF4 := hF.ext ex4
    by_cases q : i < F.length
    · obtain ⟨p, r, f, a1, a2, a3, a4⟩ := hF4.idx (k := .i64) (i := (i : Int)) (by omega) (by omega)
      rw [Int.toNat_natCast] at a1
      have hfl := hs.row f (List.mem_of_getElem? a1)
      have wi : IntKind.i64.wrap ((i : Int) + 1) = (i : Int) + 1 := wrap64 (by omega) (by omega)
      simp [q, t20, t21, t22, a2, a3, a4.len]
      refine Wp_loop (fun m τ H' => ∃ j, Pc2 H3 H' vF r F f H1.next H2.next τ i j m) ?_ f.length _ _ ⟨0, ⟨fr, by simpa using gm, by omega, by omega, by simp [t0, t5, t7, t20, t21, t22]⟩⟩
      rintro m τ H5 ⟨j, ⟨fr, gm, hj, rfl, t⟩⟩
      simp at t
      obtain ⟨t0, t5, t7, t20, t21, t22, t26, t27, t28⟩ := t
      have ex5 : Ext H H5 := ext_fr hw e03 fr (fun p hp => by simp at hp; omega)
      by_cases d : j < f.length
      · have hF5 := hF.ext ex5
        obtain ⟨p', r', f', b1, b2, b3, b4⟩ := hF5.idx (k := .i64) (i := (i : Int)) (by omega) (by omega)
        rw [Int.toNat_natCast, a1] at b1
        cases b1
        rw [a2] at b2; cases b2
        obtain ⟨p2, r2, f2, c1, c2, c3, c4⟩ := hF.idx (k := .i64) (i := (i : Int)) (by omega) (by omega)
        rw [Int.toNat_natCast, a1] at c1
        cases c1
        rw [a2] at c2; cases c2
        have er := load_ext c3 ex4
        rw [a3] at er; cases er
        have er' := load_ext c3 ex5
        rw [b3] at er'; cases er'
        obtain ⟨pk, x, d1, d2, d3⟩ := Ints.idx (b4.sl i64c_len) (k := .i64) (i := (j : Int)) (by omega) (by omega)
        rw [Int.toNat_natCast] at d1
        have wj : IntKind.i64.wrap ((j : Int) + 1) = (j : Int) + 1 := wrap64 (by omega) (by omega)
        have hfl5 : H5.floor ≤ H2.next := by rw [fr.floor, e03.floor]; have := hw.1; omega
        have hput := plc_put (a := x) hfl5 gm
        rw [List.append_assoc] at hput
        have hset : Fr [H2.next] H5 (H5.set H2.next (.map ((plc ((F.take i).flatten ++ (f.take j ++ [x]))).map (entK boolV)))) := Fr.set fr.wf (fr.wf.lt gm) _
        simp [d, t7, t26, t27, t28, d2, d3, hput, wj]
        refine ⟨_, by omega, j + 1, ⟨fr.trans e3.wf hset (fun o r => .inl r), ?_, by omega, rfl, by simp [t0, t5, t7, t20, t21, t22, t26, t27]⟩⟩
        rw [List.take_add_one, d1]
        exact get_setH.trans (if_pos rfl)
      · have hjl : j = f.length := by omega
        subst hjl
        rw [List.take_length] at gm
        simp [t27, t28, t22, wi]
        refine ⟨_, by omega, i + 1, ⟨fr, ?_, by omega, rfl, by simp [t0, t5, t7, t20, t21]⟩⟩
        rw [List.take_add_one, a1]
        simpa using gm
    · have hil : i = F.length := by omega
      subst hil
      rw [List.take_length] at gm
      have hone := hF.one
      have hE := tabF_fst 0 F
      have hz := chkF_zero z
      have g24 : H4.get H1.next = some (.cells [.map om, vF]) := fr.keep _ _ (by have := e2.wf.lt g2; simp; omega) (e3.keep _ _ g2)
      have gom4 : H4.get om = some (.map ((tabF 0 F).map entc)) := fr.keep _ _ (by have := e1.wf.lt gom; have := e2.next; simp; omega) (e3.keep _ _ (e2.keep _ _ gom))
      have l5 : loadA H4 (some 2) (.ptr H1.next 0) = some (.agg [.map om, vF]) := load_agg g24 (by simp [seg])
      have hpl : ((plc F.flatten).map (entK boolV)).length = (firsts F.flatten).length := by unfold plc; simp
      simp [t20, t21, t22]
      rw [lenMap (o := H2.next) (by simp [t7]) gm]
      simp [t5, l5, hpl]
      refine (edges57 T fr.wf gom4 hone.1 hone.2 (tabF_nonneg 0 F) (by rw [hE]; exact hz.2.2) (fun s h => by rw [hE] at h; exact allE_ends z h) (by rw [tab_len]; exact hs.tot)).mono ?_
      rintro v H5 ⟨hv, e5⟩
      rw [hE] at hv
      have hF5 := hF4.ext e5
      simp [hv.len, t0, hF5.len]
      exact ⟨rfl, ex4.trans e5⟩
  · simp [z, st]
    exact e02
end
end Go.Proofs.Ytcepchipgjpkhaa
