/- What the statements on faces ask: rows that are the same, few faces, the chapter's example. No claim by itself. -/
import Derived.Test.YtcepchipgjpkhaaF6
import Derived.Test.YtcepchipgjpkhaaG4
namespace Go.Proofs.Ytcepchipgjpkhaa
open Go Go.AI
section
variable {H : Heap} {FT : Nat → Option FnD}
structure Sm1 {α : Type} (H H' : Heap) (v w : AV) (a b : List α) (τ : Env) (i m : Nat) : Prop where
  eq : H = H'
  le : i ≤ a.length
  hm : m = a.length - i
  ok : a.take i = b.take i
  t : Tm τ [(0, v), (1, w), (5, .int .i64 i)]
theorem take_same {α : Type} {a b : List α} (_hl : a.length = b.length) {i : Nat} {x : α} (h : a.take i = b.take i) (ha : a[i]? = some x) (hb : b[i]? = some x) : a.take (i + 1) = b.take (i + 1) := by
  rw [List.take_add_one, List.take_add_one, h, ha, hb]
theorem same32 (h32 : FT 32 = some (.code A32)) {v w : AV} {a b : List Int} (ha : Ints H v a) (hb : Ints H w b) (hl : a.length ≤ 1000000000) :
    Cp FT 32 [v, w] H (fun r H' => r = .bool (decide (a = b)) ∧ H' = H) := by
  refine Cp_code A32 h32 rfl ?_
  simp [A32, ha.len, hb.len]
  by_cases e : a.length = b.length
  · have e' : (a.length : Int) = b.length := by omega
    simp [e']
    rw [← e]
    refine Wp_loop (fun m τ H' => ∃ i, Sm1 H H' v w a b τ i m) ?_ a.length _ _ ⟨0, ⟨rfl, by omega, by omega, by simp, by simp⟩⟩
    rintro m τ _ ⟨i, ⟨rfl, hi, rfl, ok, t⟩⟩
    simp at t
    obtain ⟨t0, t1, t5⟩ := t
    by_cases c : i < a.length
    · obtain ⟨p, x, a1, a2, a3⟩ := Ints.idx ha (k := .i64) (i := (i : Int)) (by omega) (by omega)
      obtain ⟨q, y, b1, b2, b3⟩ := Ints.idx hb (k := .i64) (i := (i : Int)) (by omega) (by omega)
      rw [Int.toNat_natCast] at a1 b1
      by_cases d : x = y
      · subst d
        have wi : IntKind.i64.wrap ((i : Int) + 1) = (i : Int) + 1 := wrap64 (by omega) (by omega)
        simp [c, t0, t1, t5, ha.len, a2, a3, b2, b3, wi]
        exact ⟨_, by omega, i + 1, ⟨rfl, by omega, rfl, take_same e ok a1 b1, by simp [t0, t1]⟩⟩
      · have hne : ¬ a = b := fun q => by rw [q, b1] at a1; exact d (Option.some.inj a1).symm
        simp [c, t0, t1, t5, ha.len, a2, a3, b2, b3, d, hne]
    · have hil : i = a.length := by omega
      subst hil
      rw [List.take_length, e, List.take_length] at ok
      simp [t0, t5, ha.len, ok]
  · have e' : ¬ (a.length : Int) = b.length := by omega
    have hne : ¬ a = b := fun q => e (by rw [q])
    simp [e', hne]
theorem same26 (h26 : FT 26 = some (.code A26)) {v w : AV} {a b : List (Int × Int)} (ha : Pairs H v a) (hb : Pairs H w b) (hl : a.length ≤ 1000000000) :
    Cp FT 26 [v, w] H (fun r H' => r = .bool (decide (a = b)) ∧ H' = H) := by
  refine Cp_code A26 h26 rfl ?_
  simp [A26, ha.len, hb.len]
  by_cases e : a.length = b.length
  · have e' : (a.length : Int) = b.length := by omega
    simp [e']
    rw [← e]
    refine Wp_loop (fun m τ H' => ∃ i, Sm1 H H' v w a b τ i m) ?_ a.length _ _ ⟨0, ⟨rfl, by omega, by omega, by simp, by simp⟩⟩
    rintro m τ _ ⟨i, ⟨rfl, hi, rfl, ok, t⟩⟩
    simp at t
    obtain ⟨t0, t1, t5⟩ := t
    by_cases c : i < a.length
    · obtain ⟨p, x, a1, a2, a3, _⟩ := Sl.idx ha (k := .i64) (i := (i : Int)) (by omega) (by omega)
      obtain ⟨q, y, b1, b2, b3, _⟩ := Sl.idx hb (k := .i64) (i := (i : Int)) (by omega) (by omega)
      rw [Int.toNat_natCast] at a1 b1
      have hq : binA .neq (.flat [.int, .int]) (.agg (pairc x)) (.agg (pairc y)) = some (.bool !(decide (x = y))) := by
        show (eqA (.flat [.int, .int]) (.agg (pairc x)) (.agg (pairc y))).map (fun b => AV.bool !b) = _
        rw [cells_pair]; rfl
      by_cases d : x = y
      · subst d
        have wi : IntKind.i64.wrap ((i : Int) + 1) = (i : Int) + 1 := wrap64 (by omega) (by omega)
        simp [c, t0, t1, t5, ha.len, a2, a3, b2, b3, hq, wi]
        exact ⟨_, by omega, i + 1, ⟨rfl, by omega, rfl, take_same e ok a1 b1, by simp [t0, t1]⟩⟩
      · have hne : ¬ a = b := fun q => by rw [q, b1] at a1; exact d (Option.some.inj a1).symm
        simp [c, t0, t1, t5, ha.len, a2, a3, b2, b3, hq, d, hne]
    · have hil : i = a.length := by omega
      subst hil
      rw [List.take_length, e, List.take_length] at ok
      simp [t0, t5, ha.len, ok]
  · have e' : ¬ (a.length : Int) = b.length := by omega
    have hne : ¬ a = b := fun q => e (by rw [q])
    simp [e', hne]
theorem same29 (h29 : FT 29 = some (.code A29)) (h32 : FT 32 = some (.code A32)) {v w : AV} {a b : List (List Int)} (ha : Gd H v a) (hb : Gd H w b) (hl : a.length ≤ 1000000000) (hr : ∀ f, f ∈ a → f.length ≤ 1000000000) :
    Cp FT 29 [v, w] H (fun r H' => r = .bool (decide (a = b)) ∧ H' = H) := by
  refine Cp_code A29 h29 rfl ?_
  simp [A29, ha.len, hb.len]
  by_cases e : a.length = b.length
  · have e' : (a.length : Int) = b.length := by omega
    simp [e']
    rw [← e]
    refine Wp_loop (fun m τ H' => ∃ i, Sm1 H H' v w a b τ i m) ?_ a.length _ _ ⟨0, ⟨rfl, by omega, by omega, by simp, by simp⟩⟩
    rintro m τ _ ⟨i, ⟨rfl, hi, rfl, ok, t⟩⟩
    simp at t
    obtain ⟨t0, t1, t5⟩ := t
    by_cases c : i < a.length
    · obtain ⟨p, x, f, a1, a2, a3, a4⟩ := ha.idx (k := .i64) (i := (i : Int)) (by omega) (by omega)
      obtain ⟨q, y, g, b1, b2, b3, b4⟩ := hb.idx (k := .i64) (i := (i : Int)) (by omega) (by omega)
      rw [Int.toNat_natCast] at a1 b1
      simp [c, t0, t1, t5, ha.len, a2, a3, b2, b3]
      refine (same32 h32 (a4.sl i64c_len) (b4.sl i64c_len) (hr f (List.mem_of_getElem? a1))).mono ?_
      rintro _ _ ⟨rfl, rfl⟩
      by_cases d : f = g
      · subst d
        have wi : IntKind.i64.wrap ((i : Int) + 1) = (i : Int) + 1 := wrap64 (by omega) (by omega)
        simp [t5, wi]
        exact ⟨_, by omega, i + 1, ⟨rfl, by omega, rfl, take_same e ok a1 b1, by simp [t0, t1]⟩⟩
      · have hne : ¬ a = b := fun q => by rw [q, b1] at a1; exact d (Option.some.inj a1).symm
        simp [d, hne]
    · have hil : i = a.length := by omega
      subst hil
      rw [List.take_length, e, List.take_length] at ok
      simp [t0, t5, ha.len, ok]
  · have e' : ¬ (a.length : Int) = b.length := by omega
    have hne : ¬ a = b := fun q => e (by rw [q])
    simp [e', hne]
structure Mn1 (H H' : Heap) (vF : AV) (F : List (List Int)) (c : Nat) (τ : Env) (i m : Nat) : Prop where
  eq : H = H'
  le : i ≤ F.length
  hm : m = F.length - i
  sm : c ≤ 200 → F.length + (F.take i).flatten.length = c
  lo : F.length ≤ c
  t : Tm τ [(0, vF), (3, .int .i64 c), (4, .int .i64 i)]
theorem flat_take {F : List (List Int)} {i : Nat} {f : List Int} (h : F[i]? = some f) : (F.take (i + 1)).flatten.length = (F.take i).flatten.length + f.length := by
  rw [List.take_add_one, h]
  show (F.take i ++ [f]).flatten.length = _
  rw [List.flatten_append, List.length_append]
  simp
/-! ### The chapter's example -/
def F0 : List (List Int) := [[0, 1, 2], [0, 2, 3]]
theorem F0_ok {n : Int} (h : 4 ≤ n) (h2 : n ≤ 1048576) : chkF n F0 = 0 := by
  refine chkF_mk ⟨by omega, h2⟩ (fun f hf => ?_) (by decide)
  have hf : f = [0, 1, 2] ∨ f = [0, 2, 3] := by simpa [F0] using hf
  rcases hf with rfl | rfl
  · exact ⟨by decide, by decide, fun k hk => by simp at hk; omega⟩
  · exact ⟨by decide, by decide, fun k hk => by simp at hk; omega⟩
theorem F0_bad : chkF 2 F0 = 2 := chkF_bad (f := [0, 1, 2]) (by decide) fun q => by have := q.2.2 2 (by decide); omega
theorem F0_sz : Fsz F0 := ⟨fun f hf => by
  have hf : f = [0, 1, 2] ∨ f = [0, 2, 3] := by simpa [F0] using hf
  rcases hf with rfl | rfl <;> decide, by decide, by decide⟩
theorem F0_ed : edS (allE F0) = [(0, 1), (0, 2), (0, 3), (1, 2), (2, 3)] := by decide
theorem F0_fi : (firsts F0.flatten).length = 4 := by decide
theorem F0_rm : rimE (allE F0) = [(0, 1), (1, 2), (2, 3), (3, 0)] := by decide
theorem F0_rims : rimsF (allE F0) = [[0, 1, 2, 3]] := by
  unfold rimsF
  rw [F0_rm]
  have : srtI (keys [(0, 1), (1, 2), (2, 3), (3, 0)]) = [0, 1, 2, 3] := srtB_id stoI (by decide)
  rw [this]
  decide
theorem F0_parts : partsF F0 = [0, 0] := by
  refine (IsParts.is ⟨rfl, fun {i j x y} hi hj => ?_, fun i x hx => ?_⟩).symm
  · have hi' : i < 2 := (List.getElem?_eq_some_iff.1 hi).1
    have hj' : j < 2 := (List.getElem?_eq_some_iff.1 hj).1
    have a01 : Adj F0 0 1 := ⟨[0, 1, 2], [0, 2, 3], (2, 0), rfl, rfl, by decide, by decide⟩
    have z : ∀ {k : Nat} {z : Int}, ([0, 0] : List Int)[k]? = some z → z = 0 := fun h => by simpa using List.mem_of_getElem? h
    refine ⟨fun _ => ?_, fun _ => by rw [z hi, z hj]⟩
    have ci : i = 0 ∨ i = 1 := by omega
    have cj : j = 0 ∨ j = 1 := by omega
    rcases ci with rfl | rfl <;> rcases cj with rfl | rfl
    · exact .refl _
    · exact Con.one a01
    · exact Con.one a01.symm
    · exact .refl _
  · have hi : i < 2 := (List.getElem?_eq_some_iff.1 hx).1
    have ci : i = 0 ∨ i = 1 := by omega
    rcases ci with rfl | rfl
    · cases hx; right; rfl
    · cases hx; left; decide
/-- The functions that the statements on faces reach, in a table. -/
structure LawT (FT : Nat → Option FnD) extends FacesT FT where
  h17 : FT 17 = some (.code A17)
  h18 : FT 18 = some (.code A18)
  h19 : FT 19 = some (.code A19)
  h24 : FT 24 = some (.code A24)
  h25 : FT 25 = some (.code A25)
  h26 : FT 26 = some (.code A26)
  h27 : FT 27 = some (.code A27)
  h28 : FT 28 = some (.code A28)
  h29 : FT 29 = some (.code A29)
  h31 : FT 31 = some (.code A31)
  h32 : FT 32 = some (.code A32)
  h34 : FT 34 = some (.code A34)
  h59 : FT 59 = some (.code A59)
  h60 : FT 60 = some (.code A60)
  h61 : FT 61 = some (.code A61)
theorem lawT : LawT FZ := { facesT with h17 := rfl, h18 := rfl, h19 := rfl, h24 := rfl, h25 := rfl, h26 := rfl, h27 := rfl, h28 := rfl, h29 := rfl, h31 := rfl, h32 := rfl, h34 := rfl, h59 := rfl, h60 := rfl, h61 := rfl }
theorem lit_int {o : Nat} {l : List Int} (hg : H.get o = some (.cells (l.flatMap i64c))) : Rw 1 i64c H (.slc o 0 l.length 1 l.length true) l := rw_lits i64c_len hg
theorem gd_lits {o : Nat} {rs : List OneV} {F : List (List Int)} (hg : H.get o = some (.cells (rs.map (·.1)))) (hl : rs.length = F.length) (hr : ∀ (i : Nat) (r : OneV) (f : List Int), rs[i]? = some r → F[i]? = some f → Rw 1 i64c H r.1 f) : Gd H (.slc o 0 rs.length 1 rs.length true) F := by
  have hfm : rs.flatMap onec = rs.map (·.1) := by rw [← List.flatMap_singleton' (rs.map _), List.flatMap_map]; rfl
  exact ⟨rs, rw_lits onec_len (by rw [hfm]; exact hg), hl, hr⟩
theorem known18 (T : LawT FT) (hw : H.Wf) : Cp FT 18 [] H (fun r H' => r = .bool true ∧ Ext H H') := by
  refine Cp_code A18 T.h18 rfl ?_
  have e1 := Ext.push hw (.cells ([0, 1, 2].flatMap i64c))
  have g1 := (push_new hw (.cells ([0, 1, 2].flatMap i64c))).1
  have e2 := Ext.push e1.wf (.cells ([0, 2, 3].flatMap i64c))
  have g2 := (push_new e1.wf (.cells ([0, 2, 3].flatMap i64c))).1
  generalize hH1 : H.push (.cells ([0, 1, 2].flatMap i64c)) = H1 at e1 g1 e2 g2
  have n1 : H1.next = H.next + 1 := by rw [← hH1]; rfl
  generalize hH2 : H1.push (.cells ([0, 2, 3].flatMap i64c)) = H2 at e2 g2
  have n2 : H2.next = H.next + 2 := by rw [← hH2]; show H1.next + 1 = _; omega
  have e3 := Ext.push e2.wf (.cells [.slc H.next 0 3 1 3 true, .slc H1.next 0 3 1 3 true])
  have g3 := (push_new e2.wf (.cells [.slc H.next 0 3 1 3 true, .slc H1.next 0 3 1 3 true])).1
  have gd : Gd (H2.push (.cells [.slc H.next 0 3 1 3 true, .slc H1.next 0 3 1 3 true])) (.slc H2.next 0 2 1 2 true) F0 := by
    refine gd_lits (rs := [⟨.slc H.next 0 3 1 3 true, rfl⟩, ⟨.slc H1.next 0 3 1 3 true, rfl⟩]) g3 rfl fun i r f a b => ?_
    have hi : i < 2 := (List.getElem?_eq_some_iff.1 a).1
    have ci : i = 0 ∨ i = 1 := by omega
    rcases ci with rfl | rfl
    · cases a; cases b
      exact lit_int (l := [0, 1, 2]) (e3.keep _ _ (e2.keep _ _ g1))
    · cases a; cases b
      exact lit_int (l := [0, 2, 3]) (e3.keep _ _ g2)
  have hH1' : H.push (.cells [.int .i64 0, .int .i64 1, .int .i64 2]) = H1 := hH1
  have hH2' : H1.push (.cells [.int .i64 0, .int .i64 2, .int .i64 3]) = H2 := hH2
  generalize hH3 : H2.push (.cells [.slc H.next 0 3 1 3 true, .slc H1.next 0 3 1 3 true]) = H3 at e3 gd
  have e03 := (e1.trans e2).trans e3
  have hc := F0_ok (n := 1048576) (by omega) (by omega)
  have sg : ∀ (e : Opd → AV) (a b : Int) (r : List (Nat × Nat × Opd)), True := fun _ _ _ _ => trivial
  simp [A18, setSeg, hH1', hH2', hH3]
  refine (rims30 T.toFacesT (n := 4) gd F0_sz e03.wf).mono ?_
  rintro r H4 ⟨hr, e4⟩
  have hr : ∃ v, r = .tup [v, .int .i64 0] ∧ Gd H4 v (rimsF (allE F0)) := by
    rcases hr with ⟨q, _⟩ | ⟨_, q, _⟩ | ⟨_, _, q⟩
    · exact absurd (F0_ok (by omega) (by omega)) q
    · exact absurd (by rw [F0_rm]; decide) q
    · exact q
  obtain ⟨v2, rfl, gd2⟩ := hr
  rw [F0_rims] at gd2
  have e04 := e03.trans e4
  have gd4 := gd.ext e4
  simp
  refine (count23 T.toFacesT gd4 F0_sz e04.wf).mono ?_
  rintro _ H5 ⟨rfl, e5⟩
  have e05 := e04.trans e5
  have gd5 := gd4.ext e5
  rw [if_pos hc, F0_fi, F0_ed]
  simp
  refine (edges21 T.toFacesT gd5 F0_sz e05.wf).mono ?_
  rintro vE H6 ⟨hE, e6⟩
  rw [if_pos hc, F0_ed] at hE
  have e06 := e05.trans e6
  have gd6 := gd5.ext e6
  have e7 := Ext.push e06.wf (.cells ([(0, 1), (0, 2), (0, 3), (1, 2), (2, 3)].flatMap pairc))
  have g7 := (push_new e06.wf (.cells ([(0, 1), (0, 2), (0, 3), (1, 2), (2, 3)].flatMap pairc))).1
  have hl7 : Pairs (H6.push (.cells ([(0, 1), (0, 2), (0, 3), (1, 2), (2, 3)].flatMap pairc))) (.slc H6.next 0 5 2 5 true) [(0, 1), (0, 2), (0, 3), (1, 2), (2, 3)] := (rw_lits (e := 2) pairc_len g7).sl pairc_len
  have hE7 := hE.ext e7
  have gd7 := gd6.ext e7
  have gd27 := ((gd2.ext e5).ext e6).ext e7
  have e07 := e06.trans e7
  have hp7 : H6.push (.cells [.int .i64 0, .int .i64 1, .int .i64 0, .int .i64 2, .int .i64 0, .int .i64 3, .int .i64 1, .int .i64 2, .int .i64 2, .int .i64 3]) = H6.push (.cells ([(0, 1), (0, 2), (0, 3), (1, 2), (2, 3)].flatMap pairc)) := rfl
  generalize H6.push (.cells ([(0, 1), (0, 2), (0, 3), (1, 2), (2, 3)].flatMap pairc)) = H7 at hl7 hE7 gd7 gd27 e07 hp7
  simp [setSeg, hp7]
  refine (same26 T.h26 (hE7.sl pairc_len) hl7 (by simp)).mono ?_
  rintro _ _ ⟨rfl, rfl⟩
  simp
  refine (left22 T.toFacesT (a := 0) (b := 2) gd7 F0_sz e07.wf).mono ?_
  rintro _ H8 ⟨rfl, e8⟩
  have hq1 : leftF F0 (0, 2) = 1 := by decide
  have e08 := e07.trans e8
  have gd8 := gd7.ext e8
  rw [if_pos hc, hq1]
  simp
  refine (left22 T.toFacesT (a := 2) (b := 0) gd8 F0_sz e08.wf).mono ?_
  rintro _ H9 ⟨rfl, e9⟩
  have hq2 : leftF F0 (2, 0) = 0 := by decide
  have e09 := e08.trans e9
  have gd9 := gd8.ext e9
  rw [if_pos hc, hq2]
  simp
  refine (left22 T.toFacesT (a := 1) (b := 0) gd9 F0_sz e09.wf).mono ?_
  rintro _ H10 ⟨rfl, e10⟩
  have hq3 : leftF F0 (1, 0) = -1 := by decide
  have e010 := e09.trans e10
  have gd10 := gd9.ext e10
  have gd210 := ((gd27.ext e8).ext e9).ext e10
  rw [if_pos hc, hq3]
  have e11 := Ext.push e010.wf (.cells ([0, 1, 2, 3].flatMap i64c))
  have g11 := (push_new e010.wf (.cells ([0, 1, 2, 3].flatMap i64c))).1
  generalize hH11 : H10.push (.cells ([0, 1, 2, 3].flatMap i64c)) = H11 at e11 g11
  have e12 := Ext.push e11.wf (.cells [.slc H10.next 0 4 1 4 true])
  have g12 := (push_new e11.wf (.cells [.slc H10.next 0 4 1 4 true])).1
  have gdr : Gd (H11.push (.cells [.slc H10.next 0 4 1 4 true])) (.slc H11.next 0 1 1 1 true) [[0, 1, 2, 3]] := by
    refine gd_lits (rs := [⟨.slc H10.next 0 4 1 4 true, rfl⟩]) g12 rfl fun i r f a b => ?_
    have hi : i < 1 := (List.getElem?_eq_some_iff.1 a).1
    have ci : i = 0 := by omega
    subst ci
    cases a; cases b
    exact lit_int (l := [0, 1, 2, 3]) (e12.keep _ _ g11)
  have hH11' : H10.push (.cells [.int .i64 0, .int .i64 1, .int .i64 2, .int .i64 3]) = H11 := hH11
  generalize hH12 : H11.push (.cells [.slc H10.next 0 4 1 4 true]) = H12 at e12 gdr
  have e012 := (e010.trans e11).trans e12
  have gd12 := (gd10.ext e11).ext e12
  have gd212 := (gd210.ext e11).ext e12
  simp [setSeg, hH11', hH12]
  refine (same29 T.h29 T.h32 gd212 gdr (by simp) (by simp)).mono ?_
  rintro _ _ ⟨rfl, rfl⟩
  simp
  refine (parts33 T.toFacesT gd12 F0_sz e012.wf).mono ?_
  rintro vp H13 ⟨hp, e13⟩
  rw [if_pos hc, F0_parts] at hp
  have e013 := e012.trans e13
  have e14 := Ext.push e013.wf (.cells ([0, 0].flatMap i64c))
  have g14 := (push_new e013.wf (.cells ([0, 0].flatMap i64c))).1
  have hl14 : Ints (H13.push (.cells ([0, 0].flatMap i64c))) (.slc H13.next 0 2 1 2 true) [0, 0] := (lit_int (l := [0, 0]) g14).sl i64c_len
  have hp14 := hp.ext e14
  have e014 := e013.trans e14
  have gd14 := (gd12.ext e13).ext e14
  have hH14' : H13.push (.cells [.int .i64 0, .int .i64 0]) = H13.push (.cells ([0, 0].flatMap i64c)) := rfl
  generalize H13.push (.cells ([0, 0].flatMap i64c)) = H14 at hl14 hp14 e014 gd14 hH14'
  simp [setSeg, hH14']
  refine (same32 T.h32 (hp14.sl i64c_len) hl14 (by simp)).mono ?_
  rintro _ _ ⟨rfl, rfl⟩
  simp
  refine (check13 T.h20 T.h56 T.h91 T.h114 T.h63 T.h58 (n := 2) gd14 F0_sz.row F0_sz.len e014.wf).mono ?_
  rintro _ H15 ⟨rfl, e15⟩
  rw [F0_bad]
  have hF0l : (F0.length : Int) = 2 := rfl
  simp [hF0l]
  exact e014.trans e15
structure Cy1 (H H' : Heap) (vF v3 : AV) (F : List (List Int)) (τ : Env) (i m : Nat) : Prop where
  ex : Ext H H'
  rows : AI.Rows H H' v3 (F.take i)
  le : i ≤ F.length
  hm : m = F.length - i
  t : Tm τ [(0, vF), (3, v3), (4, .int .i64 i)]
theorem Fsz.of {F : List (List Int)} (h : F.length + F.flatten.length ≤ 200) : Fsz F := by
  have hm : ∀ f, f ∈ F → f.length ≤ F.flatten.length := fun f hf => by
    obtain ⟨p, q, rfl⟩ := List.append_of_mem hf
    rw [List.flatten_append, List.length_append, List.flatten_cons, List.length_append]
    omega
  exact ⟨fun f hf => by have := hm f hf; omega, by omega, by omega⟩
end
end Go.Proofs.Ytcepchipgjpkhaa
