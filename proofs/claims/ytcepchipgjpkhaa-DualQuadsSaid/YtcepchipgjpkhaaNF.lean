/- Told functions at work; the library's Compact. No claim by itself. -/
import Derived.Test.YtcepchipgjpkhaaX2
import Derived.Test.YtcepchipgjpkhaaMM
namespace Go.Proofs.Ytcepchipgjpkhaa
open Go Go.AI
section
variable {FT : Nat → Option FnD} {H H' : Heap}
theorem gr157 (hs : FT 157 = FM 157) : Gr157 FT := by
  intro H n hw h1 hn
  refine (Cp_pick (K := K157) hs (good157 h1 hn) ⟨n, rfl, rfl, rfl⟩).mono ?_
  rintro _ _ ⟨n', h, rfl, rfl⟩
  simp only [List.cons.injEq, AV.int.injEq, and_true, true_and] at h
  have : n = n' := by omega
  subst this
  exact ⟨rfl, rfl⟩
theorem sort86 (hs : FT 85 = FM 85) {o lo : Nat} {ex : Bool} {xs : List (Int × Int)} (hg : H.get o = some (.cells (xs.flatMap pairc))) (hf : H.floor ≤ o) (hx : xs ≠ []) (hn : xs.length < 4611686018427387904) :
    Cp FT 85 [.slc o 0 xs.length 2 lo ex, .fn 86 [] []] H (fun r H' => r = .tup [] ∧ H' = H.set o (.cells ((srtS xs).flatMap pairc))) := by
  have hgood : AI.Good Try.prog 85 [.slc o 0 xs.length 2 lo ex, .fn 86 [] []] H (.tup []) (H.set o (.cells ((srtS xs).flatMap pairc))) := by
    rw [← srt_eq]
    exact sort_good (FT := Go.Proofs.Ytcepchipgjpkhaa.FT) (ints := intsS) FT_ok Try.laysF85 Try.isAgg49 Try.sizeOf49 (fun _ => rfl) (by omega) swo_cf2 tot_cf2 (enters_of Try.func86 (by kernel_rfl) rfl) (fun x y => cmp86 rfl rfl rfl rfl ⟨Nat.le_refl _, fun _ _ => rfl⟩) fn85 hg hf hx hn
  refine (Cp_pick (K := K85b) hs hgood ⟨rfl, .inr ⟨o, lo, ex, xs, rfl, hg, rfl⟩⟩).mono ?_
  rintro _ H' ⟨rfl, ⟨h, _⟩ | ⟨o', lo', ex', ys, h1, h2, h3⟩⟩
  · cases h
  · have ho : o = o' := by injection h1 with h1 _; injection h1
    subst ho
    rw [hg] at h2
    have := pairs_inj (AObj.cells.inj (Option.some.inj h2))
    subst this
    exact ⟨rfl, h3⟩
theorem sort86n (hs : FT 85 = FM 85) : Cp FT 85 [.nils, .fn 86 [] []] H (fun r H' => r = .tup [] ∧ H' = H) := by
  have hgood : AI.Good Try.prog 85 [.nils, .fn 86 [] []] H (.tup []) H := sort_none Try.prog fn85 (fun p cap fv w => AnyF.slices_SortFunc_none { Try.laysF85 with } p cap fv w)
  refine (Cp_pick (K := K85b) hs hgood ⟨rfl, .inl ⟨rfl, rfl⟩⟩).mono ?_
  rintro _ H' ⟨rfl, ⟨_, h⟩ | ⟨o', lo', ex', ys, h1, h2, h3⟩⟩
  · exact ⟨rfl, h⟩
  · cases h1
theorem check75 (hs : FT 75 = FM 75) (hw : H.Wf) {av : AV} {P : List (Int × Int)} {T : List Tri} {S : List (Int × Int)} (hm : Msh H av P T S) (lP : P.length ≤ 1000000000) (lT : T.length ≤ 1000000000) (lS : S.length ≤ 1000000000) :
    Cp FT 75 [av] H (fun r H' => r = .int .i64 (chkM P T S) ∧ Ext H H') := by
  obtain ⟨v, H', g, k⟩ := good75 hw hm lP lT lS
  refine (Cp_pick (K := K75) hs g k).mono ?_
  rintro _ H2 ⟨av', P', T', S', h, hm', rfl, ex⟩
  simp only [List.cons.injEq, and_true] at h
  subst h
  obtain ⟨rfl, rfl, rfl⟩ := hm.inj hm'
  exact ⟨rfl, ex⟩
structure Cc1 (H H' : Heap) (v : AV) (l : List (Int × Int)) (τ : Env) (k f : Nat) : Prop where
  eq : H = H'
  lo : 1 ≤ k
  le : k ≤ l.length
  hm : f = l.length - k
  t : Tm τ [(0, v), (3, .int .i64 k)]
theorem compact89 (h89 : FT 89 = some (.code A89)) {v : AV} {l : List (Int × Int)} (hv : Pairs H v l) (hl : l.length ≤ 1000000000) (hn : l.Nodup) : Cp FT 89 [v] H (fun r H' => r = v ∧ H' = H) := by
  refine Cp_code A89 h89 rfl ?_
  by_cases c : l.length < 2
  · have c' : (l.length : Int) < 2 := by omega
    simp [A89, hv.len, c']
  · have c' : ¬ (l.length : Int) < 2 := by omega
    simp [A89, hv.len, c']
    refine Wp_loop (fun f τ H' => ∃ k, Cc1 H H' v l τ k f) ?_ (l.length - 1) _ _ ⟨1, ⟨rfl, by omega, by omega, rfl, by simp⟩⟩
    rintro f τ _ ⟨k, ⟨rfl, lo, le, rfl, t⟩⟩
    simp at t
    obtain ⟨t0, t3⟩ := t
    by_cases q : k < l.length
    · obtain ⟨k', rfl⟩ : ∃ k', k = k' + 1 := ⟨k - 1, by omega⟩
      have w : IntKind.i64.wrap (((k' : Int) + 1) + 1) = ((k' : Int) + 1) + 1 := wrap64 (by omega) (by omega)
      have wm : IntKind.i64.wrap (k' : Int) = k' := wrap64 (by omega) (by omega)
      obtain ⟨o1, f1, x, a1, a2, a3, _⟩ := Pairs.idx hv (k := .i64) (i := ((k' : Int) + 1)) (by omega) (by omega)
      obtain ⟨o2, f2, y, b1, b2, b3, _⟩ := Pairs.idx hv (k := .i64) (i := (k' : Int)) (by omega) (by omega)
      have hne : x ≠ y := fun e => by
        subst e
        have hk : ((k' : Int) + 1).toNat = k' + 1 := by omega
        rw [hk] at a1
        rw [Int.toNat_natCast] at b1
        have := nod_inj hn a1 b1
        omega
      have he := eqlPair x y
      rw [decide_eq_false hne] at he
      have q' : (k' : Int) + 1 < l.length := by omega
      push_cast at t3
      simp [q', t0, t3, hv.len, a2, a3, wm, b2, b3, he, w]
      exact ⟨_, by omega, k' + 1 + 1, ⟨rfl, by omega, by omega, rfl, by simp [t0]⟩⟩
    · have hk : k = l.length := by omega
      subst hk
      simp [t0, t3, hv.len]
end
end Go.Proofs.Ytcepchipgjpkhaa

/- All pairs of a mesh's triangles that may be made one, as the program tells. No claim by itself. -/
namespace Go.Proofs.Ytcepchipgjpkhaa
open Go Go.AI
section
variable {FT : Nat → Option FnD} {H H' : Heap}
/-- What Pairs needs. -/
structure PairT (FT : Nat → Option FnD) : Prop where
  q : QuadT FT
  h75 : FT 75 = FM 75
  h85 : FT 85 = FM 85
  h89 : FT 89 = some (.code A89)
  h51 : FT 51 = some (.code A51)
  h45 : FT 45 = some (.code A45)
/-- The table of edges, told so far. -/
def eTo (T : List Tri) (i : Nat) (t : Tri) (j : Nat) : List Ent := tabF 0 (rowsT (T.take i)) ++ ((edT3 t).take j).map fun s => (s, (i : Int))
theorem eTo_zero (T : List Tri) (i : Nat) (t : Tri) : eTo T i t 0 = tabF 0 (rowsT (T.take i)) := by simp [eTo]
theorem eTo_succ {T : List Tri} {i : Nat} {t : Tri} {j : Nat} {s : Int × Int} (h : (edT3 t)[j]? = some s) : eTo T i t (j + 1) = eTo T i t j ++ [(s, (i : Int))] := by
  unfold eTo; rw [List.take_add_one, h]; simp
theorem eTo_all {T : List Tri} {i : Nat} {t : Tri} (h : T[i]? = some t) : eTo T i t 3 = tabF 0 (rowsT (T.take (i + 1))) := by
  unfold eTo rowsT
  have hi : i < T.length := (List.getElem?_eq_some_iff.1 h).1
  have e : (edT3 t).take 3 = edT3 t := rfl
  rw [e, List.take_add_one, h, Option.toList_some, List.map_append, tabF_app]
  simp [tabF, List.length_take, Nat.min_eq_left (Nat.le_of_lt hi), edgesF_row]
theorem eTo_new {T : List Tri} {i : Nat} {t : Tri} {j : Nat} {s : Int × Int} (hn : (edsM T).Nodup) (ht : T[i]? = some t) (h : (edT3 t)[j]? = some s) : s ∉ (eTo T i t j).map (·.1) := by
  intro hd
  have hd2 : s ∈ edsM (T.take i) ++ (edT3 t).take j := by
    unfold eTo at hd
    rw [List.map_append, tabF_fst] at hd
    simpa [Function.comp_def, edsM, allE] using hd
  have e1 : edsM (T.take (i + 1)) = edsM (T.take i) ++ edT3 t := edsM_snoc ht
  have hn1 := edsM_nod (i := i + 1) hn
  have e2 : edT3 t = (edT3 t).take j ++ s :: (edT3 t).drop (j + 1) := by rw [← drop_get h, List.take_append_drop]
  rw [e1, e2, ← List.append_assoc, List.nodup_append] at hn1
  exact hn1.2.2 s hd2 s (by simp) rfl
theorem sd_ed {t x : Tri} {j : Nat} (h : (sd3 t)[j]? = some x) : (edT3 t)[j]? = some (x.1, x.2.1) := by
  have hi : j < 3 := by have := (List.getElem?_eq_some_iff.1 h).1; simpa [sd3] using this
  have : j = 0 ∨ j = 1 ∨ j = 2 := by omega
  rcases this with rfl | rfl | rfl <;> (simp [sd3] at h; subst h; rfl)
/-- The memory of Pairs: the mesh and the table. -/
structure Pm (H H' : Heap) (vP vT vS : AV) (om : Nat) (E : List Ent) : Prop where
  ex : Ext H H'
  g1 : H'.get H.next = some (.cells [vP, vT, vS])
  gm : H'.get om = some (.map (E.map entc))
  om0 : H.next ≤ om
  ne : om ≠ H.next
theorem Pm.to {H2 : Heap} {vP vT vS : AV} {om : Nat} {E : List Ent} (h : Pm H H' vP vT vS om E) (e : Ext H' H2) : Pm H H2 vP vT vS om E := ⟨h.ex.trans e, e.keep _ _ h.g1, e.keep _ _ h.gm, h.om0, h.ne⟩
theorem Pm.upd {vP vT vS : AV} {om : Nat} {E : List Ent} {s : Int × Int} {k : Int} (hw : H.Wf) (h : Pm H H' vP vT vS om E) (hn : s ∉ E.map (·.1)) :
    ∃ H2, mapUpdA H' (.flat [.int, .int]) (.map om) (.agg (pairc s)) (.int .i64 k) = some (undefA, H2) ∧ Pm H H2 vP vT vS om (E ++ [(s, k)]) := by
  refine ⟨_, mapUpd_new (by rw [h.ex.floor]; exact Nat.le_trans hw.1 h.om0) h.gm hn, ⟨h.ex.setNew hw h.om0 (h.ex.wf.lt h.gm), ?_, get_setH.trans (if_pos rfl), h.om0, h.ne⟩⟩
  rw [get_setH, if_neg (fun e => h.ne e.symm)]; exact h.g1
def k51a : ACode := subAt [1, 1, 1, 0, 1] A51.body
def k51i : ACode := subAt [0, 0, 1, 1, 0, 0, 1, 1] k51a
def k51b : ACode := subAt [1, 1, 1, 1, 1, 0, 1] A51.body
def k51j : ACode := subAt [0, 0, 1, 1, 0, 0, 1, 1] k51b
theorem body51 : A51.body = putAt [1, 1, 1, 0, 1] (putAt [1, 1, 1, 1, 1, 0, 1] A51.body k51b) k51a := rfl
theorem body51a : k51a = putAt [0, 0, 1, 1, 0, 0, 1, 1] k51a k51i := rfl
theorem body51b : k51b = putAt [0, 0, 1, 1, 0, 0, 1, 1] k51b k51j := rfl
structure Pj (H H' : Heap) (vP vT vS : AV) (T : List Tri) (om i : Nat) (t : Tri) (τ : Env) (j m : Nat) : Prop where
  pm : Pm H H' vP vT vS om (eTo T i t j)
  le : j ≤ 3
  hm : m = 3 - j
  t : Tm τ [(1, .ptr H.next 0), (5, .map om), (6, .int .i64 i), (26, vT), (27, .int .i64 T.length), (28, .int .i64 i), (34, .agg ((sd3 t).flatMap tric)), (35, .int .i64 j)]
theorem pairs_i (hw : H.Wf) {H1 : Heap} {vP vT vS : AV} {T : List Tri} {om i : Nat} {t : Tri} (hn : (edsM T).Nodup) (ht : T[i]? = some t) (pm : Pm H H1 vP vT vS om (tabF 0 (rowsT (T.take i)))) {τ0 : Env}
    (w : Tm τ0 [(1, .ptr H.next 0), (5, .map om), (6, .int .i64 i), (26, vT), (27, .int .i64 T.length), (28, .int .i64 i), (34, .agg ((sd3 t).flatMap tric)), (35, .int .i64 0)]) :
    Wp FT k51i τ0 H1 (fun s τ H' => s = .next ∧ Pm H H' vP vT vS om (tabF 0 (rowsT (T.take (i + 1)))) ∧ Tm τ [(1, .ptr H.next 0), (5, .map om), (26, vT), (27, .int .i64 T.length), (28, .int .i64 i)]) := by
  simp at w
  obtain ⟨w1, w5, w6, w26, w27, w28, w34, w35⟩ := w
  simp [k51i, k51a, subAt, A51]
  refine Wp_loop (fun m τ H' => ∃ j, Pj H H' vP vT vS T om i t τ j m) ?_ 3 _ _ ⟨0, ⟨by rw [eTo_zero]; exact pm, by omega, rfl, by simp [w1, w5, w6, w26, w27, w28, w34, w35]⟩⟩
  rintro m τ H2 ⟨j, ⟨pm, hj, rfl, u⟩⟩
  simp at u
  obtain ⟨t1, t5, t6, t26, t27, t28, t34, t35⟩ := u
  by_cases q : j < 3
  · have hjl : j < (sd3 t).length := q
    obtain ⟨x, hx⟩ : ∃ x, (sd3 t)[j]? = some x := ⟨_, List.getElem?_eq_getElem hjl⟩
    have q' : (j : Int) < 3 := by omega
    have hidx := idx_sd hx
    have wj : IntKind.i64.wrap ((j : Int) + 1) = (j : Int) + 1 := wrap64 (by omega) (by omega)
    obtain ⟨H3, st, g9, e3, n3⟩ := store_new pm.ex.wf (z := [.int .i64 0, .int .i64 0, .int .i64 0]) (n := 3) (x := .agg (tric x)) (cs := tric x) rfl rfl rfl rfl
    have a0 : loadA H3 none (.ptr H2.next 0) = some (.int .i64 x.1) := load_get g9 rfl
    have a1 : loadA H3 none (.ptr H2.next 1) = some (.int .i64 x.2.1) := load_get g9 rfl
    have x0 : ∀ o, idxAA 3 1 (.ptr o 0) (.int .i64 0) = some (.ptr o 0) := fun o => rfl
    have x1 : ∀ o, idxAA 3 1 (.ptr o 0) (.int .i64 1) = some (.ptr o 1) := fun o => rfl
    obtain ⟨H4, m1, pm4⟩ := (pm.to e3).upd hw (k := (i : Int)) (eTo_new hn ht (sd_ed hx))
    have m1' : mapUpdA H3 (.flat [.int, .int]) (.map om) (.agg [.int .i64 x.1, .int .i64 x.2.1]) (.int .i64 i) = some (undefA, H4) := m1
    simp [-idxAV_agg, q', t5, t6, t34, t35, hidx, st, x0, x1, a0, a1, setSeg, m1', wj]
    exact ⟨_, by omega, j + 1, ⟨by rw [eTo_succ (sd_ed hx)]; exact pm4, by omega, rfl, by simp [t1, t5, t6, t26, t27, t28, t34]⟩⟩
  · have hj3 : j = 3 := by omega
    subst hj3
    rw [eTo_all ht] at pm
    simp [t35]
    exact ⟨pm, by simp [t1, t5, t26, t27, t28]⟩
structure Pi1 (H H' : Heap) (vP vT vS : AV) (T : List Tri) (om : Nat) (τ : Env) (i m : Nat) : Prop where
  pm : Pm H H' vP vT vS om (tabF 0 (rowsT (T.take i)))
  le : i ≤ T.length
  hm : m = T.length - i
  t : Tm τ [(1, .ptr H.next 0), (5, .map om), (26, vT), (27, .int .i64 T.length), (28, .int .i64 i)]
theorem pairs_a (h84 : FT 84 = some (.code A84)) (hw : H.Wf) {H1 : Heap} {vP vT vS : AV} {T : List Tri} {om : Nat} (hT : Tris H vT T) (lT : T.length ≤ 1000000000) (hn : (edsM T).Nodup) (pm : Pm H H1 vP vT vS om []) {τ0 : Env}
    (w : Tm τ0 [(1, .ptr H.next 0), (5, .map om), (26, vT), (27, .int .i64 T.length), (28, .int .i64 0)]) :
    Wp FT k51a τ0 H1 (fun s τ H' => s = .next ∧ Pm H H' vP vT vS om (tabF 0 (rowsT T)) ∧ Tm τ [(1, .ptr H.next 0), (5, .map om)]) := by
  simp at w
  obtain ⟨w1, w5, w26, w27, w28⟩ := w
  rw [body51a]
  generalize hki : k51i = ki
  simp [k51a, subAt, putAt, A51]
  refine Wp_loop (fun m τ H' => ∃ i, Pi1 H H' vP vT vS T om τ i m) ?_ T.length _ _ ⟨0, ⟨by simpa [rowsT, tabF] using pm, by omega, by omega, by simp [w1, w5, w26, w27, w28]⟩⟩
  rintro m τ H2 ⟨i, ⟨pm, hi, rfl, u⟩⟩
  simp at u
  obtain ⟨t1, t5, t26, t27, t28⟩ := u
  by_cases q : i < T.length
  · have hT2 := hT.ext pm.ex
    have wi : IntKind.i64.wrap ((i : Int) + 1) = (i : Int) + 1 := wrap64 (by omega) (by omega)
    obtain ⟨o1, off1, t, a1, a2, a3, _⟩ := Tris.idx hT2 (k := .i64) (i := (i : Int)) (by omega) (by omega)
    rw [Int.toNat_natCast] at a1
    obtain ⟨H3, st3, g5, e3, n3⟩ := store_new pm.ex.wf (z := [.int .i64 0, .int .i64 0, .int .i64 0]) (n := 3) (x := .agg (tric t)) (cs := tric t) rfl rfl rfl rfl
    have l7 : loadA H3 (some 3) (.ptr H2.next 0) = some (.agg (tric t)) := load_agg g5 rfl
    simp [q, t26, t27, t28, a2, a3, st3, l7]
    refine (sides84 h84 e3.wf (t := t)).mono ?_
    rintro _ H4 ⟨rfl, e4⟩
    simp
    rw [← hki]
    refine (pairs_i hw hn a1 (pm.to (e3.trans e4)) (by simp [t1, t5, t26, t27, t28])).mono ?_
    rintro _ τ2 H5 ⟨rfl, pm5, w⟩
    simp at w
    obtain ⟨t1, t5, t26, t27, t28⟩ := w
    simp [t28, wi]
    exact ⟨_, by omega, i + 1, ⟨pm5, by omega, rfl, by simp [t1, t5, t26, t27]⟩⟩
  · have hil : i = T.length := by omega
    subst hil
    rw [List.take_length] at pm
    simp [t27, t28]
    exact ⟨pm, by simp [t1, t5]⟩
end
end Go.Proofs.Ytcepchipgjpkhaa

/- All pairs of a mesh's triangles, as the program tells: the list. No claim by itself. -/
namespace Go.Proofs.Ytcepchipgjpkhaa
open Go Go.AI
section
variable {FT : Nat → Option FnD} {H H' : Heap}
theorem Pm.fr {H2 : Heap} {Q : List Nat} {vP vT vS : AV} {om : Nat} {E : List Ent} (hw : H.Wf) (h : Pm H H' vP vT vS om E) (k : Fr Q H' H2) (hq : ∀ p, p ∈ Q → H.next < p ∧ om < p) : Pm H H2 vP vT vS om E :=
  ⟨ext_fr hw h.ex k (fun p hp => by have := hq p hp; omega), k.keep _ _ (fun hm => by have := hq _ hm; omega) h.g1, k.keep _ _ (fun hm => by have := hq _ hm; omega) h.gm, h.om0, h.ne⟩
/-- A mesh's slices, and that it may be. -/
structure Mq (H : Heap) (vP vT vS : AV) (P : List (Int × Int)) (T : List Tri) (S : List (Int × Int)) : Prop where
  hP : Rw 2 pairc H vP P
  hT : Rw 3 tric H vT T
  hS : Rw 2 pairc H vS S
  lP : P.length ≤ 1000000000
  lT : T.length ≤ 1000000
  lS : S.length ≤ 1000000000
  ok : MeshOk P T S
structure Pl1 (H Hb H' : Heap) (vP vT vS v10 : AV) (P : List (Int × Int)) (T : List Tri) (S : List (Int × Int)) (L0 : List (Int × Int)) (om i : Nat) (t : Tri) (τ : Env) (j m : Nat) : Prop where
  pm : Pm H H' vP vT vS om (tabF 0 (rowsT T))
  nx : Hb.next ≤ H'.next
  mi : Mine 2 pairc Hb H' v10 (L0 ++ ((sd3 t).take j).flatMap (prA P T S i))
  le : j ≤ 3
  hm : m = 3 - j
  t : Tm τ [(1, .ptr H.next 0), (5, .map om), (10, v10), (11, .int .i64 i), (48, vT), (49, .int .i64 T.length), (50, .int .i64 i), (56, .agg ((sd3 t).flatMap tric)), (57, .int .i64 j)]
structure PjQ (H Hb H' : Heap) (vP vT vS v10 : AV) (P : List (Int × Int)) (T : List Tri) (S : List (Int × Int)) (L : List (Int × Int)) (om i : Nat) (τ : Env) : Prop where
  pm : Pm H H' vP vT vS om (tabF 0 (rowsT T))
  nx : Hb.next ≤ H'.next
  mi : Mine 2 pairc Hb H' v10 L
  t : Tm τ [(1, .ptr H.next 0), (5, .map om), (10, v10), (48, vT), (49, .int .i64 T.length), (50, .int .i64 i)]
structure PkQ (H Hb H' : Heap) (v10 : AV) (L : List (Int × Int)) (τ : Env) : Prop where
  ex : Ext H H'
  nx : Hb.next ≤ H'.next
  mi : Mine 2 pairc Hb H' v10 L
  t : Tm τ [(10, v10)]
theorem prA_len (P : List (Int × Int)) (T : List Tri) (S : List (Int × Int)) (i : Nat) : ∀ l : List Tri, (l.flatMap (prA P T S i)).length ≤ l.length
  | [] => by simp
  | x :: l => by
    have ih := prA_len P T S i l
    have h1 : (prA P T S i x).length ≤ 1 := by unfold prA; split <;> simp
    rw [List.flatMap_cons, List.length_append, List.length_cons]; omega
theorem pairs_j (Q : QuadT FT) (hw : H.Wf) {Hb H1 : Heap} {vP vT vS v10 : AV} {P : List (Int × Int)} {T : List Tri} {S : List (Int × Int)} {L0 : List (Int × Int)} {om i : Nat} {t : Tri} (mq : Mq H vP vT vS P T S) (ht : T[i]? = some t) (lL : L0.length ≤ 3000000) (pm : Pm H H1 vP vT vS om (tabF 0 (rowsT T))) (nx : Hb.next ≤ H1.next) (nb : H.next < Hb.next ∧ om < Hb.next) (mi : Mine 2 pairc Hb H1 v10 L0) {τ0 : Env}
    (w : Tm τ0 [(1, .ptr H.next 0), (5, .map om), (10, v10), (11, .int .i64 i), (48, vT), (49, .int .i64 T.length), (50, .int .i64 i), (56, .agg ((sd3 t).flatMap tric)), (57, .int .i64 0)]) :
    Wp FT k51j τ0 H1 (fun s τ H' => s = .next ∧ ∃ v10', PjQ H Hb H' vP vT vS v10' P T S (L0 ++ prI P T S i t) om i τ) := by
  simp at w
  obtain ⟨w1, w5, w10, w11, w48, w49, w50, w56, w57⟩ := w
  simp [k51j, k51b, subAt, A51]
  refine Wp_loop (fun m τ H' => ∃ j v10', Pl1 H Hb H' vP vT vS v10' P T S L0 om i t τ j m) ?_ 3 _ _ ⟨0, v10, ⟨pm, nx, by simpa using mi, by omega, rfl, by simp [w1, w5, w10, w11, w48, w49, w50, w56, w57]⟩⟩
  rintro m τ H2 ⟨j, v10', ⟨pm, nx, mi, hj, rfl, u⟩⟩
  simp at u
  obtain ⟨t1, t5, t10, t11, t48, t49, t50, t56, t57⟩ := u
  by_cases q : j < 3
  · have hjl : j < (sd3 t).length := q
    obtain ⟨x, hx⟩ : ∃ x, (sd3 t)[j]? = some x := ⟨_, List.getElem?_eq_getElem hjl⟩
    have q' : (j : Int) < 3 := by omega
    have hidx := idx_sd hx
    have wj : IntKind.i64.wrap ((j : Int) + 1) = (j : Int) + 1 := wrap64 (by omega) (by omega)
    have htk : ((sd3 t).take (j + 1)).flatMap (prA P T S i) = ((sd3 t).take j).flatMap (prA P T S i) ++ prA P T S i x := by
      rw [List.take_add_one, hx]; simp
    have hlen := prA_len P T S i ((sd3 t).take j)
    have hlt : ((sd3 t).take j).length ≤ 3 := by rw [List.length_take]; omega
    obtain ⟨H3, st, g9, e3, n3⟩ := store_new pm.ex.wf (z := [.int .i64 0, .int .i64 0, .int .i64 0]) (n := 3) (x := .agg (tric x)) (cs := tric x) rfl rfl rfl rfl
    have pm3 := pm.to e3
    have mi3 := mi.ext e3
    have a0 : loadA H3 none (.ptr H2.next 0) = some (.int .i64 x.1) := load_get g9 rfl
    have a1 : loadA H3 none (.ptr H2.next 1) = some (.int .i64 x.2.1) := load_get g9 rfl
    have x0 : ∀ o, idxAA 3 1 (.ptr o 0) (.int .i64 0) = some (.ptr o 0) := fun o => rfl
    have x1 : ∀ o, idxAA 3 1 (.ptr o 0) (.int .i64 1) = some (.ptr o 1) := fun o => rfl
    have l1 : loadA H3 (some 3) (.ptr H.next 0) = some (.agg [vP, vT, vS]) := load_agg pm3.g1 rfl
    obtain ⟨r, hr, hc⟩ := lookA_ent (s := (x.2.1, x.1)) pm3.gm
    have hr' : lookA H3 (.flat [.int, .int]) (.map om) (.agg [.int .i64 x.2.1, .int .i64 x.1]) = some r := hr
    have hlk : lookE (tabF 0 (rowsT T)) (x.2.1, x.1) = leftF (rowsT T) (x.2.1, x.1) := look_left _ _
    generalize hN : L0 ++ ((sd3 t).take j).flatMap (prA P T S i) = N at mi mi3
    have hNl : N.length ≤ 3000003 := by rw [← hN, List.length_append]; omega
    have hnext : ∀ {M : List (Int × Int)}, prA P T S i x = M → L0 ++ ((sd3 t).take (j + 1)).flatMap (prA P T S i) = N ++ M := fun h => by rw [htk, ← List.append_assoc, hN, h]
    rcases hc with ⟨_, rfl, h3⟩ | ⟨_, i', k, rfl, h3, _⟩
    · have hp : prA P T S i x = [] := by unfold prA; rw [← hlk, h3, if_neg (fun h => by have := h.1; omega)]
      simp [-idxAV_agg, q', t5, t56, t57, hidx, st, x0, x1, a0, a1, setSeg, hr', lookV, wj]
      exact ⟨_, by omega, j + 1, v10', ⟨pm3, by have := e3.next; omega, by rw [hnext hp, List.append_nil]; exact mi3, by omega, rfl, by simp [t1, t5, t10, t11, t48, t49, t50, t56]⟩⟩
    · have hf : leftF (rowsT T) (x.2.1, x.1) = k := by rw [← hlk, h3]
      by_cases c : k ≤ (i : Int)
      · have hp : prA P T S i x = [] := by unfold prA; rw [hf, if_neg (fun h => by have := h.1; omega)]
        simp [-idxAV_agg, q', t5, t11, t56, t57, hidx, st, x0, x1, a0, a1, setSeg, hr', lookV, c, wj]
        exact ⟨_, by omega, j + 1, v10', ⟨pm3, by have := e3.next; omega, by rw [hnext hp, List.append_nil]; exact mi3, by omega, rfl, by simp [t1, t5, t10, t11, t48, t49, t50, t56]⟩⟩
      · obtain ⟨kn, u, h1, h2, h5⟩ := left_tri (T := T) (s := (x.2.1, x.1)) (by omega)
        have hk : k = (kn : Int) := by omega
        subst hk
        have c' : (i : Int) < (kn : Int) := by omega
        have tt := mq.ok.tri t (List.mem_of_getElem? ht)
        have tu := mq.ok.tri u (List.mem_of_getElem? h2)
        have hlT := mq.lT
        have hqa := quadAt_at (P := P) (S := S) ht h2
        simp [-idxAV_agg, q', t1, t5, t11, t56, t57, hidx, st, x0, x1, a0, a1, setSeg, hr', lookV, c, l1]
        refine (quad76 Q pm3.ex.wf ((mq.hP.sl pairc_len).ext pm3.ex) ((mq.hT.sl tric_len).ext pm3.ex) ((mq.hS.sl pairc_len).ext pm3.ex) mq.lP (by omega) mq.lS mq.hP.one mq.hT.one mq.hS.one ht h2 tt tu).mono ?_
        rintro _ H4 ⟨⟨v, rfl, _, _⟩, e4⟩
        have pm4 := pm3.to e4
        have mi4 := mi3.ext e4
        cases hq : (quadF P S t u).isSome with
        | false =>
          have hp : prA P T S i x = [] := by
            unfold prA
            rw [hf, if_neg (fun h => by
              have := h.2
              rw [Int.toNat_natCast, hqa, hq] at this
              cases this)]
          simp [t57, wj]
          exact ⟨_, by omega, j + 1, v10', ⟨pm4, by have := e3.next; have := e4.next; omega, by rw [hnext hp, List.append_nil]; exact mi4, by omega, rfl, by simp [t1, t5, t10, t11, t48, t49, t50, t56]⟩⟩
        | true =>
          have hp : prA P T S i x = [((i : Int), (kn : Int))] := by
            unfold prA
            rw [hf, if_pos ⟨c', by rw [Int.toNat_natCast, hqa, hq]⟩]
          obtain ⟨v', H5, b1, b2, b3, b4⟩ := mi4.app1 pairc_len (by omega) pairc_one (bytes := 16) pm4.ex.wf (by have := e3.next; have := e4.next; omega) ((i : Int), (kn : Int)) (by omega)
          have b1' : appendA 2 16 (H4.push (.cells [.int .i64 i, .int .i64 kn])) v10' (.slc H4.next 0 1 2 1 true) = some (v', H5) := b1
          simp [t10, t11, t57, setSeg, b1', wj]
          refine ⟨_, by omega, j + 1, v', ⟨pm4.fr hw b3 (fun p hp => ?_), by have := e3.next; have := e4.next; have := b3.next; omega, by rw [hnext hp]; exact b2, by omega, rfl, by simp [t1, t5, t11, t48, t49, t50, t56]⟩⟩
          have := mi4.new p (by simpa using hp)
          omega
  · have hj3 : j = 3 := by omega
    subst hj3
    have hall : ((sd3 t).take 3).flatMap (prA P T S i) = prI P T S i t := rfl
    rw [hall] at mi
    simp [t57]
    exact ⟨v10', ⟨pm, nx, mi, by simp [t1, t5, t10, t48, t49, t50]⟩⟩
structure Pk1 (H Hb H' : Heap) (vP vT vS v10 : AV) (P : List (Int × Int)) (T : List Tri) (S : List (Int × Int)) (om : Nat) (τ : Env) (i m : Nat) : Prop where
  pm : Pm H H' vP vT vS om (tabF 0 (rowsT T))
  nx : Hb.next ≤ H'.next
  mi : Mine 2 pairc Hb H' v10 (prL P T S i)
  le : i ≤ T.length
  hm : m = T.length - i
  t : Tm τ [(1, .ptr H.next 0), (5, .map om), (10, v10), (48, vT), (49, .int .i64 T.length), (50, .int .i64 i)]
theorem pairs_b (Q : QuadT FT) (hw : H.Wf) {Hb : Heap} {vP vT vS : AV} {P : List (Int × Int)} {T : List Tri} {S : List (Int × Int)} {om : Nat} (mq : Mq H vP vT vS P T S) (pm : Pm H Hb vP vT vS om (tabF 0 (rowsT T))) {τ0 : Env}
    (w : Tm τ0 [(1, .ptr H.next 0), (5, .map om), (10, .nils), (48, vT), (49, .int .i64 T.length), (50, .int .i64 0)]) :
    Wp FT k51b τ0 Hb (fun s τ H' => s = .next ∧ ∃ v10', PkQ H Hb H' v10' (prL P T S T.length) τ) := by
  simp at w
  obtain ⟨w1, w5, w10, w48, w49, w50⟩ := w
  have nb : H.next < Hb.next ∧ om < Hb.next := ⟨pm.ex.wf.lt pm.g1, pm.ex.wf.lt pm.gm⟩
  rw [body51b]
  generalize hkj : k51j = kj
  simp [k51b, subAt, putAt, A51]
  refine Wp_loop (fun m τ H' => ∃ i v10, Pk1 H Hb H' vP vT vS v10 P T S om τ i m) ?_ T.length _ _ ⟨0, .nils, ⟨pm, Nat.le_refl _, by simpa [prL] using Mine.nil, by omega, by omega, by simp [w1, w5, w10, w48, w49, w50]⟩⟩
  rintro m τ H2 ⟨i, v10, ⟨pm, nx, mi, hi, rfl, u⟩⟩
  simp at u
  obtain ⟨t1, t5, t10, t48, t49, t50⟩ := u
  by_cases q : i < T.length
  · have hlT := mq.lT
    have hT2 := (mq.hT.sl tric_len).ext pm.ex
    have wi : IntKind.i64.wrap ((i : Int) + 1) = (i : Int) + 1 := wrap64 (by omega) (by omega)
    obtain ⟨o1, off1, t, a1, a2, a3, _⟩ := Tris.idx hT2 (k := .i64) (i := (i : Int)) (by omega) (by omega)
    rw [Int.toNat_natCast] at a1
    obtain ⟨H3, st3, g5, e3, n3⟩ := store_new pm.ex.wf (z := [.int .i64 0, .int .i64 0, .int .i64 0]) (n := 3) (x := .agg (tric t)) (cs := tric t) rfl rfl rfl rfl
    have l7 : loadA H3 (some 3) (.ptr H2.next 0) = some (.agg (tric t)) := load_agg g5 rfl
    have hlen := prL_len P T S i
    simp [q, t48, t49, t50, a2, a3, st3, l7]
    refine (sides84 Q.h84 e3.wf (t := t)).mono ?_
    rintro _ H4 ⟨rfl, e4⟩
    simp
    rw [← hkj]
    refine (pairs_j Q hw mq a1 (by omega) (pm.to (e3.trans e4)) (by have := e3.next; have := e4.next; omega) nb (mi.ext (e3.trans e4)) (by simp [t1, t5, t10, t48, t49, t50])).mono ?_
    rintro _ τ2 H5 ⟨rfl, v10', ⟨pm5, nx5, mi5, w⟩⟩
    simp at w
    obtain ⟨t1, t5, t10, t48, t49, t50⟩ := w
    simp [t50, wi]
    exact ⟨_, by omega, i + 1, v10', ⟨pm5, nx5, by rw [prL_snoc a1]; exact mi5, by omega, rfl, by simp [t1, t5, t10, t48, t49]⟩⟩
  · have hil : i = T.length := by omega
    subst hil
    simp [t49, t50]
    exact ⟨v10, ⟨pm.ex, nx, mi, by simp [t10]⟩⟩
end
end Go.Proofs.Ytcepchipgjpkhaa

/- Pairs, Quad, Beside, told. No claim by itself. -/
namespace Go.Proofs.Ytcepchipgjpkhaa
open Go Go.AI
section
variable {FT : Nat → Option FnD} {H H' : Heap}
/-- What comes out of Pairs. -/
structure PrR (H0 H' : Heap) (P : List (Int × Int)) (T : List Tri) (S : List (Int × Int)) (r : AV) : Prop where
  yes : MeshOk P T S → ∃ v, r = .tup [v, .int .i64 0] ∧ Rw 2 pairc H' v (prsM P T S) ∧ ∀ p, rowObj v = some p → H0.next ≤ p
  no : ¬ MeshOk P T S → r = .tup [.nils, .int .i64 2]
theorem pairs51 (T : PairT FT) (hw : H.Wf) {av : AV} {P : List (Int × Int)} {Ts : List Tri} {S : List (Int × Int)} (hm : Msh H av P Ts S) (lP : P.length ≤ 1000000000) (lT : Ts.length ≤ 1000000) (lS : S.length ≤ 1000000000) :
    Cp FT 51 [av] H (fun r H' => PrR H H' P Ts S r ∧ Ext H H') := by
  obtain ⟨vP, vT, vS, rfl, hP, hT, hS⟩ := hm.ex
  refine Cp_code A51 T.h51 rfl ?_
  rw [body51]
  generalize hka : k51a = ka
  generalize hkb : k51b = kb
  obtain ⟨g1, e1⟩ := push_new hw (.cells [vP, vT, vS])
  have hall : allOne [vP, vT, vS] = true := by simp [allOne, hP.one.1, hT.one.1, hS.one.1]
  generalize hH1 : H.push (.cells [vP, vT, vS]) = H1 at g1 e1
  have l1 : loadA H1 (some 3) (.ptr H.next 0) = some (.agg [vP, vT, vS]) := load_agg g1 rfl
  simp [A51, putAt, hall, hH1, l1]
  refine (check75 T.h75 e1.wf (hm.ext e1) lP (by omega) lS).mono ?_
  rintro _ H2 ⟨rfl, e2⟩
  have ex2 := e1.trans e2
  by_cases ok : MeshOk P Ts S
  · rw [chkM_ok ok]
    obtain ⟨gm, e3⟩ := push_new e2.wf (.map [])
    have g12 := e3.keep _ _ (e2.keep _ _ g1)
    have hlt := e2.wf.lt (e2.keep _ _ g1)
    have pm0 : Pm H (H2.push (.map [])) vP vT vS H2.next [] := ⟨ex2.trans e3, g12, gm, ex2.next, by omega⟩
    generalize hH3 : H2.push (.map []) = H3 at *
    have f1 : loadA H3 none (.ptr H.next 1) = some vT := load_get g12 rfl
    simp [hH3, f1, hT.len]
    rw [← hka]
    refine (pairs_a T.q.h84 hw (hT.sl tric_len) (by omega) ok.nod pm0 (by simp)).mono ?_
    rintro _ τ2 H4 ⟨rfl, pm4, w⟩
    simp at w
    obtain ⟨w1, w5⟩ := w
    have f1' : loadA H4 none (.ptr H.next 1) = some vT := load_get pm4.g1 rfl
    simp [w1, f1', hT.len]
    rw [← hkb]
    refine (pairs_b T.q hw ⟨hP, hT, hS, lP, lT, lS, ok⟩ pm4 (by simp [w1, w5])).mono ?_
    rintro _ τ3 H5 ⟨rfl, v10, ⟨ex5, nx5, mi5, w⟩⟩
    simp at w
    have hsrt := prL_srt (P := P) (S := S) ok.nod
    have hlen : (prL P Ts S Ts.length).length = (prsM P Ts S).length := by rw [← hsrt]; exact (srtB_len _).symm
    have hll := prL_len P Ts S Ts.length
    have hnod : (prsM P Ts S).Nodup := (prsM_rise P Ts S).nodup stoS
    simp [w]
    rcases mi5.ow with ⟨rfl, hT0⟩ | ⟨o1, rfl, hT1, hT2, hT3⟩
    · refine (sort86n T.h85).mono ?_
      rintro _ H6 ⟨rfl, rfl⟩
      have he : prsM P Ts S = [] := List.length_eq_zero_iff.1 (by rw [← hlen, hT0]; rfl)
      have hv : Pairs H6 .nils (prsM P Ts S) := .inl ⟨rfl, he⟩
      simp [w]
      refine (compact89 T.h89 hv (by omega) hnod).mono ?_
      rintro _ _ ⟨rfl, rfl⟩
      simp
      exact ⟨⟨fun _ => ⟨.nils, rfl, ⟨.inl ⟨rfl, he⟩, rfl⟩, fun p hp => by cases hp⟩, fun h => absurd ok h⟩, ex5⟩
    · have ho := mi5.new o1 rfl
      have hox : H.next ≤ o1 := by have := pm4.ex.next; omega
      have hfl : H5.floor ≤ o1 := hT3
      refine (sort86 T.h85 hT2 hfl hT1 (by omega)).mono ?_
      rintro _ _ ⟨rfl, rfl⟩
      rw [hsrt]
      have g6 : (H5.set o1 (.cells ((prsM P Ts S).flatMap pairc))).get o1 = some (.cells ((prsM P Ts S).flatMap pairc)) := get_setH.trans (if_pos rfl)
      have e6 : Ext H (H5.set o1 (.cells ((prsM P Ts S).flatMap pairc))) := ex5.setNew hw hox (ex5.wf.lt hT2)
      generalize H5.set o1 (.cells ((prsM P Ts S).flatMap pairc)) = H6 at *
      have hrw : Rw 2 pairc H6 (.slc o1 0 (prL P Ts S Ts.length).length 2 (prL P Ts S Ts.length).length false) (prsM P Ts S) := by
        rw [hlen]
        refine ⟨.inr ⟨o1, 0, _, false, rfl, ?_⟩, by simp [capOk]⟩
        unfold Heap.readSeg
        rw [cellsAt_get g6]
        exact seg_all (flat_len pairc_len _)
      simp [w]
      refine (compact89 T.h89 (hrw.sl pairc_len) (by omega) hnod).mono ?_
      rintro _ _ ⟨rfl, rfl⟩
      simp
      exact ⟨⟨fun _ => ⟨_, rfl, hrw, fun p hp => by cases hp; exact hox⟩, fun h => absurd ok h⟩, e6⟩
  · rw [chkM_no ok]
    simp
    exact ⟨⟨fun h => absurd h ok, fun _ => rfl⟩, ex2⟩
theorem quad45 (T : PairT FT) (hw : H.Wf) {av : AV} {P : List (Int × Int)} {Ts : List Tri} {S : List (Int × Int)} {i k : Int} (hm : Msh H av P Ts S) (lP : P.length ≤ 1000000000) (lT : Ts.length ≤ 1000000) (lS : S.length ≤ 1000000000) :
    Cp FT 45 [av, .int .i64 i, .int .i64 k] H (fun r H' => QdR H H' (quadM P Ts S i k) r ∧ Ext H H') := by
  obtain ⟨vP, vT, vS, rfl, hP, hT, hS⟩ := hm.ex
  refine Cp_code A45 T.h45 rfl ?_
  obtain ⟨g1, e1⟩ := push_new hw (.cells [vP, vT, vS])
  have hall : allOne [vP, vT, vS] = true := by simp [allOne, hP.one.1, hT.one.1, hS.one.1]
  generalize hH1 : H.push (.cells [vP, vT, vS]) = H1 at g1 e1
  have l1 : loadA H1 (some 3) (.ptr H.next 0) = some (.agg [vP, vT, vS]) := load_agg g1 rfl
  have f1 : loadA H1 none (.ptr H.next 1) = some vT := load_get g1 rfl
  simp [A45, hall, hH1, l1]
  refine (check75 T.h75 e1.wf (hm.ext e1) lP (by omega) lS).mono ?_
  rintro _ H2 ⟨rfl, e2⟩
  have ex2 := e1.trans e2
  have f1' := load_ext f1 e2
  have l1' := load_ext l1 e2
  by_cases ok : MeshOk P Ts S
  · rw [chkM_ok ok]
    by_cases i0 : i < 0
    · have hn : quadM P Ts S i k = none := by unfold quadM; rw [if_neg fun h => by have := h.2.1.1; omega]
      simp [i0]
      exact ⟨QdR.nil hn, ex2⟩
    by_cases i1 : (Ts.length : Int) ≤ i
    · have hn : quadM P Ts S i k = none := by unfold quadM; rw [if_neg fun h => by have := h.2.1.2; omega]
      simp [i0, i1, f1', hT.len]
      exact ⟨QdR.nil hn, ex2⟩
    by_cases k0 : k < 0
    · have hn : quadM P Ts S i k = none := by unfold quadM; rw [if_neg fun h => by have := h.2.2.1; omega]
      simp [i0, i1, k0, f1', hT.len]
      exact ⟨QdR.nil hn, ex2⟩
    by_cases k1 : (Ts.length : Int) ≤ k
    · have hn : quadM P Ts S i k = none := by unfold quadM; rw [if_neg fun h => by have := h.2.2.2; omega]
      simp [i0, i1, k0, k1, f1', hT.len]
      exact ⟨QdR.nil hn, ex2⟩
    obtain ⟨ni, rfl⟩ := Int.eq_ofNat_of_zero_le (show 0 ≤ i by omega)
    obtain ⟨nk, rfl⟩ := Int.eq_ofNat_of_zero_le (show 0 ≤ k by omega)
    have il : ni < Ts.length := by omega
    have kl : nk < Ts.length := by omega
    have hi : Ts[ni]? = some Ts[ni] := List.getElem?_eq_getElem il
    have hk : Ts[nk]? = some Ts[nk] := List.getElem?_eq_getElem kl
    have hq : quadM P Ts S ni nk = quadF P S Ts[ni] Ts[nk] := by
      unfold quadM
      rw [if_pos ⟨ok, ⟨by omega, by omega⟩, ⟨by omega, by omega⟩⟩, Int.toNat_natCast, Int.toNat_natCast, quadAt_at hi hk]
    have c1 : ¬ Ts.length ≤ ni := by omega
    have c2 : ¬ Ts.length ≤ nk := by omega
    have c3 : ¬ (ni : Int) < 0 := by omega
    have c4 : ¬ (nk : Int) < 0 := by omega
    simp [c1, c2, c3, c4, f1', hT.len, l1']
    refine (quad76 T.q e2.wf ((hP.sl pairc_len).ext ex2) ((hT.sl tric_len).ext ex2) ((hS.sl pairc_len).ext ex2) lP (by omega) lS hP.one hT.one hS.one hi hk (ok.tri _ (List.getElem_mem il)) (ok.tri _ (List.getElem_mem kl))).mono ?_
    rintro _ H3 ⟨⟨v, rfl, h1, h2⟩, e3⟩
    simp
    rw [hq]
    exact ⟨⟨v, rfl, fun f e => ⟨(h1 f e).1, fun p hp => by have := (h1 f e).2 p hp; have := ex2.next; omega⟩, h2⟩, ex2.trans e3⟩
  · have hn : quadM P Ts S i k = none := by unfold quadM; rw [if_neg fun h => ok h.1]
    rw [chkM_no ok]
    simp
    exact ⟨QdR.nil hn, ex2⟩
/-- What comes out of Beside. -/
structure BsR (H0 H' : Heap) (P : List (Int × Int)) (T : List Tri) (S : List (Int × Int)) (i : Int) (r : AV) : Prop where
  yes : MeshOk P T S → Rw 1 i64c H' r (srtI (besL P T S i))
  no : ¬ MeshOk P T S → r = .nils
def besT (i : Int) (l : List (Int × Int)) : List Int := l.filterMap fun s => if i = s.1 then some s.2 else if i = s.2 then some s.1 else none
theorem besT_le (i : Int) (l : List (Int × Int)) : (besT i l).length ≤ l.length := List.length_filterMap_le _ _
structure Be1 (H H' : Heap) (v5 v7 : AV) (l : List (Int × Int)) (i : Int) (τ : Env) (k m : Nat) : Prop where
  ex : Ext H H'
  mi : Mine 1 i64c H H' v7 (besT i (l.take k))
  le : k ≤ l.length
  hm : m = l.length - k
  t : Tm τ [(1, .int .i64 i), (7, v7), (15, v5), (16, .int .i64 l.length), (17, .int .i64 k)]
theorem ints_map (xs : List Int) : xs.flatMap i64c = xs.map (AV.int .i64 ·) := by
  induction xs with
  | nil => rfl
  | cons x xs ih => rw [List.flatMap_cons, ih]; rfl
theorem beside52 (T : PairT FT) (h52 : FT 52 = some (.code A52)) (h62 : FT 62 = FS 62) (hw : H.Wf) {av : AV} {P : List (Int × Int)} {Ts : List Tri} {S : List (Int × Int)} {i : Int} (hm : Msh H av P Ts S) (lP : P.length ≤ 1000000000) (lT : Ts.length ≤ 1000000) (lS : S.length ≤ 1000000000) :
    Cp FT 52 [av, .int .i64 i] H (fun r H' => BsR H H' P Ts S i r ∧ Ext H H') := by
  obtain ⟨vP, vT, vS, rfl, hP, hT, hS⟩ := hm.ex
  refine Cp_code A52 h52 rfl ?_
  obtain ⟨g1, e1⟩ := push_new hw (.cells [vP, vT, vS])
  have hall : allOne [vP, vT, vS] = true := by simp [allOne, hP.one.1, hT.one.1, hS.one.1]
  generalize hH1 : H.push (.cells [vP, vT, vS]) = H1 at g1 e1
  have l1 : loadA H1 (some 3) (.ptr H.next 0) = some (.agg [vP, vT, vS]) := load_agg g1 rfl
  simp [A52, hall, hH1, l1]
  refine (pairs51 T e1.wf (hm.ext e1) lP lT lS).mono ?_
  rintro r H2 ⟨⟨hy, hn⟩, e2⟩
  have ex2 := e1.trans e2
  by_cases ok : MeshOk P Ts S
  · obtain ⟨v5, rfl, hv, _⟩ := hy ok
    have hv5 := hv.sl pairc_len
    have hll : (prsM P Ts S).length ≤ 3 * Ts.length := by
      rw [← prL_srt ok.nod, srtB_len]
      exact prL_len P Ts S Ts.length
    have hbes : besL P Ts S i = besT i (prsM P Ts S) := rfl
    generalize prsM P Ts S = l at *
    simp [hv.len]
    refine Wp_loop (fun m τ H' => ∃ k v7, Be1 H2 H' v5 v7 l i τ k m) ?_ l.length _ _ ⟨0, .nils, ⟨Ext.refl e2.wf, by simpa [besT] using Mine.nil, by omega, by omega, by simp⟩⟩
    rintro m τ H3 ⟨k, v7, ⟨e3, mi, hk, rfl, t⟩⟩
    simp at t
    obtain ⟨t1, t7, t15, t16, t17⟩ := t
    by_cases q : k < l.length
    · have w : IntKind.i64.wrap ((k : Int) + 1) = (k : Int) + 1 := wrap64 (by omega) (by omega)
      obtain ⟨o1, off1, s, a1, a2, a3, _⟩ := Pairs.idx (hv5.ext e3) (k := .i64) (i := (k : Int)) (by omega) (by omega)
      rw [Int.toNat_natCast] at a1
      obtain ⟨H4, st, g9, e4, n4⟩ := store_new e3.wf (z := [.int .i64 0, .int .i64 0]) (n := 2) (x := .agg (pairc s)) (cs := pairc s) rfl rfl rfl rfl
      have b0 : loadA H4 none (.ptr H3.next 0) = some (.int .i64 s.1) := load_get g9 rfl
      have b1 : loadA H4 none (.ptr H3.next 1) = some (.int .i64 s.2) := load_get g9 rfl
      have mi4 := mi.ext e4
      have e34 := e3.trans e4
      have hle := besT_le i (l.take k)
      have hlk : (l.take k).length ≤ k := by rw [List.length_take]; omega
      have htk : besT i (l.take (k + 1)) = besT i (l.take k) ++ (if i = s.1 then [s.2] else if i = s.2 then [s.1] else []) := by
        unfold besT
        rw [List.take_add_one, a1, List.filterMap_append]
        congr 1
        by_cases c1 : i = s.1
        · simp [c1]
        · by_cases c2 : i = s.2
          · have c1' : ¬ s.2 = s.1 := fun e => c1 (c2.trans e)
            simp [c2, c1']
          · simp [c1, c2]
      by_cases c1 : i = s.1
      · obtain ⟨v', H5, d1, d2, d3, d4⟩ := mi4.app1 i64c_len (by omega) i64c_one (bytes := 8) e34.wf e34.next s.2 (by omega)
        have d1' : appendA 1 8 (H4.push (.cells [.int .i64 s.2])) v7 (.slc H4.next 0 1 1 1 true) = some (v', H5) := d1
        have e5 : Ext H2 H5 := ext_fr e2.wf e34 d3 (fun p hp => mi4.new p (by simpa using hp))
        simp [q, t1, t7, t15, t16, t17, a2, a3, st, b0, b1, c1, setSeg, d1', w]
        exact ⟨_, by omega, k + 1, v', ⟨e5, by rw [← c1, htk, if_pos c1]; exact d2, by omega, rfl, by simp [t1, t15, t16, c1]⟩⟩
      · by_cases c2 : i = s.2
        · obtain ⟨v', H5, d1, d2, d3, d4⟩ := mi4.app1 i64c_len (by omega) i64c_one (bytes := 8) e34.wf e34.next s.1 (by omega)
          have d1' : appendA 1 8 (H4.push (.cells [.int .i64 s.1])) v7 (.slc H4.next 0 1 1 1 true) = some (v', H5) := d1
          have e5 : Ext H2 H5 := ext_fr e2.wf e34 d3 (fun p hp => mi4.new p (by simpa using hp))
          have c1' : ¬ s.2 = s.1 := fun e => c1 (c2.trans e)
          simp [q, t1, t7, t15, t16, t17, a2, a3, st, b0, b1, c2, c1', setSeg, d1', w]
          exact ⟨_, by omega, k + 1, v', ⟨e5, by rw [← c2, htk, if_neg c1, if_pos c2]; exact d2, by omega, rfl, by simp [t1, t15, t16, c2]⟩⟩
        · simp [q, t1, t7, t15, t16, t17, a2, a3, st, b0, b1, c1, c2, w]
          exact ⟨_, by omega, k + 1, v7, ⟨e34, by rw [htk, if_neg c1, if_neg c2, List.append_nil]; exact mi4, by omega, rfl, by simp [t1, t7, t15, t16]⟩⟩
    · have hkl : k = l.length := by omega
      subst hkl
      rw [List.take_length] at mi
      have hle := besT_le i l
      simp [t7, t16, t17]
      rcases mi.ow with ⟨rfl, hT0⟩ | ⟨o1, rfl, hT1, hT2, hT3⟩
      · refine (sort62n h62).mono ?_
        rintro _ H6 ⟨rfl, rfl⟩
        simp [t7]
        refine ⟨⟨fun _ => ?_, fun h => absurd ok h⟩, ex2.trans e3⟩
        rw [hbes, hT0]
        exact ⟨.inl ⟨rfl, by unfold srtI srtB; simp⟩, rfl⟩
      · have ho := mi.new o1 rfl
        rw [ints_map] at hT2
        refine (sort62 h62 hT2 hT3 hT1 (by omega)).mono ?_
        rintro _ _ ⟨rfl, rfl⟩
        have g6 : (H3.set o1 (.cells ((srtI (besT i l)).map (.int .i64 ·)))).get o1 = some (.cells ((srtI (besT i l)).map (.int .i64 ·))) := get_setH.trans (if_pos rfl)
        have e6 : Ext H2 (H3.set o1 (.cells ((srtI (besT i l)).map (.int .i64 ·)))) := e3.setNew e2.wf ho (e3.wf.lt hT2)
        generalize H3.set o1 (.cells ((srtI (besT i l)).map (.int .i64 ·))) = H6 at *
        simp [t7]
        refine ⟨⟨fun _ => ?_, fun h => absurd ok h⟩, ex2.trans e6⟩
        rw [hbes]
        have hsl : (besT i l).length = (srtI (besT i l)).length := (srtB_len _).symm
        rw [hsl]
        rw [← ints_map] at g6
        refine ⟨.inr ⟨o1, 0, _, false, rfl, ?_⟩, by simp [capOk]⟩
        unfold Heap.readSeg
        rw [cellsAt_get g6]
        exact seg_all (flat_len (e := 1) i64c_len _)
  · rw [hn ok]
    simp
    refine Wp_unroll ?_
    simp
    refine (sort62n h62).mono ?_
    rintro _ H6 ⟨rfl, rfl⟩
    simp
    exact ⟨⟨fun h => absurd h ok, fun _ => rfl⟩, ex2⟩
end
end Go.Proofs.Ytcepchipgjpkhaa

/- Rows that are the same; the chapter's example of pairs. No claim by itself. -/
namespace Go.Proofs.Ytcepchipgjpkhaa
open Go Go.AI
section
variable {H : Heap} {FT : Nat → Option FnD}
structure Sm2 {α : Type} (H H' : Heap) (v w : AV) (a b : List α) (τ : Env) (i m : Nat) : Prop where
  eq : H = H'
  le : i ≤ a.length
  hm : m = a.length - i
  ok : a.take i = b.take i
  t : Tm τ [(0, v), (1, w), (5, .int .i64 i)]
theorem take_alike {α : Type} {a b : List α} (_hl : a.length = b.length) {i : Nat} {x : α} (h : a.take i = b.take i) (ha : a[i]? = some x) (hb : b[i]? = some x) : a.take (i + 1) = b.take (i + 1) := by
  rw [List.take_add_one, List.take_add_one, h, ha, hb]
theorem sameI32 (h32 : FT 32 = some (.code A32)) {v w : AV} {a b : List Int} (ha : Ints H v a) (hb : Ints H w b) (hl : a.length ≤ 1000000000) :
    Cp FT 32 [v, w] H (fun r H' => r = .bool (decide (a = b)) ∧ H' = H) := by
  refine Cp_code A32 h32 rfl ?_
  simp [A32, ha.len, hb.len]
  by_cases e : a.length = b.length
  · have e' : (a.length : Int) = b.length := by omega
    simp [e']
    rw [← e]
    refine Wp_loop (fun m τ H' => ∃ i, Sm2 H H' v w a b τ i m) ?_ a.length _ _ ⟨0, ⟨rfl, by omega, by omega, by simp, by simp⟩⟩
    rintro m τ _ ⟨i, ⟨rfl, hi, rfl, ok, t⟩⟩
    simp at t
    obtain ⟨t0, t1, t5⟩ := t
    by_cases c : i < a.length
    · obtain ⟨p, x, a1, a2, a3⟩ := Ints.idx ha (k := .i64) (i := (i : Int)) (by omega) (by omega)
      obtain ⟨q, y, b1, b2, b3⟩ := Ints.idx hb (k := .i64) (i := (i : Int)) (by omega) (by omega)
      rw [Int.toNat_natCast] at a1 b1
      by_cases d : x = y
      · subst d
        have wi : IntKind.i64.wrap ((i : Int) + 1) = (i : Int) + 1 := wrap64 (by omega) (by omega)
        simp [c, t0, t1, t5, ha.len, a2, a3, b2, b3, wi]
        exact ⟨_, by omega, i + 1, ⟨rfl, by omega, rfl, take_alike e ok a1 b1, by simp [t0, t1]⟩⟩
      · have hne : ¬ a = b := fun q => by rw [q, b1] at a1; exact d (Option.some.inj a1).symm
        simp [c, t0, t1, t5, ha.len, a2, a3, b2, b3, d, hne]
    · have hil : i = a.length := by omega
      subst hil
      rw [List.take_length, e, List.take_length] at ok
      simp [t0, t5, ha.len, ok]
  · have e' : ¬ (a.length : Int) = b.length := by omega
    have hne : ¬ a = b := fun q => e (by rw [q])
    simp [e', hne]
theorem sameS26 (h26 : FT 26 = some (.code A26)) {v w : AV} {a b : List (Int × Int)} (ha : Pairs H v a) (hb : Pairs H w b) (hl : a.length ≤ 1000000000) :
    Cp FT 26 [v, w] H (fun r H' => r = .bool (decide (a = b)) ∧ H' = H) := by
  refine Cp_code A26 h26 rfl ?_
  simp [A26, ha.len, hb.len]
  by_cases e : a.length = b.length
  · have e' : (a.length : Int) = b.length := by omega
    simp [e']
    rw [← e]
    refine Wp_loop (fun m τ H' => ∃ i, Sm2 H H' v w a b τ i m) ?_ a.length _ _ ⟨0, ⟨rfl, by omega, by omega, by simp, by simp⟩⟩
    rintro m τ _ ⟨i, ⟨rfl, hi, rfl, ok, t⟩⟩
    simp at t
    obtain ⟨t0, t1, t5⟩ := t
    by_cases c : i < a.length
    · obtain ⟨p, x, a1, a2, a3, _⟩ := Sl.idx ha (k := .i64) (i := (i : Int)) (by omega) (by omega)
      obtain ⟨q, y, b1, b2, b3, _⟩ := Sl.idx hb (k := .i64) (i := (i : Int)) (by omega) (by omega)
      rw [Int.toNat_natCast] at a1 b1
      have hq : binA .neq (.flat [.int, .int]) (.agg (pairc x)) (.agg (pairc y)) = some (.bool !(decide (x = y))) := by
        show (eqA (.flat [.int, .int]) (.agg (pairc x)) (.agg (pairc y))).map (fun b => AV.bool !b) = _
        rw [cells_pair]; rfl
      by_cases d : x = y
      · subst d
        have wi : IntKind.i64.wrap ((i : Int) + 1) = (i : Int) + 1 := wrap64 (by omega) (by omega)
        simp [c, t0, t1, t5, ha.len, a2, a3, b2, b3, hq, wi]
        exact ⟨_, by omega, i + 1, ⟨rfl, by omega, rfl, take_alike e ok a1 b1, by simp [t0, t1]⟩⟩
      · have hne : ¬ a = b := fun q => by rw [q, b1] at a1; exact d (Option.some.inj a1).symm
        simp [c, t0, t1, t5, ha.len, a2, a3, b2, b3, hq, d, hne]
    · have hil : i = a.length := by omega
      subst hil
      rw [List.take_length, e, List.take_length] at ok
      simp [t0, t5, ha.len, ok]
  · have e' : ¬ (a.length : Int) = b.length := by omega
    have hne : ¬ a = b := fun q => e (by rw [q])
    simp [e', hne]
/-- What the statements of layer 17 need. -/
structure LawM (FT : Nat → Option FnD) : Prop where
  p : PairT FT
  h26 : FT 26 = some (.code A26)
  h32 : FT 32 = some (.code A32)
  h44 : FT 44 = some (.code A44)
  h52 : FT 52 = some (.code A52)
  h62 : FT 62 = FS 62
  h74 : FT 74 = some (.code A74)
theorem mesh_push {H : Heap} (_hw : H.Wf) {P S : List (Int × Int)} {T : List Tri} {oP oT oS : Nat} (gP : H.get oP = some (.cells (P.flatMap pairc))) (gT : H.get oT = some (.cells (T.flatMap tric))) (gS : H.get oS = some (.cells (S.flatMap pairc))) : Msh H (.agg [.slc oP 0 P.length 2 P.length true, .slc oT 0 T.length 3 T.length true, .slc oS 0 S.length 2 S.length true]) P T S :=
  ⟨_, _, _, rfl, rw_lits pairc_len gP, rw_lits tric_len gT, rw_lits pairc_len gS⟩
theorem square74 (h74 : FT 74 = some (.code A74)) (hw : H.Wf) : Cp FT 74 [] H (fun r H' => Msh H' r sqP cutT cutS ∧ Ext H H') := by
  refine Cp_code A74 h74 rfl ?_
  obtain ⟨g0, e0⟩ := push_new hw (.cells [.nils, .nils, .nils])
  obtain ⟨g1, e1⟩ := push_new e0.wf (.cells (sqP.flatMap pairc))
  obtain ⟨g2, e2⟩ := push_new e1.wf (.cells (cutT.flatMap tric))
  obtain ⟨g3, e3⟩ := push_new e2.wf (.cells (cutS.flatMap pairc))
  have f3 : ∀ (e : Opd → AV) (cs : List AV) (off : Nat) (a b c : Int) (r : List (Nat × Nat × Opd)), fillV e cs off 3 (.agg [.int .i64 a, .int .i64 b, .int .i64 c]) r = if off + 3 ≤ cs.length then fillA e (setSeg cs off [.int .i64 a, .int .i64 b, .int .i64 c]) r else none := fun e cs off a b c r => by simp [fillV]
  have k0 := e3.keep _ _ (e2.keep _ _ (e1.keep _ _ g0))
  have ex := ((e0.trans e1).trans e2).trans e3
  obtain ⟨H5, s1, s2, s3⟩ := store_whole (n := 3) (x := .agg [.slc (H.next + 1) 0 4 2 4 true, .slc (H.next + 1 + 1) 0 2 3 2 true, .slc (H.next + 1 + 1 + 1) 0 4 2 4 true]) ex.wf rfl rfl (by rw [ex.floor]; exact hw.1) k0 rfl rfl
  have q1 : (H.push (.cells [.nils, .nils, .nils])).next ∉ [H.next] := by simp
  have q2 : ((H.push (.cells [.nils, .nils, .nils])).push (.cells (sqP.flatMap pairc))).next ∉ [H.next] := by simp; omega
  have q3 : (((H.push (.cells [.nils, .nils, .nils])).push (.cells (sqP.flatMap pairc))).push (.cells (cutT.flatMap tric))).next ∉ [H.next] := by simp; omega
  have g1' := s3.keep _ _ q1 (e3.keep _ _ (e2.keep _ _ g1))
  have g2' := s3.keep _ _ q2 (e3.keep _ _ g2)
  have g3' := s3.keep _ _ q3 g3
  have hm := mesh_push s3.wf g1' g2' g3'
  have s2' := cellsAt_get s2
  have e5 : Ext H H5 := ext_fr hw ex s3 (fun p hp => by simp at hp; omega)
  simp [-storeA_ptr, A74, setSeg, f3]
  refine Eq.mpr (congrArg (opK FT none [] _ _) s1) ?_
  simp [resultsA, resultA, s2', partA, seg, packA]
  exact ⟨hm, e5⟩
theorem sq_bes : srtI (besL sqP cutT cutS 1) = [0] := by
  have h : besL sqP cutT cutS 1 = [0] := by decide +kernel
  rw [h]
  unfold srtI srtB
  simp
theorem known44 (L : LawM FT) (hw : H.Wf) : Cp FT 44 [] H (fun r H' => r = .bool true ∧ Ext H H') := by
  refine Cp_code A44 L.h44 rfl ?_
  have lP : sqP.length ≤ 1000000000 := by decide
  have lT : cutT.length ≤ 1000000 := by decide
  have lS : cutS.length ≤ 1000000000 := by decide
  simp [A44]
  refine (square74 L.h74 hw).mono ?_
  rintro v1 H1 ⟨m1, e1⟩
  simp
  refine (pairs51 L.p e1.wf m1 lP lT lS).mono ?_
  rintro r1 H2 ⟨⟨y1, _⟩, e2⟩
  obtain ⟨w1, rfl, hw1, _⟩ := y1 sq_ok
  rw [sq_prs] at hw1
  simp
  refine (square74 L.h74 e2.wf).mono ?_
  rintro v3 H3 ⟨m3, e3⟩
  simp
  refine (quad45 L.p e3.wf (i := 1) (k := 0) m3 lP lT lS).mono ?_
  rintro r4 H4 ⟨⟨w4, rfl, h4, _⟩, e4⟩
  obtain ⟨hw4, _⟩ := h4 _ sq_quad
  rw [sq_quad]
  have f3 : ∀ (e : Opd → AV) (cs : List AV) (off : Nat) (a b c : Int) (r : List (Nat × Nat × Opd)), fillV e cs off 3 (.agg [.int .i64 a, .int .i64 b, .int .i64 c]) r = if off + 3 ≤ cs.length then fillA e (setSeg cs off [.int .i64 a, .int .i64 b, .int .i64 c]) r else none := fun e cs off a b c r => by simp [fillV]
  obtain ⟨g5, e5⟩ := push_new e4.wf (.cells ([((0 : Int), (0 : Int), (0 : Int))].flatMap tric))
  have m5 : Msh (H4.push (.cells ([((0 : Int), (0 : Int), (0 : Int))].flatMap tric))) (.agg [.nils, .slc H4.next 0 1 3 1 true, .nils]) [] [(0, 0, 0)] [] := ⟨_, _, _, rfl, ⟨.inl ⟨rfl, rfl⟩, rfl⟩, rw_lits (xs := [((0 : Int), (0 : Int), (0 : Int))]) tric_len g5, ⟨.inl ⟨rfl, rfl⟩, rfl⟩⟩
  simp [f3, setSeg]
  refine (pairs51 L.p e5.wf m5 (by simp) (by simp) (by simp)).mono ?_
  rintro r5 H5 ⟨⟨_, n5⟩, e5'⟩
  rw [n5 one_no]
  simp
  refine (square74 L.h74 e5'.wf).mono ?_
  rintro v6 H6 ⟨m6, e6⟩
  simp
  refine (quad45 L.p e6.wf (i := 0) (k := 0) m6 lP lT lS).mono ?_
  rintro r7 H7 ⟨⟨w7, rfl, _, _⟩, e7⟩
  rw [sq_self]
  have hw1' : Pairs H7 w1 [(0, 1)] := (((((((hw1.ext e3).ext e4).ext e5).ext e5').ext e6).ext e7)).sl pairc_len
  have hw4' : Rw 1 i64c H7 w4 [0, 1, 2, 3] := ((((hw4.ext e5).ext e5').ext e6).ext e7)
  obtain ⟨g8, e8⟩ := push_new e7.wf (.cells ([((0 : Int), (1 : Int))].flatMap pairc))
  have l8 : Pairs (H7.push (.cells ([((0 : Int), (1 : Int))].flatMap pairc))) (.slc H7.next 0 1 2 1 true) [(0, 1)] := (rw_lits (xs := [((0 : Int), (1 : Int))]) pairc_len g8).sl pairc_len
  simp [setSeg]
  refine (sameS26 L.h26 (hw1'.ext e8) l8 (by simp)).mono ?_
  rintro _ _ ⟨rfl, rfl⟩
  simp
  obtain ⟨g9, e9⟩ := push_new e8.wf (.cells ([(0 : Int), 1, 2, 3].flatMap i64c))
  have l9 : Ints ((H7.push (.cells ([((0 : Int), (1 : Int))].flatMap pairc))).push (.cells ([(0 : Int), 1, 2, 3].flatMap i64c))) (.slc (H7.next + 1) 0 4 1 4 true) [0, 1, 2, 3] := (rw_lits (xs := [(0 : Int), 1, 2, 3]) i64c_len g9).sl i64c_len
  refine (sameI32 L.h32 ((hw4'.ext (e8.trans e9)).sl i64c_len) l9 (by simp)).mono ?_
  rintro _ _ ⟨rfl, rfl⟩
  have x9 := e1.trans (e2.trans (e3.trans (e4.trans (e5.trans (e5'.trans (e6.trans (e7.trans (e8.trans e9))))))))
  simp
  refine (square74 L.h74 e9.wf).mono ?_
  rintro v10 H10 ⟨m10, e10⟩
  simp
  refine (beside52 L.p L.h52 L.h62 e10.wf (i := 1) m10 lP lT lS).mono ?_
  rintro r11 H11 ⟨⟨y11, _⟩, e11⟩
  have hb := y11 sq_ok
  rw [sq_bes] at hb
  obtain ⟨g12, e12⟩ := push_new e11.wf (.cells ([(0 : Int)].flatMap i64c))
  have l12 : Ints (H11.push (.cells ([(0 : Int)].flatMap i64c))) (.slc H11.next 0 1 1 1 true) [0] := (rw_lits (xs := [(0 : Int)]) i64c_len g12).sl i64c_len
  simp [setSeg]
  refine (sameI32 L.h32 ((hb.ext e12).sl i64c_len) l12 (by simp)).mono ?_
  rintro _ _ ⟨rfl, rfl⟩
  simp
  exact x9.trans (e10.trans (e11.trans e12))
end
end Go.Proofs.Ytcepchipgjpkhaa

/- The table of layer 17's statements. No claim by itself. -/
namespace Go.Proofs.Ytcepchipgjpkhaa
open Go Go.AI
theorem predM : PredT FM := ⟨rfl, rfl, rfl, rfl, rfl, rfl, rfl, rfl, rfl, rfl, rfl, rfl, rfl, rfl, rfl, rfl, rfl⟩
theorem quadMT : QuadT FM := ⟨fun hw => orient96 predM hw, fun hw hv hl => convex67 predM hw hv hl, gr157 rfl, rfl, rfl, rfl, rfl, rfl, rfl, rfl, rfl, rfl⟩
theorem pairM : PairT FM := ⟨quadMT, rfl, rfl, rfl, rfl, rfl⟩
theorem lawM : LawM FM := ⟨pairM, rfl, rfl, rfl, rfl, rfl, rfl⟩
theorem numM : NumT FM := by constructor <;> rfl
end Go.Proofs.Ytcepchipgjpkhaa
