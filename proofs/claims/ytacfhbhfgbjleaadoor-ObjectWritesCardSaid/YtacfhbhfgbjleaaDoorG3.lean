/- A mesh's text, as the document writes it. No claim by itself. -/
import Derived.Test.YtacfhbhfgbjleaaDoorG2
import Derived.Test.YtacfhbhfgbjleaaDoorF4
import Derived.Test.YtacfhbhfgbjleaaDoorD2
namespace Go.Proofs.YtacfhbhfgbjleaaDoor
open Go Go.AI
section
variable {FT : Nat → Option FnD} {H : Heap}
abbrev H21 (FT : Nat → Option FnD) : Prop := FT 21 = some (.code A21) ∧ FT 39 = some (.code A39) ∧ FT 40 = some (.code A40) ∧ FT 53 = some (.code A53) ∧ FT 52 = some (.code A52)
theorem text21 (hh : H21 FT) (hw : H.Wf) {n : Int} (h0 : -9223372036854775807 ≤ n) (h1 : n ≤ 9223372036854775807) :
    Cp FT 21 [.int .i64 n] H (fun r H' => r = .str (itoaN n) ∧ Ext H H') := by
  obtain ⟨h21, h39, h40, h53, h52⟩ := hh
  refine Cp_code A21 h21 rfl ?_
  simp [A21]
  refine smallText h39 h40 h53 h52 hw h0 h1 ?_
  intro r H1 e1 c1
  simp
  refine c1.mono ?_
  rintro _ H2 ⟨rfl, e2⟩
  simp
  exact e2
theorem text21Q (hh : H21 FT) (hw : H.Wf) {n : Int} (h0 : -9223372036854775807 ≤ n) (h1 : n ≤ 9223372036854775807) {K : AV → Heap → Prop} (k : ∀ H1, Ext H H1 → K (.str (itoaN n)) H1) :
    Cp FT 21 [.int .i64 n] { t := H.t, next := H.next, floor := H.next } (backK H.floor K) := by
  refine (text21 hh hw.up h0 h1).quiet (H := H) ?_
  rintro _ H1 ⟨rfl, e1⟩
  exact k _ (e1.back hw)
structure V1 (H H' : Heap) (vP vF : AV) (P : List (Int × Int)) (W : Int) (ob : Nat) (τ : Env) (i m : Nat) : Prop where
  ex : Ext H H'
  go : H'.get ob = some (.cells [vP, .int .i64 W, vF])
  le : i ≤ P.length
  hm : m = P.length - i
  t1 : Env.at τ 1 = .ptr ob 0
  t5 : Env.at τ 5 = .str (txP W (P.take i))
  t6 : Env.at τ 6 = .int .i64 i
structure V2 (H H' : Heap) (vP vF : AV) (P : List (Int × Int)) (W : Int) (F : List (List Int)) (ob : Nat) (τ : Env) (i m : Nat) : Prop where
  ex : Ext H H'
  go : H'.get ob = some (.cells [vP, .int .i64 W, vF])
  le : i ≤ F.length
  hm : m = F.length - i
  t1 : Env.at τ 1 = .ptr ob 0
  t5 : Env.at τ 5 = .str (txP W P ++ txF (F.take i))
  t7 : Env.at τ 7 = .int .i64 i
/-- A face's row as far as it goes. -/
def rowTo (f : List Int) (j : Nat) : List Nat := [102] ++ (f.take j).flatMap fun k => 32 :: itoaN (k + 1)
theorem rowTo_succ {f : List Int} {j : Nat} {x : Int} (h : f[j]? = some x) : rowTo f (j + 1) = rowTo f j ++ [32] ++ itoaN (x + 1) := by
  unfold rowTo; rw [List.take_add_one, h]; simp
theorem rowTo_all (f : List Int) : rowTo f f.length ++ [10] = joinS (fS :: (f.map (· + 1)).map itoaN) := by
  unfold rowTo joinS
  rw [List.take_length, if_neg (by simp)]
  simp only [joinP, fS, List.map_map]
  congr 2
  rw [List.flatMap_map]; rfl
theorem rowTo_len {f : List Int} (h : f.length ≤ 10) (j : Nat) : (rowTo f j).length ≤ 300 := by
  have h1 : ∀ (l : List Int), (l.flatMap fun k => 32 :: itoaN (k + 1)).length ≤ l.length * 27 := by
    intro l
    induction l with
    | nil => simp
    | cons x l ih => have := itoaN_len (x + 1); simp at ih ⊢; omega
  have := h1 (f.take j)
  rw [List.length_take] at this
  unfold rowTo
  rw [List.length_append, List.length_singleton]; omega
structure V3 (H H' : Heap) (vP vF : AV) (S : List Nat) (W : Int) (f : List Int) (ob : Nat) (τ : Env) (i j m : Nat) : Prop where
  ex : Ext H H'
  go : H'.get ob = some (.cells [vP, .int .i64 W, vF])
  le : j ≤ f.length
  hm : m = f.length - j
  t1 : Env.at τ 1 = .ptr ob 0
  t5 : Env.at τ 5 = .str (S ++ rowTo f j)
  t7 : Env.at τ 7 = .int .i64 i
  t8 : Env.at τ 8 = .int .i64 j
def r12a : ACode := subAt [1,1,1,1,0] A12.body
def r12b : ACode := subAt [1,1,1,1,1,0] A12.body
theorem body12 : A12.body = putAt [1,1,1,1,0] (putAt [1,1,1,1,1,0] A12.body r12b) r12a := rfl
structure Qv1 (H H' : Heap) (vP vF : AV) (P : List (Int × Int)) (W : Int) (ob : Nat) (τ : Env) : Prop where
  ex : Ext H H'
  go : H'.get ob = some (.cells [vP, .int .i64 W, vF])
  t1 : Env.at τ 1 = .ptr ob 0
  t5 : Env.at τ 5 = .str (txP W P)
theorem write12a (hh : H21 FT) {vP vF : AV} {P : List (Int × Int)} {W : Int} (h : Pairs H vP P) (hl : P.length ≤ 1000000000) (hP : ∀ p, p ∈ P → fitP p) (hW : 1 ≤ W ∧ W ≤ 1048576) {ob : Nat} {H0 : Heap} (ex0 : Ext H H0) (go0 : H0.get ob = some (.cells [vP, .int .i64 W, vF])) {τ0 : Env} (u1 : Env.at τ0 1 = .ptr ob 0) (u5 : Env.at τ0 5 = .str []) :
    Wp FT r12a τ0 H0 (fun s τ H' => s = .next ∧ Qv1 H H' vP vF P W ob τ) := by
  simp [r12a, subAt, A12]
  refine Wp_loop (fun m τ H' => ∃ i, V1 H H' vP vF P W ob τ i m) ?_ P.length _ _ ⟨0, ⟨ex0, go0, by omega, by omega, by simp [u1], by simp [u5, txP, rend], by simp⟩⟩
  rintro m τ H1 ⟨i, ⟨ex, go, hi, rfl, t1, t5, t6⟩⟩
  simp only [Wp_seq, Wp_region]
  have l0 : loadA H1 none (.ptr ob 0) = some vP := load_get go rfl
  have hmax : IntKind.max .i64 = 9223372036854775807 := rfl
  by_cases c : i < P.length
  · obtain ⟨po, pf, x, a1, a2, _, a3, a4⟩ := Pairs.idx (h.ext ex) (k := .i64) (i := (i : Int)) (by omega) (by omega)
    rw [Int.toNat_natCast] at a1
    obtain ⟨⟨x1, x2⟩, x3, x4⟩ := hP x (List.mem_of_getElem? a1)
    have w : IntKind.i64.wrap ((i : Int) + 1) = ((i + 1 : Nat) : Int) := wrap64 (by omega) (by omega)
    have hbl := txP_len W (P.take i)
    rw [List.length_take] at hbl
    have hs : txP W (P.take (i + 1)) = txP W (P.take i) ++ joinS (vS :: [x.1, x.2, 0, W].map itoaN) := by
      rw [List.take_add_one, a1, Option.toList_some, txP_snoc]
    have z0 : itoaN 0 = [48] := rfl
    have hj : joinS (vS :: [x.1, x.2, 0, W].map itoaN) = [118, 32] ++ itoaN x.1 ++ [32] ++ itoaN x.2 ++ [32, 48, 32] ++ itoaN W ++ [10] := by
      simp [joinS, joinP, vS, z0]
    have n1 := itoaN_len x.1
    have n2 := itoaN_len x.2
    have n3 := itoaN_len W
    rw [hj] at hs
    generalize txP W (P.take i) = S at *
    have b1 : ¬ (9223372036854775807 : Int) < ((S.length + 2 : Nat) : Int) := by omega
    simp [-Int.natCast_add, -List.append_assoc, c, t1, t5, t6, l0, h.len, a2, a3, hmax, b1]
    refine text21Q hh ex.wf (by omega) (by omega) ?_
    intro H2 e2
    have go2 := e2.keep _ _ go
    have m0 : loadA H2 none (.ptr ob 0) = some vP := load_get go2 rfl
    have a4' := load_ext a4 e2
    generalize itoaN x.1 = s1 at *
    simp [-Int.natCast_add, -List.append_assoc, hmax]
    rw [if_neg (by omega)]
    simp [-Int.natCast_add, -List.append_assoc, hmax]
    rw [if_neg (by omega)]
    simp [-Int.natCast_add, -List.append_assoc, t1, t6, m0, a2, a4']
    refine text21Q hh e2.wf (by omega) (by omega) ?_
    intro H3 e3
    have go3 := e3.keep _ _ go2
    have lW : loadA H3 none (.ptr ob 1) = some (.int .i64 W) := load_get go3 rfl
    generalize itoaN x.2 = s2 at *
    simp [-Int.natCast_add, -List.append_assoc, hmax]
    rw [if_neg (by omega)]
    simp [-Int.natCast_add, -List.append_assoc, hmax]
    rw [if_neg (by omega)]
    simp [-Int.natCast_add, -List.append_assoc, t1, lW]
    refine (text21 hh e3.wf (n := W) (by omega) (by omega)).mono ?_
    rintro _ H4 ⟨rfl, e4⟩
    generalize itoaN W = s3 at *
    simp [-Int.natCast_add, -List.append_assoc, hmax]
    rw [if_neg (by omega)]
    simp [-Int.natCast_add, -List.append_assoc, hmax]
    rw [if_neg (by omega)]
    simp [-Int.natCast_add, -List.append_assoc, t6, w]
    refine ⟨_, by omega, i + 1, ⟨((ex.trans e2).trans e3).trans e4, e4.keep _ _ go3, by omega, rfl, by simp [t1], ?_, by simp⟩⟩
    rw [hs]; simp
  · have hil : i = P.length := by omega
    subst hil
    rw [List.take_length] at t5
    simp [t1, t6, l0, h.len]
    exact ⟨ex, go, by simp [t1], by simp [t5]⟩
theorem write12b (hh : H21 FT) {vP vF : AV} {P : List (Int × Int)} {W : Int} {F : List (List Int)} (h : Gd H vF F) (hl : F.length ≤ 1000000000) (hp : P.length ≤ 1000000000) (hF : ∀ f, f ∈ F → 3 ≤ f.length ∧ f.length ≤ 4 ∧ ∀ k, k ∈ f → 0 ≤ k ∧ k < P.length) {ob : Nat} {H0 : Heap} (ex0 : Ext H H0) (go0 : H0.get ob = some (.cells [vP, .int .i64 W, vF])) {τ0 : Env} (u1 : Env.at τ0 1 = .ptr ob 0) (u5 : Env.at τ0 5 = .str (txP W P)) :
    Wp FT r12b τ0 H0 (fun s τ H' => s = .next ∧ Ext H H' ∧ Env.at τ 5 = .str (textO P W F)) := by
  simp [r12b, subAt, A12]
  have hmax : IntKind.max .i64 = 9223372036854775807 := rfl
  refine Wp_loop (fun m τ H' => ∃ i, V2 H H' vP vF P W F ob τ i m) ?_ F.length _ _ ⟨0, ⟨ex0, go0, by omega, by omega, by simp [u1], by simp [u5, txF, rend], by simp⟩⟩
  rintro m τ H1 ⟨i, ⟨ex, go, hi, rfl, t1, t5, t7⟩⟩
  simp only [Wp_seq, Wp_region]
  have l0 : loadA H1 none (.ptr ob 2) = some vF := load_get go rfl
  by_cases c : i < F.length
  · obtain ⟨p, r, f, a1, a2, a3, a4⟩ := h.idxE ex (k := .i64) (i := (i : Int)) (by omega) (by omega)
    rw [Int.toNat_natCast] at a1
    obtain ⟨f3, f4, fk⟩ := hF f (List.mem_of_getElem? a1)
    have hbl1 := txP_len W P
    have hbl2 := txF_len (F := F.take i) (fun g hg => by have := (hF g (List.mem_of_mem_take hg)).2.1; omega)
    rw [List.length_take] at hbl2
    have hs : txP W P ++ txF (F.take (i + 1)) = txP W P ++ txF (F.take i) ++ (rowTo f f.length ++ [10]) := by
      rw [List.take_add_one, a1, Option.toList_some, txF_snoc, rowTo_all, List.append_assoc]
    generalize hS : txP W P ++ txF (F.take i) = S at *
    have hSl : S.length ≤ 600000000000 := by rw [← hS, List.length_append]; omega
    have b1 : ¬ (9223372036854775807 : Int) < ((S.length + 1 : Nat) : Int) := by omega
    simp [-Int.natCast_add, -List.append_assoc, c, t1, t5, t7, l0, h.len, hmax, b1]
    refine Wp_loop (fun m τ H' => ∃ j, V3 H H' vP vF S W f ob τ i j m) ?_ f.length _ _ ⟨0, ⟨ex, go, by omega, by omega, by simp [t1], by simp [rowTo], by simp [t7], by simp⟩⟩
    rintro m τ H2 ⟨j, ⟨ex, go, hj, rfl, t1, t5, t7, t8⟩⟩
    simp only [Wp_seq, Wp_region]
    have l0 : loadA H2 none (.ptr ob 2) = some vF := load_get go rfl
    obtain ⟨p', r', f', a1', a2', a3', _⟩ := h.idxE ex (k := .i64) (i := (i : Int)) (by omega) (by omega)
    rw [Int.toNat_natCast, a1] at a1'
    cases a1'
    have a4' : lenA r' = some (.int .i64 f.length) := by
      obtain ⟨p2, r2, f2, b1, b2, b3, b4⟩ := h.idxE ex (k := .i64) (i := (i : Int)) (by omega) (by omega)
      rw [Int.toNat_natCast, a1] at b1
      cases b1
      rw [a2'] at b2; cases b2
      rw [a3'] at b3; cases b3
      exact b4.len
    rename_i q4
    have hr := rowTo_len (f := f) (by omega) j
    by_cases cj : j < f.length
    · obtain ⟨q, x, b1, b2, b3⟩ := Ints.idx ((q4.ext ex).sl i64c_len) (k := .i64) (i := (j : Int)) (by omega) (by omega)
      rw [Int.toNat_natCast] at b1
      obtain ⟨x0, x1⟩ := fk x (List.mem_of_getElem? b1)
      have w1 : IntKind.i64.wrap (x + 1) = x + 1 := wrap64 (by omega) (by omega)
      have w : IntKind.i64.wrap ((j : Int) + 1) = ((j + 1 : Nat) : Int) := wrap64 (by omega) (by omega)
      have hst := rowTo_succ b1
      generalize rowTo f j = R at *
      have n1 := itoaN_len (x + 1)
      simp [-Int.natCast_add, -List.append_assoc, cj, t1, t5, t7, t8, l0, a2', a3', a4', hmax]
      rw [if_neg (by omega)]
      simp [-Int.natCast_add, -List.append_assoc, t1, t7, t8, l0, a2', a3', b2, b3, w1]
      refine (text21 hh ex.wf (n := x + 1) (by omega) (by omega)).mono ?_
      rintro _ H3 ⟨rfl, e3⟩
      generalize itoaN (x + 1) = s1 at *
      simp [-Int.natCast_add, -List.append_assoc, hmax]
      rw [if_neg (by omega)]
      simp [-Int.natCast_add, -List.append_assoc, t8, w]
      exact ⟨_, by omega, j + 1, ⟨ex.trans e3, e3.keep _ _ go, by omega, rfl, by simp [t1], by rw [hst]; simp, by simp [t7], by simp⟩⟩
    · have hjl : j = f.length := by omega
      subst hjl
      have w : IntKind.i64.wrap ((i : Int) + 1) = ((i + 1 : Nat) : Int) := wrap64 (by omega) (by omega)
      generalize rowTo f f.length = R at *
      simp [-Int.natCast_add, -List.append_assoc, t1, t5, t7, t8, l0, a2', a3', a4', hmax]
      rw [if_neg (by omega)]
      simp [-Int.natCast_add, -List.append_assoc, t7, w]
      exact ⟨_, by omega, i + 1, ⟨ex, go, by omega, rfl, by simp [t1], by rw [hs]; simp, by simp⟩⟩
  · have hil : i = F.length := by omega
    subst hil
    rw [List.take_length] at t5
    simp [t1, t7, l0, h.len]
    exact ⟨ex, by rw [textO_eq]; simp [t5]⟩
abbrev H12 (FT : Nat → Option FnD) : Prop := FT 12 = some (.code A12) ∧ H14 FT ∧ H21 FT
theorem write12 (hh : H12 FT) (hw : H.Wf) {vP vF : AV} {P : List (Int × Int)} {W : Int} {F : List (List Int)} (h : Mo H vP vF P F) (hz : Sz P F) :
    Cp FT 12 [.agg [vP, .int .i64 W, vF]] H (fun r H' => r = .tup [.str (wrT P W F), .int .i64 (chkO P W F)] ∧ Ext H H') := by
  obtain ⟨h12, h14, h21⟩ := hh
  refine Cp_code A12 h12 rfl ?_
  have hA : A12.results = [.tmp 2, .tmp 3] := rfl
  rw [hA, body12]
  have hone := h.one W
  have e0 := Ext.push hw (.cells [vP, .int .i64 W, vF])
  have g0 : (H.push (.cells [vP, .int .i64 W, vF])).get H.next = some (.cells [vP, .int .i64 W, vF]) := get_pushN.trans (if_pos rfl)
  generalize hP0 : H.push (.cells [vP, .int .i64 W, vF]) = H0 at *
  have lw : loadA H0 (some 3) (.ptr H.next 0) = some (.agg [vP, .int .i64 W, vF]) := load_agg g0 (by simp [seg])
  generalize hka : r12a = ka
  generalize hkb : r12b = kb
  simp [A12, putAt, hone, hP0, lw]
  refine (check14 h14 e0.wf (h.ext e0) hz).mono ?_
  rintro _ H1 ⟨rfl, e1⟩
  have ex1 := e0.trans e1
  by_cases hv : ValidO P W F
  · simp [chkO_ok hv]
    rw [← hka]
    refine (write12a (W := W) (vF := vF) h21 h.p hz.p hv.ps ⟨hv.w0, hv.w1⟩ ex1 (e1.keep _ _ g0) (by simp) (by simp)).mono ?_
    rintro s τ H2 ⟨rfl, ex, go, t1, t5⟩
    simp
    rw [← hkb]
    refine (write12b h21 h.f hz.f hz.p (fun f hf => ⟨(hv.fo.fs f hf).1, hv.f4 f hf, (hv.fo.fs f hf).2.2⟩) ex go t1 t5).mono ?_
    rintro s τ H3 ⟨rfl, ex3, t5⟩
    simp [t5, wrT_ok hv]
    exact ex3
  · simp [chkO_no hv, wrT_no hv]
    exact ex1
end
end Go.Proofs.YtacfhbhfgbjleaaDoor
