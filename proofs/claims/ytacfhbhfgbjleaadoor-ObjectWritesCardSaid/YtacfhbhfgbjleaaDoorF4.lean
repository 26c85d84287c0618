/- A mesh's text, as the program writes it. No claim by itself. -/
import Derived.Test.YtacfhbhfgbjleaaDoorF3
namespace Go.Proofs.YtacfhbhfgbjleaaDoor
open Go Go.AI
section
variable {FT : Nat → Option FnD} {H H' : Heap}
theorem Rw.extC' {α : Type} {e : Nat} {enc : α → List AV} {v : AV} {xs : List α} (h : Rw e enc H v xs) (k : ExtC H H') : Rw e enc H' v xs := by
  refine ⟨?_, h.cap⟩
  rcases h.sw with q | ⟨o, off, lo, ex, rfl, q⟩
  · exact .inl q
  · refine .inr ⟨o, off, lo, ex, rfl, ?_⟩
    unfold Heap.readSeg at q ⊢
    cases hc : H.cellsAt o with
    | none => rw [hc] at q; cases q
    | some cs => rw [cellsAt_get (k.keep _ _ (get_cellsAt hc))]; rw [hc] at q; exact q
theorem Gd.extC' {v : AV} {F : List (List Int)} (h : Gd H v F) (k : ExtC H H') : Gd H' v F := by
  obtain ⟨rs, a, b, c⟩ := h.ex; exact ⟨rs, Rw.extC' a k, b, fun i r f q1 q2 => Rw.extC' (c i r f q1 q2) k⟩
theorem Mo.extC {vP vF : AV} {P : List (Int × Int)} {F : List (List Int)} (h : Mo H vP vF P F) (k : ExtC H H') : Mo H' vP vF P F := ⟨h.p.extC k, Gd.extC' h.f k⟩
theorem rw_lit {α : Type} {e : Nat} {enc : α → List AV} (hn : ∀ x, (enc x).length = e) {o : Nat} {xs : List α} (hg : H.get o = some (.cells (xs.flatMap enc))) (n : Nat) (hl : xs.length = n) (ex : Bool) : Rw e enc H (.slc o 0 n e n ex) xs := by
  subst hl
  refine ⟨.inr ⟨o, 0, xs.length, ex, rfl, ?_⟩, by simp [capOk]⟩
  unfold Heap.readSeg
  rw [cellsAt_get hg]
  exact seg_all (by rw [flat_len hn])
theorem joinP_cons (w x : List Nat) (r : List (List Nat)) : joinP (w :: x :: r) = w ++ 32 :: joinP (x :: r) := by simp [joinP]
theorem rend_joinQ : ∀ (ws : List (List Nat)), ws ≠ [] → rend (joinQ ws) = joinS ws
  | [], h => absurd rfl h
  | [w], _ => by simp [joinQ, rend, joinS, joinP]
  | w :: x :: r, _ => by
    have ih := rend_joinQ (x :: r) (by simp)
    have e : joinQ (w :: x :: r) = (w, [32]) :: joinQ (x :: r) := rfl
    have e2 : rend ((w, [32]) :: joinQ (x :: r)) = w ++ 32 :: rend (joinQ (x :: r)) := by simp [rend]
    rw [e, e2, ih]
    unfold joinS
    rw [if_neg (by simp), if_neg (by simp), joinP_cons]
    simp
/-- The text of the first places; of faces. -/
def txP (W : Int) (P : List (Int × Int)) : List Nat := rend (P.flatMap fun p => joinQ (placeT W p))
def txF (F : List (List Int)) : List Nat := rend (F.flatMap fun f => joinQ (faceT f))
theorem textO_eq (P : List (Int × Int)) (W : Int) (F : List (List Int)) : textO P W F = txP W P ++ txF F := by
  unfold textO wordsO txP txF; rw [rend_app]
theorem txP_snoc (W : Int) (P : List (Int × Int)) (p : Int × Int) : txP W (P ++ [p]) = txP W P ++ joinS (vS :: [p.1, p.2, 0, W].map itoaN) := by
  have h0 : itoaN 0 = [48] := rfl
  unfold txP
  rw [List.flatMap_append, rend_app]
  congr 1
  simp only [List.flatMap_cons, List.flatMap_nil, List.append_nil]
  rw [rend_joinQ _ (by simp [placeT])]
  simp [placeT, h0]
theorem txF_snoc (F : List (List Int)) (f : List Int) : txF (F ++ [f]) = txF F ++ joinS (fS :: (f.map (· + 1)).map itoaN) := by
  unfold txF
  rw [List.flatMap_append, rend_app]
  congr 1
  simp only [List.flatMap_cons, List.flatMap_nil, List.append_nil]
  rw [rend_joinQ _ (by simp [faceT])]
  simp [faceT, Function.comp_def]
theorem row_len (w : List Nat) (ns : List Int) (hw : w.length ≤ 10) (hn : ns.length ≤ 10) : (joinS (w :: ns.map itoaN)).length ≤ 300 := by
  have h1 := joinS_len (w :: ns.map itoaN)
  have h : tot (ns.map itoaN) ≤ ns.length * 27 := by
    clear hn h1
    induction ns with
    | nil => simp [tot]
    | cons n ns ih => have := itoaN_len n; simp [tot] at ih ⊢; omega
  have : tot (w :: ns.map itoaN) = w.length + 1 + tot (ns.map itoaN) := by simp [tot]
  omega
theorem snoc_ind {α : Type} {motive : List α → Prop} (nil : motive []) (snoc : ∀ l a, motive l → motive (l ++ [a])) : ∀ l, motive l := by
  have h : ∀ (n : Nat) (l : List α), l.length = n → motive l := by
    intro n
    induction n with
    | zero => intro l hl; rw [List.length_eq_zero_iff.1 hl]; exact nil
    | succ n ih =>
      intro l hl
      have hne : l ≠ [] := by intro q; subst q; simp at hl
      rw [← List.dropLast_concat_getLast hne]
      exact snoc _ _ (ih _ (by rw [List.length_dropLast]; omega))
  exact fun l => h l.length l rfl
theorem txP_len (W : Int) (P : List (Int × Int)) : (txP W P).length ≤ 300 * P.length := by
  induction P using snoc_ind with
  | nil => simp [txP, rend]
  | snoc P p ih =>
    have := row_len vS [p.1, p.2, 0, W] (by decide) (by simp)
    rw [txP_snoc, List.length_append, List.length_append, List.length_singleton]; omega
theorem txF_len {F : List (List Int)} (h : ∀ f, f ∈ F → f.length ≤ 10) : (txF F).length ≤ 300 * F.length := by
  induction F using snoc_ind with
  | nil => simp [txF, rend]
  | snoc F f ih =>
    have := row_len fS (f.map (· + 1)) (by decide) (by simp; exact h f (by simp))
    have := ih fun g hg => h g (by simp [hg])
    rw [txF_snoc, List.length_append, List.length_append, List.length_singleton]; omega
structure W1 (H H' : Heap) (vP vF : AV) (P : List (Int × Int)) (W : Int) (ob o : Nat) (τ : Env) (i m : Nat) : Prop where
  ex : ExtC H H'
  go : H'.get ob = some (.cells [vP, .int .i64 W, vF])
  b : Bld 58 5 H' o (txP W (P.take i))
  le : i ≤ P.length
  hm : m = P.length - i
  t1 : Env.at τ 1 = .ptr ob 0
  t5 : Env.at τ 5 = .ptr o 0
  t19 : Env.at τ 19 = vP
  t20 : Env.at τ 20 = .int .i64 P.length
  t21 : Env.at τ 21 = .int .i64 i
structure W2 (H H' : Heap) (vP vF : AV) (P : List (Int × Int)) (W : Int) (F : List (List Int)) (ob o : Nat) (τ : Env) (i m : Nat) : Prop where
  ex : ExtC H H'
  b : Bld 58 5 H' o (txP W P ++ txF (F.take i))
  le : i ≤ F.length
  hm : m = F.length - i
  t5 : Env.at τ 5 = .ptr o 0
  t35 : Env.at τ 35 = vF
  t36 : Env.at τ 36 = .int .i64 F.length
  t37 : Env.at τ 37 = .int .i64 i
structure W3 (H H' : Heap) (vF vr v : AV) (F : List (List Int)) (f : List Int) (o : Nat) (τ : Env) (i j m : Nat) : Prop where
  bd : Bd 1 i64c H H' v ((f.take j).map (· + 1))
  le : j ≤ f.length
  hm : m = f.length - j
  t5 : Env.at τ 5 = .ptr o 0
  t10 : Env.at τ 10 = v
  t35 : Env.at τ 35 = vF
  t36 : Env.at τ 36 = .int .i64 F.length
  t37 : Env.at τ 37 = .int .i64 i
  t41 : Env.at τ 41 = vr
  t42 : Env.at τ 42 = .int .i64 f.length
  t43 : Env.at τ 43 = .int .i64 j
abbrev H19 (FT : Nat → Option FnD) : Prop := FT 19 = some (.code A19) ∧ FT 38 = some (.code A38) ∧ FT 36 = some (.ext itoaG) ∧ FT 37 = some (.ext (writeG 58 5))
def r11a : ACode := subAt [1,1,1,0] A11.body
def r11b : ACode := subAt [1,1,1,1,0] A11.body
theorem body11 : A11.body = putAt [1,1,1,0] (putAt [1,1,1,1,0] A11.body r11b) r11a := rfl
structure Qw1 (H H' : Heap) (vP vF : AV) (P : List (Int × Int)) (W : Int) (ob o : Nat) (τ : Env) : Prop where
  ex : ExtC H H'
  go : H'.get ob = some (.cells [vP, .int .i64 W, vF])
  b : Bld 58 5 H' o (txP W P)
  t1 : Env.at τ 1 = .ptr ob 0
  t5 : Env.at τ 5 = .ptr o 0
theorem write11a (hh : H19 FT) {vP vF : AV} {P : List (Int × Int)} {W : Int} (h : Pairs H vP P) (hl : P.length ≤ 1000000000) (hP : ∀ p, p ∈ P → fitP p) (hW : 1 ≤ W ∧ W ≤ 1048576) {ob o : Nat} {H0 : Heap} (ex0 : ExtC H H0) (go0 : H0.get ob = some (.cells [vP, .int .i64 W, vF])) (b0 : Bld 58 5 H0 o []) {τ0 : Env} (u1 : Env.at τ0 1 = .ptr ob 0) (u5 : Env.at τ0 5 = .ptr o 0) :
    Wp FT r11a τ0 H0 (fun s τ H' => s = .next ∧ Qw1 H H' vP vF P W ob o τ) := by
  obtain ⟨h19, h38, h36, h37⟩ := hh
  have l0 : loadA H0 none (.ptr ob 0) = some vP := load_get go0 rfl
  simp [r11a, subAt, A11, u1, l0, h.len]
  refine Wp_loop (fun m τ H' => ∃ i, W1 H H' vP vF P W ob o τ i m) ?_ P.length _ _ ⟨0, ⟨ex0, go0, by simpa [txP, rend] using b0, by omega, by omega, by simp [u1], by simp [u5], by simp, by simp, by simp⟩⟩
  rintro m τ H1 ⟨i, ⟨ex, go, b, hi, rfl, t1, t5, t19, t20, t21⟩⟩
  simp only [Wp_seq, Wp_region]
  by_cases c : i < P.length
  · obtain ⟨p, x, a1, a2, a3, _⟩ := Sl.idx (h.extC ex) (k := .i64) (i := (i : Int)) (by omega) (by omega)
    rw [Int.toNat_natCast] at a1
    obtain ⟨⟨x1, x2⟩, x3, x4⟩ := hP x (List.mem_of_getElem? a1)
    obtain ⟨H2, st, g2, e2, n2⟩ := store_new ex.wf (z := [.int .i64 0, .int .i64 0]) (n := 2) (x := .agg (pairc x)) (cs := pairc x) rfl rfl rfl rfl
    have lx : loadA H2 none (.ptr H1.next 0) = some (.int .i64 x.1) := load_get g2 rfl
    have ly : loadA H2 none (.ptr H1.next 1) = some (.int .i64 x.2) := load_get g2 rfl
    have go2 := e2.keep _ _ go
    have lW : loadA H2 none (.ptr ob 1) = some (.int .i64 W) := load_get go2 rfl
    obtain ⟨g3, e3⟩ := push_new e2.wf (.cells [.int .i64 x.1, .int .i64 x.2, .int .i64 0, .int .i64 W])
    have r3 : Rw 1 i64c (H2.push (.cells [.int .i64 x.1, .int .i64 x.2, .int .i64 0, .int .i64 W])) (.slc H2.next 0 4 1 4 true) [x.1, x.2, 0, W] := rw_lit i64c_len (xs := [x.1, x.2, 0, W]) g3 4 rfl true
    have w : IntKind.i64.wrap ((i : Int) + 1) = ((i + 1 : Nat) : Int) := wrap64 (by omega) (by omega)
    simp [c, t1, t5, t19, t20, t21, a2, a3, st, lx, ly, lW, setSeg]
    have hbl := txP_len W (P.take i)
    rw [List.length_take] at hbl
    refine (row19 h19 h38 h36 h37 e3.wf ((b.ext e2).ext e3) (r3.sl i64c_len) (by
      intro n hn
      simp only [List.mem_cons, List.not_mem_nil, or_false] at hn
      rcases hn with rfl | rfl | rfl | rfl <;> omega) (by simp) (by simp) (by simp) (by omega)).mono ?_
    rintro _ H4 ⟨b4, e4⟩
    have hs : txP W (P.take (i + 1)) = txP W (P.take i) ++ joinS (vS :: [x.1, x.2, 0, W].map itoaN) := by
      rw [List.take_add_one, a1, Option.toList_some, txP_snoc]
    simp [t21, w]
    exact ⟨_, by omega, i + 1, ⟨((ex.trans e2.c).trans e3.c).trans e4, e4.keep _ _ (e3.keep _ _ go2), by rw [hs]; exact b4, by omega, rfl, by simp [t1], by simp [t5], by simp [t19], by simp [t20], by simp⟩⟩
  · have hil : i = P.length := by omega
    subst hil
    rw [List.take_length] at b
    simp [t20, t21]
    exact ⟨ex, go, b, by simp [t1], by simp [t5]⟩
theorem write11b (hh : H19 FT) {vP vF : AV} {P : List (Int × Int)} {W : Int} {F : List (List Int)} (h : Gd H vF F) (hl : F.length ≤ 1000000000) (hp : P.length ≤ 1000000000) (hF : ∀ f, f ∈ F → 3 ≤ f.length ∧ f.length ≤ 4 ∧ ∀ k, k ∈ f → 0 ≤ k ∧ k < P.length) {ob o : Nat} {H0 : Heap} (ex0 : ExtC H H0) (go0 : H0.get ob = some (.cells [vP, .int .i64 W, vF])) (b0 : Bld 58 5 H0 o (txP W P)) {τ0 : Env} (u1 : Env.at τ0 1 = .ptr ob 0) (u5 : Env.at τ0 5 = .ptr o 0) :
    Wp FT r11b τ0 H0 (fun s τ H' => s = .next ∧ ExtC H H' ∧ Bld 58 5 H' o (textO P W F) ∧ Env.at τ 5 = .ptr o 0) := by
  obtain ⟨h19, h38, h36, h37⟩ := hh
  have l0 : loadA H0 none (.ptr ob 2) = some vF := load_get go0 rfl
  simp [r11b, subAt, A11, u1, l0, h.len]
  refine Wp_loop (fun m τ H' => ∃ i, W2 H H' vP vF P W F ob o τ i m) ?_ F.length _ _ ⟨0, ⟨ex0, by simpa [txF, rend] using b0, by omega, by omega, by simp [u5], by simp, by simp, by simp⟩⟩
  rintro m τ H1 ⟨i, ⟨ex, b, hi, rfl, t5, t35, t36, t37⟩⟩
  simp only [Wp_seq, Wp_region]
  by_cases c : i < F.length
  · obtain ⟨p, r, f, a1, a2, a3, a4⟩ := (Gd.extC' h ex).idx (k := .i64) (i := (i : Int)) (by omega) (by omega)
    rw [Int.toNat_natCast] at a1
    obtain ⟨f3, f4, fk⟩ := hF f (List.mem_of_getElem? a1)
    simp [c, t35, t36, t37, a2, a3, a4.len]
    refine Wp_loop (fun m τ H' => ∃ j v, W3 H1 H' vF r v F f o τ i j m) ?_ f.length _ _ ⟨0, .nils, ⟨by simpa using Bd.init ex.wf, by omega, by omega, by simp [t5], by simp, by simp [t35], by simp [t36], by simp [t37], by simp, by simp, by simp⟩⟩
    rintro m τ H2 ⟨j, v, ⟨bd, hj, rfl, t5, t10, t35, t36, t37, t41, t42, t43⟩⟩
    simp only [Wp_seq, Wp_region]
    by_cases cj : j < f.length
    · obtain ⟨q, x, b1, b2, b3⟩ := Ints.idx ((a4.ext (bd.ext ex.wf)).sl i64c_len) (k := .i64) (i := (j : Int)) (by omega) (by omega)
      rw [Int.toNat_natCast] at b1
      obtain ⟨x0, x1⟩ := fk x (List.mem_of_getElem? b1)
      have w1 : IntKind.i64.wrap (x + 1) = x + 1 := wrap64 (by omega) (by omega)
      have w : IntKind.i64.wrap ((j : Int) + 1) = ((j + 1 : Nat) : Int) := wrap64 (by omega) (by omega)
      obtain ⟨v2, H3, k1, bd2, _⟩ := bd.app1 (bytes := 8) i64c_len (by omega) i64c_one (x + 1) (by simp; omega)
      have k1' : appendA 1 8 (H2.push (.cells [.int .i64 (x + 1)])) v (.slc H2.next 0 1 1 1 true) = some (v2, H3) := k1
      have hs : (f.take (j + 1)).map (· + 1) = (f.take j).map (· + 1) ++ [x + 1] := by rw [List.take_add_one, b1]; simp
      simp [cj, t10, t41, t42, t43, b2, b3, w1, w, k1']
      exact ⟨_, by omega, j + 1, v2, ⟨by rw [hs]; exact bd2, by omega, rfl, by simp [t5], by simp, by simp [t35], by simp [t36], by simp [t37], by simp [t41], by simp [t42], by simp⟩⟩
    · have hjl : j = f.length := by omega
      subst hjl
      rw [List.take_length] at bd
      have e2 := bd.ext ex.wf
      have w : IntKind.i64.wrap ((i : Int) + 1) = ((i + 1 : Nat) : Int) := wrap64 (by omega) (by omega)
      have hbl1 := txP_len W P
      have hbl2 := txF_len (F := F.take i) (fun g hg => by have := (hF g (List.mem_of_mem_take hg)).2.1; omega)
      rw [List.length_take] at hbl2
      simp [t5, t10, t42, t43]
      refine (row19 h19 h38 h36 h37 e2.wf (b.ext e2) (bd.sl i64c_len) (by
        intro n hn
        obtain ⟨k, hk, rfl⟩ := List.mem_map.1 hn
        have := fk k hk; omega) (by simp; omega) (by
        intro q
        have := congrArg List.length q
        simp at this; simp [this] at f3) (by simp) (by simp; omega)).mono ?_
      rintro _ H4 ⟨b4, e4⟩
      have hs : txP W P ++ txF (F.take (i + 1)) = txP W P ++ txF (F.take i) ++ joinS (fS :: (f.map (· + 1)).map itoaN) := by
        rw [List.take_add_one, a1, Option.toList_some, txF_snoc, List.append_assoc]
      simp [t37, w]
      exact ⟨_, by omega, i + 1, ⟨(ex.trans e2.c).trans e4, by rw [hs]; exact b4, by omega, rfl, by simp [t5], by simp [t35], by simp [t36], by simp⟩⟩
  · have hil : i = F.length := by omega
    subst hil
    rw [List.take_length] at b
    simp [t36, t37]
    exact ⟨ex, by rw [textO_eq]; exact b, by simp [t5]⟩
open Classical in
noncomputable def wrT (P : List (Int × Int)) (W : Int) (F : List (List Int)) : List Nat := if ValidO P W F then textO P W F else []
theorem wrT_ok {P : List (Int × Int)} {W : Int} {F : List (List Int)} (h : ValidO P W F) : wrT P W F = textO P W F := by unfold wrT; rw [if_pos h]
theorem wrT_no {P : List (Int × Int)} {W : Int} {F : List (List Int)} (h : ¬ ValidO P W F) : wrT P W F = [] := by unfold wrT; rw [if_neg h]
abbrev H11 (FT : Nat → Option FnD) : Prop := FT 11 = some (.code A11) ∧ H13 FT ∧ H19 FT ∧ FT 20 = some (.ext (stringG 58 5))
theorem write11 (hh : H11 FT) (hw : H.Wf) {vP vF : AV} {P : List (Int × Int)} {W : Int} {F : List (List Int)} (h : Mo H vP vF P F) (hz : Sz P F) :
    Cp FT 11 [.agg [vP, .int .i64 W, vF]] H (fun r H' => r = .tup [.str (wrT P W F), .int .i64 (chkO P W F)] ∧ ExtC H H') := by
  obtain ⟨h11, h13, h19, h20⟩ := hh
  refine Cp_code A11 h11 rfl ?_
  have hA : A11.results = [.tmp 2, .tmp 3] := rfl
  rw [hA, body11]
  have hone := h.one W
  have e0 := Ext.push hw (.cells [vP, .int .i64 W, vF])
  have g0 : (H.push (.cells [vP, .int .i64 W, vF])).get H.next = some (.cells [vP, .int .i64 W, vF]) := get_pushN.trans (if_pos rfl)
  generalize hP0 : H.push (.cells [vP, .int .i64 W, vF]) = H0 at *
  have lw : loadA H0 (some 3) (.ptr H.next 0) = some (.agg [vP, .int .i64 W, vF]) := load_agg g0 (by simp [seg])
  generalize hka : r11a = ka
  generalize hkb : r11b = kb
  simp [A11, putAt, hone, hP0, lw]
  refine (check13 h13 e0.wf (h.ext e0) hz).mono ?_
  rintro _ H1 ⟨rfl, e1⟩
  have ex1 := e0.trans e1
  by_cases hv : ValidO P W F
  · have e2 := Ext.push ex1.wf (.bld 58 none)
    have b2 := Bld.new (T := 58) (E := 5) ex1.wf
    have ex2 := (ex1.trans e2).c
    simp [chkO_ok hv]
    rw [← hka]
    refine (write11a (W := W) (vF := vF) h19 h.p hz.p hv.ps ⟨hv.w0, hv.w1⟩ ex2 (e2.keep _ _ (e1.keep _ _ g0)) b2 (by simp) (by simp)).mono ?_
    rintro s τ H2 ⟨rfl, ex, go, b, t1, t5⟩
    simp
    rw [← hkb]
    refine (write11b h19 h.f hz.f hz.p (fun f hf => ⟨(hv.fo.fs f hf).1, hv.f4 f hf, (hv.fo.fs f hf).2.2⟩) ex go b t1 t5).mono ?_
    rintro s τ H3 ⟨rfl, ex3, b3, t5⟩
    obtain ⟨H4, hs, e4⟩ := b3.string ex3.wf
    simp [t5]
    refine Cp_ext (stringG 58 5) h20 hs ?_
    simp [wrT_ok hv]
    exact ex3.trans e4
  · simp [chkO_no hv, wrT_no hv]
    exact ex1.c
end
end Go.Proofs.YtacfhbhfgbjleaaDoor
