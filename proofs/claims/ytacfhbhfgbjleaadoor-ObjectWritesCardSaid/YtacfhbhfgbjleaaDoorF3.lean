/- May a mesh be, as the program asks it. No claim by itself. -/
import Derived.Test.YtacfhbhfgbjleaaDoorF2
namespace Go.Proofs.YtacfhbhfgbjleaaDoor
open Go Go.AI
section
variable {FT : Nat → Option FnD} {H : Heap}
def fitTo (P : List (Int × Int)) (i : Nat) : Prop := ∀ p, p ∈ P.take i → fitP p
instance (p : Int × Int) : Decidable (fitP p) := by unfold fitP; infer_instance
def allFit (P : List (Int × Int)) : Bool := decide (∀ p, p ∈ P → fitP p)
theorem allFit_no {P : List (Int × Int)} {p : Int × Int} (h : p ∈ P) (hb : ¬ fitP p) : allFit P = false := by
  unfold allFit; exact decide_eq_false fun q => hb (q p h)
structure Ft (H H' : Heap) (v : AV) (P : List (Int × Int)) (τ : Env) (i m : Nat) : Prop where
  ex : Ext H H'
  le : i ≤ P.length
  hm : m = P.length - i
  ok : fitTo P i
  t5 : Env.at τ 5 = v
  t6 : Env.at τ 6 = .int .i64 P.length
  t7 : Env.at τ 7 = .int .i64 i
theorem fits22 (h22 : FT 22 = some (.code A22)) {v : AV} {P : List (Int × Int)} (h : Pairs H v P) (hl : P.length ≤ 1000000000) (hw : H.Wf) :
    Cp FT 22 [v] H (fun r H' => r = .bool (allFit P) ∧ Ext H H') := by
  refine Cp_code A22 h22 rfl ?_
  simp [A22, h.len]
  refine Wp_loop (fun m τ H' => ∃ i, Ft H H' v P τ i m) ?_ P.length _ _ ⟨0, ⟨Ext.refl hw, by omega, by omega, by simp [fitTo], by simp, by simp, by simp⟩⟩
  rintro m τ H1 ⟨i, ⟨ex, hi, rfl, hok, t5, t6, t7⟩⟩
  simp only [Wp_seq, Wp_region]
  by_cases c : i < P.length
  · obtain ⟨p, x, a1, a2, a3, _⟩ := Sl.idx (h.ext ex) (k := .i64) (i := (i : Int)) (by omega) (by omega)
    rw [Int.toNat_natCast] at a1
    have hm := List.mem_of_getElem? a1
    obtain ⟨H2, st, g2, e2, n2⟩ := store_new ex.wf (z := [.int .i64 0, .int .i64 0]) (n := 2) (x := .agg (pairc x)) (cs := pairc x) rfl rfl rfl rfl
    have lx : loadA H2 none (.ptr H1.next 0) = some (.int .i64 x.1) := load_get g2 rfl
    have ly : loadA H2 none (.ptr H1.next 1) = some (.int .i64 x.2) := load_get g2 rfl
    by_cases c1 : x.1 < -4294967296
    · have hb := allFit_no hm (fun q => by have := q.1; omega)
      simp [c, t5, t6, t7, a2, a3, st, lx, c1, hb]
      exact ex.trans e2
    by_cases c2 : 4294967296 < x.1
    · have hb := allFit_no hm (fun q => by have := q.1; omega)
      simp [c, t5, t6, t7, a2, a3, st, lx, c1, c2, hb]
      exact ex.trans e2
    by_cases c3 : x.2 < -4294967296
    · have hb := allFit_no hm (fun q => by have := q.2; omega)
      simp [c, t5, t6, t7, a2, a3, st, lx, ly, c1, c2, c3, hb]
      exact ex.trans e2
    by_cases c4 : 4294967296 < x.2
    · have hb := allFit_no hm (fun q => by have := q.2; omega)
      simp [c, t5, t6, t7, a2, a3, st, lx, ly, c1, c2, c3, c4, hb]
      exact ex.trans e2
    have w : IntKind.i64.wrap ((i : Int) + 1) = ((i + 1 : Nat) : Int) := wrap64 (by omega) (by omega)
    have hok1 : fitTo P (i + 1) := by
      intro q hq
      rw [List.take_add_one, a1] at hq
      rcases List.mem_append.1 hq with r | r
      · exact hok q r
      · simp at r; subst r; exact ⟨by omega, by omega⟩
    simp [c, t5, t6, t7, a2, a3, st, lx, ly, c1, c2, c3, c4, w]
    exact ⟨_, by omega, i + 1, ⟨ex.trans e2, by omega, rfl, hok1, by simp [t5], by simp [t6], by simp⟩⟩
  · have hil : i = P.length := by omega
    subst hil
    have hall : allFit P = true := by unfold allFit; refine decide_eq_true ?_; unfold fitTo at hok; rwa [List.take_length] at hok
    simp [t6, t7, hall]
    exact ex
/-- The used places. -/
def ub (n : Nat) (S : List Int) : List AV := (List.range n).map fun (i : Nat) => AV.bool (decide ((i : Int) ∈ S))
theorem ub_len (n : Nat) (S : List Int) : (ub n S).length = n := by simp [ub]
theorem ub_get {n : Nat} {S : List Int} {i : Nat} (h : i < n) : (ub n S)[i]? = some (.bool (decide ((i : Int) ∈ S))) := by simp [ub, h]
theorem ub_set {n : Nat} {S : List Int} {k : Int} (h0 : 0 ≤ k) (_h1 : k < n) : (ub n S).set k.toNat (.bool true) = ub n (S ++ [k]) := by
  apply List.ext_getElem?
  intro i
  by_cases hi : i < n
  · rw [List.getElem?_set, ub_get (S := S) hi, ub_get (S := S ++ [k]) hi, ub_len]
    by_cases q : k.toNat = i
    · have : (i : Int) = k := by omega
      simp [q, hi, this]
    · have : ¬ (i : Int) = k := by omega
      simp [q, this]
  · rw [List.getElem?_eq_none (by rw [List.length_set, ub_len]; omega), List.getElem?_eq_none (by rw [ub_len]; omega)]
theorem ub_zero (n : Nat) : (List.replicate n [AV.bool false]).flatten = ub n [] := by
  rw [List.flatten_replicate_singleton]
  apply List.ext_getElem?
  intro i
  by_cases hi : i < n
  · rw [ub_get hi, List.getElem?_replicate]; simp [hi]
  · rw [List.getElem?_eq_none (by simp; omega), List.getElem?_eq_none (by rw [ub_len]; omega)]
structure Us (H H' : Heap) (ou n : Nat) (S : List Int) : Prop where
  ex : Ext H H'
  gu : H'.get ou = some (.cells (ub n S))
  o0 : H.next ≤ ou
theorem Us.set (hw : H.Wf) {H' : Heap} {ou n : Nat} {S : List Int} (h : Us H H' ou n S) {k : Int} (h0 : 0 ≤ k) (h1 : k < n) :
    ∃ H2, storeA H' 1 (.ptr ou k.toNat) (.bool true) = some (undefA, H2) ∧ Us H H2 ou n (S ++ [k]) := by
  obtain ⟨H2, a, b, c⟩ := store_cell (o := ou) (off := k.toNat) (x := .bool true) h.ex.wf (by rw [h.ex.floor]; exact Nat.le_trans hw.1 h.o0) h.gu (by rw [ub_len]; omega) rfl
  rw [ub_set h0 h1] at b
  exact ⟨H2, a, ⟨⟨c.floor.trans h.ex.floor, Nat.le_trans h.ex.next c.next, fun o x e => c.keep o x (by simp; have := hw.lt e; have := h.o0; omega) (h.ex.keep _ _ e), c.wf⟩, b, h.o0⟩⟩
def usedTo (F : List (List Int)) (i : Nat) (f : List Int) (j : Nat) : List Int := (F.take i).flatten ++ f.take j
structure K5 (H H' : Heap) (n : Nat) (vF : AV) (F : List (List Int)) (ou : Nat) (τ : Env) (i m : Nat) : Prop where
  us : Us H H' ou n (F.take i).flatten
  le : i ≤ F.length
  hm : m = F.length - i
  f4 : ∀ f, f ∈ F.take i → f.length ≤ 4
  t6 : Env.at τ 6 = .slc ou 0 n 1 n true
  t55 : Env.at τ 55 = vF
  t56 : Env.at τ 56 = .int .i64 F.length
  t57 : Env.at τ 57 = .int .i64 i
structure K6 (H H' : Heap) (n : Nat) (vF : AV) (F : List (List Int)) (f : List Int) (vr : AV) (ou : Nat) (τ : Env) (i j m : Nat) : Prop where
  us : Us H H' ou n (usedTo F i f j)
  le : j ≤ f.length
  hm : m = f.length - j
  t6 : Env.at τ 6 = .slc ou 0 n 1 n true
  t55 : Env.at τ 55 = vF
  t56 : Env.at τ 56 = .int .i64 F.length
  t57 : Env.at τ 57 = .int .i64 i
  t64 : Env.at τ 64 = vr
  t65 : Env.at τ 65 = .int .i64 f.length
  t66 : Env.at τ 66 = .int .i64 j
structure K7 (H1 H' : Heap) (n : Nat) (S : List Int) (ou : Nat) (τ : Env) (i m : Nat) : Prop where
  eq : H1 = H'
  le : i ≤ n
  hm : m = n - i
  ok : ∀ k : Nat, k < i → (k : Int) ∈ S
  t75 : Env.at τ 75 = .slc ou 0 n 1 n true
  t76 : Env.at τ 76 = .int .i64 n
  t77 : Env.at τ 77 = .int .i64 i
def k13a : ACode := subAt [1,1,1,1,0] A13.body
def k13b : ACode := subAt [1,1,1,1,1] A13.body
theorem body13 : A13.body = putAt [1,1,1,1,1] (putAt [1,1,1,1,0] A13.body k13a) k13b := rfl
structure Qus (H H' : Heap) (n : Nat) (F : List (List Int)) (ou : Nat) (τ : Env) : Prop where
  us : Us H H' ou n F.flatten
  f4 : ∀ f, f ∈ F → f.length ≤ 4
  t6 : Env.at τ 6 = .slc ou 0 n 1 n true
theorem check13a {n : Nat} {vF : AV} {F : List (List Int)} (hF : Gd H vF F) (hl : F.length ≤ 1000000000) (hin : ∀ f, f ∈ F → ∀ k, k ∈ f → 0 ≤ k ∧ k < n) (hw : H.Wf) {ob ou : Nat} {τ0 : Env} {H0 : Heap}
    (us0 : Us H H0 ou n []) (l0 : loadA H0 none (.ptr ob 2) = some vF) (u1 : Env.at τ0 1 = .ptr ob 0) (u6 : Env.at τ0 6 = .slc ou 0 n 1 n true) :
    Wp FT k13a τ0 H0 (fun s τ H' => (s = .next ∧ Qus H H' n F ou τ) ∨ (s = .ret ∧ (∃ f, f ∈ F ∧ 4 < f.length) ∧ Ext H H' ∧ Env.at τ 2 = .int .i64 2)) := by
  simp [k13a, subAt, A13, u1, l0, hF.len]
  refine Wp_loop (fun m τ H' => ∃ i, K5 H H' n vF F ou τ i m) ?_ F.length _ _ ⟨0, ⟨by simpa using us0, by omega, by omega, by simp, by simp [u6], by simp, by simp, by simp⟩⟩
  rintro m τ H1 ⟨i, ⟨us, hi, rfl, f4, t6, t55, t56, t57⟩⟩
  simp only [Wp_seq, Wp_region]
  by_cases c : i < F.length
  · obtain ⟨p, r, f, a1, a2, a3, a4⟩ := hF.idxE us.ex (k := .i64) (i := (i : Int)) (by omega) (by omega)
    rw [Int.toNat_natCast] at a1
    have hfm := List.mem_of_getElem? a1
    have hti : ∀ S : List Int, usedTo F i f 0 = (F.take i).flatten := fun _ => by simp [usedTo]
    have htl : usedTo F i f f.length = (F.take (i + 1)).flatten := by
      unfold usedTo; rw [List.take_length, List.take_add_one, a1]; simp
    by_cases c4 : 4 < f.length
    · have c4' : (4 : Int) < f.length := by omega
      simp [c, t55, t56, t57, a2, a3, a4.len, c4']
      exact ⟨⟨f, hfm, c4⟩, us.ex⟩
    · have c4' : ¬ (4 : Int) < f.length := by omega
      simp [c, t55, t56, t57, a2, a3, a4.len, c4']
      refine Wp_loop (fun m τ H' => ∃ j, K6 H H' n vF F f r ou τ i j m) ?_ f.length _ _ ⟨0, ⟨by rw [hti []]; exact us, by omega, by omega, by simp [t6], by simp [t55], by simp [t56], by simp [t57], by simp, by simp, by simp⟩⟩
      rintro m τ H2 ⟨j, ⟨us, hj, rfl, t6, t55, t56, t57, t64, t65, t66⟩⟩
      simp only [Wp_seq, Wp_region]
      by_cases cj : j < f.length
      · obtain ⟨q, x, b1, b2, b3⟩ := Ints.idx ((a4.ext us.ex).sl i64c_len) (k := .i64) (i := (j : Int)) (by omega) (by omega)
        rw [Int.toNat_natCast] at b1
        obtain ⟨x0, x1⟩ := hin f hfm x (List.mem_of_getElem? b1)
        obtain ⟨H3, s1, us3⟩ := us.set hw x0 x1
        have w : IntKind.i64.wrap ((j : Int) + 1) = ((j + 1 : Nat) : Int) := wrap64 (by omega) (by omega)
        have hs : usedTo F i f (j + 1) = usedTo F i f j ++ [x] := by unfold usedTo; rw [List.take_add_one, b1]; simp
        simp [cj, t6, t64, t65, t66, b2, b3, x0, x1, s1, w]
        exact ⟨_, by omega, j + 1, ⟨by rw [hs]; exact us3, by omega, rfl, by simp [t6], by simp [t55], by simp [t56], by simp [t57], by simp [t64], by simp [t65], by simp⟩⟩
      · have hjl : j = f.length := by omega
        subst hjl
        have w : IntKind.i64.wrap ((i : Int) + 1) = ((i + 1 : Nat) : Int) := wrap64 (by omega) (by omega)
        rw [htl] at us
        simp [t57, t65, t66, w]
        refine ⟨_, by omega, i + 1, ⟨us, by omega, rfl, ?_, by simp [t6], by simp [t55], by simp [t56], by simp⟩⟩
        intro g hg
        rw [List.take_add_one, a1] at hg
        rcases List.mem_append.1 hg with q | q
        · exact f4 g q
        · simp at q; subst q; omega
  · have hil : i = F.length := by omega
    subst hil
    rw [List.take_length] at us f4
    simp [t56, t57]
    exact ⟨us, f4, by simp [t6]⟩
theorem check13b {n : Nat} {S : List Int} {ou : Nat} {τ0 : Env} {H1 : Heap} (hn : n ≤ 1000000000) (gu : H1.get ou = some (.cells (ub n S))) (u6 : Env.at τ0 6 = .slc ou 0 n 1 n true) :
    Wp FT k13b τ0 H1 (fun s τ H' => s = .ret ∧ H' = H1 ∧ ((∀ k : Nat, k < n → (k : Int) ∈ S) ∧ Env.at τ 2 = .int .i64 0 ∨ (∃ k : Nat, k < n ∧ (k : Int) ∉ S) ∧ Env.at τ 2 = .int .i64 2)) := by
  simp [k13b, subAt, A13, u6]
  refine Wp_loop (fun m τ H' => ∃ i, K7 H1 H' n S ou τ i m) ?_ n _ _ ⟨0, ⟨rfl, by omega, by omega, by omega, by simp, by simp, by simp⟩⟩
  rintro m τ _ ⟨i, ⟨rfl, hi, rfl, ok, t75, t76, t77⟩⟩
  simp only [Wp_seq, Wp_region]
  by_cases c : i < n
  · have ld : loadA H1 none (.ptr ou i) = some (.bool (decide ((i : Int) ∈ S))) := load_get gu (ub_get c)
    by_cases q : (i : Int) ∈ S
    · have w : IntKind.i64.wrap ((i : Int) + 1) = ((i + 1 : Nat) : Int) := wrap64 (by omega) (by omega)
      simp [c, t75, t76, t77, ld, q, w]
      refine ⟨_, by omega, i + 1, ⟨rfl, by omega, rfl, fun k hk => ?_, by simp [t75], by simp [t76], by simp⟩⟩
      by_cases hki : k = i
      · rw [hki]; exact q
      · exact ok k (by omega)
    · simp [c, t75, t76, t77, ld, q]
      exact ⟨i, c, q⟩
  · have hil : i = n := by omega
    subst hil
    simp [t76, t77]
    exact ok
/-- A mesh in memory: its places, its number, its faces. -/
structure Mo (H : Heap) (vP vF : AV) (P : List (Int × Int)) (F : List (List Int)) : Prop where
  p : Pairs H vP P
  f : Gd H vF F
theorem Mo.ext {H H' : Heap} {vP vF : AV} {P : List (Int × Int)} {F : List (List Int)} (h : Mo H vP vF P F) (e : Ext H H') : Mo H' vP vF P F := ⟨h.p.ext e, h.f.ext e⟩
theorem Mo.one {H : Heap} {vP vF : AV} {P : List (Int × Int)} {F : List (List Int)} (h : Mo H vP vF P F) (W : Int) : allOne [vP, .int .i64 W, vF] = true := by
  rw [allOne_of h.p.one.1, allOne_int, allOne_of h.f.one.1]; rfl
/-- Not too large for words to be counted. -/
structure Sz (P : List (Int × Int)) (F : List (List Int)) : Prop where
  p : P.length ≤ 1000000000
  f : F.length ≤ 1000000000
  r : ∀ f, f ∈ F → f.length ≤ 1000000000
  t : F.flatten.length ≤ 1000000000
abbrev H13 (FT : Nat → Option FnD) : Prop := FT 13 = some (.code A13) ∧ FT 22 = some (.code A22) ∧ FT 23 = some (.code A23) ∧ FT 41 = some (.code A41) ∧ FT 54 = some (.code A54) ∧ FT 65 = some (.code A65) ∧ FT 55 = some (.code A55) ∧ FT 56 = some (.code A56) ∧
  FT 24 = some (.code A24) ∧ FT 42 = some (.code A42) ∧ FT 57 = some (.code A57) ∧ FT 66 = some (.code A66) ∧ FT 58 = some (.code A58) ∧ FT 59 = some (.code A59)
theorem check13 (hh : H13 FT) (hw : H.Wf) {vP vF : AV} {P : List (Int × Int)} {W : Int} {F : List (List Int)} (h : Mo H vP vF P F) (hz : Sz P F) :
    Cp FT 13 [.agg [vP, .int .i64 W, vF]] H (fun r H' => r = .int .i64 (chkO P W F) ∧ Ext H H') := by
  obtain ⟨h13, h22, h23, h41, h54, h65, h55, h56, h24, h42, h57, h66, h58, h59⟩ := hh
  refine Cp_code A13 h13 rfl ?_
  have hA : A13.results = [.tmp 2] := rfl
  rw [hA, body13]
  have hone := h.one W
  have e0 := Ext.push hw (.cells [vP, .int .i64 W, vF])
  have g0 : (H.push (.cells [vP, .int .i64 W, vF])).get H.next = some (.cells [vP, .int .i64 W, vF]) := get_pushN.trans (if_pos rfl)
  generalize hP0 : H.push (.cells [vP, .int .i64 W, vF]) = H0 at *
  have l0 : loadA H0 none (.ptr H.next 0) = some vP := load_get g0 rfl
  have l1 : loadA H0 none (.ptr H.next 1) = some (.int .i64 W) := load_get g0 rfl
  have l2 : loadA H0 none (.ptr H.next 2) = some vF := load_get g0 rfl
  generalize hka : k13a = ka
  generalize hkb : k13b = kb
  have hno : ¬ ValidO P W F → chkO P W F = 2 := chkO_no
  by_cases c1 : F = []
  · have hb := hno (fun q => q.ne c1)
    subst c1
    have hfl := h.f.len
    simp [A13, putAt, hone, hP0, l2, hfl, hb]
    exact e0
  have hpos : ¬ F.length = 0 := fun q => c1 (List.length_eq_zero_iff.1 q)
  have hfl := h.f.len
  by_cases c2 : W < 1
  · have hb := hno (fun q => by have := q.w0; omega)
    simp [A13, putAt, hone, hP0, l1, l2, hfl, hpos, c2, hb]
    exact e0
  by_cases c3 : 1048576 < W
  · have hb := hno (fun q => by have := q.w1; omega)
    simp [A13, putAt, hone, hP0, l1, l2, hfl, hpos, c2, c3, hb]
    exact e0
  simp [A13, putAt, hone, hP0, l0, l1, l2, hfl, hpos, c2, c3]
  refine (fits22 h22 (h.p.ext e0) hz.p e0.wf).mono ?_
  rintro _ H1 ⟨rfl, e1⟩
  have ex1 := e0.trans e1
  have m0 : loadA H1 none (.ptr H.next 0) = some vP := load_ext l0 e1
  have m2 : loadA H1 none (.ptr H.next 2) = some vF := load_ext l2 e1
  by_cases c4' : ¬ allFit P = true
  · have hb := hno (fun q => c4' (by unfold allFit; exact decide_eq_true q.ps))
    have c4' : allFit P = false := by simpa using c4'
    simp [c4', hb]
    exact ex1
  have c4 : allFit P = true := Classical.not_not.1 c4'
  have hfit : ∀ p, p ∈ P → fitP p := by unfold allFit at c4; exact of_decide_eq_true c4
  simp [c4, m0, m2, h.p.len]
  refine (check23 h23 h41 h54 h65 h55 h56 (h.f.ext ex1) hz.r hz.f ex1.wf).mono ?_
  rintro _ H2 ⟨rfl, e2⟩
  have ex2 := ex1.trans e2
  by_cases c5' : ¬ chkF P.length F = 0
  · have hb := hno (fun q => c5' (chkF_ok.2 q.fo))
    simp [c5', hb]
    exact ex2
  have c5 : chkF P.length F = 0 := Classical.not_not.1 c5'
  have hfo := chkF_ok.1 c5
  have n0 := load_ext m0 e2
  simp [c5, n0]
  refine (twice24 h24 h42 h57 h66 h58 h59 ex2.wf (h.p.ext ex2) hz.p).mono ?_
  rintro _ H3 ⟨⟨x, y, t, rfl, ht⟩, e3⟩
  have ex3 := ex2.trans e3
  cases t with
  | true =>
    have hb := hno (fun q => (ht.1 rfl) q.pd)
    simp [hb]
    exact ex3
  | false =>
    have hnd : P.Nodup := Classical.byContradiction fun q => by have := ht.2 q; cases this
    have o0 := load_ext n0 e3
    have o2 := load_ext (load_ext m2 e2) e3
    have hmk : makeSlA H3 1 1 [.bool false] (.int .i64 (P.length : Int)) (.int .i64 (P.length : Int)) = some (.slc H3.next 0 P.length 1 P.length true, H3.push (.cells (ub P.length []))) := by
      have hp := hz.p
      unfold makeSlA
      simp only
      rw [if_pos ⟨by omega, by omega, by omega, by omega⟩, ← ub_zero]
      simp
    have e4 := Ext.push ex3.wf (.cells (ub P.length []))
    have us0 : Us H (H3.push (.cells (ub P.length []))) H3.next P.length [] := ⟨ex3.trans e4, get_pushN.trans (if_pos rfl), ex3.next⟩
    simp [o0, h.p.len, hmk]
    rw [← hka]
    refine (check13a h.f hz.f (fun f hf => (hfo.fs f hf).2.2) hw us0 (load_ext o2 e4) (by simp) (by simp)).mono ?_
    rintro s τ H4 (⟨rfl, us, f4, t6⟩ | ⟨rfl, ⟨f, hf, h4⟩, ex4, t2⟩)
    · simp
      rw [← hkb]
      refine (check13b hz.p us.gu t6).mono ?_
      rintro s τ _ ⟨rfl, rfl, ⟨hall, t2⟩ | ⟨⟨k, hk, hn⟩, t2⟩⟩
      · have hv : ValidO P W F := ⟨c1, by omega, by omega, hfit, hfo, f4, hnd, fun i hi => by
          obtain ⟨f, hf, hm⟩ := List.mem_flatten.1 (hall i hi); exact ⟨f, hf, hm⟩⟩
        simp [t2, chkO_ok hv]
        exact us.ex
      · have hb := hno (fun q => by
          obtain ⟨f, hf, hm⟩ := q.us k hk; exact hn (List.mem_flatten.2 ⟨f, hf, hm⟩))
        simp [t2, hb]
        exact us.ex
    · have hb := hno (fun q => by have := q.f4 f hf; omega)
      simp [t2, hb]
      exact ex4
end
end Go.Proofs.YtacfhbhfgbjleaaDoor
