/- An input's text, as the program writes it: the whole. No claim by itself. -/
import Derived.Test.YtmgaaieofdjfdaaDoorC4
namespace Go.Proofs.YtmgaaieofdjfdaaDoor
open Go Go.AI
def lineQ (q : Int × Int) : List Nat := lineS [] [q.1, q.2]
def hdr (P L I : List (Int × Int)) : List Nat := lineS [112, 111, 108, 121] [P.length, L.length, I.length]
def linesTo (l : List (Int × Int)) (i : Nat) : List Nat := (l.take i).flatMap lineQ
def textI (P L I : List (Int × Int)) : List Nat := hdr P L I ++ P.flatMap lineQ ++ L.flatMap lineQ ++ I.flatMap lineQ
def prtI (P L I : List (Int × Int)) : List Nat := if validP P L I = true then textI P L I else []
theorem lineQ_len (q : Int × Int) : (lineQ q).length ≤ 56 := by have := lineS_len [] [q.1, q.2]; simp at this; exact this
theorem lines_len (l : List (Int × Int)) : (l.flatMap lineQ).length ≤ l.length * 56 := by
  induction l with
  | nil => simp
  | cons q l ih => have := lineQ_len q; simp at ih ⊢; omega
theorem linesTo_len (l : List (Int × Int)) (i : Nat) : (linesTo l i).length ≤ l.length * 56 := by
  have := lines_len (l.take i)
  have h : (l.take i).length ≤ l.length := by simp; omega
  unfold linesTo; omega
theorem linesTo_succ {l : List (Int × Int)} {i : Nat} {x : Int × Int} (h : l[i]? = some x) : linesTo l (i + 1) = linesTo l i ++ lineQ x := by
  unfold linesTo; rw [List.take_add_one, h]; simp
theorem linesTo_all {l : List (Int × Int)} : linesTo l l.length = l.flatMap lineQ := by unfold linesTo; rw [List.take_length]
theorem hdr_len (P L I : List (Int × Int)) : (hdr P L I).length ≤ 87 := by have := lineS_len [112, 111, 108, 121] [P.length, L.length, I.length]; simp at this; exact this
def segTo (L I : List (Int × Int)) : Nat → List Nat
  | 0 => []
  | 1 => L.flatMap lineQ
  | _ => L.flatMap lineQ ++ I.flatMap lineQ
theorem Pol.extC {H H' : Heap} {a b c : AV} {P L I : List (Int × Int)} (h : Pol H a b c P L I) (e : ExtC H H') : Pol H' a b c P L I := ⟨h.p.extC e, h.l.extC e, h.i.extC e⟩
def all64 (l : List (Int × Int)) : Prop := ∀ q, q ∈ l → (-9223372036854775808 ≤ q.1 ∧ q.1 ≤ 9223372036854775807) ∧ (-9223372036854775808 ≤ q.2 ∧ q.2 ≤ 9223372036854775807)
theorem all64_pl {l : List (Int × Int)} (h : l.all okPl = true) : all64 l := fun q hq => by
  have := List.all_eq_true.1 h q hq
  simp [okPl, inR] at this; omega
theorem all64_sg {n : Int} (hn : n ≤ 1000) {l : List (Int × Int)} (h : l.all (okSg n) = true) : all64 l := fun q hq => by
  have := List.all_eq_true.1 h q hq
  simp [okSg, inR] at this; omega
section
variable {FT : Nat → Option FnD} {H : Heap}
theorem ints_new {H : Heap} (xs : List Int) {k : Nat} (hk : xs.length = k) : Ints (H.push (.cells (xs.flatMap i64c))) (.slc H.next 0 k 1 k true) xs := by
  subst hk
  exact .inr ⟨H.next, 0, _, _, _, rfl, cellsAt_push, fun i x hx => by rw [Nat.zero_add]; exact seg_flat i64c_len xs i x hx⟩
theorem print14 (h14 : FT 14 = some (.code A14)) (h13 : FT 13 = some (.code A13)) (h23 : FT 23 = some (.code A23)) (h24 : FT 24 = some (.code A24)) (h41 : FT 41 = some (.code A41)) (h39 : FT 39 = some (.ext itoaG)) (h40 : FT 40 = some (.ext (writeG 67 5))) (h25 : FT 25 = some (.ext (stringG 67 5)))
    (hw : H.Wf) {a b c : AV} {P L I : List (Int × Int)} (h : Pol H a b c P L I) :
    Cp FT 14 [.agg [a, b, c]] H (fun r H' => r = .tup [.str (prtI P L I), .int .i64 (chkI P L I)] ∧ ExtC H H') := by
  refine Cp_code A14 h14 rfl ?_
  have h1 := h.one
  have e0 : Ext H (H.push (.cells [a, b, c])) := Ext.push hw _
  have g0 : (H.push (.cells [a, b, c])).get H.next = some (.cells [a, b, c]) := get_pushN.trans (if_pos rfl)
  have ld0 : loadA (H.push (.cells [a, b, c])) (some 3) (.ptr H.next 0) = some (.agg [a, b, c]) := load_agg g0 (by simp [seg])
  simp [A14, h1, ld0]
  refine (check13 h13 h23 e0.wf (h.ext e0)).mono ?_
  rintro r H1 ⟨rfl, e1⟩
  by_cases hv : validP P L I = true
  · have hc0 : chkI P L I = 0 := by simp [chkI, hv]
    have hp0 : prtI P L I = textI P L I := by simp [prtI, hv]
    rw [hc0, hp0]
    have hvv := hv
    simp only [validP, Bool.and_eq_true, decide_eq_true_eq] at hvv
    obtain ⟨⟨⟨⟨⟨n1, n2⟩, n3⟩, vP⟩, vL⟩, vI⟩ := hvv
    have aP := all64_pl vP
    have aL := all64_sg (n := P.length) (by omega) vL
    have aI := all64_sg (n := P.length) (by omega) vI
    have g1 := e1.keep _ _ g0
    -- the builder
    have eb : Ext H1 (H1.push (.bld 67 none)) := Ext.push e1.wf _
    have g2 := eb.keep _ _ g1
    have bl0 := Bld.new (T := 67) (E := 5) e1.wf
    have w0 : loadA (H1.push (.bld 67 none)) none (.ptr H.next 0) = some a := load_get g2 rfl
    have w1 : loadA (H1.push (.bld 67 none)) none (.ptr H.next 1) = some b := load_get g2 rfl
    have w2 : loadA (H1.push (.bld 67 none)) none (.ptr H.next 2) = some c := load_get g2 rfl
    have ex2 := (e0.trans e1).trans eb
    generalize hH2 : H1.push (.bld 67 none) = H2 at eb g2 bl0 w0 w1 w2 ex2
    have hd := ints_new (H := H2) [(P.length : Int), L.length, I.length] (k := 3) rfl
    have ep : Ext H2 (H2.push (.cells ([(P.length : Int), L.length, I.length].flatMap i64c))) := Ext.push eb.wf _
    simp [hH2, w0, w1, w2, h.p.len, h.l.len, h.i.len]
    refine (line24 h24 h41 h39 h40 ep.wf (bl0.ext ep) hd (by intro n hn; simp at hn; omega) (by simp) (by simp) (by simp)).mono ?_
    rintro _ H3 ⟨bl3, e3⟩
    have hbl : (hdr P L I).length ≤ 87 := hdr_len P L I
    have bl3 : Bld 67 5 H3 H1.next (hdr P L I) := bl3
    have e23 : ExtC H2 H3 := ep.c.trans e3
    have w03 : loadA H3 none (.ptr H.next 0) = some a := load_get (e23.keep _ _ g2) rfl
    simp [w03, h.p.len]
    refine Wp_loop (fun m τ H' => ExtC H2 H' ∧ ∃ i : Nat, i ≤ P.length ∧ m = P.length - i ∧ Bld 67 5 H' H1.next (hdr P L I ++ linesTo P i) ∧ Env.at τ 1 = .ptr H.next 0 ∧ Env.at τ 5 = .ptr H1.next 0 ∧ Env.at τ 29 = a ∧ Env.at τ 30 = .int .i64 P.length ∧ Env.at τ 31 = .int .i64 i) ?_ P.length _ _ ⟨e23, 0, by omega, by simp, by simpa [linesTo] using bl3, by simp, by simp, by simp, by simp, by simp⟩
    rintro m τ H4 ⟨ex4, i, hi, rfl, bl4, t1, t5, t29, t30, t31⟩
    have hlt := linesTo_len P i
    simp only [Wp_seq, Wp_region]
    by_cases hc : i < P.length
    · obtain ⟨o, off, x, hx, hp, hld, _, _⟩ := Pairs.idx (h.p.extC (ex2.c.trans ex4)) (k := .i64) (i := i) (by omega) (by omega)
      rw [Int.toNat_natCast] at hx
      obtain ⟨H5, st, g5, e5, n5⟩ := store_new ex4.wf (z := [.int .i64 0, .int .i64 0]) (n := 2) (x := .agg (pairc x)) rfl rfl rfl rfl
      have l1 : loadA H5 none (.ptr H4.next 0) = some (.int .i64 x.1) := load_get g5 rfl
      have l2 : loadA H5 none (.ptr H4.next 1) = some (.int .i64 x.2) := load_get g5 rfl
      have w : IntKind.i64.wrap ((i : Int) + 1) = ((i + 1 : Nat) : Int) := wrap64 (by omega) (by omega)
      have e6 : Ext H5 (H5.push (.cells ([x.1, x.2].flatMap i64c))) := Ext.push e5.wf _
      have hx64 := aP x (List.mem_of_getElem? hx)
      simp [hc, t1, t5, t29, t30, t31, hp, hld, st, l1, l2]
      refine (line24 h24 h41 h39 h40 e6.wf ((bl4.ext e5).ext e6) (ints_new [x.1, x.2] (k := 2) rfl) (by intro n hn; simp at hn; omega) (by simp) (by simp) (by simp; omega)).mono ?_
      rintro _ H7 ⟨bl7, e7⟩
      simp [t31, w, t1, t5, t29, t30]
      exact ⟨_, by omega, ex4.trans ((e5.trans e6).c.trans e7), i + 1, by omega, rfl, by rw [linesTo_succ hx, ← List.append_assoc]; exact bl7, by simp⟩
    · have hin : i = P.length := by omega
      subst hin
      rw [linesTo_all] at bl4
      have hPl := lines_len P
      have w1' : loadA H4 none (.ptr H.next 1) = some b := load_get (ex4.keep _ _ g2) rfl
      have w2' : loadA H4 none (.ptr H.next 2) = some c := load_get (ex4.keep _ _ g2) rfl
      simp [t1, t29, t30, t31, w1', w2', fillV_val h.l.one.1 h.l.one.2, fillV_val h.i.one.1 h.i.one.2]
      refine Wp_loop (fun m τ H' => ExtC H2 H' ∧ ∃ j : Nat, j ≤ 2 ∧ m = 2 - j ∧ Bld 67 5 H' H1.next (hdr P L I ++ P.flatMap lineQ ++ segTo L I j) ∧ Env.at τ 5 = .ptr H1.next 0 ∧ Env.at τ 46 = .agg [b, c] ∧ Env.at τ 47 = .int .i64 j) ?_ 2 _ _ ⟨ex4, 0, by omega, by simp, by simpa [segTo] using bl4, by simp [t5], by simp, by simp⟩
      rintro m τ H4 ⟨ex4, j, hj, rfl, bl4, t5, t46, t47⟩
      simp only [Wp_seq, Wp_region]
      by_cases hcj : j < 2
      · obtain ⟨s, S, hS, hidx, hS4, aS, hsucc, hbefore⟩ : ∃ (s : AV) (S : List (Int × Int)), Pairs H s S ∧ partA [b, c] j none = some s ∧ S.length ≤ 400 ∧ all64 S ∧ segTo L I (j + 1) = segTo L I j ++ S.flatMap lineQ ∧ (segTo L I j).length ≤ 22400 := by
          have := lines_len L
          rcases (by omega : j = 0 ∨ j = 1) with rfl | rfl
          · exact ⟨b, L, h.l, rfl, n2, aL, by simp [segTo], by simp [segTo]⟩
          · exact ⟨c, I, h.i, rfl, n3, aI, by simp [segTo], by show (L.flatMap lineQ).length ≤ 22400; omega⟩
        have hcj' : (j : Int) < 2 := by omega
        have wj : IntKind.i64.wrap ((j : Int) + 1) = ((j + 1 : Nat) : Int) := wrap64 (by omega) (by omega)
        generalize segTo L I j = G at bl4 hsucc hbefore
        simp [hcj', t46, t47, hidx, hS.len]
        refine Wp_loop (fun m τ H' => ExtC H2 H' ∧ ∃ i : Nat, i ≤ S.length ∧ m = S.length - i ∧ Bld 67 5 H' H1.next (hdr P L I ++ P.flatMap lineQ ++ G ++ linesTo S i) ∧ Env.at τ 5 = .ptr H1.next 0 ∧ Env.at τ 46 = .agg [b, c] ∧ Env.at τ 47 = .int .i64 j ∧ Env.at τ 50 = s ∧ Env.at τ 51 = .int .i64 S.length ∧ Env.at τ 52 = .int .i64 i) ?_ S.length _ _ ⟨ex4, 0, by omega, by simp, by simpa [linesTo] using bl4, by simp [t5], by simp [t46], by simp [t47], by simp, by simp, by simp⟩
        rintro m τ H4 ⟨ex4, i, hi, rfl, bl4, t5, t46, t47, t50, t51, t52⟩
        have hlt := linesTo_len S i
        simp only [Wp_seq, Wp_region]
        by_cases hc : i < S.length
        · obtain ⟨o, off, x, hx, hp, hld, _, _⟩ := Pairs.idx (hS.extC (ex2.c.trans ex4)) (k := .i64) (i := i) (by omega) (by omega)
          rw [Int.toNat_natCast] at hx
          obtain ⟨H5, st, g5, e5, n5⟩ := store_new ex4.wf (z := [.int .i64 0, .int .i64 0]) (n := 2) (x := .agg (pairc x)) rfl rfl rfl rfl
          have l1 : loadA H5 none (.ptr H4.next 0) = some (.int .i64 x.1) := load_get g5 rfl
          have l2 : loadA H5 none (.ptr H4.next 1) = some (.int .i64 x.2) := load_get g5 rfl
          have w : IntKind.i64.wrap ((i : Int) + 1) = ((i + 1 : Nat) : Int) := wrap64 (by omega) (by omega)
          have e6 : Ext H5 (H5.push (.cells ([x.1, x.2].flatMap i64c))) := Ext.push e5.wf _
          have hx64 := aS x (List.mem_of_getElem? hx)
          simp [hc, t5, t50, t51, t52, hp, hld, st, l1, l2]
          refine (line24 h24 h41 h39 h40 e6.wf ((bl4.ext e5).ext e6) (ints_new [x.1, x.2] (k := 2) rfl) (by intro n hn; simp at hn; omega) (by simp) (by simp) (by simp only [List.length_append]; omega)).mono ?_
          rintro _ H7 ⟨bl7, e7⟩
          simp [t5, t46, t47, t50, t51, t52, w]
          exact ⟨_, by omega, ex4.trans ((e5.trans e6).c.trans e7), i + 1, by omega, rfl, by rw [linesTo_succ hx]; simp only [List.append_assoc] at bl7 ⊢; exact bl7, by simp⟩
        · have hin : i = S.length := by omega
          subst hin
          rw [linesTo_all] at bl4
          simp [t5, t46, t47, t50, t51, t52, wj]
          exact ⟨_, by omega, ex4, j + 1, by omega, rfl, by rw [hsucc]; simpa [List.append_assoc] using bl4, by simp⟩
      · have hj2 : j = 2 := by omega
        subst hj2
        have ht : hdr P L I ++ P.flatMap lineQ ++ segTo L I 2 = textI P L I := by simp [segTo, textI]
        rw [ht] at bl4
        obtain ⟨H8, hs8, e8⟩ := bl4.string ex4.wf
        simp [t46, t47, t5]
        refine Cp_ext (stringG 67 5) h25 hs8 ?_
        simp
        exact ex2.c.trans (ex4.trans e8)
  · have hc2 : chkI P L I = 2 := by simp [chkI, hv]
    have hp2 : prtI P L I = [] := by simp [prtI, hv]
    simp [hc2, hp2]
    exact (e0.trans e1).c
end
end Go.Proofs.YtmgaaieofdjfdaaDoor
