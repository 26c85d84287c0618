/- The document's answers on faces: edges, sides and counts, walked. No claim by itself. -/
import Derived.Test.YtcepchipgjpkhaaG1
import Derived.Test.YtcepchipgjpkhaaEG
import Derived.Test.YtcepchipgjpkhaaEH
namespace Go.Proofs.Ytcepchipgjpkhaa
open Go Go.AI
section
variable {FT : Nat → Option FnD} {H : Heap}
theorem has61 (h61 : FT 61 = some (.code A61)) {v : AV} {f : List Int} {a b : Int} (h : Ints H v f) (hl : f.length ≤ 1000000000) :
    Cp FT 61 [v, .int .i64 a, .int .i64 b] H (fun r H' => r = .bool (decide ((a, b) ∈ edgesF f)) ∧ H' = H) := by
  refine Cp_code A61 h61 rfl ?_
  simp [A61]
  refine Wp_loop (fun m τ H' => H' = H ∧ ∃ i : Nat, i ≤ f.length ∧ m = f.length - i ∧ (∀ k : Nat, k < i → (edgesF f)[k]? ≠ some (a, b)) ∧ Tm τ [(0, v), (1, .int .i64 a), (2, .int .i64 b), (7, .int .i64 i)]) ?_ f.length _ _ ⟨rfl, 0, by omega, by omega, by omega, by simp⟩
  rintro m τ _ ⟨rfl, i, hi, rfl, hn, t⟩
  simp at t
  obtain ⟨t0, t1, t2, t7⟩ := t
  by_cases c : i < f.length
  · have w : IntKind.i64.wrap ((i : Int) + 1) = (i : Int) + 1 := wrap64 (by omega) (by omega)
    have hm : (i + 1) % f.length < f.length := Nat.mod_lt _ (by omega)
    obtain ⟨p, x, hx, hp, hld⟩ := Ints.idx h (k := .i64) (i := i) (by omega) (by omega)
    obtain ⟨q, y, hy, hq, hqd⟩ := Ints.idx h (k := .i64) (i := (((i + 1) % f.length : Nat) : Int)) (by omega) (by omega)
    rw [Int.toNat_natCast] at hx hy
    have he := edgesF_get hx hy
    have hnx : ¬ (x = a ∧ y = b) → ∀ k : Nat, k < i + 1 → (edgesF f)[k]? ≠ some (a, b) := fun d k hk => by
      by_cases e : k = i
      · subst e; rw [he]; simpa using d
      · exact hn k (by omega)
    by_cases e : (i : Int) + 1 = f.length
    · have hq' : indexAddrV 1 v (.int .i64 0) = some q := by rw [← hq, show i + 1 = f.length by omega, Nat.mod_self]; rfl
      have w : IntKind.i64.wrap (f.length : Int) = f.length := wrap64 (by omega) (by omega)
      by_cases d1 : x = a
      · by_cases d2 : y = b
        · subst d1; subst d2
          have hmem := List.mem_of_getElem? he
          simp [c, t0, t1, t2, t7, h.len, hp, hld, w, e, hq', hqd, hmem]
        · simp [c, t0, t1, t2, t7, h.len, hp, hld, w, e, hq', hqd, d1, d2]
          exact ⟨_, by omega, i + 1, by omega, rfl, hnx (by simp [d2]), by omega⟩
      · simp [c, t0, t1, t2, t7, h.len, hp, hld, w, e, d1]
        exact ⟨_, by omega, i + 1, by omega, rfl, hnx (by simp [d1]), by omega⟩
    · have hq' : indexAddrV 1 v (.int .i64 ((i : Int) + 1)) = some q := by rw [← hq, Nat.mod_eq_of_lt (by omega)]; rfl
      by_cases d1 : x = a
      · by_cases d2 : y = b
        · subst d1; subst d2
          have hmem := List.mem_of_getElem? he
          simp [c, t0, t1, t2, t7, h.len, hp, hld, w, e, hq', hqd, hmem]
        · simp [c, t0, t1, t2, t7, h.len, hp, hld, w, e, hq', hqd, d1, d2]
          exact ⟨_, by omega, i + 1, by omega, rfl, hnx (by simp [d2]), by omega⟩
      · simp [c, t0, t1, t2, t7, h.len, hp, hld, w, e, d1]
        exact ⟨_, by omega, i + 1, by omega, rfl, hnx (by simp [d1]), by omega⟩
  · have hnm : (a, b) ∉ edgesF f := fun q => by
      obtain ⟨k, hk⟩ := List.getElem?_of_mem q
      have := (List.getElem?_eq_some_iff.1 hk).1
      rw [edgesF_len] at this
      exact hn k (by omega) hk
    simp [c, t0, t7, h.len, hnm]
structure Fsz (F : List (List Int)) : Prop where
  row : ∀ f, f ∈ F → f.length ≤ 1000000000
  len : F.length ≤ 1000000000
  tot : F.flatten.length ≤ 1000000000
theorem left28 (h28 : FT 28 = some (.code A28)) (h61 : FT 61 = some (.code A61)) (h25 : FT 25 = some (.code A25)) (h59 : FT 59 = some (.code A59)) {vF : AV} {F : List (List Int)} {a b : Int} (hF : Gd H vF F) (hs : Fsz F) (hw : H.Wf) :
    Cp FT 28 [vF, .int .i64 a, .int .i64 b] H (fun r H' => r = .int .i64 (if chkF 1048576 F = 0 then leftF F (a, b) else -1) ∧ Ext H H') := by
  refine Cp_code A28 h28 rfl ?_
  simp [A28]
  refine (ref25 (n := 1048576) h25 h59 hF hs.row hs.len hs.tot hw).mono ?_
  rintro _ H1 ⟨rfl, e1⟩
  generalize hc : chkF 1048576 F = c
  have hF1 := hF.ext e1
  have hl := hs.len
  simp
  refine Wp_loop (fun m τ H' => H' = H1 ∧ ∃ i : Nat, i ≤ F.length ∧ m = F.length - i ∧ (∀ (j : Nat) (g : List Int), j < i → F[j]? = some g → (a, b) ∉ edgesF g) ∧ Tm τ [(0, vF), (1, .int .i64 a), (2, .int .i64 b), (7, .int .i64 c), (8, .int .i64 i)]) ?_ F.length _ _ ⟨rfl, 0, by omega, by omega, by omega, by simp⟩
  rintro m τ _ ⟨rfl, i, hi, rfl, hn, t⟩
  simp at t
  obtain ⟨t0, t1, t2, t7, t8⟩ := t
  by_cases q : i < F.length
  · by_cases z : c = 0
    · obtain ⟨p, r, f, a1, a2, a3, a4⟩ := hF1.idx (k := .i64) (i := (i : Int)) (by omega) (by omega)
      rw [Int.toNat_natCast] at a1
      simp [q, z, t0, t1, t2, t7, t8, hF1.len, a2, a3]
      refine (has61 h61 (a4.sl i64c_len) (hs.row f (List.mem_of_getElem? a1))).mono ?_
      rintro _ _ ⟨rfl, rfl⟩
      by_cases d : (a, b) ∈ edgesF f
      · have := leftF_first a1 d hn
        simp [d, t8, this]
        exact e1
      · have w : IntKind.i64.wrap ((i : Int) + 1) = (i : Int) + 1 := wrap64 (by omega) (by omega)
        simp [d, t0, t1, t2, t7, t8, w]
        refine ⟨_, by omega, i + 1, by omega, rfl, fun j g hj hg => ?_, z, by omega⟩
        by_cases e : j = i
        · subst e; rw [a1] at hg; cases hg; exact d
        · exact hn j g (by omega) hg
    · simp [q, z, t0, t7, t8, hF1.len]
      exact e1
  · have hx : leftF F (a, b) = -1 := leftF_none (get_all fun j g hj hg => hn j g (by omega) hg)
    simp [q, t0, t8, hF1.len, hx]
    exact e1
theorem less60 (h60 : FT 60 = some (.code A60)) {x y : Int × Int} (hw : H.Wf) :
    Cp FT 60 [.agg (pairc x), .agg (pairc y)] H (fun r H' => r = .bool (ltS x y) ∧ Ext H H') := by
  refine Cp_code A60 h60 rfl ?_
  obtain ⟨a, b⟩ := x
  obtain ⟨c, d⟩ := y
  have e1 := Ext.push hw (.cells [.int .i64 a, .int .i64 b])
  have e2 := Ext.push e1.wf (.cells [.int .i64 c, .int .i64 d])
  have g2 := (push_new e1.wf (.cells [.int .i64 c, .int .i64 d])).1
  have g1 := e2.keep _ _ (push_new hw (.cells [.int .i64 a, .int .i64 b])).1
  have l1 := load_get g1 (off := 0) rfl
  have l2 := load_get g1 (off := 1) rfl
  have l3 := load_get g2 (off := 0) rfl
  have l4 := load_get g2 (off := 1) rfl
  simp only [next_push] at l3 l4
  have e12 := e1.trans e2
  by_cases c1 : a < c
  · have hx : ltS (a, b) (c, d) = true := by simp [ltS, c1]
    simp [A60, pairc, l1, l3, c1, hx]
    exact e12
  · by_cases c2 : a = c
    · subst c2
      by_cases c3 : b < d
      · have hx : ltS (a, b) (a, d) = true := by simp [ltS, c3]
        simp [A60, pairc, l1, l2, l3, l4, c3, hx]
        exact e12
      · have hx : ltS (a, b) (a, d) = false := by simp [ltS, c3]
        simp [A60, pairc, l1, l2, l3, l4, c3, hx]
        exact e12
    · have hx : ltS (a, b) (c, d) = false := by simp [ltS, c1, c2]
      simp [A60, pairc, l1, l3, c1, c2, hx]
      exact e12
def kin27 : ACode := subAt [1, 1, 1, 1, 0, 1, 0, 0, 1, 0, 0, 1, 1] A27.body
theorem body27 : A27.body = putAt [1, 1, 1, 1, 0, 1, 0, 0, 1, 0, 0, 1, 1] A27.body kin27 := rfl
structure Ei1 (H H' : Heap) (v3 : AV) (out : List (Int × Int)) (s : Int × Int) (o : Nat) (x4 x5 x6 : AV) (v8 : AV) (τ : Env) (k m : Nat) : Prop where
  ex : Ext H H'
  mine : Mine 2 pairc H H' v8 (out.take k)
  le : k ≤ out.length
  hm : m = out.length - k
  lt : ∀ (j : Nat) (x : Int × Int), j < k → out[j]? = some x → ltS x s = true
  t : Tm τ [(3, v3), (4, x4), (5, x5), (6, x6), (7, .ptr o 0), (8, v8), (9, .int .i64 k)]
structure Eq1 (H H' : Heap) (out : List (Int × Int)) (x4 x5 x6 v : AV) (τ : Env) : Prop where
  ex : Ext H H'
  row : Rw 2 pairc H' v out
  t : Tm τ [(3, v), (4, x4), (5, x5), (6, x6)]
/-- An edge laid at its place. -/
theorem ed_in (h60 : FT 60 = some (.code A60)) (hw : H.Wf) {v3 : AV} {out : List (Int × Int)} {s : Int × Int} {o : Nat} (row : Rw 2 pairc H v3 out) (hlen : out.length ≤ 1000000000) (g7 : H.get o = some (.cells (pairc s))) {τ0 : Env} {x4 x5 x6 : AV}
    (u : Tm τ0 [(3, v3), (4, x4), (5, x5), (6, x6), (7, .ptr o 0)]) :
    Wp FT kin27 τ0 H (fun c τ H' => (c = .next ∨ c = .exit 1) ∧ ∃ v, Eq1 H H' (insU ltS out s) x4 x5 x6 v τ) := by
  simp at u
  obtain ⟨u3, u4, u5, u6, u7⟩ := u
  simp [kin27, subAt, A27]
  refine Wp_loop (fun m τ H' => ∃ k v8, Ei1 H H' v3 out s o x4 x5 x6 v8 τ k m) ?_ out.length _ _ ⟨0, .nils, ⟨Ext.refl hw, by simpa using Mine.nil, by omega, by omega, by omega, by simp [u3, u4, u5, u6, u7]⟩⟩
  rintro m τ H1 ⟨k, v8, ⟨e1, mine, hk, rfl, hlt, t⟩⟩
  simp at t
  obtain ⟨t3, t4, t5, t6, t7, t8, t9⟩ := t
  have row1 := row.ext e1
  have g71 := e1.keep _ _ g7
  have l7 : loadA H1 (some 2) (.ptr o 0) = some (.agg (pairc s)) := load_agg g71 (by simp [seg, pairc])
  -- what stands behind
  have fin : ∀ (H2 : Heap), Ext H1 H2 → (∀ x, out[k]? = some x → ltS x s = false ∧ x ≠ s) → ∃ v' H3 v'' H4 v1, appendA 2 16 (H2.push (.cells (pairc s))) v8 (.slc H2.next 0 1 2 1 true) = some (v', H3) ∧ sliceA 2 v3 (some (.int .i64 k)) none none = some v1 ∧ appendA 2 16 H3 v' v1 = some (v'', H4) ∧ Rw 2 pairc H4 v'' (insU ltS out s) ∧ Ext H H4 := by
    intro H2 e2 hno
    have tl : (out.take k).length ≤ 1000000000 := by rw [List.length_take]; omega
    have e02 := e1.trans e2
    obtain ⟨v', H3, a1, a2, a3, a4⟩ := (mine.ext e2).app1 pairc_len (by omega) pairc_one (bytes := 16) e02.wf e02.next s (by omega)
    have e03 : Ext H H3 := ext_fr hw e02 a3 (fun p hp => mine.new p (by simpa using hp))
    obtain ⟨v1, b1, b2, b3⟩ := (row.ext e03).drop pairc_len hk
    obtain ⟨v'', H4, c1, c2, c3, c4⟩ := a2.appS pairc_len (by omega) pairc_one (bytes := 16) e03.wf e03.next b2.sw (by simp; omega)
    have e04 : Ext H H4 := ext_fr hw e03 c3 (fun p hp => a2.new p (by simpa using hp))
    refine ⟨v', H3, v'', H4, v1, a1, b1, c1, ?_, e04⟩
    have hi : insU ltS out s = (out.take k ++ [s]) ++ out.drop k := by
      rw [insU_at hk hlt (fun x hx => (hno x hx).1), if_neg (fun q => (hno s q).2 rfl)]; simp
    rw [hi]
    exact c2.ow.rw pairc_len
  by_cases q : k < out.length
  · obtain ⟨p, x, a1, a2, a3, _⟩ := Sl.idx (row1.sl pairc_len) (k := .i64) (i := (k : Int)) (by omega) (by omega)
    rw [Int.toNat_natCast] at a1
    simp [q, t3, t7, t8, t9, row1.len, a2, a3, l7]
    refine (less60 h60 e1.wf).mono ?_
    rintro _ H2 ⟨rfl, e2⟩
    have a3' : loadA H2 (some 2) p = some (.agg (pairc x)) := load_ext a3 e2
    have l7' : loadA H2 (some 2) (.ptr o 0) = some (.agg (pairc s)) := load_ext l7 e2
    have row2 := row1.ext e2
    cases hl : ltS x s with
    | true =>
      have w : IntKind.i64.wrap ((k : Int) + 1) = (k : Int) + 1 := wrap64 (by omega) (by omega)
      have tl : (out.take k).length ≤ 1000000000 := by rw [List.length_take]; omega
      have e02 := e1.trans e2
      obtain ⟨v', H3, b1, b2, b3, b4⟩ := (mine.ext e2).app1 pairc_len (by omega) pairc_one (bytes := 16) e02.wf e02.next x (by omega)
      have e03 : Ext H H3 := ext_fr hw e02 b3 (fun p hp => mine.new p (by simpa using hp))
      have ht : out.take (k + 1) = out.take k ++ [x] := by rw [List.take_add_one, a1]; rfl
      have f2 : ∀ (e : Opd → AV), fillV e [.int .i64 0, .int .i64 0] 0 2 (.agg (pairc x)) [] = some (pairc x) := fun e => by rw [show pairc x = [.int .i64 x.1, .int .i64 x.2] from rfl, fillV_2 rfl rfl]; simp [setSeg]
      simp [t3, t7, t8, t9, a2, a3', f2, b1, w]
      refine ⟨_, by omega, k + 1, v', ⟨e03, by rw [ht]; exact b2, by omega, rfl, fun j y hj hy => ?_, by simp [t3, t4, t5, t6, t7]⟩⟩
      by_cases e : j = k
      · subst e; rw [a1] at hy; cases hy; exact hl
      · exact hlt j y (by omega) hy
    | false =>
      have f2 : ∀ (e : Opd → AV), fillV e [.int .i64 0, .int .i64 0] 0 2 (.agg (pairc s)) [] = some (pairc s) := fun e => by rw [show pairc s = [.int .i64 s.1, .int .i64 s.2] from rfl, fillV_2 rfl rfl]; simp [setSeg]
      by_cases d : x = s
      · have hi : insU ltS out s = out := by
          rw [insU_at hk hlt (fun y hy => by rw [a1] at hy; cases hy; exact hl), if_pos (by rw [a1, d])]
        have hq : binA .eql (.flat [.int, .int]) (.agg (pairc x)) (.agg (pairc s)) = some (.bool true) := by rw [eqPair, decide_eq_true d]
        simp [q, t3, t7, t8, t9, row2.len, a2, a3', l7', hq, hi]
        exact ⟨v3, e1.trans e2, row2, by simp [t3, t4, t5, t6]⟩
      · have hq : binA .eql (.flat [.int, .int]) (.agg (pairc x)) (.agg (pairc s)) = some (.bool false) := by rw [eqPair, decide_eq_false d]
        obtain ⟨v', H3, v'', H4, v1, b1, b2, b3, b4, b5⟩ := fin H2 e2 (fun y hy => by rw [a1] at hy; cases hy; exact ⟨hl, d⟩)
        simp [q, t3, t7, t8, t9, row2.len, a2, a3', l7', hq, f2, b1, b2, b3]
        exact ⟨v'', b5, b4, by simp [t4, t5, t6]⟩
  · have hn : out[k]? = none := List.getElem?_eq_none (by omega)
    have f2 : ∀ (e : Opd → AV), fillV e [.int .i64 0, .int .i64 0] 0 2 (.agg (pairc s)) [] = some (pairc s) := fun e => by rw [show pairc s = [.int .i64 s.1, .int .i64 s.2] from rfl, fillV_2 rfl rfl]; simp [setSeg]
    obtain ⟨v', H3, v'', H4, v1, b1, b2, b3, b4, b5⟩ := fin H1 (Ext.refl e1.wf) (fun y hy => by rw [hn] at hy; cases hy)
    simp [q, t3, t7, t8, t9, row1.len, l7, f2, b1, b2, b3]
    exact ⟨v'', b5, b4, by simp [t4, t5, t6]⟩
structure Ed1 (H1 H' : Heap) (vL v3 : AV) (L : List (Int × Int)) (c : Int) (τ : Env) (i m : Nat) : Prop where
  ex : Ext H1 H'
  row : Rw 2 pairc H' v3 (layU ltS [] ((L.take i).map upE))
  le : i ≤ L.length
  hm : m = L.length - i
  z : c ≠ 0 → i = 0
  t : Tm τ [(3, v3), (4, .int .i64 c), (5, vL), (6, .int .i64 i)]
theorem edges27 (h27 : FT 27 = some (.code A27)) (h60 : FT 60 = some (.code A60)) (h25 : FT 25 = some (.code A25)) (h59 : FT 59 = some (.code A59)) {vF : AV} {F : List (List Int)} (hF : Gd H vF F) (hs : Fsz F) (hw : H.Wf) :
    Cp FT 27 [vF] H (fun r H' => Rw 2 pairc H' r (if chkF 1048576 F = 0 then edS (allE F) else []) ∧ Ext H H') := by
  refine Cp_code A27 h27 rfl ?_
  rw [body27]
  generalize hk : kin27 = kin
  simp [A27, putAt]
  refine (ref25 (n := 1048576) h25 h59 hF hs.row hs.len hs.tot hw).mono ?_
  rintro _ H1 ⟨rfl, e1⟩
  generalize hc : chkF 1048576 F = c
  simp
  refine (all59 h59 (hF.ext e1) hs.len hs.tot e1.wf).mono ?_
  rintro vL H2 ⟨hL, e2⟩
  have hL : Rw 2 pairc H2 vL (allE F) := hL
  have hLl : (allE F).length ≤ 1000000000 := by have := hs.tot; rw [← flat_edges] at this; exact this
  have e02 := e1.trans e2
  generalize hA : allE F = L at hL hLl ⊢
  simp
  refine Wp_loop (fun m τ H' => ∃ i v3, Ed1 H2 H' vL v3 L c τ i m) ?_ L.length _ _ ⟨0, .nils, ⟨Ext.refl e2.wf, ⟨.inl ⟨rfl, by simp [layU]⟩, rfl⟩, by omega, by omega, fun _ => rfl, by simp⟩⟩
  rintro m τ H3 ⟨i, v3, ⟨e3, row, hi, rfl, hz, t⟩⟩
  simp at t
  obtain ⟨t3, t4, t5, t6⟩ := t
  have hL3 := hL.ext e3
  by_cases q : i < L.length
  · by_cases z : c = 0
    · obtain ⟨p, s, a1, a2, a3, _⟩ := Sl.idx (hL3.sl pairc_len) (k := .i64) (i := (i : Int)) (by omega) (by omega)
      rw [Int.toNat_natCast] at a1
      have hnext : layU ltS [] ((L.take (i + 1)).map upE) = insU ltS (layU ltS [] ((L.take i).map upE)) (upE s) := by
        rw [List.take_add_one, a1, List.map_append]
        exact layU_snoc _ _ _
      have hlen := layU_len (lt := ltS) ((L.take i).map upE) []
      rw [List.length_map, List.length_take, List.length_nil] at hlen
      generalize layU ltS [] ((L.take i).map upE) = out at row hnext hlen
      obtain ⟨H4, st, g4, e4, n4⟩ := store_new e3.wf (z := [.int .i64 0, .int .i64 0]) (n := 2) (x := .agg (pairc s)) (cs := pairc s) rfl rfl rfl rfl
      have l1 : loadA H4 none (.ptr H3.next 0) = some (.int .i64 s.1) := load_get g4 rfl
      have l2 : loadA H4 none (.ptr H3.next 1) = some (.int .i64 s.2) := load_get g4 rfl
      have w : IntKind.i64.wrap ((i : Int) + 1) = (i : Int) + 1 := wrap64 (by omega) (by omega)
      by_cases d : s.2 < s.1
      · have hu : upE s = (s.2, s.1) := by unfold upE; rw [if_neg (by omega)]
        obtain ⟨H5, s1, s2, s3⟩ := store_whole (n := 2) (x := .agg [.int .i64 s.2, .int .i64 s.1]) (xs := pairc (upE s)) e4.wf (by rw [hu]; rfl) rfl (by rw [e4.floor, e3.floor]; exact Nat.le_trans e2.wf.1 e3.next) g4 rfl rfl
        have e35 : Ext H3 H5 := ext_fr e3.wf e4 s3 (fun p hp => by simp at hp; omega)
        simp [q, z, t4, t5, t6, hL3.len, a2, a3, st, l1, l2, d, s1]
        rw [← hk]
        refine (ed_in h60 e35.wf (row.ext e35) (by omega) s2 (x4 := .int .i64 c) (x5 := vL) (x6 := .int .i64 i) (by simp [t3, t4, t5, t6])).mono ?_
        rintro c' τ' H6 ⟨hc', v, ⟨e6, hv, t'⟩⟩
        simp at t'
        obtain ⟨t3', t4', t5', t6'⟩ := t'
        rcases hc' with rfl | rfl
        · simp [t6', w]
          exact ⟨_, by omega, i + 1, v, ⟨(e3.trans e35).trans e6, by rw [hnext]; exact hv, by omega, rfl, fun q => absurd rfl q, by simp [t3', t4', t5', z]⟩⟩
        · simp [t6', w]
          exact ⟨_, by omega, i + 1, v, ⟨(e3.trans e35).trans e6, by rw [hnext]; exact hv, by omega, rfl, fun q => absurd rfl q, by simp [t3', t4', t5', z]⟩⟩
      · have hu : upE s = s := by
          unfold upE
          by_cases d2 : s.1 < s.2
          · rw [if_pos d2]
          · rw [if_neg d2]; exact Prod.ext (by simp only; omega) (by simp only; omega)
        rw [hu] at hnext
        simp [q, z, t4, t5, t6, hL3.len, a2, a3, st, l1, l2, d]
        rw [← hk]
        refine (ed_in h60 e4.wf (row.ext e4) (by omega) g4 (x4 := .int .i64 c) (x5 := vL) (x6 := .int .i64 i) (by simp [t3, t4, t5, t6])).mono ?_
        rintro c' τ' H6 ⟨hc', v, ⟨e6, hv, t'⟩⟩
        simp at t'
        obtain ⟨t3', t4', t5', t6'⟩ := t'
        rcases hc' with rfl | rfl
        · simp [t6', w]
          exact ⟨_, by omega, i + 1, v, ⟨(e3.trans e4).trans e6, by rw [hnext]; exact hv, by omega, rfl, fun q => absurd rfl q, by simp [t3', t4', t5', z]⟩⟩
        · simp [t6', w]
          exact ⟨_, by omega, i + 1, v, ⟨(e3.trans e4).trans e6, by rw [hnext]; exact hv, by omega, rfl, fun q => absurd rfl q, by simp [t3', t4', t5', z]⟩⟩
    · have hi0 := hz z
      subst hi0
      simp [q, z, t3, t4, t5, t6, hL3.len]
      exact ⟨by simpa [layU] using row, e02.trans e3⟩
  · have hil : i = L.length := by omega
    subst hil
    rw [List.take_length] at row
    simp [t3, t5, t6, hL3.len]
    refine ⟨?_, e02.trans e3⟩
    by_cases z : c = 0
    · rw [if_pos z]; exact row
    · rw [if_neg z]
      have : L = [] := List.length_eq_zero_iff.1 (hz z)
      subst this
      simpa [layU] using row
structure Ct1 (H1 H' : Heap) (vF vL : AV) (L : List (Int × Int)) (K : List Int) (τ : Env) (i m : Nat) : Prop where
  eq : H1 = H'
  le : i ≤ L.length
  hm : m = L.length - i
  t : Tm τ [(0, vF), (6, vL), (7, .int .i64 (firsts (K.take i)).length), (8, .int .i64 i)]
structure Ct2 (H1 H' : Heap) (vF vL : AV) (L : List (Int × Int)) (K : List Int) (x : Int) (n : Nat) (τ : Env) (i k m : Nat) : Prop where
  eq : H1 = H'
  le : k ≤ i
  hm : m = i - k
  t : Tm τ [(0, vF), (6, vL), (7, .int .i64 n), (8, .int .i64 i), (9, .bool (decide (x ∉ K.take k))), (10, .int .i64 k)]
theorem count24 (h24 : FT 24 = some (.code A24)) (h27 : FT 27 = some (.code A27)) (h60 : FT 60 = some (.code A60)) (h25 : FT 25 = some (.code A25)) (h59 : FT 59 = some (.code A59)) {vF : AV} {F : List (List Int)} (hF : Gd H vF F) (hs : Fsz F) (hw : H.Wf) :
    Cp FT 24 [vF] H (fun r H' => r = (if chkF 1048576 F = 0 then .tup [.int .i64 (firsts F.flatten).length, .int .i64 (edS (allE F)).length, .int .i64 F.length] else .tup [.int .i64 0, .int .i64 0, .int .i64 0]) ∧ Ext H H') := by
  refine Cp_code A24 h24 rfl ?_
  simp [A24]
  refine (ref25 (n := 1048576) h25 h59 hF hs.row hs.len hs.tot hw).mono ?_
  rintro _ H1 ⟨rfl, e1⟩
  by_cases z : chkF 1048576 F = 0
  · have hF1 := hF.ext e1
    simp [z]
    refine (all59 h59 hF1 hs.len hs.tot e1.wf).mono ?_
    rintro vL H2 ⟨hL, e2⟩
    have hL : Rw 2 pairc H2 vL (allE F) := hL
    have hLl : (allE F).length ≤ 1000000000 := by have := hs.tot; rw [← flat_edges] at this; exact this
    have hfst := allE_fst F
    have e02 := e1.trans e2
    have hF2 := hF1.ext e2
    generalize hA : allE F = L at hL hLl hfst
    generalize hK : F.flatten = K at hfst
    simp
    refine Wp_loop (fun m τ H' => ∃ i, Ct1 H2 H' vF vL L K τ i m) ?_ L.length _ _ ⟨0, ⟨rfl, by omega, by omega, by simp [firsts]⟩⟩
    rintro m τ _ ⟨i, ⟨rfl, hi, rfl, t⟩⟩
    simp at t
    obtain ⟨t0, t6, t7, t8⟩ := t
    by_cases q : i < L.length
    · obtain ⟨o, off, s, a1, a2, _, a3, _⟩ := Pairs.idx (hL.sl pairc_len) (k := .i64) (i := (i : Int)) (by omega) (by omega)
      rw [Int.toNat_natCast] at a1
      have a1' : K[i]? = some s.1 := by rw [← hfst, List.getElem?_map, a1]; rfl
      generalize hn : (firsts (K.take i)).length = n at t7
      simp [q, t6, t8, hL.len]
      refine Wp_loop (fun m τ H' => ∃ k, Ct2 H2 H' vF vL L K s.1 n τ i k m) ?_ i _ _ ⟨0, ⟨rfl, by omega, by omega, by simp [t0, t6, t7, t8]⟩⟩
      rintro m τ _ ⟨k, ⟨rfl, hk, rfl, t⟩⟩
      simp only [Tm_cons, Tm_nil, and_true] at t
      obtain ⟨t0, t6, t7, t8, t9, t10⟩ := t
      by_cases d : k < i
      · obtain ⟨o2, off2, y, b1, b2, _, b3, _⟩ := Pairs.idx (hL.sl pairc_len) (k := .i64) (i := (k : Int)) (by omega) (by omega)
        rw [Int.toNat_natCast] at b1
        have w : IntKind.i64.wrap ((k : Int) + 1) = (k : Int) + 1 := wrap64 (by omega) (by omega)
        have ht : (s.1 ∈ K.take (k + 1)) ↔ s.1 ∈ K.take k ∨ s.1 = y.1 := by
          have b1' : K[k]? = some y.1 := by rw [← hfst, List.getElem?_map, b1]; rfl
          rw [List.take_add_one, b1', List.mem_append]; simp
        by_cases hm : s.1 ∈ K.take k
        · have hm' := ht.2 (.inl hm)
          rw [decide_eq_false (fun q => q hm)] at t9
          simp [d, t6, t8, t9, t10, w]
          exact ⟨_, by omega, k + 1, ⟨rfl, by omega, rfl, by
            rw [decide_eq_false (fun q => q hm')]; simp [t0, t6, t7, t8]⟩⟩
        · rw [decide_eq_true hm] at t9
          by_cases he : y.1 = s.1
          · have hm' := ht.2 (.inr he.symm)
            simp [d, t6, t8, t9, t10, a2, a3, b2, b3, w, he]
            exact ⟨_, by omega, k + 1, ⟨rfl, by omega, rfl, by
              rw [decide_eq_false (fun q => q hm')]; simp [t0, t6, t7, t8]⟩⟩
          · have hm' : s.1 ∉ K.take (k + 1) := fun q => (ht.1 q).elim hm (fun q => he q.symm)
            simp [d, t6, t8, t9, t10, a2, a3, b2, b3, w, he]
            exact ⟨_, by omega, k + 1, ⟨rfl, by omega, rfl, by
              rw [decide_eq_true hm']; simp [t0, t6, t7, t8, he]⟩⟩
      · have hki : k = i := by omega
        subst hki
        have w : IntKind.i64.wrap ((k : Int) + 1) = (k : Int) + 1 := wrap64 (by omega) (by omega)
        have ht : K.take (k + 1) = K.take k ++ [s.1] := by rw [List.take_add_one, a1']; rfl
        have hf := firsts_snoc (K.take k) s.1
        have hb : n ≤ k := by
          have := firsts_le (K.take k)
          rw [List.length_take] at this
          omega
        by_cases hm : s.1 ∈ K.take k
        · rw [decide_eq_false (fun q => q hm)] at t9
          rw [if_pos (firsts_mem.2 hm), ← ht] at hf
          simp [t8, t9, t10, w]
          exact ⟨_, by omega, k + 1, ⟨rfl, by omega, rfl, by rw [hf, hn]; simp [t0, t6, t7]⟩⟩
        · have w2 : IntKind.i64.wrap ((n : Int) + 1) = (n : Int) + 1 := wrap64 (by omega) (by omega)
          rw [decide_eq_true hm] at t9
          rw [if_neg (fun q => hm (firsts_mem.1 q)), ← ht] at hf
          simp [t7, t8, t9, t10, w, w2]
          exact ⟨_, by omega, k + 1, ⟨rfl, by omega, rfl, by rw [hf, List.length_append, hn]; simp [t0, t6]⟩⟩
    · have hil : i = L.length := by omega
      subst hil
      rw [List.take_of_length_le (by rw [← hfst, List.length_map]; exact Nat.le_refl _)] at t7
      simp [t0, t6, t7, t8, hL.len]
      refine (edges27 h27 h60 h25 h59 hF2 hs e02.wf).mono ?_
      rintro v H3 ⟨hv, e3⟩
      rw [if_pos z] at hv
      simp [t0, t7, hv.len, hF2.len]
      exact ⟨by rw [hA], e02.trans e3⟩
  · simp [z]
    exact e1
end
end Go.Proofs.Ytcepchipgjpkhaa
