/- The input of bytes, as the document reads it. No claim by itself. -/
import Derived.Test.YtmgaaieofdjfdaaDoorD8
import Derived.Test.YtmgaaieofdjfdaaDoorD4
import Derived.Test.YtmgaaieofdjfdaaDoorP1
namespace Go.Proofs.YtmgaaieofdjfdaaDoor
open Go Go.AI
def Out4 (H H' : Heap) (x : Pl3 × Int × Int) (v : AV) : Prop :=
  ∃ a b c, v = .tup [.agg [a, b, c], .int .i64 x.2.1, .int .i64 x.2.2] ∧ Mine 2 pairc H H' a x.1.1 ∧ Mine 2 pairc H H' b x.1.2.1 ∧ Mine 2 pairc H H' c x.1.2.2 ∧ Ext H H'
theorem numT_num {s : List Nat} {lo hi : Int} (hlo : -1099511627776 ≤ lo) (hhi : hi ≤ 1099511627776) :
    (if (numT s 9223372036854775807).2 = 0 ∧ ((numT s 9223372036854775807).1 < lo ∨ hi < (numT s 9223372036854775807).1) then (0, 10) else numT s 9223372036854775807) = numR s lo hi ∨
    ((numT s 9223372036854775807).2 = 0 ∧ ((numT s 9223372036854775807).1 < lo ∨ hi < (numT s 9223372036854775807).1) ∧ numR s lo hi = (0, 10)) := by
  unfold numT numR
  cases hw : wfN s with
  | false => left; simp
  | true =>
    simp only [Bool.true_eq_false, if_false]
    have hq := digV_sval s
    by_cases h1 : (9223372036854775807 : Int) < 0 ∨ (9223372036854775807 : Int) < (digV (digsOf s) : Int)
    · rw [if_pos h1]
      left
      have : ¬ (lo ≤ sval s ∧ sval s ≤ hi) := by
        rintro ⟨a, b⟩
        rcases h1 with h1 | h1 <;> rcases hq with q | q <;> omega
      rw [if_neg this]; simp
    · rw [if_neg h1]
      by_cases h2 : lo ≤ sval s ∧ sval s ≤ hi
      · left
        rw [if_pos h2, if_neg (by simp; omega)]
      · right
        rw [if_neg h2]
        exact ⟨rfl, by simp only; omega, rfl⟩
section
variable {FT : Nat → Option FnD} {H : Heap}
theorem limits35 (h35 : FT 35 = some (.code A35)) {v : AV} {n : List Int} (h : Ints H v n) {i : Nat} (hi : i ≤ 100000) (hn : 1 ≤ i → ∃ N : Nat, n[0]? = some (N : Int) ∧ N ≤ 1000) :
    Cp FT 35 [.int .i64 i, v] H (fun r H' => r = .tup [.int .i64 (limI i n).1, .int .i64 (limI i n).2] ∧ H' = H) := by
  refine Cp_code A35 h35 rfl ?_
  by_cases h0 : i = 0
  · subst h0
    simp [A35, limI]
  · have hb0 : ((i : Int) == 0) = false := by rw [beq_eq_false_iff_ne]; omega
    obtain ⟨N, hN, hN2⟩ := hn (by omega)
    by_cases h3 : i < 3
    · have h3' : (i : Int) < 3 := by omega
      simp [A35, limI, hb0, h0, h3, h3']
    · have h3' : ¬ (i : Int) < 3 := by omega
      have hl : 0 < n.length := (List.getElem?_eq_some_iff.1 hN).1
      obtain ⟨p, x, hx, hp, hld⟩ := Ints.idx h (k := .i64) (i := 0) (by omega) (by omega)
      have : x = (N : Int) := by
        have := hN.symm.trans hx; simpa using this.symm
      subst this
      have w1 : IntKind.i64.wrap (2 * (N : Int)) = 2 * (N : Int) := wrap64 (by omega) (by omega)
      have w2 : IntKind.i64.wrap (3 + 2 * (N : Int)) = 3 + 2 * (N : Int) := wrap64 (by omega) (by omega)
      have w3 : IntKind.i64.wrap ((N : Int) - 1) = (N : Int) - 1 := wrap64 (by omega) (by omega)
      by_cases h4 : (i : Int) < 3 + 2 * (N : Int)
      · have hx : limI i n = (-1048576, 1048576) := by unfold limI; rw [if_neg h0, if_neg h3, hN, if_pos (by simpa using h4)]
        simp [A35, hb0, h3', hp, hld, w1, w2, h4, hx]
      · have hx : limI i n = (0, (N : Int) - 1) := by unfold limI; rw [if_neg h0, if_neg h3, hN, if_neg (by simpa using h4)]; rfl
        simp [A35, hb0, h3', hp, hld, w1, w2, w3, h4, hx]
def r19a : ACode := subAt [1,1,1,1,1,1,1,1] A19.body
def r19b : ACode := subAt [1,1,1,1,1,1,1,1,1] A19.body
def r19c : ACode := subAt [1,1,1,1,1,1,1,1,1,1,1] A19.body
theorem body19 : A19.body = putAt [1,1,1,1,1,1,1,1] A19.body r19a := rfl
theorem r19a_eq : r19a = putAt [1] r19a r19b := rfl
theorem r19b_eq : r19b = putAt [1,1] r19b r19c := rfl
theorem numT_cases {s : List Nat} {lo hi : Int} (hlo : -1099511627776 ≤ lo) (hhi : hi ≤ 1099511627776) :
    ((numT s 9223372036854775807).2 ≠ 0 ∧ numR s lo hi = numT s 9223372036854775807) ∨ ((numT s 9223372036854775807).2 = 0 ∧ ((numT s 9223372036854775807).1 < lo ∨ hi < (numT s 9223372036854775807).1) ∧ numR s lo hi = (0, 10)) ∨
    ((numT s 9223372036854775807).2 = 0 ∧ lo ≤ (numT s 9223372036854775807).1 ∧ (numT s 9223372036854775807).1 ≤ hi ∧ numR s lo hi = ((numT s 9223372036854775807).1, 0)) := by
  rcases numT_num (s := s) hlo hhi with h | h
  · by_cases h0 : (numT s 9223372036854775807).2 = 0
    · by_cases h1 : (numT s 9223372036854775807).1 < lo ∨ hi < (numT s 9223372036854775807).1
      · rw [if_pos ⟨h0, h1⟩] at h; exact .inr (.inl ⟨h0, h1, h.symm⟩)
      · rw [if_neg (fun q => h1 q.2)] at h
        exact .inr (.inr ⟨h0, by omega, by omega, by rw [← h, ← h0]⟩)
    · rw [if_neg (fun q => h0 q.1)] at h; exact .inl ⟨h0, h.symm⟩
  · exact .inr (.inl h)
/-- One more pair, in a list that a cell of one's own holds. -/
theorem app_cell {H0 H1 : Heap} (hw0 : H0.Wf) {o : Nat} (fr : Fr [o] H0 H1) (ho : o < H0.next) (hf : H1.floor ≤ o) {cs : List AV} (g : H1.get o = some (.cells cs)) {j : Nat} (hj : j < cs.length) {v : AV} {xs : List (Int × Int)} (mi : Mine 2 pairc H0 H1 v xs) (x : Int × Int) (hl : xs.length ≤ 100000) :
    ∃ v' H4 H5, appendA 2 16 (H1.push (.cells [.int .i64 x.1, .int .i64 x.2])) v (.slc H1.next 0 1 2 1 true) = some (v', H4) ∧ storeA H4 1 (.ptr o j) v' = some (undefA, H5) ∧ H5.get o = some (.cells (cs.set j v')) ∧ Mine 2 pairc H0 H5 v' (xs ++ [x]) ∧ Fr [o] H0 H5 ∧
      Fr (o :: (rowObj v).toList) H1 H5 ∧ ∀ p, rowObj v' = some p → rowObj v = some p ∨ H1.next ≤ p := by
  obtain ⟨v', H4, ap, mi4, f4, n4⟩ := mi.app1 pairc_len (by omega) pairc_one fr.wf fr.next x (bytes := 16) (by omega)
  have hpl : ∀ p, rowObj v = some p → H0.next ≤ p := mi.new
  have hno : o ∉ (rowObj v).toList := by simp; intro q; have := hpl o q; omega
  have f04 : Fr [o] H0 H4 := fr.trans hw0 f4 (by intro p hp; right; simp at hp; exact hpl p hp)
  have g4 := f4.keep _ _ hno g
  obtain ⟨v1, vc⟩ := (mi4.sl pairc_len).one
  obtain ⟨H5, s5, g5, f5⟩ := store_cell (x := v') f4.wf (by rw [f4.floor]; exact hf) g4 hj v1
  refine ⟨v', H4, H5, ap, s5, g5, mi4.fr f5 (by intro p hp; have := mi4.new p hp; simp; omega), f04.trans hw0 f5 (by simp), ?_, n4⟩
  exact (f4.mono (T := o :: (rowObj v).toList) (by intro p hp; simp at hp ⊢; exact .inr hp)).trans fr.wf f5 (by simp)
theorem pairUp_get : ∀ (l : List Int) (k : Nat) {x y : Int}, l[2 * k]? = some x → l[2 * k + 1]? = some y → (pairUp l)[k]? = some (x, y)
  | [], k, x, y, h, _ => by simp at h
  | [a], k, x, y, _, h => by simp at h
  | a :: b :: r, 0, x, y, h, h' => by simp at h h'; subst h h'; rfl
  | a :: b :: r, k + 1, x, y, h, h' => by
    simp only [pairUp, List.getElem?_cons_succ]
    refine pairUp_get r k ?_ ?_
    · rw [show 2 * (k + 1) = 2 * k + 1 + 1 from by omega] at h; simpa using h
    · rw [show 2 * (k + 1) + 1 = (2 * k + 1) + 1 + 1 from by omega] at h'; simpa using h'
structure Sp19 (H0 : Heap) (o2 o15 : Nat) (nv : AV) (q : List (Int × Int)) (N M T : Nat) (m : Nat) (τ : Env) (H' : Heap) : Prop where
  fr : Fr [o15] H0 H'
  ri : ∃ (k : Nat) (a b c : AV), k ≤ T ∧ m = T - k ∧ H'.get o15 = some (.cells [a, b, c]) ∧ Mine 2 pairc H0 H' a (q.take (min k N)) ∧ Mine 2 pairc H0 H' b ((q.drop N).take (min (k - N) M)) ∧ Mine 2 pairc H0 H' c ((q.drop (N + M)).take (k - N - M)) ∧
    (∀ p, rowObj a = some p → rowObj b ≠ some p ∧ rowObj c ≠ some p) ∧ (∀ p, rowObj b = some p → rowObj c ≠ some p) ∧
    Env.at τ 2 = .ptr o2 0 ∧ Env.at τ 7 = nv ∧ Env.at τ 8 = .int .i64 ((3 + 2 * T : Nat) : Int) ∧ Env.at τ 15 = .ptr o15 0 ∧ Env.at τ 16 = .int .i64 ((3 + 2 * k : Nat) : Int)
theorem r19b_ok {H1 : Heap} (hw : H.Wf) (ex : Ext H H1) {o2 : Nat} (h2 : H.next ≤ o2) (g2 : H1.get o2 = some (.cells [.nils, .nils, .nils])) {nv : AV} {n : List Int} (hn : Ints H1 nv n) {N M K : Nat} (n0 : n[0]? = some (N : Int)) (n1 : n[1]? = some (M : Int)) (_n2 : n[2]? = some (K : Int)) (hN : N ≤ 400) (hM : M ≤ 400) (hK : K ≤ 400)
    (hl : n.length = 3 + 2 * (N + M + K)) {τ : Env} (t2 : Env.at τ 2 = .ptr o2 0) (t7 : Env.at τ 7 = nv) (t8 : Env.at τ 8 = .int .i64 ((3 + 2 * (N + M + K) : Nat) : Int)) :
    Wp FT r19b τ H1 (finQ [.cell 2 (some 3), .tmp 3, .tmp 4] fun r H' => Out4 H H' (splitN n, 0, 0) r) := by
  rw [r19b_eq]
  obtain ⟨g15, e15⟩ := push_new ex.wf (.cells [.nils, .nils, .nils])
  obtain ⟨H2, s2, g3, f3⟩ := store_whole (n := 3) (x := .agg [.nils, .nils, .nils]) e15.wf rfl rfl ex.wf.1 g15 rfl rfl
  have e12 : Ext H1 H2 := ((e15.fr (S := [])).trans ex.wf f3 (by simp)).ext
  have hn2 : H1.next < H2.next := f3.next
  generalize hT : N + M + K = T at *
  generalize hq : pairUp (n.drop 3) = q at *
  have hql : q.length = T := by rw [← hq, pairUp_len]; simp; omega
  have hsp : splitN n = (q.take N, (q.drop N).take M, q.drop (N + M)) := by unfold splitN; rw [hq]; simp [nOf, n0, n1]
  simp [r19b, subAt, putAt, A19, s2]
  refine Wp_loop (Sp19 H2 o2 H1.next nv q N M T) ?_ T _ _ ⟨Fr.refl e12.wf, 0, .nils, .nils, .nils, by omega, rfl, g3, by simpa using Mine.nil, by simpa using Mine.nil, by simpa using Mine.nil, by simp [rowObj], by simp [rowObj], by simp [t2], by simp [t7], by simp [t8], by simp, by simp⟩
  rintro m τ H3 ⟨fr, k, a, b, c, hk, rfl, g, ma, mb, mc, dab, dbc, t2, t7, t8, t15, t16⟩
  have hf3 : H3.floor ≤ H1.next := by rw [fr.floor, e12.floor]; exact ex.wf.1
  simp only [Wp_seq, Wp_region]
  by_cases hgo : k < T
  · have hlt' : ((3 + 2 * k : Nat) : Int) < ((3 + 2 * T : Nat) : Int) := by omega
    obtain ⟨x, hx⟩ : ∃ x, n[3 + 2 * k]? = some x := ⟨_, List.getElem?_eq_getElem (by omega)⟩
    obtain ⟨y, hy⟩ : ∃ y, n[3 + 2 * k + 1]? = some y := ⟨_, List.getElem?_eq_getElem (by omega)⟩
    have hqk : q[k]? = some (x, y) := by
      rw [← hq]
      refine pairUp_get _ k ?_ ?_ <;> rw [List.getElem?_drop]
      · exact hx
      · exact hy
    have hn3 : Ints H3 nv n := (hn.ext e12).fr fr (fun p q => by have := (hn.ext e12).rowLt e12.wf q; have := hn.rowLt ex.wf q; simp; omega)
    obtain ⟨p0, z0, hz0, ip0, ld0⟩ := Ints.idx hn3 (k := .i64) (i := 0) (by omega) (by omega)
    have : z0 = (N : Int) := by have := n0.symm.trans hz0; simpa using this.symm
    subst this
    obtain ⟨p1, z1, hz1, ip1, ld1⟩ := Ints.idx hn3 (k := .i64) (i := 1) (by omega) (by omega)
    have : z1 = (M : Int) := by have := n1.symm.trans hz1; simpa using this.symm
    subst this
    obtain ⟨px, zx, hzx, ipx, lx⟩ := Ints.idx hn3 (k := .i64) (i := ((3 + 2 * k : Nat) : Int)) (by omega) (by omega)
    rw [Int.toNat_natCast, hx] at hzx; cases hzx
    obtain ⟨py, zy, hzy, ipy, ly⟩ := Ints.idx hn3 (k := .i64) (i := ((3 + 2 * k + 1 : Nat) : Int)) (by omega) (by omega)
    rw [Int.toNat_natCast, hy] at hzy; cases hzy
    have w3 : IntKind.i64.wrap (((3 + 2 * k : Nat) : Int) - 3) = ((2 * k : Nat) : Int) := by rw [wrap64 (by omega) (by omega)]; omega
    have wq : IntKind.i64.wrap (((2 * k : Nat) : Int) / 2) = (k : Int) := by rw [wrap64 (by omega) (by omega)]; omega
    have wNM : IntKind.i64.wrap ((N : Int) + (M : Int)) = ((N + M : Nat) : Int) := by rw [wrap64 (by omega) (by omega)]; omega
    have wi1 : IntKind.i64.wrap (((3 + 2 * k : Nat) : Int) + 1) = ((3 + 2 * k + 1 : Nat) : Int) := by rw [wrap64 (by omega) (by omega)]; omega
    have wi2 : IntKind.i64.wrap (((3 + 2 * k : Nat) : Int) + 2) = ((3 + 2 * (k + 1) : Nat) : Int) := by rw [wrap64 (by omega) (by omega)]; omega
    have l0 : loadA H3 none (.ptr H1.next 0) = some a := load_get g rfl
    have l1 : loadA H3 none (.ptr H1.next 1) = some b := load_get g rfl
    have l2 : loadA H3 none (.ptr H1.next 2) = some c := load_get g rfl
    have rlt : ∀ {v : AV} {xs : List (Int × Int)}, Mine 2 pairc H2 H3 v xs → ∀ p, rowObj v = some p → H1.next < p ∧ p < H3.next := fun mv p q => ⟨by have := mv.new p q; omega, mv.lt fr.wf q⟩
    have keep : ∀ {v w : AV} {xs : List (Int × Int)} {H5 : Heap}, Fr (H1.next :: (rowObj v).toList) H3 H5 → Mine 2 pairc H2 H3 w xs → (∀ p, rowObj w = some p → rowObj v ≠ some p) → Mine 2 pairc H2 H5 w xs := fun f mw hd =>
      mw.fr f (fun p q => by have := rlt mw p q; simp; exact ⟨by omega, fun r => hd p q r⟩)
    by_cases c0 : k < N
    · have c0' : (k : Int) < (N : Int) := by omega
      obtain ⟨v', H4, H5, ap, s5, g5, m5, f5, f35, n5⟩ := app_cell e12.wf fr hn2 hf3 g (j := 0) (by simp) ma (x, y) (by rw [List.length_take]; omega)
      have tk : q.take (min (k + 1) N) = q.take (min k N) ++ [(x, y)] := by
        rw [Nat.min_eq_left (by omega), Nat.min_eq_left (by omega), List.take_add_one, hqk]; rfl
      rw [← tk] at m5
      have tb : (q.drop N).take (min (k - N) M) = (q.drop N).take (min (k + 1 - N) M) := by rw [show k - N = 0 from by omega, show k + 1 - N = 0 from by omega]
      have tc : (q.drop (N + M)).take (k - N - M) = (q.drop (N + M)).take (k + 1 - N - M) := by rw [show k - N - M = 0 from by omega, show k + 1 - N - M = 0 from by omega]
      have mb5 := keep f35 mb (fun p q r => (dab p r).1 q)
      have mc5 := keep f35 mc (fun p q r => (dab p r).2 q)
      rw [tb] at mb5; rw [tc] at mc5
      simp [-Int.natCast_add, -Int.natCast_mul, t7, t8, t15, t16, hlt', w3, wq, ip0, ld0, c0, l0, ipx, lx, wi1, ipy, ly]
      simp [-Int.natCast_add, -Int.natCast_mul, ap, s5, t15, t16, wi2]
      refine ⟨T - (k + 1), by omega, f5, k + 1, v', b, c, by omega, rfl, g5, m5, mb5, mc5, fun p q => ?_, dbc, by simp [t2], by simp [t7], by simp [t8], by simp [t15], by simp⟩
      rcases n5 p q with r | r
      · exact dab p r
      · exact ⟨fun z => by have := rlt mb p z; omega, fun z => by have := rlt mc p z; omega⟩
    · have c0' : ¬ (k : Int) < (N : Int) := by omega
      have ta : q.take (min k N) = q.take (min (k + 1) N) := by rw [Nat.min_eq_right (by omega), Nat.min_eq_right (by omega)]
      by_cases c1 : k < N + M
      · have c1' : (k : Int) < ((N + M : Nat) : Int) := by omega
        obtain ⟨v', H4, H5, ap, s5, g5, m5, f5, f35, n5⟩ := app_cell e12.wf fr hn2 hf3 g (j := 1) (by simp) mb (x, y) (by rw [List.length_take]; omega)
        have tk : (q.drop N).take (min (k + 1 - N) M) = (q.drop N).take (min (k - N) M) ++ [(x, y)] := by
          rw [Nat.min_eq_left (show k + 1 - N ≤ M from by omega), Nat.min_eq_left (show k - N ≤ M from by omega), show k + 1 - N = (k - N) + 1 from by omega, List.take_add_one, List.getElem?_drop, show N + (k - N) = k from by omega, hqk]; rfl
        rw [← tk] at m5
        have tc : (q.drop (N + M)).take (k - N - M) = (q.drop (N + M)).take (k + 1 - N - M) := by rw [show k - N - M = 0 from by omega, show k + 1 - N - M = 0 from by omega]
        have ma5 := keep f35 ma (fun p q r => (dab p q).1 r)
        have mc5 := keep f35 mc (fun p q r => dbc p r q)
        rw [ta] at ma5; rw [tc] at mc5
        simp [-Int.natCast_add, -Int.natCast_mul, t7, t8, t15, t16, hlt', w3, wq, ip0, ld0, ip1, ld1, wNM, c0, c1', l1, ipx, lx, wi1, ipy, ly]
        simp [-Int.natCast_add, -Int.natCast_mul, ap, s5, t15, t16, wi2]
        refine ⟨T - (k + 1), by omega, f5, k + 1, a, v', c, by omega, rfl, g5, ma5, m5, mc5, fun p q => ?_, fun p q => ?_, by simp [t2], by simp [t7], by simp [t8], by simp [t15], by simp⟩
        · refine ⟨fun z => ?_, (dab p q).2⟩
          rcases n5 p z with r | r
          · exact (dab p q).1 r
          · have := rlt ma p q; omega
        · rcases n5 p q with r | r
          · exact dbc p r
          · exact fun z => by have := rlt mc p z; omega
      · have c1' : ¬ (k : Int) < ((N + M : Nat) : Int) := by omega
        obtain ⟨v', H4, H5, ap, s5, g5, m5, f5, f35, n5⟩ := app_cell e12.wf fr hn2 hf3 g (j := 2) (by simp) mc (x, y) (by rw [List.length_take]; omega)
        have tk : (q.drop (N + M)).take (k + 1 - N - M) = (q.drop (N + M)).take (k - N - M) ++ [(x, y)] := by
          rw [show k + 1 - N - M = (k - N - M) + 1 from by omega, List.take_add_one, List.getElem?_drop, show N + M + (k - N - M) = k from by omega, hqk]; rfl
        rw [← tk] at m5
        have ma5 := keep f35 ma (fun p q r => (dab p q).2 r)
        have mb5 := keep f35 mb (fun p q r => dbc p q r)
        have tb : (q.drop N).take (min (k - N) M) = (q.drop N).take (min (k + 1 - N) M) := by rw [Nat.min_eq_right (by omega), Nat.min_eq_right (by omega)]
        rw [ta] at ma5; rw [tb] at mb5
        simp [-Int.natCast_add, -Int.natCast_mul, t7, t8, t15, t16, hlt', w3, wq, ip0, ld0, ip1, ld1, wNM, c0, c1', l2, ipx, lx, wi1, ipy, ly]
        simp [-Int.natCast_add, -Int.natCast_mul, ap, s5, t15, t16, wi2]
        refine ⟨T - (k + 1), by omega, f5, k + 1, a, b, v', by omega, rfl, g5, ma5, mb5, m5, fun p q => ?_, fun p q => ?_, by simp [t2], by simp [t7], by simp [t8], by simp [t15], by simp⟩
        · refine ⟨(dab p q).1, fun z => ?_⟩
          rcases n5 p z with r | r
          · exact (dab p q).2 r
          · have := rlt ma p q; omega
        · intro z
          rcases n5 p z with r | r
          · exact dbc p q r
          · have := rlt mb p q; omega
  · have hkT : k = T := by omega
    subst hkT
    have h1n := ex.next
    have fH : Fr [] H H3 := ((ex.trans e12).fr (S := [])).trans hw fr (by simp; omega)
    have l15 : loadA H3 (some 3) (.ptr H1.next 0) = some (.agg [a, b, c]) := load_agg g (by simp [seg])
    have hlt2 := ex.wf.lt g2
    have g23 := fr.keep _ _ (by simp; omega) (e12.keep _ _ g2)
    obtain ⟨oa, _⟩ := ma.one'
    obtain ⟨ob, _⟩ := mb.one'
    obtain ⟨oc, _⟩ := mc.one'
    obtain ⟨H4, s4, g4, f4⟩ := store_whole (n := 3) (x := .agg [a, b, c]) fr.wf rfl rfl (by rw [fH.floor]; have := hw.1; omega) g23 rfl (by simp [allOne_of oa, allOne_of ob, allOne_of oc])
    simp [-Int.natCast_add, -Int.natCast_mul, r19c, subAt, A19, t8, t16, t15, t2, l15, s4, resultsA, resultA, cellsAt_get g4, partA, seg, packA]
    rw [Nat.min_eq_right (by omega)] at ma
    rw [Nat.min_eq_right (by omega)] at mb
    rw [List.take_of_length_le (by simp; omega)] at mc
    have nx : H.next ≤ H2.next := by omega
    have k4 : ∀ {v : AV} {xs : List (Int × Int)}, Mine 2 pairc H2 H3 v xs → Mine 2 pairc H H4 v xs := fun mv => (mv.fr f4 (fun p q => by have := mv.new p q; simp; omega)).base nx
    refine ⟨a, b, c, rfl, ?_, ?_, ?_, (fH.trans hw f4 (by simp; omega)).ext⟩
    · rw [hsp]; exact k4 ma
    · rw [hsp]; exact k4 mb
    · rw [hsp]; exact k4 mc
structure Inv19 (H1 : Heap) (s : List Nat) (v tv : AV) (W : List Tok) (o2 : Nat) (m : Nat) (τ : Env) (H' : Heap) : Prop where
  ex : Ext H1 H'
  ri : ∃ (i all : Nat) (n : List Int) (nv : AV), Mine 1 i64c H1 H' nv n ∧ n.length = i ∧ i ≤ all ∧ all ≤ 2403 ∧ m = 3000 - i ∧ (i < 3 → all = 3) ∧ (3 ≤ i → all = allN n) ∧ (∀ j x, j < 3 → n[j]? = some x → 0 ≤ x ∧ x ≤ 400) ∧
    parI s = flatF s.length m i all n (W.drop (i + 1)) ∧ i + 1 ≤ W.length ∧
    Env.at τ 0 = v ∧ Env.at τ 2 = .ptr o2 0 ∧ Env.at τ 5 = tv ∧ Env.at τ 7 = nv ∧ Env.at τ 8 = .int .i64 all ∧ Env.at τ 9 = .int .i64 i
/-- What is told of a wrong input. -/
theorem bad19 {H1 : Heap} (hw : H.Wf) (ex : Ext H H1) {o2 : Nat} (h2 : H.next ≤ o2) (g2 : H1.get o2 = some (.cells [.nils, .nils, .nils])) (x y : Int) :
    ∃ H2, storeA H1 3 (.ptr o2 0) (.agg [.nils, .nils, .nils]) = some (undefA, H2) ∧ H2.cellsAt o2 = some [.nils, .nils, .nils] ∧ Out4 H H2 (([], [], []), x, y) (.tup [.agg [.nils, .nils, .nils], .int .i64 x, .int .i64 y]) := by
  obtain ⟨H4, s4, g4, f4⟩ := store_whole (n := 3) (x := .agg [.nils, .nils, .nils]) ex.wf rfl rfl (by rw [ex.floor]; have := hw.1; omega) g2 rfl rfl
  exact ⟨H4, s4, cellsAt_get g4, .nils, .nils, .nils, rfl, Mine.nil, Mine.nil, Mine.nil, ((ex.fr (S := [])).trans hw f4 (by simp; omega)).ext⟩
theorem i64c_len' (x : Int) : (i64c x).length = 1 := rfl
theorem i64c_one' (x : Int) : allOne (i64c x) = true := rfl
theorem toks_idx {H : Heap} {v : AV} {W : List Tok} (h : Toks H v W) {i : Nat} (hi : i < W.length) : ∃ o off t, W[i]? = some t ∧ indexAddrV 2 v (.int .i64 (i : Int)) = some (.ptr o off) ∧ loadA H (some 2) (.ptr o off) = some (.agg (tokA t)) ∧ loadA H none (.ptr o off) = some (.int .i64 (t.1 : Int)) ∧ loadA H none (.ptr o (off + 1)) = some (.str t.2) := by
  rcases h with ⟨rfl, rfl⟩ | ⟨o, off, lo, ex, cs, rfl, hc, hx⟩
  · simp at hi
  · have hg : W[i]? = some W[i] := List.getElem?_eq_getElem hi
    have hs := hx _ _ hg
    have ix : (0 : Int) ≤ (i : Int) ∧ (i : Int) < ((W.length : Nat) : Int) ∧ 2 = 2 := by omega
    refine ⟨o, off + i * 2, _, hg, by simp [ix.2.1], by simp [loadA_ptr, hc, partA, hs], ?_, ?_⟩
    · rw [loadA_ptr, hc]
      have := seg_get hs (i := 0) (by omega)
      simpa [partA, tokA] using this
    · rw [loadA_ptr, hc]
      have := seg_get hs (i := 1) (by omega)
      simpa [partA, tokA] using this
theorem limI_bounds {n : List Int} (h : ∀ j x, j < 3 → n[j]? = some x → 0 ≤ x ∧ x ≤ 400) (i : Nat) : -1099511627776 ≤ (limI i n).1 ∧ (limI i n).2 ≤ 1099511627776 ∧ (i < 3 → (limI i n).1 = 0 ∧ (limI i n).2 ≤ 400) := by
  have h0 : (0 : Int) ≤ (n[0]?).getD 0 ∧ (n[0]?).getD 0 ≤ (400 : Int) := by
    cases hq : n[0]? with
    | none => simp
    | some x => have := h 0 x (by omega) hq; simpa using this
  unfold limI
  split
  · simp
  · split
    · simp
    · rename_i h1 h2
      split
      · simp; omega
      · simp; omega
theorem flat_step (en m i all : Nat) (n : List Int) (t : Tok) (r : List Tok) (hi : i < all) : flatF en (m + 1) i all n (t :: r) =
    if (numR t.2 (limI i n).1 (limI i n).2).2 = 0 then flatF en m (i + 1) (if i = 2 then allN (n ++ [(numR t.2 (limI i n).1 (limI i n).2).1]) else all) (n ++ [(numR t.2 (limI i n).1 (limI i n).2).1]) r
    else (([], [], []), (t.1 : Int), (numR t.2 (limI i n).1 (limI i n).2).2) := by
  rw [flatF, if_pos hi]
  have e : rdN en (limI i n).1 (limI i n).2 (.ok (t :: r)) = if (numR t.2 (limI i n).1 (limI i n).2).2 = 0 then ((numR t.2 (limI i n).1 (limI i n).2).1, .ok r) else (0, .error (t.1, (numR t.2 (limI i n).1 (limI i n).2).2)) := rfl
  rw [e]
  by_cases h : (numR t.2 (limI i n).1 (limI i n).2).2 = 0
  · rw [if_pos h, if_pos h]
  · rw [if_neg h, if_neg h]
theorem parse19 (h19 : FT 19 = some (.code A19)) (h20 : FT 20 = some (.code A20)) (h35 : FT 35 = some (.code A35)) (h36 : FT 36 = some (.code A36)) (h44 : FT 44 = some (.code A44)) (h21 : FT 21 = some (.code A21)) (h46 : FT 46 = some (.code A46)) (h53 : FT 53 = some (.code A53)) (h54 : FT 54 = some (.code A54)) (h45 : FT 45 = some (.code A45)) (h52 : FT 52 = some (.code A52)) (h51 : FT 51 = some (.code A51)) (h37 : FT 37 = some (.code A37))
    (hw : H.Wf) {v : AV} {s : List Nat} (hs : bytesA H v = some s) (hcap : capOk v = true) : Cp FT 19 [v] H (fun r H' => Out4 H H' (parI s) r) := by
  refine Cp_code A19 h19 rfl ?_
  rw [body19]
  have hA : A19.results = [.cell 2 (some 3), .tmp 3, .tmp 4] := rfl
  rw [hA]
  obtain ⟨g2, e2⟩ := push_new hw (.cells [.nils, .nils, .nils])
  have hlen := bytesA_len hs
  simp [A19, putAt]
  refine (all20 h20 e2.wf (bytesA_ext e2 hs) hcap).mono ?_
  rintro _ H1 ⟨tv, rfl, htv, e1⟩
  have ex := e2.trans e1
  have g21 := e1.keep _ _ g2
  have hlt2 := ex.wf.lt g21
  by_cases hl : 1048576 < s.length
  · have hx : parI s = (([], [], []), 0, 3) := by unfold parI; rw [if_pos hl]
    obtain ⟨H2, s2, g3, ho⟩ := bad19 hw ex (Nat.le_refl _) g21 0 3
    rw [hx]
    simp [hl, s2, resultsA, resultA, g3, partA, seg, packA]
    exact ho
  · rw [if_neg hl] at htv
    have hx : parI s = if ((wordsN s).head?.getD (s.length, [])).2 = polyS then body3 s.length (wordsN s).tail else (([], [], []), (((wordsN s).head?.getD (s.length, [])).1 : Int), 11) := by unfold parI; rw [if_neg hl]
    have hbyt := byt_words (bytesA_lt hs) (by omega)
    generalize wordsN s = W at *
    cases W with
    | nil =>
      have hx : parI s = (([], [], []), (s.length : Int), 11) := by rw [hx, if_neg (by simp [polyS])]; rfl
      obtain ⟨H2, s2, g3, ho⟩ := bad19 hw ex (Nat.le_refl _) g21 s.length 11
      rw [hx]
      simp [hl, htv.len, hlen, s2, resultsA, resultA, g3, partA, seg, packA]
      exact ho
    | cons t0' ts =>
      obtain ⟨o0, f0, t', ht', ip, _, la, lb⟩ := toks_idx htv (i := 0) (by simp)
      have : t0' = t' := by simpa using ht'
      subst this
      have hl0 : (((ts.length : Int) + 1) == 0) = false := by rw [beq_eq_false_iff_ne]; omega
      simp only [Int.natCast_zero] at ip
      by_cases hp : t0'.2 = polyS
      · have hp' : t0'.2 = [112, 111, 108, 121] := hp
        have hx : parI s = flatF s.length 3000 0 3 [] ts := by rw [hx, if_pos (show ((t0' :: ts).head?.getD (s.length, [])).snd = polyS from hp)]; exact body3_flat _ _
        simp [hl, htv.len, hl0, ip, lb, hp']
        refine Wp_loop (Inv19 H1 s v tv (t0' :: ts) H.next) ?_ 3000 _ _ ⟨Ext.refl ex.wf, 0, 3, [], .nils, Mine.nil, rfl, by omega, by omega, rfl, by simp, by simp, by simp, by rw [hx]; rfl, by simp, by simp, by simp, by simp, by simp, by simp, by simp⟩
        generalize hWW : t0' :: ts = W at *
        rintro m τ H2 ⟨ex2, i, all, n, nv, mi, hni, hia, hall, rfl, ha3, haN, hn3, hfl, hiW, t0, t2, t5, t7, t8, t9⟩
        have exH : Ext H H2 := ex.trans ex2
        have g22 := ex2.keep _ _ g21
        have htv2 := htv.ext ex2
        have wi1 : IntKind.i64.wrap ((i : Int) + 1) = ((i + 1 : Nat) : Int) := wrap64 (by omega) (by omega)
        simp only [Wp_seq, Wp_region]
        by_cases hgo : i < all
        · have hgo' : (i : Int) < (all : Int) := by omega
          by_cases hend : W.length ≤ i + 1
          · have hd : W.drop (i + 1) = [] := List.drop_eq_nil_of_le hend
            have hbad : parI s = (([], [], []), (s.length : Int), 11) := by
              rw [hfl, hd, show 3000 - i = (2999 - i) + 1 from by omega, flatF, if_pos hgo]; rfl
            have hend' : ((W.length : Nat) : Int) ≤ ((i + 1 : Nat) : Int) := by omega
            obtain ⟨H3, s3, g3, ho⟩ := bad19 hw exH (Nat.le_refl _) g22 s.length 11
            rw [hbad]
            simp [-Int.natCast_add, t0, t2, t5, t8, t9, hgo, htv2.len, wi1, hend', hlen, s3, resultsA, resultA, g3, partA, seg, packA]
            exact ho
          · have hend' : ¬ ((W.length : Nat) : Int) ≤ ((i + 1 : Nat) : Int) := by omega
            obtain ⟨o, off, t, ht, ipt, ldt, _, _⟩ := toks_idx htv2 (i := i + 1) (by omega)
            have hdrop : W.drop (i + 1) = t :: W.drop (i + 1 + 1) := drop_get ht
            obtain ⟨hbt1, hbt2⟩ := hbyt t (List.mem_of_getElem? ht)
            have hlim := limI_bounds hn3 i
            have hstep := flat_step s.length (2999 - i) i all n t (W.drop (i + 1 + 1)) hgo
            rw [hdrop, show 3000 - i = (2999 - i) + 1 from by omega, hstep] at hfl
            simp [-Int.natCast_add, t0, t5, t7, t8, t9, hgo, htv2.len, wi1, hend']
            refine (limits35 h35 (mi.sl i64c_len') (i := i) (by omega) ?_).mono ?_
            · intro h1
              obtain ⟨z, hz⟩ : ∃ z, n[0]? = some z := ⟨_, List.getElem?_eq_getElem (by omega)⟩
              obtain ⟨z1, z2⟩ := hn3 0 z (by omega) hz
              exact ⟨z.toNat, by rw [hz]; congr 1; omega, by omega⟩
            rintro _ H2 ⟨rfl, rfl⟩
            obtain ⟨H3, s3, g3, e3, n3⟩ := store_new ex2.wf (z := [.int .i64 0, .str []]) (n := 2) (x := .agg (tokA t)) (cs := tokA t) rfl rfl rfl rfl
            have lt0 : loadA H3 none (.ptr H2.next 0) = some (.int .i64 (t.1 : Int)) := load_get g3 rfl
            have lt1 : loadA H3 none (.ptr H2.next 1) = some (.str t.2) := load_get g3 rfl
            simp [-Int.natCast_add, t5, t9, wi1, ipt, ldt, s3, lt1]
            refine (number36 h36 h44 h21 h46 h53 h54 h45 h52 h51 h37 e3.wf (s := t.2) hbt1 hbt2 (by omega) (by omega)).mono ?_
            rintro _ H4 ⟨rfl, e4⟩
            have exH4 : Ext H H4 := exH.trans (e3.trans e4)
            have ex14 : Ext H1 H4 := ex2.trans (e3.trans e4)
            have g24 := (e3.trans e4).keep _ _ g22
            have lt0' : loadA H4 none (.ptr H2.next 0) = some (.int .i64 (t.1 : Int)) := load_get (e4.keep _ _ g3) rfl
            have hne2 : ¬ H2.next = H.next := by have := exH.next; have := ex2.next; omega
            have mi4 := mi.ext (e3.trans e4)
            have bad : ∀ y : Int, (numR t.2 (limI i n).1 (limI i n).2).2 = y → y ≠ 0 → ∃ H5, storeA H4 3 (.ptr H.next 0) (.agg [.nils, .nils, .nils]) = some (undefA, H5) ∧ H5.cellsAt H.next = some [.nils, .nils, .nils] ∧ Out4 H H5 (parI s) (.tup [.agg [.nils, .nils, .nils], .int .i64 (t.1 : Int), .int .i64 y]) := by
              intro y hy hy0
              rw [hy, if_neg hy0] at hfl
              rw [hfl]
              exact bad19 hw exH4 (Nat.le_refl _) g24 t.1 y
            rcases numT_cases (s := t.2) hlim.1 hlim.2.1 with ⟨c1, c2⟩ | ⟨c1, c2, c3⟩ | ⟨c1, c2, c3, c4⟩
            · obtain ⟨H5, s5, g5, ho⟩ := bad _ (by rw [c2]) c1
              have b1 : ((numT t.2 9223372036854775807).2 == 0) = false := by simpa using c1
              have b2 : ((numT t.2 9223372036854775807).2 != 0) = true := by simpa using c1
              simp [b1, b2, t2, lt0', hne2, s5, resultsA, resultA, g5, partA, seg, packA]
              exact ho
            · obtain ⟨H5, s5, g5, ho⟩ := bad 10 (by rw [c3]) (by omega)
              generalize (numT t.2 9223372036854775807).1 = x at *
              generalize (limI i n).1 = lo at *
              generalize (limI i n).2 = hi at *
              by_cases c4 : x < lo
              · simp [c1, c4, t2, lt0', hne2, s5, resultsA, resultA, g5, partA, seg, packA]
                exact ho
              · have c5 : hi < x := by omega
                simp [c1, c4, c5, t2, lt0', hne2, s5, resultsA, resultA, g5, partA, seg, packA]
                exact ho
            · rw [c4] at hfl
              simp only [if_true] at hfl
              have hxr : i < 3 → 0 ≤ (numT t.2 9223372036854775807).1 ∧ (numT t.2 9223372036854775807).1 ≤ 400 := fun h => by have := hlim.2.2 h; omega
              generalize (numT t.2 9223372036854775807).1 = x at *
              generalize (limI i n).1 = lo at *
              generalize (limI i n).2 = hi at *
              have d1 : ¬ x < lo := by omega
              have d2 : ¬ hi < x := by omega
              obtain ⟨nv', H5, ap, mi5, f5, _⟩ := mi4.app1 i64c_len' (by omega) i64c_one' ex14.wf ex14.next x (bytes := 8) (by omega)
              have ex15 : Ext H1 H5 := ((ex14.fr (S := [])).trans ex.wf f5 (by intro p hp; right; simp at hp; exact mi4.new p hp)).ext
              simp only [i64c] at ap
              have hn3' : ∀ j z, j < 3 → (n ++ [x])[j]? = some z → 0 ≤ z ∧ z ≤ 400 := by
                intro j z hj hz
                by_cases h : j < n.length
                · rw [List.getElem?_append_left h] at hz; exact hn3 j z hj hz
                · have : j = n.length := by
                    have := (List.getElem?_eq_some_iff.1 hz).1; simp at this; omega
                  subst this
                  simp at hz; subst hz
                  exact hxr (by omega)
              have wi2 : IntKind.i64.wrap ((i : Int) + 1) = ((i + 1 : Nat) : Int) := wi1
              by_cases h2 : i = 2
              · have ints := mi5.sl i64c_len'
                have hl3 : (n ++ [x]).length = 3 := by simp; omega
                obtain ⟨p0, z0, hz0, ip0, ld0⟩ := Ints.idx ints (k := .i64) (i := 0) (by omega) (by omega)
                obtain ⟨p1, z1, hz1, ip1, ld1⟩ := Ints.idx ints (k := .i64) (i := 1) (by omega) (by omega)
                obtain ⟨p2, z2, hz2, ip2, ld2⟩ := Ints.idx ints (k := .i64) (i := 2) (by omega) (by omega)
                have b0 := hn3' 0 z0 (by omega) hz0
                have b1 := hn3' 1 z1 (by omega) hz1
                have b2 := hn3' 2 z2 (by omega) hz2
                have wa : IntKind.i64.wrap (z0 + z1) = z0 + z1 := wrap64 (by omega) (by omega)
                have wb : IntKind.i64.wrap (z0 + z1 + z2) = z0 + z1 + z2 := wrap64 (by omega) (by omega)
                have wc : IntKind.i64.wrap (2 * (z0 + z1 + z2)) = 2 * (z0 + z1 + z2) := wrap64 (by omega) (by omega)
                have hz0' : (n ++ [x])[0]? = some z0 := hz0
                have hz1' : (n ++ [x])[1]? = some z1 := hz1
                have hz2' : (n ++ [x])[2]? = some z2 := hz2
                have hallN : (allN (n ++ [x]) : Int) = 3 + 2 * (z0 + z1 + z2) := by simp only [allN, nOf, hz0', hz1', hz2', Option.getD_some]; omega
                have wd : IntKind.i64.wrap (3 + 2 * (z0 + z1 + z2)) = (allN (n ++ [x]) : Int) := by rw [hallN]; exact wrap64 (by omega) (by omega)
                rw [if_pos h2] at hfl
                have t9' : Env.at τ 9 = .int .i64 2 := by rw [t9, h2]; rfl
                have w3 : IntKind.i64.wrap 3 = 3 := rfl
                simp [-Int.natCast_add, c1, d1, d2, t7, ap, t9', ip0, ld0, ip1, ld1, ip2, ld2, wa, wb, wc, wd, w3]
                exact ⟨2999 - i, by omega, ex15, 3, allN (n ++ [x]), n ++ [x], nv', mi5, hl3, by unfold allN; omega, by omega, by omega, by omega, fun _ => rfl, hn3', by rw [hfl, h2], by omega, by simp [t0], by simp [t2], by simp [t5], by simp, by simp, by simp⟩
              · have hb2 : ((i : Int) == 2) = false := by rw [beq_eq_false_iff_ne]; omega
                rw [if_neg h2] at hfl
                simp [-Int.natCast_add, c1, d1, d2, t7, ap, t9, hb2, wi1]
                refine ⟨2999 - i, by omega, ex15, i + 1, all, n ++ [x], nv', mi5, by simp [hni], by omega, by omega, by omega, fun q => ha3 (by omega), fun q => ?_, hn3', hfl, by omega, by simp [t0], by simp [t2], by simp [t5], by simp, by simp [t8], by simp⟩
                rw [haN (by omega)]
                unfold allN nOf
                rw [List.getElem?_append_left (by omega), List.getElem?_append_left (by omega), List.getElem?_append_left (by omega)]
        · have hia' : i = all := by omega
          subst hia'
          have hi3 : 3 ≤ i := by
            refine Classical.byContradiction fun q => ?_
            have := ha3 (by omega); omega
          have hiN := haN hi3
          have hfl' : parI s = finN n (W.drop (i + 1)) := by
            rw [hfl, show 3000 - i = (2999 - i) + 1 from by omega, flatF, if_neg (by omega)]
          have hcc : ¬ ((i : Int) < (i : Int)) := by omega
          simp [t8, t9]
          rw [r19a_eq]
          by_cases hmore : i + 1 < W.length
          · obtain ⟨o, off, t, ht, ipt, _, la, _⟩ := toks_idx htv2 (i := i + 1) hmore
            have hdrop : W.drop (i + 1) = t :: W.drop (i + 1 + 1) := drop_get ht
            have hne : ¬ o = H.next := fun q => by
              rw [q, loadA_ptr, cellsAt_get g22] at la
              match off, la with
              | 0, la => simp [partA] at la
              | 1, la => simp [partA] at la
              | 2, la => simp [partA] at la
              | f + 3, la => simp [partA] at la
            have hm' : ((i + 1 : Nat) : Int) < ((W.length : Nat) : Int) := by omega
            obtain ⟨H3, s3, g3, ho⟩ := bad19 hw exH (Nat.le_refl _) g22 t.1 11
            rw [hfl', hdrop]
            simp [-Int.natCast_add, r19a, subAt, putAt, A19, t2, t5, t8, htv2.len, wi1, hm', ipt, la, hne, s3, resultsA, resultA, g3, partA, seg, packA]
            exact ho
          · have hd : W.drop (i + 1) = [] := List.drop_eq_nil_of_le (by omega)
            have hm' : ¬ ((i + 1 : Nat) : Int) < ((W.length : Nat) : Int) := by omega
            rw [hfl', hd]
            have get : ∀ j, j < 3 → ∃ N : Nat, n[j]? = some (N : Int) ∧ N ≤ 400 ∧ nOf n j = N := by
              intro j hj
              obtain ⟨z, hz⟩ : ∃ z, n[j]? = some z := ⟨_, List.getElem?_eq_getElem (by omega)⟩
              obtain ⟨z1, z2⟩ := hn3 j z hj hz
              obtain ⟨N, rfl⟩ := Int.eq_ofNat_of_zero_le z1
              exact ⟨N, hz, by omega, by simp [nOf, hz]⟩
            obtain ⟨N, n0, hN, o0⟩ := get 0 (by omega)
            obtain ⟨M, n1, hM, o1⟩ := get 1 (by omega)
            obtain ⟨K, n2, hK, o2⟩ := get 2 (by omega)
            have hal : i = 3 + 2 * (N + M + K) := by rw [hiN, allN, o0, o1, o2]
            simp [-Int.natCast_add, r19a, subAt, putAt, A19, t5, t8, htv2.len, wi1, hm']
            exact r19b_ok (N := N) (M := M) (K := K) hw exH (Nat.le_refl _) g22 (mi.sl i64c_len') n0 n1 n2 hN hM hK (by omega) (by simp [t2]) (by simp [t7]) (by simp [t8, hal])
      · have hx : parI s = (([], [], []), (t0'.1 : Int), 11) := by rw [hx, if_neg (show ¬ ((t0' :: ts).head?.getD (s.length, [])).snd = polyS from hp)]; rfl
        have hp' : ¬ t0'.2 = [112, 111, 108, 121] := hp
        have hpb : (t0'.2 == [112, 111, 108, 121]) = false := by simpa using hp'
        have hne : ¬ o0 = H.next := fun q => by
          rw [q, loadA_ptr, cellsAt_get g21] at la
          match f0, la with
          | 0, la => simp [partA] at la
          | 1, la => simp [partA] at la
          | 2, la => simp [partA] at la
          | f + 3, la => simp [partA] at la
        obtain ⟨H2, s2, g3, ho⟩ := bad19 hw ex (Nat.le_refl _) g21 t0'.1 11
        rw [hx]
        simp [hl, htv.len, hl0, ip, la, lb, hpb, hne, s2, resultsA, resultA, g3, partA, seg, packA]
        exact ho
end
end Go.Proofs.YtmgaaieofdjfdaaDoor
