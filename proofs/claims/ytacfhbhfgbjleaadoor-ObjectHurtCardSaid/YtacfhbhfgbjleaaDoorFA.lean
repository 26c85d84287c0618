/- Sorting by merging, as the program does it; whether a place stands twice. No claim by itself. -/
import Derived.Test.YtacfhbhfgbjleaaDoorC4
import Derived.Test.YtacfhbhfgbjleaaDoorEE
namespace Go.Proofs.YtacfhbhfgbjleaaDoor
open Go Go.AI
section
variable {FT : Nat → Option FnD} {H : Heap}
theorem _root_.Go.AI.Bx.ext {α : Type} {e : Nat} {enc : α → List AV} {H H0 : Heap} {v : AV} {xs : List α} (h : Bx none e enc H0 H v xs) (hw0 : H0.Wf) : Ext H0 H := Bd.ext h hw0
theorem eqPair (x y : Int × Int) : binA .eql (.flat [.int, .int]) (.agg (pairc x)) (.agg (pairc y)) = some (.bool (decide (x = y))) := by
  obtain ⟨a, b⟩ := x
  obtain ⟨c, d⟩ := y
  have e : binA .eql (.flat [.int, .int]) (.agg (pairc (a, b))) (.agg (pairc (c, d))) = (match some (a == c) with | some true => (match some (b == d) with | some true => some true | some false => some false | none => none) | some false => some false | none => none : Option Bool).map .bool := rfl
  rw [e]
  cases h1 : (a == c) <;> cases h2 : (b == d) <;> simp_all
theorem less59 (h59 : FT 59 = some (.code A59)) (hw : H.Wf) {a b : Int × Int} : Cp FT 59 [.agg (pairc a), .agg (pairc b)] H (fun r H' => r = .bool (lessP a b) ∧ Ext H H') := by
  refine Cp_code A59 h59 rfl ?_
  have e0 := Ext.push hw (.cells (pairc a))
  have g0 : (H.push (.cells (pairc a))).get H.next = some (.cells (pairc a)) := get_pushN.trans (if_pos rfl)
  have e1 := Ext.push e0.wf (.cells (pairc b))
  have g1 : ((H.push (.cells (pairc a))).push (.cells (pairc b))).get (H.next + 1) = some (.cells (pairc b)) := get_pushN.trans (if_pos rfl)
  have g0' := e1.keep _ _ g0
  have ex := e0.trans e1
  generalize hH : (H.push (.cells (pairc a))).push (.cells (pairc b)) = H2 at *
  have l0 : loadA H2 none (.ptr H.next 0) = some (.int .i64 a.1) := load_get g0' rfl
  have l1 : loadA H2 none (.ptr H.next 1) = some (.int .i64 a.2) := load_get g0' rfl
  have l2 : loadA H2 none (.ptr (H.next + 1) 0) = some (.int .i64 b.1) := load_get g1 rfl
  have l3 : loadA H2 none (.ptr (H.next + 1) 1) = some (.int .i64 b.2) := load_get g1 rfl
  have p1 : allOne (pairc a) = true := rfl
  have p2 : allOne (pairc b) = true := rfl
  by_cases c1 : a.1 < b.1
  · simp [A59, p1, p2, hH, l0, l2, c1, lessP]; exact ex
  by_cases c2 : a.1 = b.1
  · have c1' : ¬ b.1 < b.1 := by omega
    simp [A59, p1, p2, hH, l0, l1, l2, l3, c2, lessP]; exact ex
  · simp [A59, p1, p2, hH, l0, l2, c1, c2, lessP]; exact ex
theorem pt_idx {H : Heap} {v : AV} {P : List (Int × Int)} (h : Pairs H v P) {i : Int} (h0 : 0 ≤ i) (h1 : i < P.length) :
    ∃ p, indexAddrV 2 v (.int .i64 i) = some p ∧ loadA H (some 2) p = some (.agg (pairc (ptAt P i))) := by
  obtain ⟨p, x, a, b, c, _⟩ := Sl.idx h (k := .i64) h0 h1
  refine ⟨p, b, ?_⟩
  unfold ptAt; rw [a]; exact c
/-- The numbers' order. -/
structure Ctx (H : Heap) (o : Nat) (P : List (Int × Int)) : Prop where
  ex : ∃ pv, H.get o = some (.cells [pv]) ∧ Pairs H pv P
theorem Ctx.ext {H' : Heap} {o : Nat} {P : List (Int × Int)} (h : Ctx H o P) (e : Ext H H') : Ctx H' o P := by
  obtain ⟨pv, a, b⟩ := h.ex; exact ⟨pv, e.keep _ _ a, b.ext e⟩
theorem order58 (h58 : FT 58 = some (.code A58)) (h59 : FT 59 = some (.code A59)) (hw : H.Wf) {o : Nat} {P : List (Int × Int)} (hc : Ctx H o P) {a b : Int} (ha : 0 ≤ a ∧ a < P.length) (hb : 0 ≤ b ∧ b < P.length) :
    Cp FT 58 [.int .i64 a, .int .i64 b, .ptr o 0] H (fun r H' => r = .bool (!leI P b a) ∧ Ext H H') := by
  refine Cp_code A58 h58 rfl ?_
  obtain ⟨pv, g, hp⟩ := hc.ex
  have l0 : loadA H none (.ptr o 0) = some pv := load_get g rfl
  obtain ⟨p, i1, i2⟩ := pt_idx hp ha.1 ha.2
  obtain ⟨q, j1, j2⟩ := pt_idx hp hb.1 hb.2
  have hq : lessP (ptAt P a) (ptAt P b) = !leI P b a := by unfold leI leP; simp
  simp [A58, l0, i1, i2, j1, j2]
  refine (less59 h59 hw).mono ?_
  rintro _ H1 ⟨rfl, e1⟩
  simp [hq]
  exact e1
def inP (P : List (Int × Int)) (l : List Int) : Prop := ∀ i, i ∈ l → 0 ≤ i ∧ i < P.length
theorem inP.tail {P : List (Int × Int)} {x : Int} {l : List Int} (h : inP P (x :: l)) : inP P l := fun i hi => h i (List.mem_cons_of_mem _ hi)
structure MInv (o : Nat) (H H1 : Heap) (P : List (Int × Int)) (a b : List Int) (va vb v : AV) (d a' b' : List Int) (τ : Env) (m : Nat) : Prop where
  bd : Bd 1 i64c H H1 v d
  ra : Rw 1 i64c H va a'
  rb : Rw 1 i64c H vb b'
  ia : inP P a'
  ib : inP P b'
  eq : List.merge a b (leI P) = d ++ List.merge a' b' (leI P)
  len : d.length + (a'.length + b'.length) = a.length + b.length
  hm : m = a'.length + b'.length
  t0 : Env.at τ 0 = va
  t1 : Env.at τ 1 = vb
  t2 : Env.at τ 2 = .fn 58 [] [.ptr o 0]
  t7 : Env.at τ 7 = v
theorem merge66 (h66 : FT 66 = some (.code A66)) (h58 : FT 58 = some (.code A58)) (h59 : FT 59 = some (.code A59)) (hw : H.Wf) {o : Nat} {P : List (Int × Int)} (hc : Ctx H o P) {va vb : AV} {a b : List Int}
    (ha : Rw 1 i64c H va a) (hb : Rw 1 i64c H vb b) (ia : inP P a) (ib : inP P b) (hl : a.length + b.length ≤ 1000000000) :
    Cp FT 66 [va, vb, .fn 58 [] [.ptr o 0]] H (fun r H' => Rw 1 i64c H' r (List.merge a b (leI P)) ∧ Ext H H') := by
  refine Cp_code A66 h66 rfl ?_
  simp [A66]
  refine Wp_loop (fun m τ H1 => ∃ va' vb' v d a' b', MInv o H H1 P a b va' vb' v d a' b' τ m) ?_ (a.length + b.length) _ _
    ⟨va, vb, .nils, [], a, b, ⟨Bd.init hw, ha, hb, ia, ib, by simp, by simp, rfl, by simp, by simp, by simp, by simp⟩⟩
  rintro m τ H1 ⟨va', vb', v, d, a', b', ⟨bd, ra, rb, ja, jb, he, hle, rfl, t0, t1, t2, t7⟩⟩
  simp only [Wp_seq, Wp_region]
  have ex := bd.ext hw
  have la := ra.len
  have lb := rb.len
  have fin : List.merge a' b' (leI P) = a' ++ b' → ∃ v2 H2 v3 H3, appendA 1 8 H1 v va' = some (v2, H2) ∧ appendA 1 8 H2 v2 vb' = some (v3, H3) ∧ Rw 1 i64c H3 v3 (List.merge a b (leI P)) ∧ Ext H H3 := by
    intro q
    obtain ⟨v2, H2, k1, bd2, _⟩ := bd.appS (bytes := 8) i64c_len (by omega) i64c_one (ra.sw.exte ex) (by omega)
    obtain ⟨v3, H3, k2, bd3, _⟩ := bd2.appS (bytes := 8) i64c_len (by omega) i64c_one (rb.sw.exte (bd2.ext hw)) (by simp; omega)
    refine ⟨v2, H2, v3, H3, k1, k2, ?_, bd3.ext hw⟩
    rw [he, q, ← List.append_assoc]; exact bd3.ow.rw i64c_len
  cases a' with
  | nil =>
    obtain ⟨v2, H2, v3, H3, k1, k2, k3, k4⟩ := fin (by simp)
    simp [t0, t1, t7, la, k1, k2]
    exact ⟨k3, k4⟩
  | cons x ar =>
    cases b' with
    | nil =>
      obtain ⟨v2, H2, v3, H3, k1, k2, k3, k4⟩ := fin (by simp)
      simp [t0, t1, t7, la, lb, k1, k2]
      exact ⟨k3, k4⟩
    | cons y br =>
      have hx := ja x (by simp)
      have hy := jb y (by simp)
      obtain ⟨pa, xa, xa1, xa2, xa3⟩ := Ints.idx ((ra.sl i64c_len).ext ex) (k := .i64) (i := 0) (by omega) (by simp)
      obtain ⟨pb, xb, xb1, xb2, xb3⟩ := Ints.idx ((rb.sl i64c_len).ext ex) (k := .i64) (i := 0) (by omega) (by simp)
      have : x = xa := by simpa using xa1
      subst this
      have : y = xb := by simpa using xb1
      subst this
      have g1 : (0 : Int) < ((x :: ar).length : Nat) := by simp only [List.length_cons]; omega
      have g2 : (0 : Int) < ((y :: br).length : Nat) := by simp only [List.length_cons]; omega
      simp only [List.length_cons] at la lb hle
      have n1 : (0 : Int) < (ar.length : Int) + 1 := by omega
      have n2 : (0 : Int) < (br.length : Int) + 1 := by omega
      simp [t0, t1, t2, la, lb, xa2, xa3, xb2, xb3, n1, n2]
      refine (order58 h58 h59 bd.wf (hc.ext ex) hy hx).mono ?_
      rintro _ H2 ⟨rfl, e2⟩
      have bd2 := bd.after e2
      cases hle2 : leI P x y with
      | true =>
        obtain ⟨v3, H3, k1, bd3, _⟩ := bd2.app1 (bytes := 8) i64c_len (by omega) i64c_one x (by omega)
        have k1' : appendA 1 8 (H2.push (.cells [.int .i64 x])) v (.slc H2.next 0 1 1 1 true) = some (v3, H3) := k1
        obtain ⟨va2, s1, s2, _⟩ := ra.drop i64c_len (k := 1) (by simp)
        have s1' : sliceA 1 va' (some (.int .i64 1)) none none = some va2 := s1
        have xa3' : loadA H2 none pa = some (.int .i64 x) := by
          obtain ⟨pa', xa', q1, q2, q3⟩ := Ints.idx ((ra.sl i64c_len).ext (ex.trans e2)) (k := .i64) (i := 0) (by omega) (by simp)
          rw [xa2] at q2; cases q2
          have : x = xa' := by simpa using q1
          subst this; exact q3
        simp [t0, t1, t7, xa2, xa3', s1', k1']
        refine ⟨_, ?_, va2, vb', v3, d ++ [x], ar, y :: br, ⟨bd3, s2, rb, ja.tail, jb, ?_, ?_, rfl, by simp, by simp [t1], by simp [t2], by simp⟩⟩
        · simp only [List.length_cons]; omega
        · rw [he, List.merge, if_pos hle2]; simp
        · simp only [List.length_append, List.length_cons, List.length_nil]; omega
      | false =>
        obtain ⟨v3, H3, k1, bd3, _⟩ := bd2.app1 (bytes := 8) i64c_len (by omega) i64c_one y (by omega)
        have k1' : appendA 1 8 (H2.push (.cells [.int .i64 y])) v (.slc H2.next 0 1 1 1 true) = some (v3, H3) := k1
        obtain ⟨vb2, s1, s2, _⟩ := rb.drop i64c_len (k := 1) (by simp)
        have s1' : sliceA 1 vb' (some (.int .i64 1)) none none = some vb2 := s1
        have xb3' : loadA H2 none pb = some (.int .i64 y) := by
          obtain ⟨pb', xb', q1, q2, q3⟩ := Ints.idx ((rb.sl i64c_len).ext (ex.trans e2)) (k := .i64) (i := 0) (by omega) (by simp)
          rw [xb2] at q2; cases q2
          have : y = xb' := by simpa using q1
          subst this; exact q3
        simp [t0, t1, t7, xb2, xb3', s1', k1']
        refine ⟨_, ?_, va', vb2, v3, d ++ [y], x :: ar, br, ⟨bd3, ra, s2, ja, jb.tail, ?_, ?_, rfl, by simp [t0], by simp, by simp [t2], by simp⟩⟩
        · simp only [List.length_cons]; omega
        · rw [he, List.merge, if_neg (by rw [hle2]; simp)]; simp
        · simp only [List.length_append, List.length_cons, List.length_nil]; omega
theorem sortI_in {P : List (Int × Int)} {f : Nat} {l : List Int} (h : inP P l) : inP P (sortI P f l) := fun i hi => h i ((sortI_perm P f l).mem_iff.1 hi)
theorem sort57 (h57 : FT 57 = some (.code A57)) (h66 : FT 66 = some (.code A66)) (h58 : FT 58 = some (.code A58)) (h59 : FT 59 = some (.code A59)) {o : Nat} {P : List (Int × Int)} : ∀ (f : Nat) {H : Heap} (_ : H.Wf) (_ : Ctx H o P) {va : AV} {a : List Int}
    (_ : Rw 1 i64c H va a) (_ : inP P a) (_ : a.length ≤ 1000000000) (_ : a.length ≤ f), Cp FT 57 [va, .fn 58 [] [.ptr o 0]] H (fun r H' => Rw 1 i64c H' r (sortI P f a) ∧ Ext H H')
  | 0, H, hw, hc, va, a, ha, ia, hl, hf => by
    have : a = [] := List.length_eq_zero_iff.1 (by omega)
    subst this
    refine Cp_code A57 h57 rfl ?_
    obtain ⟨v2, H2, k1, bd2, _⟩ := (Bd.init (e := 1) (enc := i64c) hw).appS (bytes := 8) i64c_len (by omega) i64c_one ha.sw (by simp)
    simp [A57, ha.len, k1]
    exact ⟨by simpa [sortI] using bd2.ow.rw i64c_len, bd2.ext hw⟩
  | f + 1, H, hw, hc, va, a, ha, ia, hl, hf => by
    refine Cp_code A57 h57 rfl ?_
    by_cases c : a.length < 2
    · obtain ⟨v2, H2, k1, bd2, _⟩ := (Bd.init (e := 1) (enc := i64c) hw).appS (bytes := 8) i64c_len (by omega) i64c_one ha.sw (by simp; omega)
      have c' : (a.length : Int) < 2 := by omega
      have hs : sortI P (f + 1) a = a := by unfold sortI; rw [if_pos c]
      simp [A57, ha.len, k1, c', hs]
      exact ⟨by simpa using bd2.ow.rw i64c_len, bd2.ext hw⟩
    · have c' : ¬ (a.length : Int) < 2 := by omega
      have hs : sortI P (f + 1) a = List.merge (sortI P f (a.take (a.length / 2))) (sortI P f (a.drop (a.length / 2))) (leI P) := by
        conv => lhs; unfold sortI
        rw [if_neg c]
      obtain ⟨m, hm⟩ : ∃ m : Nat, m = a.length / 2 := ⟨_, rfl⟩
      rw [← hm] at hs
      have wd : IntKind.i64.wrap ((a.length : Int) / 2) = (m : Int) := by
        rw [wrap64 (by omega) (by omega)]; omega
      obtain ⟨v1, s1, r1, _⟩ := ha.take i64c_len (k := m) (by omega)
      simp [A57, ha.len, c', wd, s1]
      refine (sort57 h57 h66 h58 h59 f hw hc r1 (fun i hi => ia i (List.mem_of_mem_take hi)) (by simp; omega) (by simp; omega)).mono ?_
      rintro ra H1 ⟨q1, e1⟩
      obtain ⟨v2, s2, r2, _⟩ := (ha.ext e1).drop i64c_len (k := m) (by omega)
      simp [s2]
      refine (sort57 h57 h66 h58 h59 f e1.wf (hc.ext e1) r2 (fun i hi => ia i (List.mem_of_mem_drop hi)) (by simp; omega) (by simp; omega)).mono ?_
      rintro rb H2 ⟨q2, e2⟩
      simp
      have l1 := (sortI_perm P f (a.take (m))).length_eq
      have l2 := (sortI_perm P f (a.drop (m))).length_eq
      refine (merge66 h66 h58 h59 e2.wf ((hc.ext e1).ext e2) (q1.ext e2) q2 (sortI_in fun i hi => ia i (List.mem_of_mem_take hi)) (sortI_in fun i hi => ia i (List.mem_of_mem_drop hi)) (by rw [l1, l2]; simp; omega)).mono ?_
      rintro rc H3 ⟨q3, e3⟩
      simp
      rw [hs]
      exact ⟨q3, (e1.trans e2).trans e3⟩
theorem order42 (h42 : FT 42 = some (.code A42)) (h57 : FT 57 = some (.code A57)) (h66 : FT 66 = some (.code A66)) (h58 : FT 58 = some (.code A58)) (h59 : FT 59 = some (.code A59)) (hw : H.Wf) {v : AV} {P : List (Int × Int)} (h : Pairs H v P) (hl : P.length ≤ 1000000000) :
    Cp FT 42 [v] H (fun r H' => Rw 1 i64c H' r (ordI P) ∧ Ext H H') := by
  refine Cp_code A42 h42 rfl ?_
  have e0 := Ext.push hw (.cells [v])
  have g0 : (H.push (.cells [v])).get H.next = some (.cells [v]) := get_pushN.trans (if_pos rfl)
  have l0 : loadA (H.push (.cells [v])) none (.ptr H.next 0) = some v := load_get g0 rfl
  have h1 := h.one
  have h1' : allOne [v] = true := by rw [allOne_of h1.1]; rfl
  simp [A42, h1.2, h1', l0, h.len]
  refine Wp_loop (fun m τ H1 => ∃ (i : Nat) (w : AV), i ≤ P.length ∧ m = P.length - i ∧ Bd 1 i64c (H.push (.cells [v])) H1 w (idxs i) ∧ Env.at τ 1 = .ptr H.next 0 ∧ Env.at τ 3 = w ∧ Env.at τ 6 = .int .i64 P.length ∧ Env.at τ 7 = .int .i64 i) ?_ P.length _ _
    ⟨0, .nils, by omega, by omega, Bd.init e0.wf, by simp, by simp, by simp, by simp⟩
  rintro m τ H1 ⟨i, w, hi, rfl, bd, t1, t3, t6, t7⟩
  simp only [Wp_seq, Wp_region]
  by_cases c : i < P.length
  · obtain ⟨v2, H2, k1, bd2, _⟩ := bd.app1 (bytes := 8) i64c_len (by omega) i64c_one (i : Int) (by simp [idxs]; omega)
    have k1' : appendA 1 8 (H1.push (.cells [.int .i64 (i : Int)])) w (.slc H1.next 0 1 1 1 true) = some (v2, H2) := k1
    have wr : IntKind.i64.wrap ((i : Int) + 1) = ((i + 1 : Nat) : Int) := wrap64 (by omega) (by omega)
    have hs : idxs (i + 1) = idxs i ++ [(i : Int)] := by simp [idxs, List.range_succ]
    simp [c, t1, t3, t6, t7, k1', wr]
    exact ⟨_, by omega, i + 1, by omega, rfl, v2, hs ▸ bd2, rfl, by simp⟩
  · have : i = P.length := by omega
    subst this
    have ex := bd.ext e0.wf
    simp [t1, t3, t6, t7]
    have hin : inP P (idxs P.length) := fun j hj => by
      simp [idxs] at hj
      obtain ⟨k, a, rfl⟩ := hj; omega
    refine (sort57 h57 h66 h58 h59 P.length bd.wf ⟨v, ex.keep _ _ g0, h.ext (e0.trans ex)⟩ (bd.ow.rw i64c_len) hin (by simp [idxs]; omega) (by simp [idxs])).mono ?_
    rintro r H2 ⟨q1, e2⟩
    simp
    exact ⟨q1, (e0.trans ex).trans e2⟩
def adjTo (Q : List (Int × Int)) (i : Nat) : Prop := ∃ j : Nat, j + 1 < i ∧ j + 1 < Q.length ∧ Q[j]? = Q[j + 1]?
structure TwI (Q : List (Int × Int)) (v lv : AV) (τ : Env) (i : Nat) : Prop where
  hi : 1 ≤ i
  t0 : Env.at τ 0 = v
  t5 : ∃ x, Env.at τ 5 = .int .i64 x
  t6 : ∃ y, Env.at τ 6 = .int .i64 y
  t7 : ∃ t, Env.at τ 7 = .bool t ∧ (t = true ↔ adjTo Q i)
  t8 : Env.at τ 8 = lv
  t9 : Env.at τ 9 = .int .i64 i
structure TwR (P : List (Int × Int)) (r : AV) : Prop where
  ex : ∃ x y t, r = .tup [.int .i64 x, .int .i64 y, .bool t] ∧ (t = true ↔ ¬ P.Nodup)
theorem twice24 (h24 : FT 24 = some (.code A24)) (h42 : FT 42 = some (.code A42)) (h57 : FT 57 = some (.code A57)) (h66 : FT 66 = some (.code A66)) (h58 : FT 58 = some (.code A58)) (h59 : FT 59 = some (.code A59)) (hw : H.Wf) {v : AV} {P : List (Int × Int)} (h : Pairs H v P) (hl : P.length ≤ 1000000000) :
    Cp FT 24 [v] H (fun r H' => TwR P r ∧ Ext H H') := by
  refine Cp_code A24 h24 rfl ?_
  simp [A24]
  refine (order42 h42 h57 h66 h58 h59 hw h hl).mono ?_
  rintro lv H1 ⟨hr, e1⟩
  have hlen := hr.len
  rw [ordI_len] at hlen
  have hsl := hr.sl i64c_len
  have hP1 := h.ext e1
  simp
  refine Wp_loop (fun m τ H2 => H2 = H1 ∧ ∃ (i : Nat), m = P.length + 1 - i ∧ TwI ((ordI P).map (ptAt P)) v lv τ i) ?_ P.length _ _
    ⟨rfl, 1, by omega, ⟨by omega, by simp, ⟨0, by simp⟩, ⟨0, by simp⟩, ⟨false, by simp, by simp [adjTo]⟩, by simp, by simp⟩⟩
  rintro m τ _ ⟨rfl, i, rfl, ⟨hi, t0, ⟨x, t5⟩, ⟨y, t6⟩, ⟨t, t7, ht⟩, t8, t9⟩⟩
  simp only [Wp_seq, Wp_region]
  have hml : ((ordI P).map (ptAt P)).length = P.length := by simp [ordI_len]
  by_cases c : i < P.length
  · have w0 : IntKind.i64.wrap ((i : Int) - 1) = (i : Int) - 1 := wrap64 (by omega) (by omega)
    have wr : IntKind.i64.wrap ((i : Int) + 1) = ((i + 1 : Nat) : Int) := wrap64 (by omega) (by omega)
    obtain ⟨pa, a, a1, a2, a3⟩ := Ints.idx hsl (k := .i64) (i := (i : Int) - 1) (by omega) (by rw [ordI_len]; omega)
    obtain ⟨pb, b, b1, b2, b3⟩ := Ints.idx hsl (k := .i64) (i := (i : Int)) (by omega) (by rw [ordI_len]; omega)
    have ha := ordI_mem (List.mem_of_getElem? a1)
    have hb := ordI_mem (List.mem_of_getElem? b1)
    obtain ⟨qa, c1, c2⟩ := pt_idx hP1 ha.1 ha.2
    obtain ⟨qb, d1, d2⟩ := pt_idx hP1 hb.1 hb.2
    have i1 : ((i : Int) - 1).toNat = i - 1 := by omega
    rw [i1] at a1
    rw [Int.toNat_natCast] at b1
    have m1 : ((ordI P).map (ptAt P))[i - 1]? = some (ptAt P a) := by rw [List.getElem?_map, a1]; rfl
    have m2 : ((ordI P).map (ptAt P))[i]? = some (ptAt P b) := by rw [List.getElem?_map, b1]; rfl
    have hstep : adjTo ((ordI P).map (ptAt P)) (i + 1) ↔ adjTo ((ordI P).map (ptAt P)) i ∨ ptAt P a = ptAt P b := by
      constructor
      · rintro ⟨j, h1, h2, h3⟩
        by_cases hj : j + 1 < i
        · exact .inl ⟨j, hj, h2, h3⟩
        · have : j + 1 = i := by omega
          have hj' : j = i - 1 := by omega
          rw [this, m2, hj', m1] at h3
          exact .inr (by simpa using h3)
      · rintro (⟨j, h1, h2, h3⟩ | q)
        · exact ⟨j, by omega, h2, h3⟩
        · refine ⟨i - 1, by omega, by omega, ?_⟩
          rw [show i - 1 + 1 = i from by omega, m1, m2, q]
    generalize ptAt P a = pA at *
    generalize ptAt P b = pB at *
    by_cases ceq : pA = pB
    · have hflat : binA .eql (.flat [.int, .int]) (.agg (pairc pA)) (.agg (pairc pB)) = some (.bool true) := by rw [eqPair, decide_eq_true ceq]
      have hyes : adjTo ((ordI P).map (ptAt P)) (i + 1) := hstep.2 (.inr ceq)
      cases t with
      | false =>
        simp [c, t0, t5, t6, t7, t8, t9, hlen, w0, wr, a2, a3, b2, b3, c1, c2, d1, d2, hflat]
        exact ⟨_, by omega, i + 1, rfl, ⟨by omega, by simp [t0], ⟨a, by simp⟩, ⟨b, by simp⟩, ⟨true, by simp, by simp [hyes]⟩, by simp [t8], by simp⟩⟩
      | true =>
        by_cases clt : a < x
        · simp [c, t0, t5, t6, t7, t8, t9, hlen, w0, wr, a2, a3, b2, b3, c1, c2, d1, d2, hflat, clt]
          exact ⟨_, by omega, i + 1, rfl, ⟨by omega, by simp [t0], ⟨a, by simp⟩, ⟨b, by simp⟩, ⟨true, by simp, by simp [hyes]⟩, by simp [t8], by simp⟩⟩
        · simp [c, t0, t5, t6, t7, t8, t9, hlen, w0, wr, a2, a3, b2, b3, c1, c2, d1, d2, hflat, clt]
          exact ⟨_, by omega, i + 1, rfl, ⟨by omega, by simp [t0], ⟨x, by simp [t5]⟩, ⟨y, by simp [t6]⟩, ⟨true, by simp [t7], by simp [hyes]⟩, by simp [t8], by simp⟩⟩
    · have hne : ¬ (pA.1 = pB.1 ∧ pA.2 = pB.2) := fun q => ceq (Prod.ext q.1 q.2)
      have hstep' : adjTo ((ordI P).map (ptAt P)) (i + 1) ↔ adjTo ((ordI P).map (ptAt P)) i := by rw [hstep]; exact ⟨fun q => q.elim id fun q => absurd q ceq, .inl⟩
      have hflat : binA .eql (.flat [.int, .int]) (.agg (pairc pA)) (.agg (pairc pB)) = some (.bool false) := by rw [eqPair, decide_eq_false ceq]
      simp [c, t0, t5, t6, t7, t8, t9, hlen, w0, wr, a2, a3, b2, b3, c1, c2, d1, d2, hflat]
      exact ⟨_, by omega, i + 1, rfl, ⟨by omega, by simp [t0], ⟨x, by simp [t5]⟩, ⟨y, by simp [t6]⟩, ⟨t, by simp [t7], by rw [hstep']; exact ht⟩, by simp [t8], by simp⟩⟩
  · have hall : t = true ↔ ¬ P.Nodup := by
      rw [ht, ← adj_iff]
      constructor
      · rintro ⟨j, h1, h2, h3⟩; exact ⟨j, by omega, h3⟩
      · rintro ⟨j, h1, h3⟩; exact ⟨j, by omega, by omega, h3⟩
    have c' : ¬ ((i : Int) < P.length) := by omega
    simp [c, t5, t6, t7, t8, t9, hlen]
    exact ⟨⟨x, y, t, rfl, hall⟩, e1⟩
end
end Go.Proofs.YtacfhbhfgbjleaaDoor

/- Faces that may be, and the table of their edges, as the program makes it. No claim by itself. -/
namespace Go.Proofs.YtacfhbhfgbjleaaDoor
open Go Go.AI
section
variable {FT : Nat → Option FnD} {H : Heap}
theorem index65 (h65 : FT 65 = some (.code A65)) {v : AV} {l : List Int} {y : Int} (h : Ints H v l) (hl : l.length ≤ 9223372036854775806) :
    Cp FT 65 [v, .int .i64 y] H (fun r H' => (∃ k : Int, r = .int .i64 k ∧ (0 ≤ k ↔ y ∈ l)) ∧ H' = H) := by
  refine Cp_code A65 h65 rfl ?_
  simp [A65, h.len]
  refine Wp_loop (fun m τ H' => H' = H ∧ ∃ i : Nat, i ≤ l.length ∧ m = l.length - i ∧ Env.at τ 0 = v ∧ Env.at τ 1 = .int .i64 y ∧ Env.at τ 7 = .int .i64 l.length ∧ Env.at τ 8 = .int .i64 i ∧ y ∉ l.take i) ?_ l.length _ _ ⟨rfl, 0, by omega, by omega, by simp, by simp, by simp, by simp, by simp⟩
  rintro m τ _ ⟨rfl, i, hi, rfl, t0, t1, t7, t8, hn⟩
  simp only [Wp_seq, Wp_region]
  by_cases c : i < l.length
  · obtain ⟨p, x, hx, hp, hld⟩ := Ints.idx h (k := .i64) (i := i) (by omega) (by omega)
    rw [Int.toNat_natCast] at hx
    by_cases q : y = x
    · subst q
      have hm := List.mem_of_getElem? hx
      have h0 : (0 : Int) ≤ (i : Int) := by omega
      simp [c, t0, t1, t7, t8, hp, hld, hm]
    · have w : IntKind.i64.wrap ((i : Int) + 1) = ((i + 1 : Nat) : Int) := wrap64 (by omega) (by omega)
      have hn1 : y ∉ l.take (i + 1) := by
        rw [List.take_add_one, hx]; simp [hn, q]
      simp [c, t0, t1, t7, t8, hp, hld, q, w]
      exact ⟨_, by omega, i + 1, by omega, rfl, by simp, hn1⟩
  · have c' : ¬ ((i : Int) < l.length) := by omega
    rw [List.take_of_length_le (by omega)] at hn
    simp [c, t7, t8, hn]
theorem contains54 (h54 : FT 54 = some (.code A54)) (h65 : FT 65 = some (.code A65)) {v : AV} {l : List Int} {y : Int} (h : Ints H v l) (hl : l.length ≤ 9223372036854775806) :
    Cp FT 54 [v, .int .i64 y] H (fun r H' => r = .bool (decide (y ∈ l)) ∧ H' = H) := by
  refine Cp_code A54 h54 rfl ?_
  simp [A54]
  refine (index65 h65 h hl).mono ?_
  rintro _ _ ⟨⟨k, rfl, hk⟩, rfl⟩
  by_cases q : y ∈ l
  · have := hk.2 q
    simp [q, this]
  · have : ¬ 0 ≤ k := fun r => q (hk.1 r)
    simp [q, this]
theorem edge55 (h55 : FT 55 = some (.code A55)) (hw : H.Wf) {v : AV} {f : List Int} {k : Nat} (h : Rw 1 i64c H v f) (hk : k < f.length) (hl : f.length ≤ 9223372036854775806) :
    Cp FT 55 [v, .int .i64 k] H (fun r H' => (∃ s, (edgesF f)[k]? = some s ∧ r = .agg (pairc s)) ∧ Ext H H') := by
  refine Cp_code A55 h55 rfl ?_
  have hs := h.sl i64c_len
  have e0 := Ext.push hw (.cells [.int .i64 0, .int .i64 0])
  have hs0 := hs.ext e0
  have hmod : (k + 1) % f.length < f.length := Nat.mod_lt _ (by omega)
  obtain ⟨p, a, a1, a2, a3⟩ := Ints.idx hs0 (k := .i64) (i := (k : Int)) (by omega) (by omega)
  obtain ⟨q, b, b1, b2, b3⟩ := Ints.idx hs0 (k := .i64) (i := (((k + 1) % f.length : Nat) : Int)) (by omega) (by omega)
  rw [Int.toNat_natCast] at a1 b1
  have hE := edgesF_get a1 b1
  have w : IntKind.i64.wrap ((k : Int) + 1) = (k : Int) + 1 := wrap64 (by omega) (by omega)
  have hne : ¬ (f.length : Int) = 0 := by omega
  have hne' : ¬ f.length = 0 := by omega
  have hne2 : f ≠ [] := fun q => hne' (by rw [q]; rfl)
  have hmo : ((k : Int) + 1).tmod (f.length : Int) = (((k + 1) % f.length : Nat) : Int) := by
    rw [Int.tmod_eq_emod_of_nonneg (by omega)]; push_cast; rfl
  generalize (((k + 1) % f.length : Nat) : Int) = mo at *
  obtain ⟨H2, st, g2, e2, n2⟩ := store_new hw (z := [.int .i64 0, .int .i64 0]) (n := 2) (x := .agg [.int .i64 a, .int .i64 b]) (cs := [.int .i64 a, .int .i64 b]) rfl rfl rfl rfl
  have g2' := cellsAt_get g2
  simp [A55, a2, a3, b2, b3, w, h.len, hne2, hmo, st, resultsA, resultA, g2', partA, seg, packA]
  exact ⟨⟨a, b, hE, rfl⟩, e2⟩
theorem left56 (h56 : FT 56 = some (.code A56)) (hw : H.Wf) {o : Nat} {E : List Ent} {s : Int × Int} (h : H.get o = some (.map (E.map entc))) :
    Cp FT 56 [.agg [.map o], .int .i64 s.1, .int .i64 s.2] H (fun r H' => r = .int .i64 (lookE E s) ∧ Ext H H') := by
  refine Cp_code A56 h56 rfl ?_
  have e0 := Ext.push hw (.cells [.map o])
  have g0 : (H.push (.cells [.map o])).get H.next = some (.cells [.map o]) := get_pushN.trans (if_pos rfl)
  have l0 : loadA (H.push (.cells [.map o])) none (.ptr H.next 0) = some (.map o) := load_get g0 rfl
  obtain ⟨r, hr, hc⟩ := lookA_ent (s := s) (e0.keep _ _ h)
  have hr' : lookA (H.push (.cells [.map o])) (.flat [.int, .int]) (.map o) (.agg [.int .i64 s.1, .int .i64 s.2]) = some r := hr
  rcases hc with ⟨_, rfl, h3⟩ | ⟨_, i, k, rfl, h3, _⟩
  · simp [A56, l0, hr', lookV, h3]
    exact e0
  · simp [A56, l0, hr', lookV, h3]
    exact e0
/-- What the faces and their table come to. -/
structure KnR (H' : Heap) (n : Int) (F : List (List Int)) (vF r : AV) : Prop where
  ex : ∃ m, r = .tup [m, .int .i64 (chkF n F)] ∧ m.cells.length = 2 ∧ allOne m.cells = true ∧ (chkF n F = 0 → ∃ o, m = .agg [.map o, vF] ∧ H'.get o = some (.map ((tabF 0 F).map entc)))
def fOkTo (n : Int) (F : List (List Int)) (i : Nat) : Prop := ∀ f, f ∈ F.take i → rowOk n f
def inTo (n : Int) (f : List Int) (j : Nat) : Prop := (f.take j).Nodup ∧ ∀ k, k ∈ f.take j → 0 ≤ k ∧ k < n
theorem chkF_bad {n : Int} {F : List (List Int)} {f : List Int} (h : f ∈ F) (hb : ¬ rowOk n f) : chkF n F = 2 := by
  unfold chkF; rw [if_neg]; exact fun q => hb (q.2 f h)
theorem inTo_succ {n : Int} {f : List Int} {j : Nat} {x : Int} (h : inTo n f j) (hx : f[j]? = some x) (h0 : 0 ≤ x ∧ x < n) (hn : x ∉ f.take j) : inTo n f (j + 1) := by
  have e : f.take (j + 1) = f.take j ++ [x] := by rw [List.take_add_one, hx]; rfl
  constructor
  · rw [e, List.nodup_append]; exact ⟨h.1, by simp, fun a ha b hb => by simp at hb; subst hb; exact fun q => hn (q ▸ ha)⟩
  · rw [e]; intro k hk
    rcases List.mem_append.1 hk with q | q
    · exact h.2 k q
    · simp at q; subst q; exact h0
theorem rowOk_no {n : Int} {f : List Int} {j : Nat} {x : Int} (hx : f[j]? = some x) (h : ¬ (0 ≤ x ∧ x < n) ∨ x ∈ f.take j) : ¬ rowOk n f := by
  rintro ⟨_, h2, h3⟩
  rcases h with h | h
  · exact h (h3 x (List.mem_of_getElem? hx))
  · have hj : j < f.length := (List.getElem?_eq_some_iff.1 hx).1
    obtain ⟨i, hi, hix⟩ := List.getElem_of_mem h
    have hi' : i < j := by simp at hi; omega
    have := List.pairwise_iff_getElem.1 h2 i j (by omega) hj hi'
    apply this
    rw [List.getElem_take] at hix
    rw [hix]
    exact (List.getElem?_eq_some_iff.1 hx).2.symm
structure K1 (H H' : Heap) (n : Int) (vF : AV) (F : List (List Int)) (o4 : Nat) (τ : Env) (i m : Nat) : Prop where
  ex : Ext H H'
  g4 : H'.get o4 = some (.cells [.nilm, .nils])
  le : i ≤ F.length
  hm : m = F.length - i
  ok : fOkTo n F i
  t0 : Env.at τ 0 = .int .i64 n
  t1 : Env.at τ 1 = vF
  t4 : Env.at τ 4 = .ptr o4 0
  t22 : Env.at τ 22 = vF
  t23 : Env.at τ 23 = .int .i64 F.length
  t24 : Env.at τ 24 = .int .i64 i
structure K2 (H H' : Heap) (n : Int) (vF : AV) (F : List (List Int)) (f : List Int) (vr : AV) (o4 : Nat) (τ : Env) (i j m : Nat) : Prop where
  ex : Ext H H'
  g4 : H'.get o4 = some (.cells [.nilm, .nils])
  le : j ≤ f.length
  hm : m = f.length - j
  ok : inTo n f j
  t0 : Env.at τ 0 = .int .i64 n
  t1 : Env.at τ 1 = vF
  t4 : Env.at τ 4 = .ptr o4 0
  t22 : Env.at τ 22 = vF
  t23 : Env.at τ 23 = .int .i64 F.length
  t24 : Env.at τ 24 = .int .i64 i
  t7 : Env.at τ 7 = vr
  t28 : Env.at τ 28 = vr
  t29 : Env.at τ 29 = .int .i64 f.length
  t30 : Env.at τ 30 = .int .i64 j
def k41a : ACode := subAt [1,1,0] A41.body
def k41b : ACode := subAt [1,1,1,1,0] A41.body
theorem body41 : A41.body = putAt [1,1,0] (putAt [1,1,1,1,0] A41.body k41b) k41a := rfl
structure Qok (H H' : Heap) (n : Int) (vF : AV) (F : List (List Int)) (o4 : Nat) (τ : Env) : Prop where
  ok : fOkTo n F F.length
  ex : Ext H H'
  g4 : H'.get o4 = some (.cells [.nilm, .nils])
  t0 : Env.at τ 0 = .int .i64 n
  t1 : Env.at τ 1 = vF
  t4 : Env.at τ 4 = .ptr o4 0
structure Qbad (H H' : Heap) (o4 : Nat) (e : Int) (τ : Env) : Prop where
  ex : Ext H H'
  g4 : H'.get o4 = some (.cells [.nilm, .nils])
  t4 : Env.at τ 4 = .ptr o4 0
  t5 : Env.at τ 5 = .int .i64 e
theorem known_a (h54 : FT 54 = some (.code A54)) (h65 : FT 65 = some (.code A65)) {n : Int} {vF : AV} {F : List (List Int)} (hF : Gd H vF F) (hsz : ∀ f, f ∈ F → f.length ≤ 1000000000) (hl : F.length ≤ 1000000000) (hw : H.Wf) {o4 : Nat} (ho : H.next ≤ o4) {τ0 : Env} {H0 : Heap} (ex0 : Ext H H0)
    (g0 : H0.get o4 = some (.cells [.nilm, .nils])) (u0 : Env.at τ0 0 = .int .i64 n) (u1 : Env.at τ0 1 = vF) (u4 : Env.at τ0 4 = .ptr o4 0) (_hn : 0 ≤ n) :
    Wp FT k41a τ0 H0 (fun s τ H' => (s = .next ∧ Qok H H' n vF F o4 τ) ∨ (s = .ret ∧ chkF n F = 2 ∧ Qbad H H' o4 2 τ)) := by
  simp [k41a, subAt, A41, u1, hF.len]
  refine Wp_loop (fun m τ H' => ∃ i, K1 H H' n vF F o4 τ i m) ?_ F.length _ _ ⟨0, ⟨ex0, g0, by omega, by omega, by simp [fOkTo], by simp [u0], by simp [u1], by simp [u4], by simp, by simp, by simp⟩⟩
  rintro m τ H1 ⟨i, ⟨ex, g4, hi, rfl, hok, t0, t1, t4, t22, t23, t24⟩⟩
  simp only [Wp_seq, Wp_region]
  by_cases c : i < F.length
  · obtain ⟨p, r, f, a1, a2, a3, a4⟩ := hF.idxE ex (k := .i64) (i := (i : Int)) (by omega) (by omega)
    rw [Int.toNat_natCast] at a1
    have hfm := List.mem_of_getElem? a1
    have hfl := hsz f hfm
    have bad : ∀ (τ' : Env) (H2 : Heap), Ext H H2 → H2.get o4 = some (.cells [.nilm, .nils]) → ∃ H3, storeA H2 2 (.ptr o4 0) (.agg [.nilm, .nils]) = some (undefA, H3) ∧ Ext H H3 ∧ H3.get o4 = some (.cells [.nilm, .nils]) := by
      intro τ' H2 ex2 g2
      obtain ⟨H3, s1, s2, s3⟩ := store_whole (n := 2) (x := .agg [.nilm, .nils]) ex2.wf rfl rfl (by rw [ex2.floor]; exact Nat.le_trans hw.1 ho) g2 rfl rfl
      refine ⟨H3, s1, ⟨s3.floor.trans ex2.floor, Nat.le_trans ex2.next s3.next, fun o x e => s3.keep o x (by simp; have := hw.lt e; omega) (ex2.keep _ _ e), s3.wf⟩, s2⟩
    simp [c, t22, t23, t24, a2, a3, a4.len]
    refine Wp_loop (fun m τ H' => ∃ j, K2 H H' n vF F f r o4 τ i j m) ?_ f.length _ _ ⟨0, ⟨ex, g4, by omega, by omega, ⟨by simp, by simp⟩, by simp [t0], by simp [t1], by simp [t4], by simp [t22], by simp [t23], by simp [t24], by simp, by simp, by simp, by simp⟩⟩
    rintro m τ H2 ⟨j, ⟨ex, g4, hj, rfl, hin, t0, t1, t4, t22, t23, t24, t7, t28, t29, t30⟩⟩
    have a4' := a4.ext ex
    simp only [Wp_seq, Wp_region]
    by_cases cj : j < f.length
    · obtain ⟨q, x, b1, b2, b3⟩ := Ints.idx (a4'.sl i64c_len) (k := .i64) (i := (j : Int)) (by omega) (by omega)
      rw [Int.toNat_natCast] at b1
      obtain ⟨H3, s1, s2, s3⟩ := bad τ H2 ex g4
      by_cases c1 : x < 0
      · have hb := chkF_bad (n := n) hfm (rowOk_no b1 (.inl (by omega)))
        simp [cj, t4, t28, t29, t30, b2, b3, c1, s1]
        exact ⟨hb, ⟨s2, s3, by simp [t4], by simp⟩⟩
      by_cases c2 : n ≤ x
      · have hb := chkF_bad (n := n) hfm (rowOk_no b1 (.inl (by omega)))
        simp [cj, t0, t4, t28, t29, t30, b2, b3, c1, c2, s1]
        exact ⟨hb, ⟨s2, s3, by simp [t4], by simp⟩⟩
      obtain ⟨v', k1, k2, _⟩ := a4'.take i64c_len (k := j) hj
      simp [cj, t0, t7, t28, t29, t30, b2, b3, c1, c2, k1]
      refine (contains54 h54 h65 (k2.sl i64c_len) (by simp; omega)).mono ?_
      rintro _ _ ⟨rfl, rfl⟩
      by_cases c3 : x ∈ f.take j
      · have hb := chkF_bad (n := n) hfm (rowOk_no b1 (.inr c3))
        simp [c3, t4, s1]
        exact ⟨hb, ⟨s2, s3, by simp [t4], by simp⟩⟩
      · have w : IntKind.i64.wrap ((j : Int) + 1) = ((j + 1 : Nat) : Int) := wrap64 (by omega) (by omega)
        simp [c3, t30, w]
        exact ⟨_, by omega, j + 1, ⟨ex, g4, by omega, rfl, inTo_succ hin b1 (by omega) c3, by simp [t0], by simp [t1], by simp [t4], by simp [t22], by simp [t23], by simp [t24], by simp [t7], by simp [t28], by simp [t29], by simp⟩⟩
    · have hjl : j = f.length := by omega
      subst hjl
      have cj' : ¬ ((f.length : Int) < f.length) := by omega
      obtain ⟨H3, s1, s2, s3⟩ := bad τ H2 ex g4
      by_cases c3 : f.length < 3
      · have hb := chkF_bad (n := n) hfm (fun q => by have := q.1; omega)
        have c3' : (f.length : Int) < 3 := by omega
        simp [t4, t7, t29, t30, a4'.len, c3', s1]
        exact ⟨hb, ⟨s2, s3, by simp [t4], by simp⟩⟩
      · have c3' : ¬ (f.length : Int) < 3 := by omega
        have w : IntKind.i64.wrap ((i : Int) + 1) = ((i + 1 : Nat) : Int) := wrap64 (by omega) (by omega)
        have hok1 : fOkTo n F (i + 1) := by
          intro g hg
          rw [List.take_add_one, a1] at hg
          rcases List.mem_append.1 hg with q | q
          · exact hok g q
          · simp at q; subst q
            unfold inTo at hin; rw [List.take_length] at hin
            exact ⟨by omega, hin.1, hin.2⟩
        simp [t7, t29, t30, a4'.len, c3', t24, w]
        exact ⟨_, by omega, i + 1, ⟨ex, g4, by omega, rfl, hok1, by simp [t0], by simp [t1], by simp [t4], by simp [t22], by simp [t23], by simp⟩⟩
  · have hil : i = F.length := by omega
    subst hil
    simp [t23, t24]
    exact ⟨hok, ex, g4, by simp [t0], by simp [t1], by simp [t4]⟩
theorem look_iff {E : List Ent} (h : ∀ q, q ∈ E → 0 ≤ q.2) {o : Nat} {H : Heap} (hg : H.get o = some (.map (E.map entc))) (s : Int × Int) : 0 ≤ lookE E s ↔ s ∈ E.map (·.1) := by
  obtain ⟨r, _, hc⟩ := lookA_ent (s := s) hg
  rcases hc with ⟨h1, _, h3⟩ | ⟨h1, i, k, _, h3, h4⟩
  · rw [h3]; exact ⟨fun q => by omega, fun q => absurd q h1⟩
  · rw [h3]; exact ⟨fun _ => h1, fun _ => h _ h4⟩
structure Tb (H H' : Heap) (vF : AV) (o4 om ot : Nat) (E : List Ent) : Prop where
  ex : Ext H H'
  g4 : H'.get o4 = some (.cells [.nilm, .nils])
  gm : H'.get om = some (.map (E.map entc))
  gt : H'.get ot = some (.cells [.map om, vF])
  n4 : o4 ≠ om
  nt : ot ≠ om
  om0 : H.next ≤ om
  o40 : H.next ≤ o4
  ps : ∀ q, q ∈ E → 0 ≤ q.2
theorem Tb.ext {H' H2 : Heap} {vF : AV} {o4 om ot : Nat} {E : List Ent} (h : Tb H H' vF o4 om ot E) (e : Ext H' H2) : Tb H H2 vF o4 om ot E :=
  ⟨h.ex.trans e, e.keep _ _ h.g4, e.keep _ _ h.gm, e.keep _ _ h.gt, h.n4, h.nt, h.om0, h.o40, h.ps⟩
theorem Tb.upd (hw : H.Wf) {H' : Heap} {vF : AV} {o4 om ot : Nat} {E : List Ent} (h : Tb H H' vF o4 om ot E) {s : Int × Int} {k : Int} (hn : s ∉ E.map (·.1)) (hk : 0 ≤ k) :
    ∃ H2, mapUpdA H' (.flat [.int, .int]) (.map om) (.agg (pairc s)) (.int .i64 k) = some (undefA, H2) ∧ Tb H H2 vF o4 om ot (E ++ [(s, k)]) := by
  refine ⟨_, mapUpd_new (by rw [h.ex.floor]; exact Nat.le_trans hw.1 h.om0) h.gm hn, ⟨h.ex.setNew hw h.om0 (h.ex.wf.lt h.gm), ?_, get_setH.trans (if_pos rfl), ?_, h.n4, h.nt, h.om0, h.o40, ?_⟩⟩
  · rw [get_setH, if_neg h.n4]; exact h.g4
  · rw [get_setH, if_neg h.nt]; exact h.gt
  · intro q hq
    rcases List.mem_append.1 hq with r | r
    · exact h.ps q r
    · simp at r; subst r; exact hk
def edTo (F : List (List Int)) (i : Nat) (f : List Int) (j : Nat) : List Ent := tabF 0 (F.take i) ++ ((edgesF f).take j).map fun s => (s, (i : Int))
theorem edTo_zero (F : List (List Int)) (i : Nat) (f : List Int) : edTo F i f 0 = tabF 0 (F.take i) := by simp [edTo]
theorem edTo_succ {F : List (List Int)} {i : Nat} {f : List Int} {j : Nat} {s : Int × Int} (h : (edgesF f)[j]? = some s) : edTo F i f (j + 1) = edTo F i f j ++ [(s, (i : Int))] := by
  unfold edTo; rw [List.take_add_one, h]; simp
theorem edTo_all {F : List (List Int)} {i : Nat} {f : List Int} (h : F[i]? = some f) : edTo F i f f.length = tabF 0 (F.take (i + 1)) := by
  unfold edTo
  have hi : i < F.length := (List.getElem?_eq_some_iff.1 h).1
  have e : (edgesF f).take f.length = edgesF f := List.take_of_length_le (by rw [edgesF_len]; exact Nat.le_refl _)
  rw [e, List.take_add_one, h, Option.toList_some, tabF_app]
  simp [tabF, List.length_take, Nat.min_eq_left (Nat.le_of_lt hi)]
theorem edTo_dup {F : List (List Int)} {i : Nat} {f : List Int} {j : Nat} {s : Int × Int} (hf : F[i]? = some f) (h : (edgesF f)[j]? = some s) (hd : s ∈ (edTo F i f j).map (·.1)) : ¬ (F.flatMap edgesF).Nodup := by
  intro hn
  have e : F.flatMap edgesF = (F.take i).flatMap edgesF ++ ((edgesF f).take j ++ s :: (edgesF f).drop (j + 1)) ++ (F.drop (i + 1)).flatMap edgesF := by
    have h1 : F = F.take i ++ f :: F.drop (i + 1) := by rw [← drop_get hf, List.take_append_drop]
    have h2 : edgesF f = (edgesF f).take j ++ s :: (edgesF f).drop (j + 1) := by rw [← drop_get h, List.take_append_drop]
    conv => lhs; rw [h1]
    rw [List.flatMap_append, List.flatMap_cons]
    conv => lhs; rw [h2]
    simp
  rw [e] at hn
  have hd2 : s ∈ (F.take i).flatMap edgesF ++ (edgesF f).take j := by
    unfold edTo at hd
    rw [List.map_append, tabF_fst] at hd
    simpa [Function.comp_def] using hd
  have e2 : (F.take i).flatMap edgesF ++ ((edgesF f).take j ++ s :: (edgesF f).drop (j + 1)) ++ (F.drop (i + 1)).flatMap edgesF = ((F.take i).flatMap edgesF ++ (edgesF f).take j) ++ (s :: ((edgesF f).drop (j + 1) ++ (F.drop (i + 1)).flatMap edgesF)) := by simp
  rw [e2, List.nodup_append] at hn
  exact hn.2.2 s hd2 s (by simp) rfl
structure K3 (H H' : Heap) (vF : AV) (F : List (List Int)) (o4 om ot : Nat) (τ : Env) (i m : Nat) : Prop where
  tb : Tb H H' vF o4 om ot (tabF 0 (F.take i))
  nd : ((tabF 0 (F.take i)).map (·.1)).Nodup
  le : i ≤ F.length
  hm : m = F.length - i
  t4 : Env.at τ 4 = .ptr o4 0
  t10 : Env.at τ 10 = .ptr ot 0
  t60 : Env.at τ 60 = vF
  t61 : Env.at τ 61 = .int .i64 F.length
  t62 : Env.at τ 62 = .int .i64 i
structure K4 (H H' : Heap) (vF : AV) (F : List (List Int)) (f : List Int) (vr : AV) (o4 om ot : Nat) (τ : Env) (i j m : Nat) : Prop where
  tb : Tb H H' vF o4 om ot (edTo F i f j)
  nd : ((edTo F i f j).map (·.1)).Nodup
  le : j ≤ f.length
  hm : m = f.length - j
  t4 : Env.at τ 4 = .ptr o4 0
  t10 : Env.at τ 10 = .ptr ot 0
  t60 : Env.at τ 60 = vF
  t61 : Env.at τ 61 = .int .i64 F.length
  t62 : Env.at τ 62 = .int .i64 i
  t11 : Env.at τ 11 = .int .i64 i
  t12 : Env.at τ 12 = vr
  t68 : Env.at τ 68 = .int .i64 f.length
  t69 : Env.at τ 69 = .int .i64 j
structure Qtb (H H' : Heap) (vF : AV) (F : List (List Int)) (o4 om ot : Nat) (τ : Env) : Prop where
  tb : Tb H H' vF o4 om ot (tabF 0 F)
  nd : (F.flatMap edgesF).Nodup
  t4 : Env.at τ 4 = .ptr o4 0
  t10 : Env.at τ 10 = .ptr ot 0
theorem known_b (h55 : FT 55 = some (.code A55)) (h56 : FT 56 = some (.code A56)) {vF : AV} {F : List (List Int)} (hF : Gd H vF F) (hsz : ∀ f, f ∈ F → f.length ≤ 1000000000) (hl : F.length ≤ 1000000000) (hw : H.Wf) {o4 om ot : Nat} {τ0 : Env} {H0 : Heap}
    (tb0 : Tb H H0 vF o4 om ot []) (u1 : Env.at τ0 1 = vF) (u4 : Env.at τ0 4 = .ptr o4 0) (u10 : Env.at τ0 10 = .ptr ot 0) :
    Wp FT k41b τ0 H0 (fun s τ H' => (s = .next ∧ Qtb H H' vF F o4 om ot τ) ∨ (s = .ret ∧ ¬ (F.flatMap edgesF).Nodup ∧ Qbad H H' o4 80 τ)) := by
  simp [k41b, subAt, A41, u1, hF.len]
  refine Wp_loop (fun m τ H' => ∃ i, K3 H H' vF F o4 om ot τ i m) ?_ F.length _ _ ⟨0, ⟨by simpa [tabF] using tb0, by simp [tabF], by omega, by omega, by simp [u4], by simp [u10], by simp, by simp, by simp⟩⟩
  rintro m τ H1 ⟨i, ⟨tb, nd, hi, rfl, t4, t10, t60, t61, t62⟩⟩
  simp only [Wp_seq, Wp_region]
  by_cases c : i < F.length
  · obtain ⟨p, r, f, a1, a2, a3, a4⟩ := hF.idxE tb.ex (k := .i64) (i := (i : Int)) (by omega) (by omega)
    rw [Int.toNat_natCast] at a1
    have hfm := List.mem_of_getElem? a1
    have hfl := hsz f hfm
    simp [c, t60, t61, t62, a2, a3, a4.len]
    refine Wp_loop (fun m τ H' => ∃ j, K4 H H' vF F f r o4 om ot τ i j m) ?_ f.length _ _ ⟨0, ⟨by rw [edTo_zero]; exact tb, by rw [edTo_zero]; exact nd, by omega, by omega, by simp [t4], by simp [t10], by simp [t60], by simp [t61], by simp [t62], by simp, by simp, by simp, by simp⟩⟩
    rintro m τ H2 ⟨j, ⟨tb, nd, hj, rfl, t4, t10, t60, t61, t62, t11, t12, t68, t69⟩⟩
    simp only [Wp_seq, Wp_region]
    by_cases cj : j < f.length
    · simp [cj, t12, t68, t69]
      refine (edge55 h55 tb.ex.wf (a4.ext tb.ex) cj (by omega)).mono ?_
      rintro _ H3 ⟨⟨s, hs, rfl⟩, e3⟩
      have tb3 := tb.ext e3
      obtain ⟨H4, st, g4, e4, n4⟩ := store_new tb3.ex.wf (z := [.int .i64 0, .int .i64 0]) (n := 2) (x := .agg (pairc s)) (cs := pairc s) rfl rfl rfl rfl
      have tb4 := tb3.ext e4
      have lt1 : loadA H4 (some 1) (.ptr ot 0) = some (.agg [.map om]) := load_agg tb4.gt (by simp [seg])
      have lp1 : loadA H4 none (.ptr H3.next 0) = some (.int .i64 s.1) := load_get g4 rfl
      have lp2 : loadA H4 none (.ptr H3.next 1) = some (.int .i64 s.2) := load_get g4 rfl
      simp [t10, st, lt1, lp1, lp2]
      refine (left56 h56 tb4.ex.wf tb4.gm).mono ?_
      rintro _ H5 ⟨rfl, e5⟩
      have tb5 := tb4.ext e5
      have hli := look_iff tb5.ps tb5.gm s
      by_cases cd : s ∈ (edTo F i f j).map (·.1)
      · have h0 := hli.2 cd
        obtain ⟨H6, s1, s2, s3⟩ := store_whole (n := 2) (x := .agg [.nilm, .nils]) tb5.ex.wf rfl rfl (by rw [tb5.ex.floor]; exact Nat.le_trans hw.1 tb5.o40) tb5.g4 rfl rfl
        have ex6 : Ext H H6 := ⟨s3.floor.trans tb5.ex.floor, Nat.le_trans tb5.ex.next s3.next, fun o x e => s3.keep o x (by simp; have := hw.lt e; have := tb5.o40; omega) (tb5.ex.keep _ _ e), s3.wf⟩
        simp [h0, t4, s1]
        exact ⟨edTo_dup a1 hs cd, ⟨ex6, s2, by simp [t4], by simp⟩⟩
      · have h0 : ¬ 0 ≤ lookE (edTo F i f j) s := fun q => cd (hli.1 q)
        obtain ⟨H6, u1, tb6⟩ := tb5.upd hw (k := (i : Int)) cd (by omega)
        have lm : loadA H5 none (.ptr ot 0) = some (.map om) := load_get tb5.gt rfl
        have g5 := e5.keep _ _ g4
        have ls : loadA H5 (some 2) (.ptr H3.next 0) = some (.agg (pairc s)) := load_agg g5 (by simp [seg, pairc])
        have w : IntKind.i64.wrap ((j : Int) + 1) = ((j + 1 : Nat) : Int) := wrap64 (by omega) (by omega)
        simp [h0, t10, t11, t69, lm, ls, u1, w]
        have hE := edTo_succ (F := F) (i := i) hs
        refine ⟨_, ?_, j + 1, ⟨by rw [hE]; exact tb6, ?_, by omega, rfl, by simp [t4], by simp [t10], by simp [t60], by simp [t61], by simp [t62], by simp [t11], by simp [t12], by simp [t68], by simp⟩⟩
        · omega
        · rw [hE, List.map_append, List.nodup_append]
          exact ⟨nd, by simp, fun a ha b hb => by simp at hb; subst hb; exact fun q => cd (q ▸ ha)⟩
    · have hjl : j = f.length := by omega
      subst hjl
      have w : IntKind.i64.wrap ((i : Int) + 1) = ((i + 1 : Nat) : Int) := wrap64 (by omega) (by omega)
      rw [edTo_all a1] at tb nd
      simp [t68, t69, t62, w]
      exact ⟨_, by omega, i + 1, ⟨tb, nd, by omega, rfl, by simp [t4], by simp [t10], by simp [t60], by simp [t61], by simp⟩⟩
  · have hil : i = F.length := by omega
    subst hil
    rw [List.take_length] at tb nd
    simp [t61, t62]
    exact ⟨tb, by rw [← tabF_fst 0 F]; exact nd, by simp [t4], by simp [t10]⟩
theorem known41 (h41 : FT 41 = some (.code A41)) (h54 : FT 54 = some (.code A54)) (h65 : FT 65 = some (.code A65)) (h55 : FT 55 = some (.code A55)) (h56 : FT 56 = some (.code A56)) {n : Int} {vF : AV} {F : List (List Int)} (hF : Gd H vF F) (hsz : ∀ f, f ∈ F → f.length ≤ 1000000000) (hl : F.length ≤ 1000000000) (hw : H.Wf) :
    Cp FT 41 [.int .i64 n, vF] H (fun r H' => KnR H' n F vF r ∧ Ext H H') := by
  refine Cp_code A41 h41 rfl ?_
  have hA : A41.results = [.cell 4 (some 2), .tmp 5] := rfl
  rw [hA, body41]
  have e0 := Ext.push hw (.cells [.nilm, .nils])
  have g0 : (H.push (.cells [.nilm, .nils])).get H.next = some (.cells [.nilm, .nils]) := get_pushN.trans (if_pos rfl)
  obtain ⟨H2, s1, s2, s3⟩ := store_whole (n := 2) (x := .agg [.nilm, .nils]) e0.wf rfl rfl hw.1 g0 rfl rfl
  have ex2 : Ext H H2 := ⟨s3.floor.trans e0.floor, Nat.le_trans e0.next s3.next, fun o x e => s3.keep o x (by simp; have := hw.lt e; omega) (e0.keep _ _ e), s3.wf⟩
  have s2' := cellsAt_get s2
  have bad : (n < 0 ∨ 1048576 < n) → chkF n F = 2 := fun h => by unfold chkF; rw [if_neg]; exact fun q => by have := q.1; omega
  generalize hka : k41a = ka
  generalize hkb : k41b = kb
  by_cases c1 : n < 0
  · have hb := bad (.inl c1)
    simp [A41, putAt, c1, s1, resultsA, resultA, s2', partA, seg, packA]
    exact ⟨⟨.agg [.nilm, .nils], by rw [hb], rfl, rfl, fun q => by rw [hb] at q; cases q⟩, ex2⟩
  by_cases c2 : 1048576 < n
  · have hb := bad (.inr c2)
    simp [A41, putAt, c1, c2, s1, resultsA, resultA, s2', partA, seg, packA]
    exact ⟨⟨.agg [.nilm, .nils], by rw [hb], rfl, rfl, fun q => by rw [hb] at q; cases q⟩, ex2⟩
  simp [A41, putAt, c1, c2]
  rw [← hka]
  refine (known_a (n := n) h54 h65 hF hsz hl hw (Nat.le_refl _) e0 g0 (by simp) (by simp) (by simp) (by omega)).mono ?_
  rintro s τ H3 (⟨rfl, hok, ex3, g3, t0, t1, t4⟩ | ⟨rfl, hb, ex3, g3, t4, t5⟩)
  · have hall : (0 ≤ n ∧ n ≤ 1048576) ∧ ∀ f, f ∈ F → rowOk n f := ⟨by omega, by unfold fOkTo at hok; rwa [List.take_length] at hok⟩
    have hone := hF.one
    have em := Ext.push ex3.wf (.map [])
    have gm : (H3.push (.map [])).get H3.next = some (.map []) := get_pushN.trans (if_pos rfl)
    have nxm : (H3.push (.map [])).next = H3.next + 1 := rfl
    have hon : allOne [.map H3.next, vF] = true := by simp [allOne_of hone.1]
    obtain ⟨H4, st, g4, e4, n4⟩ := store_new em.wf (z := [.nilm, .nils]) (n := 2) (x := .agg [.map H3.next, vF]) (cs := [.map H3.next, vF]) rfl rfl rfl hon
    have tb : Tb H H4 vF H.next H3.next (H3.next + 1) [] := by
      have hlt := ex3.wf.lt g3
      exact ⟨(ex3.trans em).trans e4, e4.keep _ _ (em.keep _ _ g3), e4.keep _ _ gm, g4, by omega, by omega, ex3.next, Nat.le_refl _, by simp⟩
    have f0 : ∀ (e : Opd → AV) (o : Nat) (r : List (Nat × Nat × Opd)), fillV e [.nilm, .nils] 0 1 (.agg [.map o]) r = fillA e [.map o, .nils] r := fun e o r => by
      simp [fillV]
    have f1 : ∀ (e : Opd → AV) (o : Nat) (r : List (Nat × Nat × Opd)), fillV e [.map o, .nils] 1 1 vF r = fillA e [.map o, vF] r := fun e o r => by
      simp [fillV, hone.2, allOne_of hone.1]
    have st' : storeA ((H3.push (.map [])).push (.cells [.nilm, .nils])) 2 (.ptr (H3.next + 1) 0) (.agg [.map H3.next, vF]) = some (undefA, H4) := st
    simp [t1, f0, f1, st']
    rw [← hkb]
    refine (known_b h55 h56 hF hsz hl hw tb (by simp [t1]) (by simp [t4]) (by simp)).mono ?_
    rintro s τ H5 (⟨rfl, tb5, nd, t4, t10⟩ | ⟨rfl, hd, ex5, g5, t4, t5⟩)
    · have hz : chkF n F = 0 := by unfold chkF; rw [if_pos hall, if_pos nd]
      have l91 : loadA H5 (some 2) (.ptr (H3.next + 1) 0) = some (.agg [.map H3.next, vF]) := load_agg tb5.gt (by simp [seg])
      obtain ⟨H6, u1, u2, u3⟩ := store_whole (n := 2) (x := .agg [.map H3.next, vF]) (xs := [.map H3.next, vF]) tb5.ex.wf rfl rfl (by rw [tb5.ex.floor]; exact hw.1) tb5.g4 rfl hon
      have ex6 : Ext H H6 := ⟨u3.floor.trans tb5.ex.floor, Nat.le_trans tb5.ex.next u3.next, fun o x e => u3.keep o x (by simp; have := hw.lt e; omega) (tb5.ex.keep _ _ e), u3.wf⟩
      have u2' := cellsAt_get u2
      have gm6 := u3.keep _ _ (by simp; have := tb5.n4; omega) tb5.gm
      simp [t4, t10, l91, u1, resultsA, resultA, u2', partA, seg, packA]
      exact ⟨⟨.agg [.map H3.next, vF], by rw [hz], rfl, hon, fun _ => ⟨_, rfl, gm6⟩⟩, ex6⟩
    · have hb : chkF n F = 80 := by unfold chkF; rw [if_pos hall, if_neg hd]
      have g5' := cellsAt_get g5
      simp [t4, t5, resultsA, resultA, g5', partA, seg, packA]
      exact ⟨⟨.agg [.nilm, .nils], by rw [hb], rfl, rfl, fun q => by rw [hb] at q; cases q⟩, ex5⟩
  · have g3' := cellsAt_get g3
    simp [t4, t5, resultsA, resultA, g3', partA, seg, packA]
    exact ⟨⟨.agg [.nilm, .nils], by rw [hb], rfl, rfl, fun q => by rw [hb] at q; cases q⟩, ex3⟩
theorem check23 (h23 : FT 23 = some (.code A23)) (h41 : FT 41 = some (.code A41)) (h54 : FT 54 = some (.code A54)) (h65 : FT 65 = some (.code A65)) (h55 : FT 55 = some (.code A55)) (h56 : FT 56 = some (.code A56)) {n : Int} {vF : AV} {F : List (List Int)} (hF : Gd H vF F) (hsz : ∀ f, f ∈ F → f.length ≤ 1000000000) (hl : F.length ≤ 1000000000) (hw : H.Wf) :
    Cp FT 23 [.int .i64 n, vF] H (fun r H' => r = .int .i64 (chkF n F) ∧ Ext H H') := by
  refine Cp_code A23 h23 rfl ?_
  simp [A23]
  refine (known41 h41 h54 h65 h55 h56 hF hsz hl hw).mono ?_
  rintro _ H1 ⟨⟨m, rfl, hm, ho, _⟩, e1⟩
  obtain ⟨H2, st, g2, e2, n2⟩ := store_new e1.wf (z := [.nilm, .nils]) (n := 2) (x := m) (cs := m.cells) rfl hm rfl ho
  simp [st]
  exact e1.trans e2
end
end Go.Proofs.YtacfhbhfgbjleaaDoor

/- May a mesh be, as the program asks it. No claim by itself. -/
namespace Go.Proofs.YtacfhbhfgbjleaaDoor
open Go Go.AI
section
variable {FT : Nat → Option FnD} {H : Heap}
def fitTo (P : List (Int × Int)) (i : Nat) : Prop := ∀ p, p ∈ P.take i → fitP p
instance (p : Int × Int) : Decidable (fitP p) := by unfold fitP; infer_instance
def allFit (P : List (Int × Int)) : Bool := decide (∀ p, p ∈ P → fitP p)
theorem allFit_no {P : List (Int × Int)} {p : Int × Int} (h : p ∈ P) (hb : ¬ fitP p) : allFit P = false := by
  unfold allFit; exact decide_eq_false fun q => hb (q p h)
structure Ft (H H' : Heap) (v : AV) (P : List (Int × Int)) (τ : Env) (i m : Nat) : Prop where
  ex : Ext H H'
  le : i ≤ P.length
  hm : m = P.length - i
  ok : fitTo P i
  t5 : Env.at τ 5 = v
  t6 : Env.at τ 6 = .int .i64 P.length
  t7 : Env.at τ 7 = .int .i64 i
theorem fits22 (h22 : FT 22 = some (.code A22)) {v : AV} {P : List (Int × Int)} (h : Pairs H v P) (hl : P.length ≤ 1000000000) (hw : H.Wf) :
    Cp FT 22 [v] H (fun r H' => r = .bool (allFit P) ∧ Ext H H') := by
  refine Cp_code A22 h22 rfl ?_
  simp [A22, h.len]
  refine Wp_loop (fun m τ H' => ∃ i, Ft H H' v P τ i m) ?_ P.length _ _ ⟨0, ⟨Ext.refl hw, by omega, by omega, by simp [fitTo], by simp, by simp, by simp⟩⟩
  rintro m τ H1 ⟨i, ⟨ex, hi, rfl, hok, t5, t6, t7⟩⟩
  simp only [Wp_seq, Wp_region]
  by_cases c : i < P.length
  · obtain ⟨p, x, a1, a2, a3, _⟩ := Sl.idx (h.ext ex) (k := .i64) (i := (i : Int)) (by omega) (by omega)
    rw [Int.toNat_natCast] at a1
    have hm := List.mem_of_getElem? a1
    obtain ⟨H2, st, g2, e2, n2⟩ := store_new ex.wf (z := [.int .i64 0, .int .i64 0]) (n := 2) (x := .agg (pairc x)) (cs := pairc x) rfl rfl rfl rfl
    have lx : loadA H2 none (.ptr H1.next 0) = some (.int .i64 x.1) := load_get g2 rfl
    have ly : loadA H2 none (.ptr H1.next 1) = some (.int .i64 x.2) := load_get g2 rfl
    by_cases c1 : x.1 < -4294967296
    · have hb := allFit_no hm (fun q => by have := q.1; omega)
      simp [c, t5, t6, t7, a2, a3, st, lx, c1, hb]
      exact ex.trans e2
    by_cases c2 : 4294967296 < x.1
    · have hb := allFit_no hm (fun q => by have := q.1; omega)
      simp [c, t5, t6, t7, a2, a3, st, lx, c1, c2, hb]
      exact ex.trans e2
    by_cases c3 : x.2 < -4294967296
    · have hb := allFit_no hm (fun q => by have := q.2; omega)
      simp [c, t5, t6, t7, a2, a3, st, lx, ly, c1, c2, c3, hb]
      exact ex.trans e2
    by_cases c4 : 4294967296 < x.2
    · have hb := allFit_no hm (fun q => by have := q.2; omega)
      simp [c, t5, t6, t7, a2, a3, st, lx, ly, c1, c2, c3, c4, hb]
      exact ex.trans e2
    have w : IntKind.i64.wrap ((i : Int) + 1) = ((i + 1 : Nat) : Int) := wrap64 (by omega) (by omega)
    have hok1 : fitTo P (i + 1) := by
      intro q hq
      rw [List.take_add_one, a1] at hq
      rcases List.mem_append.1 hq with r | r
      · exact hok q r
      · simp at r; subst r; exact ⟨by omega, by omega⟩
    simp [c, t5, t6, t7, a2, a3, st, lx, ly, c1, c2, c3, c4, w]
    exact ⟨_, by omega, i + 1, ⟨ex.trans e2, by omega, rfl, hok1, by simp [t5], by simp [t6], by simp⟩⟩
  · have hil : i = P.length := by omega
    subst hil
    have hall : allFit P = true := by unfold allFit; refine decide_eq_true ?_; unfold fitTo at hok; rwa [List.take_length] at hok
    simp [t6, t7, hall]
    exact ex
/-- The used places. -/
def ub (n : Nat) (S : List Int) : List AV := (List.range n).map fun (i : Nat) => AV.bool (decide ((i : Int) ∈ S))
theorem ub_len (n : Nat) (S : List Int) : (ub n S).length = n := by simp [ub]
theorem ub_get {n : Nat} {S : List Int} {i : Nat} (h : i < n) : (ub n S)[i]? = some (.bool (decide ((i : Int) ∈ S))) := by simp [ub, h]
theorem ub_set {n : Nat} {S : List Int} {k : Int} (h0 : 0 ≤ k) (_h1 : k < n) : (ub n S).set k.toNat (.bool true) = ub n (S ++ [k]) := by
  apply List.ext_getElem?
  intro i
  by_cases hi : i < n
  · rw [List.getElem?_set, ub_get (S := S) hi, ub_get (S := S ++ [k]) hi, ub_len]
    by_cases q : k.toNat = i
    · have : (i : Int) = k := by omega
      simp [q, hi, this]
    · have : ¬ (i : Int) = k := by omega
      simp [q, this]
  · rw [List.getElem?_eq_none (by rw [List.length_set, ub_len]; omega), List.getElem?_eq_none (by rw [ub_len]; omega)]
theorem ub_zero (n : Nat) : (List.replicate n [AV.bool false]).flatten = ub n [] := by
  rw [List.flatten_replicate_singleton]
  apply List.ext_getElem?
  intro i
  by_cases hi : i < n
  · rw [ub_get hi, List.getElem?_replicate]; simp [hi]
  · rw [List.getElem?_eq_none (by simp; omega), List.getElem?_eq_none (by rw [ub_len]; omega)]
structure Us (H H' : Heap) (ou n : Nat) (S : List Int) : Prop where
  ex : Ext H H'
  gu : H'.get ou = some (.cells (ub n S))
  o0 : H.next ≤ ou
theorem Us.set (hw : H.Wf) {H' : Heap} {ou n : Nat} {S : List Int} (h : Us H H' ou n S) {k : Int} (h0 : 0 ≤ k) (h1 : k < n) :
    ∃ H2, storeA H' 1 (.ptr ou k.toNat) (.bool true) = some (undefA, H2) ∧ Us H H2 ou n (S ++ [k]) := by
  obtain ⟨H2, a, b, c⟩ := store_cell (o := ou) (off := k.toNat) (x := .bool true) h.ex.wf (by rw [h.ex.floor]; exact Nat.le_trans hw.1 h.o0) h.gu (by rw [ub_len]; omega) rfl
  rw [ub_set h0 h1] at b
  exact ⟨H2, a, ⟨⟨c.floor.trans h.ex.floor, Nat.le_trans h.ex.next c.next, fun o x e => c.keep o x (by simp; have := hw.lt e; have := h.o0; omega) (h.ex.keep _ _ e), c.wf⟩, b, h.o0⟩⟩
def usedTo (F : List (List Int)) (i : Nat) (f : List Int) (j : Nat) : List Int := (F.take i).flatten ++ f.take j
structure K5 (H H' : Heap) (n : Nat) (vF : AV) (F : List (List Int)) (ou : Nat) (τ : Env) (i m : Nat) : Prop where
  us : Us H H' ou n (F.take i).flatten
  le : i ≤ F.length
  hm : m = F.length - i
  f4 : ∀ f, f ∈ F.take i → f.length ≤ 4
  t6 : Env.at τ 6 = .slc ou 0 n 1 n true
  t55 : Env.at τ 55 = vF
  t56 : Env.at τ 56 = .int .i64 F.length
  t57 : Env.at τ 57 = .int .i64 i
structure K6 (H H' : Heap) (n : Nat) (vF : AV) (F : List (List Int)) (f : List Int) (vr : AV) (ou : Nat) (τ : Env) (i j m : Nat) : Prop where
  us : Us H H' ou n (usedTo F i f j)
  le : j ≤ f.length
  hm : m = f.length - j
  t6 : Env.at τ 6 = .slc ou 0 n 1 n true
  t55 : Env.at τ 55 = vF
  t56 : Env.at τ 56 = .int .i64 F.length
  t57 : Env.at τ 57 = .int .i64 i
  t64 : Env.at τ 64 = vr
  t65 : Env.at τ 65 = .int .i64 f.length
  t66 : Env.at τ 66 = .int .i64 j
structure K7 (H1 H' : Heap) (n : Nat) (S : List Int) (ou : Nat) (τ : Env) (i m : Nat) : Prop where
  eq : H1 = H'
  le : i ≤ n
  hm : m = n - i
  ok : ∀ k : Nat, k < i → (k : Int) ∈ S
  t75 : Env.at τ 75 = .slc ou 0 n 1 n true
  t76 : Env.at τ 76 = .int .i64 n
  t77 : Env.at τ 77 = .int .i64 i
def k13a : ACode := subAt [1,1,1,1,0] A13.body
def k13b : ACode := subAt [1,1,1,1,1] A13.body
theorem body13 : A13.body = putAt [1,1,1,1,1] (putAt [1,1,1,1,0] A13.body k13a) k13b := rfl
structure Qus (H H' : Heap) (n : Nat) (F : List (List Int)) (ou : Nat) (τ : Env) : Prop where
  us : Us H H' ou n F.flatten
  f4 : ∀ f, f ∈ F → f.length ≤ 4
  t6 : Env.at τ 6 = .slc ou 0 n 1 n true
theorem check13a {n : Nat} {vF : AV} {F : List (List Int)} (hF : Gd H vF F) (hl : F.length ≤ 1000000000) (hin : ∀ f, f ∈ F → ∀ k, k ∈ f → 0 ≤ k ∧ k < n) (hw : H.Wf) {ob ou : Nat} {τ0 : Env} {H0 : Heap}
    (us0 : Us H H0 ou n []) (l0 : loadA H0 none (.ptr ob 2) = some vF) (u1 : Env.at τ0 1 = .ptr ob 0) (u6 : Env.at τ0 6 = .slc ou 0 n 1 n true) :
    Wp FT k13a τ0 H0 (fun s τ H' => (s = .next ∧ Qus H H' n F ou τ) ∨ (s = .ret ∧ (∃ f, f ∈ F ∧ 4 < f.length) ∧ Ext H H' ∧ Env.at τ 2 = .int .i64 2)) := by
  simp [k13a, subAt, A13, u1, l0, hF.len]
  refine Wp_loop (fun m τ H' => ∃ i, K5 H H' n vF F ou τ i m) ?_ F.length _ _ ⟨0, ⟨by simpa using us0, by omega, by omega, by simp, by simp [u6], by simp, by simp, by simp⟩⟩
  rintro m τ H1 ⟨i, ⟨us, hi, rfl, f4, t6, t55, t56, t57⟩⟩
  simp only [Wp_seq, Wp_region]
  by_cases c : i < F.length
  · obtain ⟨p, r, f, a1, a2, a3, a4⟩ := hF.idxE us.ex (k := .i64) (i := (i : Int)) (by omega) (by omega)
    rw [Int.toNat_natCast] at a1
    have hfm := List.mem_of_getElem? a1
    have hti : ∀ S : List Int, usedTo F i f 0 = (F.take i).flatten := fun _ => by simp [usedTo]
    have htl : usedTo F i f f.length = (F.take (i + 1)).flatten := by
      unfold usedTo; rw [List.take_length, List.take_add_one, a1]; simp
    by_cases c4 : 4 < f.length
    · have c4' : (4 : Int) < f.length := by omega
      simp [c, t55, t56, t57, a2, a3, a4.len, c4']
      exact ⟨⟨f, hfm, c4⟩, us.ex⟩
    · have c4' : ¬ (4 : Int) < f.length := by omega
      simp [c, t55, t56, t57, a2, a3, a4.len, c4']
      refine Wp_loop (fun m τ H' => ∃ j, K6 H H' n vF F f r ou τ i j m) ?_ f.length _ _ ⟨0, ⟨by rw [hti []]; exact us, by omega, by omega, by simp [t6], by simp [t55], by simp [t56], by simp [t57], by simp, by simp, by simp⟩⟩
      rintro m τ H2 ⟨j, ⟨us, hj, rfl, t6, t55, t56, t57, t64, t65, t66⟩⟩
      simp only [Wp_seq, Wp_region]
      by_cases cj : j < f.length
      · obtain ⟨q, x, b1, b2, b3⟩ := Ints.idx ((a4.ext us.ex).sl i64c_len) (k := .i64) (i := (j : Int)) (by omega) (by omega)
        rw [Int.toNat_natCast] at b1
        obtain ⟨x0, x1⟩ := hin f hfm x (List.mem_of_getElem? b1)
        obtain ⟨H3, s1, us3⟩ := us.set hw x0 x1
        have w : IntKind.i64.wrap ((j : Int) + 1) = ((j + 1 : Nat) : Int) := wrap64 (by omega) (by omega)
        have hs : usedTo F i f (j + 1) = usedTo F i f j ++ [x] := by unfold usedTo; rw [List.take_add_one, b1]; simp
        simp [cj, t6, t64, t65, t66, b2, b3, x0, x1, s1, w]
        exact ⟨_, by omega, j + 1, ⟨by rw [hs]; exact us3, by omega, rfl, by simp [t6], by simp [t55], by simp [t56], by simp [t57], by simp [t64], by simp [t65], by simp⟩⟩
      · have hjl : j = f.length := by omega
        subst hjl
        have w : IntKind.i64.wrap ((i : Int) + 1) = ((i + 1 : Nat) : Int) := wrap64 (by omega) (by omega)
        rw [htl] at us
        simp [t57, t65, t66, w]
        refine ⟨_, by omega, i + 1, ⟨us, by omega, rfl, ?_, by simp [t6], by simp [t55], by simp [t56], by simp⟩⟩
        intro g hg
        rw [List.take_add_one, a1] at hg
        rcases List.mem_append.1 hg with q | q
        · exact f4 g q
        · simp at q; subst q; omega
  · have hil : i = F.length := by omega
    subst hil
    rw [List.take_length] at us f4
    simp [t56, t57]
    exact ⟨us, f4, by simp [t6]⟩
theorem check13b {n : Nat} {S : List Int} {ou : Nat} {τ0 : Env} {H1 : Heap} (hn : n ≤ 1000000000) (gu : H1.get ou = some (.cells (ub n S))) (u6 : Env.at τ0 6 = .slc ou 0 n 1 n true) :
    Wp FT k13b τ0 H1 (fun s τ H' => s = .ret ∧ H' = H1 ∧ ((∀ k : Nat, k < n → (k : Int) ∈ S) ∧ Env.at τ 2 = .int .i64 0 ∨ (∃ k : Nat, k < n ∧ (k : Int) ∉ S) ∧ Env.at τ 2 = .int .i64 2)) := by
  simp [k13b, subAt, A13, u6]
  refine Wp_loop (fun m τ H' => ∃ i, K7 H1 H' n S ou τ i m) ?_ n _ _ ⟨0, ⟨rfl, by omega, by omega, by omega, by simp, by simp, by simp⟩⟩
  rintro m τ _ ⟨i, ⟨rfl, hi, rfl, ok, t75, t76, t77⟩⟩
  simp only [Wp_seq, Wp_region]
  by_cases c : i < n
  · have ld : loadA H1 none (.ptr ou i) = some (.bool (decide ((i : Int) ∈ S))) := load_get gu (ub_get c)
    by_cases q : (i : Int) ∈ S
    · have w : IntKind.i64.wrap ((i : Int) + 1) = ((i + 1 : Nat) : Int) := wrap64 (by omega) (by omega)
      simp [c, t75, t76, t77, ld, q, w]
      refine ⟨_, by omega, i + 1, ⟨rfl, by omega, rfl, fun k hk => ?_, by simp [t75], by simp [t76], by simp⟩⟩
      by_cases hki : k = i
      · rw [hki]; exact q
      · exact ok k (by omega)
    · simp [c, t75, t76, t77, ld, q]
      exact ⟨i, c, q⟩
  · have hil : i = n := by omega
    subst hil
    simp [t76, t77]
    exact ok
/-- A mesh in memory: its places, its number, its faces. -/
structure Mo (H : Heap) (vP vF : AV) (P : List (Int × Int)) (F : List (List Int)) : Prop where
  p : Pairs H vP P
  f : Gd H vF F
theorem Mo.ext {H H' : Heap} {vP vF : AV} {P : List (Int × Int)} {F : List (List Int)} (h : Mo H vP vF P F) (e : Ext H H') : Mo H' vP vF P F := ⟨h.p.ext e, h.f.ext e⟩
theorem Mo.one {H : Heap} {vP vF : AV} {P : List (Int × Int)} {F : List (List Int)} (h : Mo H vP vF P F) (W : Int) : allOne [vP, .int .i64 W, vF] = true := by
  rw [allOne_of h.p.one.1, allOne_int, allOne_of h.f.one.1]; rfl
/-- Not too large for words to be counted. -/
structure Sz (P : List (Int × Int)) (F : List (List Int)) : Prop where
  p : P.length ≤ 1000000000
  f : F.length ≤ 1000000000
  r : ∀ f, f ∈ F → f.length ≤ 1000000000
  t : F.flatten.length ≤ 1000000000
abbrev H13 (FT : Nat → Option FnD) : Prop := FT 13 = some (.code A13) ∧ FT 22 = some (.code A22) ∧ FT 23 = some (.code A23) ∧ FT 41 = some (.code A41) ∧ FT 54 = some (.code A54) ∧ FT 65 = some (.code A65) ∧ FT 55 = some (.code A55) ∧ FT 56 = some (.code A56) ∧
  FT 24 = some (.code A24) ∧ FT 42 = some (.code A42) ∧ FT 57 = some (.code A57) ∧ FT 66 = some (.code A66) ∧ FT 58 = some (.code A58) ∧ FT 59 = some (.code A59)
theorem check13 (hh : H13 FT) (hw : H.Wf) {vP vF : AV} {P : List (Int × Int)} {W : Int} {F : List (List Int)} (h : Mo H vP vF P F) (hz : Sz P F) :
    Cp FT 13 [.agg [vP, .int .i64 W, vF]] H (fun r H' => r = .int .i64 (chkO P W F) ∧ Ext H H') := by
  obtain ⟨h13, h22, h23, h41, h54, h65, h55, h56, h24, h42, h57, h66, h58, h59⟩ := hh
  refine Cp_code A13 h13 rfl ?_
  have hA : A13.results = [.tmp 2] := rfl
  rw [hA, body13]
  have hone := h.one W
  have e0 := Ext.push hw (.cells [vP, .int .i64 W, vF])
  have g0 : (H.push (.cells [vP, .int .i64 W, vF])).get H.next = some (.cells [vP, .int .i64 W, vF]) := get_pushN.trans (if_pos rfl)
  generalize hP0 : H.push (.cells [vP, .int .i64 W, vF]) = H0 at *
  have l0 : loadA H0 none (.ptr H.next 0) = some vP := load_get g0 rfl
  have l1 : loadA H0 none (.ptr H.next 1) = some (.int .i64 W) := load_get g0 rfl
  have l2 : loadA H0 none (.ptr H.next 2) = some vF := load_get g0 rfl
  generalize hka : k13a = ka
  generalize hkb : k13b = kb
  have hno : ¬ ValidO P W F → chkO P W F = 2 := chkO_no
  by_cases c1 : F = []
  · have hb := hno (fun q => q.ne c1)
    subst c1
    have hfl := h.f.len
    simp [A13, putAt, hone, hP0, l2, hfl, hb]
    exact e0
  have hpos : ¬ F.length = 0 := fun q => c1 (List.length_eq_zero_iff.1 q)
  have hfl := h.f.len
  by_cases c2 : W < 1
  · have hb := hno (fun q => by have := q.w0; omega)
    simp [A13, putAt, hone, hP0, l1, l2, hfl, hpos, c2, hb]
    exact e0
  by_cases c3 : 1048576 < W
  · have hb := hno (fun q => by have := q.w1; omega)
    simp [A13, putAt, hone, hP0, l1, l2, hfl, hpos, c2, c3, hb]
    exact e0
  simp [A13, putAt, hone, hP0, l0, l1, l2, hfl, hpos, c2, c3]
  refine (fits22 h22 (h.p.ext e0) hz.p e0.wf).mono ?_
  rintro _ H1 ⟨rfl, e1⟩
  have ex1 := e0.trans e1
  have m0 : loadA H1 none (.ptr H.next 0) = some vP := load_ext l0 e1
  have m2 : loadA H1 none (.ptr H.next 2) = some vF := load_ext l2 e1
  by_cases c4' : ¬ allFit P = true
  · have hb := hno (fun q => c4' (by unfold allFit; exact decide_eq_true q.ps))
    have c4' : allFit P = false := by simpa using c4'
    simp [c4', hb]
    exact ex1
  have c4 : allFit P = true := Classical.not_not.1 c4'
  have hfit : ∀ p, p ∈ P → fitP p := by unfold allFit at c4; exact of_decide_eq_true c4
  simp [c4, m0, m2, h.p.len]
  refine (check23 h23 h41 h54 h65 h55 h56 (h.f.ext ex1) hz.r hz.f ex1.wf).mono ?_
  rintro _ H2 ⟨rfl, e2⟩
  have ex2 := ex1.trans e2
  by_cases c5' : ¬ chkF P.length F = 0
  · have hb := hno (fun q => c5' (chkF_ok.2 q.fo))
    simp [c5', hb]
    exact ex2
  have c5 : chkF P.length F = 0 := Classical.not_not.1 c5'
  have hfo := chkF_ok.1 c5
  have n0 := load_ext m0 e2
  simp [c5, n0]
  refine (twice24 h24 h42 h57 h66 h58 h59 ex2.wf (h.p.ext ex2) hz.p).mono ?_
  rintro _ H3 ⟨⟨x, y, t, rfl, ht⟩, e3⟩
  have ex3 := ex2.trans e3
  cases t with
  | true =>
    have hb := hno (fun q => (ht.1 rfl) q.pd)
    simp [hb]
    exact ex3
  | false =>
    have hnd : P.Nodup := Classical.byContradiction fun q => by have := ht.2 q; cases this
    have o0 := load_ext n0 e3
    have o2 := load_ext (load_ext m2 e2) e3
    have hmk : makeSlA H3 1 1 [.bool false] (.int .i64 (P.length : Int)) (.int .i64 (P.length : Int)) = some (.slc H3.next 0 P.length 1 P.length true, H3.push (.cells (ub P.length []))) := by
      have hp := hz.p
      unfold makeSlA
      simp only
      rw [if_pos ⟨by omega, by omega, by omega, by omega⟩, ← ub_zero]
      simp
    have e4 := Ext.push ex3.wf (.cells (ub P.length []))
    have us0 : Us H (H3.push (.cells (ub P.length []))) H3.next P.length [] := ⟨ex3.trans e4, get_pushN.trans (if_pos rfl), ex3.next⟩
    simp [o0, h.p.len, hmk]
    rw [← hka]
    refine (check13a h.f hz.f (fun f hf => (hfo.fs f hf).2.2) hw us0 (load_ext o2 e4) (by simp) (by simp)).mono ?_
    rintro s τ H4 (⟨rfl, us, f4, t6⟩ | ⟨rfl, ⟨f, hf, h4⟩, ex4, t2⟩)
    · simp
      rw [← hkb]
      refine (check13b hz.p us.gu t6).mono ?_
      rintro s τ _ ⟨rfl, rfl, ⟨hall, t2⟩ | ⟨⟨k, hk, hn⟩, t2⟩⟩
      · have hv : ValidO P W F := ⟨c1, by omega, by omega, hfit, hfo, f4, hnd, fun i hi => by
          obtain ⟨f, hf, hm⟩ := List.mem_flatten.1 (hall i hi); exact ⟨f, hf, hm⟩⟩
        simp [t2, chkO_ok hv]
        exact us.ex
      · have hb := hno (fun q => by
          obtain ⟨f, hf, hm⟩ := q.us k hk; exact hn (List.mem_flatten.2 ⟨f, hf, hm⟩))
        simp [t2, hb]
        exact us.ex
    · have hb := hno (fun q => by have := q.f4 f hf; omega)
      simp [t2, hb]
      exact ex4
end
end Go.Proofs.YtacfhbhfgbjleaaDoor

/- A mesh's text, as the program writes it. No claim by itself. -/
namespace Go.Proofs.YtacfhbhfgbjleaaDoor
open Go Go.AI
section
variable {FT : Nat → Option FnD} {H H' : Heap}
theorem Rw.extC' {α : Type} {e : Nat} {enc : α → List AV} {v : AV} {xs : List α} (h : Rw e enc H v xs) (k : ExtC H H') : Rw e enc H' v xs := by
  refine ⟨?_, h.cap⟩
  rcases h.sw with q | ⟨o, off, lo, ex, rfl, q⟩
  · exact .inl q
  · refine .inr ⟨o, off, lo, ex, rfl, ?_⟩
    unfold Heap.readSeg at q ⊢
    cases hc : H.cellsAt o with
    | none => rw [hc] at q; cases q
    | some cs => rw [cellsAt_get (k.keep _ _ (get_cellsAt hc))]; rw [hc] at q; exact q
theorem Gd.extC' {v : AV} {F : List (List Int)} (h : Gd H v F) (k : ExtC H H') : Gd H' v F := by
  obtain ⟨rs, a, b, c⟩ := h.ex; exact ⟨rs, Rw.extC' a k, b, fun i r f q1 q2 => Rw.extC' (c i r f q1 q2) k⟩
theorem Mo.extC {vP vF : AV} {P : List (Int × Int)} {F : List (List Int)} (h : Mo H vP vF P F) (k : ExtC H H') : Mo H' vP vF P F := ⟨h.p.extC k, Gd.extC' h.f k⟩
theorem rw_lit {α : Type} {e : Nat} {enc : α → List AV} (hn : ∀ x, (enc x).length = e) {o : Nat} {xs : List α} (hg : H.get o = some (.cells (xs.flatMap enc))) (n : Nat) (hl : xs.length = n) (ex : Bool) : Rw e enc H (.slc o 0 n e n ex) xs := by
  subst hl
  refine ⟨.inr ⟨o, 0, xs.length, ex, rfl, ?_⟩, by simp [capOk]⟩
  unfold Heap.readSeg
  rw [cellsAt_get hg]
  exact seg_all (by rw [flat_len hn])
theorem joinP_cons (w x : List Nat) (r : List (List Nat)) : joinP (w :: x :: r) = w ++ 32 :: joinP (x :: r) := by simp [joinP]
theorem rend_joinQ : ∀ (ws : List (List Nat)), ws ≠ [] → rend (joinQ ws) = joinS ws
  | [], h => absurd rfl h
  | [w], _ => by simp [joinQ, rend, joinS, joinP]
  | w :: x :: r, _ => by
    have ih := rend_joinQ (x :: r) (by simp)
    have e : joinQ (w :: x :: r) = (w, [32]) :: joinQ (x :: r) := rfl
    have e2 : rend ((w, [32]) :: joinQ (x :: r)) = w ++ 32 :: rend (joinQ (x :: r)) := by simp [rend]
    rw [e, e2, ih]
    unfold joinS
    rw [if_neg (by simp), if_neg (by simp), joinP_cons]
    simp
/-- The text of the first places; of faces. -/
def txP (W : Int) (P : List (Int × Int)) : List Nat := rend (P.flatMap fun p => joinQ (placeT W p))
def txF (F : List (List Int)) : List Nat := rend (F.flatMap fun f => joinQ (faceT f))
theorem textO_eq (P : List (Int × Int)) (W : Int) (F : List (List Int)) : textO P W F = txP W P ++ txF F := by
  unfold textO wordsO txP txF; rw [rend_app]
theorem txP_snoc (W : Int) (P : List (Int × Int)) (p : Int × Int) : txP W (P ++ [p]) = txP W P ++ joinS (vS :: [p.1, p.2, 0, W].map itoaN) := by
  have h0 : itoaN 0 = [48] := rfl
  unfold txP
  rw [List.flatMap_append, rend_app]
  congr 1
  simp only [List.flatMap_cons, List.flatMap_nil, List.append_nil]
  rw [rend_joinQ _ (by simp [placeT])]
  simp [placeT, h0]
theorem txF_snoc (F : List (List Int)) (f : List Int) : txF (F ++ [f]) = txF F ++ joinS (fS :: (f.map (· + 1)).map itoaN) := by
  unfold txF
  rw [List.flatMap_append, rend_app]
  congr 1
  simp only [List.flatMap_cons, List.flatMap_nil, List.append_nil]
  rw [rend_joinQ _ (by simp [faceT])]
  simp [faceT, Function.comp_def]
theorem row_len (w : List Nat) (ns : List Int) (hw : w.length ≤ 10) (hn : ns.length ≤ 10) : (joinS (w :: ns.map itoaN)).length ≤ 300 := by
  have h1 := joinS_len (w :: ns.map itoaN)
  have h : tot (ns.map itoaN) ≤ ns.length * 27 := by
    clear hn h1
    induction ns with
    | nil => simp [tot]
    | cons n ns ih => have := itoaN_len n; simp [tot] at ih ⊢; omega
  have : tot (w :: ns.map itoaN) = w.length + 1 + tot (ns.map itoaN) := by simp [tot]
  omega
theorem snoc_ind {α : Type} {motive : List α → Prop} (nil : motive []) (snoc : ∀ l a, motive l → motive (l ++ [a])) : ∀ l, motive l := by
  have h : ∀ (n : Nat) (l : List α), l.length = n → motive l := by
    intro n
    induction n with
    | zero => intro l hl; rw [List.length_eq_zero_iff.1 hl]; exact nil
    | succ n ih =>
      intro l hl
      have hne : l ≠ [] := by intro q; subst q; simp at hl
      rw [← List.dropLast_concat_getLast hne]
      exact snoc _ _ (ih _ (by rw [List.length_dropLast]; omega))
  exact fun l => h l.length l rfl
theorem txP_len (W : Int) (P : List (Int × Int)) : (txP W P).length ≤ 300 * P.length := by
  induction P using snoc_ind with
  | nil => simp [txP, rend]
  | snoc P p ih =>
    have := row_len vS [p.1, p.2, 0, W] (by decide) (by simp)
    rw [txP_snoc, List.length_append, List.length_append, List.length_singleton]; omega
theorem txF_len {F : List (List Int)} (h : ∀ f, f ∈ F → f.length ≤ 10) : (txF F).length ≤ 300 * F.length := by
  induction F using snoc_ind with
  | nil => simp [txF, rend]
  | snoc F f ih =>
    have := row_len fS (f.map (· + 1)) (by decide) (by simp; exact h f (by simp))
    have := ih fun g hg => h g (by simp [hg])
    rw [txF_snoc, List.length_append, List.length_append, List.length_singleton]; omega
structure W1 (H H' : Heap) (vP vF : AV) (P : List (Int × Int)) (W : Int) (ob o : Nat) (τ : Env) (i m : Nat) : Prop where
  ex : ExtC H H'
  go : H'.get ob = some (.cells [vP, .int .i64 W, vF])
  b : Bld 58 5 H' o (txP W (P.take i))
  le : i ≤ P.length
  hm : m = P.length - i
  t1 : Env.at τ 1 = .ptr ob 0
  t5 : Env.at τ 5 = .ptr o 0
  t19 : Env.at τ 19 = vP
  t20 : Env.at τ 20 = .int .i64 P.length
  t21 : Env.at τ 21 = .int .i64 i
structure W2 (H H' : Heap) (vP vF : AV) (P : List (Int × Int)) (W : Int) (F : List (List Int)) (ob o : Nat) (τ : Env) (i m : Nat) : Prop where
  ex : ExtC H H'
  b : Bld 58 5 H' o (txP W P ++ txF (F.take i))
  le : i ≤ F.length
  hm : m = F.length - i
  t5 : Env.at τ 5 = .ptr o 0
  t35 : Env.at τ 35 = vF
  t36 : Env.at τ 36 = .int .i64 F.length
  t37 : Env.at τ 37 = .int .i64 i
structure W3 (H H' : Heap) (vF vr v : AV) (F : List (List Int)) (f : List Int) (o : Nat) (τ : Env) (i j m : Nat) : Prop where
  bd : Bd 1 i64c H H' v ((f.take j).map (· + 1))
  le : j ≤ f.length
  hm : m = f.length - j
  t5 : Env.at τ 5 = .ptr o 0
  t10 : Env.at τ 10 = v
  t35 : Env.at τ 35 = vF
  t36 : Env.at τ 36 = .int .i64 F.length
  t37 : Env.at τ 37 = .int .i64 i
  t41 : Env.at τ 41 = vr
  t42 : Env.at τ 42 = .int .i64 f.length
  t43 : Env.at τ 43 = .int .i64 j
abbrev H19 (FT : Nat → Option FnD) : Prop := FT 19 = some (.code A19) ∧ FT 38 = some (.code A38) ∧ FT 36 = some (.ext itoaG) ∧ FT 37 = some (.ext (writeG 58 5))
def r11a : ACode := subAt [1,1,1,0] A11.body
def r11b : ACode := subAt [1,1,1,1,0] A11.body
theorem body11 : A11.body = putAt [1,1,1,0] (putAt [1,1,1,1,0] A11.body r11b) r11a := rfl
structure Qw1 (H H' : Heap) (vP vF : AV) (P : List (Int × Int)) (W : Int) (ob o : Nat) (τ : Env) : Prop where
  ex : ExtC H H'
  go : H'.get ob = some (.cells [vP, .int .i64 W, vF])
  b : Bld 58 5 H' o (txP W P)
  t1 : Env.at τ 1 = .ptr ob 0
  t5 : Env.at τ 5 = .ptr o 0
theorem write11a (hh : H19 FT) {vP vF : AV} {P : List (Int × Int)} {W : Int} (h : Pairs H vP P) (hl : P.length ≤ 1000000000) (hP : ∀ p, p ∈ P → fitP p) (hW : 1 ≤ W ∧ W ≤ 1048576) {ob o : Nat} {H0 : Heap} (ex0 : ExtC H H0) (go0 : H0.get ob = some (.cells [vP, .int .i64 W, vF])) (b0 : Bld 58 5 H0 o []) {τ0 : Env} (u1 : Env.at τ0 1 = .ptr ob 0) (u5 : Env.at τ0 5 = .ptr o 0) :
    Wp FT r11a τ0 H0 (fun s τ H' => s = .next ∧ Qw1 H H' vP vF P W ob o τ) := by
  obtain ⟨h19, h38, h36, h37⟩ := hh
  have l0 : loadA H0 none (.ptr ob 0) = some vP := load_get go0 rfl
  simp [r11a, subAt, A11, u1, l0, h.len]
  refine Wp_loop (fun m τ H' => ∃ i, W1 H H' vP vF P W ob o τ i m) ?_ P.length _ _ ⟨0, ⟨ex0, go0, by simpa [txP, rend] using b0, by omega, by omega, by simp [u1], by simp [u5], by simp, by simp, by simp⟩⟩
  rintro m τ H1 ⟨i, ⟨ex, go, b, hi, rfl, t1, t5, t19, t20, t21⟩⟩
  simp only [Wp_seq, Wp_region]
  by_cases c : i < P.length
  · obtain ⟨p, x, a1, a2, a3, _⟩ := Sl.idx (h.extC ex) (k := .i64) (i := (i : Int)) (by omega) (by omega)
    rw [Int.toNat_natCast] at a1
    obtain ⟨⟨x1, x2⟩, x3, x4⟩ := hP x (List.mem_of_getElem? a1)
    obtain ⟨H2, st, g2, e2, n2⟩ := store_new ex.wf (z := [.int .i64 0, .int .i64 0]) (n := 2) (x := .agg (pairc x)) (cs := pairc x) rfl rfl rfl rfl
    have lx : loadA H2 none (.ptr H1.next 0) = some (.int .i64 x.1) := load_get g2 rfl
    have ly : loadA H2 none (.ptr H1.next 1) = some (.int .i64 x.2) := load_get g2 rfl
    have go2 := e2.keep _ _ go
    have lW : loadA H2 none (.ptr ob 1) = some (.int .i64 W) := load_get go2 rfl
    obtain ⟨g3, e3⟩ := push_new e2.wf (.cells [.int .i64 x.1, .int .i64 x.2, .int .i64 0, .int .i64 W])
    have r3 : Rw 1 i64c (H2.push (.cells [.int .i64 x.1, .int .i64 x.2, .int .i64 0, .int .i64 W])) (.slc H2.next 0 4 1 4 true) [x.1, x.2, 0, W] := rw_lit i64c_len (xs := [x.1, x.2, 0, W]) g3 4 rfl true
    have w : IntKind.i64.wrap ((i : Int) + 1) = ((i + 1 : Nat) : Int) := wrap64 (by omega) (by omega)
    simp [c, t1, t5, t19, t20, t21, a2, a3, st, lx, ly, lW, setSeg]
    have hbl := txP_len W (P.take i)
    rw [List.length_take] at hbl
    refine (row19 h19 h38 h36 h37 e3.wf ((b.ext e2).ext e3) (r3.sl i64c_len) (by
      intro n hn
      simp only [List.mem_cons, List.not_mem_nil, or_false] at hn
      rcases hn with rfl | rfl | rfl | rfl <;> omega) (by simp) (by simp) (by simp) (by omega)).mono ?_
    rintro _ H4 ⟨b4, e4⟩
    have hs : txP W (P.take (i + 1)) = txP W (P.take i) ++ joinS (vS :: [x.1, x.2, 0, W].map itoaN) := by
      rw [List.take_add_one, a1, Option.toList_some, txP_snoc]
    simp [t21, w]
    exact ⟨_, by omega, i + 1, ⟨((ex.trans e2.c).trans e3.c).trans e4, e4.keep _ _ (e3.keep _ _ go2), by rw [hs]; exact b4, by omega, rfl, by simp [t1], by simp [t5], by simp [t19], by simp [t20], by simp⟩⟩
  · have hil : i = P.length := by omega
    subst hil
    rw [List.take_length] at b
    simp [t20, t21]
    exact ⟨ex, go, b, by simp [t1], by simp [t5]⟩
theorem write11b (hh : H19 FT) {vP vF : AV} {P : List (Int × Int)} {W : Int} {F : List (List Int)} (h : Gd H vF F) (hl : F.length ≤ 1000000000) (hp : P.length ≤ 1000000000) (hF : ∀ f, f ∈ F → 3 ≤ f.length ∧ f.length ≤ 4 ∧ ∀ k, k ∈ f → 0 ≤ k ∧ k < P.length) {ob o : Nat} {H0 : Heap} (ex0 : ExtC H H0) (go0 : H0.get ob = some (.cells [vP, .int .i64 W, vF])) (b0 : Bld 58 5 H0 o (txP W P)) {τ0 : Env} (u1 : Env.at τ0 1 = .ptr ob 0) (u5 : Env.at τ0 5 = .ptr o 0) :
    Wp FT r11b τ0 H0 (fun s τ H' => s = .next ∧ ExtC H H' ∧ Bld 58 5 H' o (textO P W F) ∧ Env.at τ 5 = .ptr o 0) := by
  obtain ⟨h19, h38, h36, h37⟩ := hh
  have l0 : loadA H0 none (.ptr ob 2) = some vF := load_get go0 rfl
  simp [r11b, subAt, A11, u1, l0, h.len]
  refine Wp_loop (fun m τ H' => ∃ i, W2 H H' vP vF P W F ob o τ i m) ?_ F.length _ _ ⟨0, ⟨ex0, by simpa [txF, rend] using b0, by omega, by omega, by simp [u5], by simp, by simp, by simp⟩⟩
  rintro m τ H1 ⟨i, ⟨ex, b, hi, rfl, t5, t35, t36, t37⟩⟩
  simp only [Wp_seq, Wp_region]
  by_cases c : i < F.length
  · obtain ⟨p, r, f, a1, a2, a3, a4⟩ := (Gd.extC' h ex).idx (k := .i64) (i := (i : Int)) (by omega) (by omega)
    rw [Int.toNat_natCast] at a1
    obtain ⟨f3, f4, fk⟩ := hF f (List.mem_of_getElem? a1)
    simp [c, t35, t36, t37, a2, a3, a4.len]
    refine Wp_loop (fun m τ H' => ∃ j v, W3 H1 H' vF r v F f o τ i j m) ?_ f.length _ _ ⟨0, .nils, ⟨by simpa using Bd.init ex.wf, by omega, by omega, by simp [t5], by simp, by simp [t35], by simp [t36], by simp [t37], by simp, by simp, by simp⟩⟩
    rintro m τ H2 ⟨j, v, ⟨bd, hj, rfl, t5, t10, t35, t36, t37, t41, t42, t43⟩⟩
    simp only [Wp_seq, Wp_region]
    by_cases cj : j < f.length
    · obtain ⟨q, x, b1, b2, b3⟩ := Ints.idx ((a4.ext (bd.ext ex.wf)).sl i64c_len) (k := .i64) (i := (j : Int)) (by omega) (by omega)
      rw [Int.toNat_natCast] at b1
      obtain ⟨x0, x1⟩ := fk x (List.mem_of_getElem? b1)
      have w1 : IntKind.i64.wrap (x + 1) = x + 1 := wrap64 (by omega) (by omega)
      have w : IntKind.i64.wrap ((j : Int) + 1) = ((j + 1 : Nat) : Int) := wrap64 (by omega) (by omega)
      obtain ⟨v2, H3, k1, bd2, _⟩ := bd.app1 (bytes := 8) i64c_len (by omega) i64c_one (x + 1) (by simp; omega)
      have k1' : appendA 1 8 (H2.push (.cells [.int .i64 (x + 1)])) v (.slc H2.next 0 1 1 1 true) = some (v2, H3) := k1
      have hs : (f.take (j + 1)).map (· + 1) = (f.take j).map (· + 1) ++ [x + 1] := by rw [List.take_add_one, b1]; simp
      simp [cj, t10, t41, t42, t43, b2, b3, w1, w, k1']
      exact ⟨_, by omega, j + 1, v2, ⟨by rw [hs]; exact bd2, by omega, rfl, by simp [t5], by simp, by simp [t35], by simp [t36], by simp [t37], by simp [t41], by simp [t42], by simp⟩⟩
    · have hjl : j = f.length := by omega
      subst hjl
      rw [List.take_length] at bd
      have e2 := bd.ext ex.wf
      have w : IntKind.i64.wrap ((i : Int) + 1) = ((i + 1 : Nat) : Int) := wrap64 (by omega) (by omega)
      have hbl1 := txP_len W P
      have hbl2 := txF_len (F := F.take i) (fun g hg => by have := (hF g (List.mem_of_mem_take hg)).2.1; omega)
      rw [List.length_take] at hbl2
      simp [t5, t10, t42, t43]
      refine (row19 h19 h38 h36 h37 e2.wf (b.ext e2) (bd.sl i64c_len) (by
        intro n hn
        obtain ⟨k, hk, rfl⟩ := List.mem_map.1 hn
        have := fk k hk; omega) (by simp; omega) (by
        intro q
        have := congrArg List.length q
        simp at this; simp [this] at f3) (by simp) (by simp; omega)).mono ?_
      rintro _ H4 ⟨b4, e4⟩
      have hs : txP W P ++ txF (F.take (i + 1)) = txP W P ++ txF (F.take i) ++ joinS (fS :: (f.map (· + 1)).map itoaN) := by
        rw [List.take_add_one, a1, Option.toList_some, txF_snoc, List.append_assoc]
      simp [t37, w]
      exact ⟨_, by omega, i + 1, ⟨(ex.trans e2.c).trans e4, by rw [hs]; exact b4, by omega, rfl, by simp [t5], by simp [t35], by simp [t36], by simp⟩⟩
  · have hil : i = F.length := by omega
    subst hil
    rw [List.take_length] at b
    simp [t36, t37]
    exact ⟨ex, by rw [textO_eq]; exact b, by simp [t5]⟩
open Classical in
noncomputable def wrT (P : List (Int × Int)) (W : Int) (F : List (List Int)) : List Nat := if ValidO P W F then textO P W F else []
theorem wrT_ok {P : List (Int × Int)} {W : Int} {F : List (List Int)} (h : ValidO P W F) : wrT P W F = textO P W F := by unfold wrT; rw [if_pos h]
theorem wrT_no {P : List (Int × Int)} {W : Int} {F : List (List Int)} (h : ¬ ValidO P W F) : wrT P W F = [] := by unfold wrT; rw [if_neg h]
abbrev H11 (FT : Nat → Option FnD) : Prop := FT 11 = some (.code A11) ∧ H13 FT ∧ H19 FT ∧ FT 20 = some (.ext (stringG 58 5))
theorem write11 (hh : H11 FT) (hw : H.Wf) {vP vF : AV} {P : List (Int × Int)} {W : Int} {F : List (List Int)} (h : Mo H vP vF P F) (hz : Sz P F) :
    Cp FT 11 [.agg [vP, .int .i64 W, vF]] H (fun r H' => r = .tup [.str (wrT P W F), .int .i64 (chkO P W F)] ∧ ExtC H H') := by
  obtain ⟨h11, h13, h19, h20⟩ := hh
  refine Cp_code A11 h11 rfl ?_
  have hA : A11.results = [.tmp 2, .tmp 3] := rfl
  rw [hA, body11]
  have hone := h.one W
  have e0 := Ext.push hw (.cells [vP, .int .i64 W, vF])
  have g0 : (H.push (.cells [vP, .int .i64 W, vF])).get H.next = some (.cells [vP, .int .i64 W, vF]) := get_pushN.trans (if_pos rfl)
  generalize hP0 : H.push (.cells [vP, .int .i64 W, vF]) = H0 at *
  have lw : loadA H0 (some 3) (.ptr H.next 0) = some (.agg [vP, .int .i64 W, vF]) := load_agg g0 (by simp [seg])
  generalize hka : r11a = ka
  generalize hkb : r11b = kb
  simp [A11, putAt, hone, hP0, lw]
  refine (check13 h13 e0.wf (h.ext e0) hz).mono ?_
  rintro _ H1 ⟨rfl, e1⟩
  have ex1 := e0.trans e1
  by_cases hv : ValidO P W F
  · have e2 := Ext.push ex1.wf (.bld 58 none)
    have b2 := Bld.new (T := 58) (E := 5) ex1.wf
    have ex2 := (ex1.trans e2).c
    simp [chkO_ok hv]
    rw [← hka]
    refine (write11a (W := W) (vF := vF) h19 h.p hz.p hv.ps ⟨hv.w0, hv.w1⟩ ex2 (e2.keep _ _ (e1.keep _ _ g0)) b2 (by simp) (by simp)).mono ?_
    rintro s τ H2 ⟨rfl, ex, go, b, t1, t5⟩
    simp
    rw [← hkb]
    refine (write11b h19 h.f hz.f hz.p (fun f hf => ⟨(hv.fo.fs f hf).1, hv.f4 f hf, (hv.fo.fs f hf).2.2⟩) ex go b t1 t5).mono ?_
    rintro s τ H3 ⟨rfl, ex3, b3, t5⟩
    obtain ⟨H4, hs, e4⟩ := b3.string ex3.wf
    simp [t5]
    refine Cp_ext (stringG 58 5) h20 hs ?_
    simp [wrT_ok hv]
    exact ex3.trans e4
  · simp [chkO_no hv, wrT_no hv]
    exact ex1.c
end
end Go.Proofs.YtacfhbhfgbjleaaDoor
