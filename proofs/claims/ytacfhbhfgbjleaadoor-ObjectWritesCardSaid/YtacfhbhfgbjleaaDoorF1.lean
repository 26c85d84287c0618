/- Sorting by merging, as the program does it; whether a place stands twice. No claim by itself. -/
import Derived.Test.YtacfhbhfgbjleaaDoorC4
namespace Go.Proofs.YtacfhbhfgbjleaaDoor
open Go Go.AI
section
variable {FT : Nat → Option FnD} {H : Heap}
theorem _root_.Go.AI.Bx.ext {α : Type} {e : Nat} {enc : α → List AV} {H H0 : Heap} {v : AV} {xs : List α} (h : Bx none e enc H0 H v xs) (hw0 : H0.Wf) : Ext H0 H := Bd.ext h hw0
theorem eqPair (x y : Int × Int) : binA .eql (.flat [.int, .int]) (.agg (pairc x)) (.agg (pairc y)) = some (.bool (decide (x = y))) := by
  obtain ⟨a, b⟩ := x
  obtain ⟨c, d⟩ := y
  have e : binA .eql (.flat [.int, .int]) (.agg (pairc (a, b))) (.agg (pairc (c, d))) = (match some (a == c) with | some true => (match some (b == d) with | some true => some true | some false => some false | none => none) | some false => some false | none => none : Option Bool).map .bool := rfl
  rw [e]
  cases h1 : (a == c) <;> cases h2 : (b == d) <;> simp_all
theorem less59 (h59 : FT 59 = some (.code A59)) (hw : H.Wf) {a b : Int × Int} : Cp FT 59 [.agg (pairc a), .agg (pairc b)] H (fun r H' => r = .bool (lessP a b) ∧ Ext H H') := by
  refine Cp_code A59 h59 rfl ?_
  have e0 := Ext.push hw (.cells (pairc a))
  have g0 : (H.push (.cells (pairc a))).get H.next = some (.cells (pairc a)) := get_pushN.trans (if_pos rfl)
  have e1 := Ext.push e0.wf (.cells (pairc b))
  have g1 : ((H.push (.cells (pairc a))).push (.cells (pairc b))).get (H.next + 1) = some (.cells (pairc b)) := get_pushN.trans (if_pos rfl)
  have g0' := e1.keep _ _ g0
  have ex := e0.trans e1
  generalize hH : (H.push (.cells (pairc a))).push (.cells (pairc b)) = H2 at *
  have l0 : loadA H2 none (.ptr H.next 0) = some (.int .i64 a.1) := load_get g0' rfl
  have l1 : loadA H2 none (.ptr H.next 1) = some (.int .i64 a.2) := load_get g0' rfl
  have l2 : loadA H2 none (.ptr (H.next + 1) 0) = some (.int .i64 b.1) := load_get g1 rfl
  have l3 : loadA H2 none (.ptr (H.next + 1) 1) = some (.int .i64 b.2) := load_get g1 rfl
  have p1 : allOne (pairc a) = true := rfl
  have p2 : allOne (pairc b) = true := rfl
  by_cases c1 : a.1 < b.1
  · simp [A59, p1, p2, hH, l0, l2, c1, lessP]; exact ex
  by_cases c2 : a.1 = b.1
  · have c1' : ¬ b.1 < b.1 := by omega
    simp [A59, p1, p2, hH, l0, l1, l2, l3, c2, lessP]; exact ex
  · simp [A59, p1, p2, hH, l0, l2, c1, c2, lessP]; exact ex
theorem pt_idx {H : Heap} {v : AV} {P : List (Int × Int)} (h : Pairs H v P) {i : Int} (h0 : 0 ≤ i) (h1 : i < P.length) :
    ∃ p, indexAddrV 2 v (.int .i64 i) = some p ∧ loadA H (some 2) p = some (.agg (pairc (ptAt P i))) := by
  obtain ⟨p, x, a, b, c, _⟩ := Sl.idx h (k := .i64) h0 h1
  refine ⟨p, b, ?_⟩
  unfold ptAt; rw [a]; exact c
/-- The numbers' order. -/
structure Ctx (H : Heap) (o : Nat) (P : List (Int × Int)) : Prop where
  ex : ∃ pv, H.get o = some (.cells [pv]) ∧ Pairs H pv P
theorem Ctx.ext {H' : Heap} {o : Nat} {P : List (Int × Int)} (h : Ctx H o P) (e : Ext H H') : Ctx H' o P := by
  obtain ⟨pv, a, b⟩ := h.ex; exact ⟨pv, e.keep _ _ a, b.ext e⟩
theorem order58 (h58 : FT 58 = some (.code A58)) (h59 : FT 59 = some (.code A59)) (hw : H.Wf) {o : Nat} {P : List (Int × Int)} (hc : Ctx H o P) {a b : Int} (ha : 0 ≤ a ∧ a < P.length) (hb : 0 ≤ b ∧ b < P.length) :
    Cp FT 58 [.int .i64 a, .int .i64 b, .ptr o 0] H (fun r H' => r = .bool (!leI P b a) ∧ Ext H H') := by
  refine Cp_code A58 h58 rfl ?_
  obtain ⟨pv, g, hp⟩ := hc.ex
  have l0 : loadA H none (.ptr o 0) = some pv := load_get g rfl
  obtain ⟨p, i1, i2⟩ := pt_idx hp ha.1 ha.2
  obtain ⟨q, j1, j2⟩ := pt_idx hp hb.1 hb.2
  have hq : lessP (ptAt P a) (ptAt P b) = !leI P b a := by unfold leI leP; simp
  simp [A58, l0, i1, i2, j1, j2]
  refine (less59 h59 hw).mono ?_
  rintro _ H1 ⟨rfl, e1⟩
  simp [hq]
  exact e1
def inP (P : List (Int × Int)) (l : List Int) : Prop := ∀ i, i ∈ l → 0 ≤ i ∧ i < P.length
theorem inP.tail {P : List (Int × Int)} {x : Int} {l : List Int} (h : inP P (x :: l)) : inP P l := fun i hi => h i (List.mem_cons_of_mem _ hi)
structure MInv (o : Nat) (H H1 : Heap) (P : List (Int × Int)) (a b : List Int) (va vb v : AV) (d a' b' : List Int) (τ : Env) (m : Nat) : Prop where
  bd : Bd 1 i64c H H1 v d
  ra : Rw 1 i64c H va a'
  rb : Rw 1 i64c H vb b'
  ia : inP P a'
  ib : inP P b'
  eq : List.merge a b (leI P) = d ++ List.merge a' b' (leI P)
  len : d.length + (a'.length + b'.length) = a.length + b.length
  hm : m = a'.length + b'.length
  t0 : Env.at τ 0 = va
  t1 : Env.at τ 1 = vb
  t2 : Env.at τ 2 = .fn 58 [] [.ptr o 0]
  t7 : Env.at τ 7 = v
theorem merge66 (h66 : FT 66 = some (.code A66)) (h58 : FT 58 = some (.code A58)) (h59 : FT 59 = some (.code A59)) (hw : H.Wf) {o : Nat} {P : List (Int × Int)} (hc : Ctx H o P) {va vb : AV} {a b : List Int}
    (ha : Rw 1 i64c H va a) (hb : Rw 1 i64c H vb b) (ia : inP P a) (ib : inP P b) (hl : a.length + b.length ≤ 1000000000) :
    Cp FT 66 [va, vb, .fn 58 [] [.ptr o 0]] H (fun r H' => Rw 1 i64c H' r (List.merge a b (leI P)) ∧ Ext H H') := by
  refine Cp_code A66 h66 rfl ?_
  simp [A66]
  refine Wp_loop (fun m τ H1 => ∃ va' vb' v d a' b', MInv o H H1 P a b va' vb' v d a' b' τ m) ?_ (a.length + b.length) _ _
    ⟨va, vb, .nils, [], a, b, ⟨Bd.init hw, ha, hb, ia, ib, by simp, by simp, rfl, by simp, by simp, by simp, by simp⟩⟩
  rintro m τ H1 ⟨va', vb', v, d, a', b', ⟨bd, ra, rb, ja, jb, he, hle, rfl, t0, t1, t2, t7⟩⟩
  simp only [Wp_seq, Wp_region]
  have ex := bd.ext hw
  have la := ra.len
  have lb := rb.len
  have fin : List.merge a' b' (leI P) = a' ++ b' → ∃ v2 H2 v3 H3, appendA 1 8 H1 v va' = some (v2, H2) ∧ appendA 1 8 H2 v2 vb' = some (v3, H3) ∧ Rw 1 i64c H3 v3 (List.merge a b (leI P)) ∧ Ext H H3 := by
    intro q
    obtain ⟨v2, H2, k1, bd2, _⟩ := bd.appS (bytes := 8) i64c_len (by omega) i64c_one (ra.sw.exte ex) (by omega)
    obtain ⟨v3, H3, k2, bd3, _⟩ := bd2.appS (bytes := 8) i64c_len (by omega) i64c_one (rb.sw.exte (bd2.ext hw)) (by simp; omega)
    refine ⟨v2, H2, v3, H3, k1, k2, ?_, bd3.ext hw⟩
    rw [he, q, ← List.append_assoc]; exact bd3.ow.rw i64c_len
  cases a' with
  | nil =>
    obtain ⟨v2, H2, v3, H3, k1, k2, k3, k4⟩ := fin (by simp)
    simp [t0, t1, t7, la, k1, k2]
    exact ⟨k3, k4⟩
  | cons x ar =>
    cases b' with
    | nil =>
      obtain ⟨v2, H2, v3, H3, k1, k2, k3, k4⟩ := fin (by simp)
      simp [t0, t1, t7, la, lb, k1, k2]
      exact ⟨k3, k4⟩
    | cons y br =>
      have hx := ja x (by simp)
      have hy := jb y (by simp)
      obtain ⟨pa, xa, xa1, xa2, xa3⟩ := Ints.idx ((ra.sl i64c_len).ext ex) (k := .i64) (i := 0) (by omega) (by simp)
      obtain ⟨pb, xb, xb1, xb2, xb3⟩ := Ints.idx ((rb.sl i64c_len).ext ex) (k := .i64) (i := 0) (by omega) (by simp)
      have : x = xa := by simpa using xa1
      subst this
      have : y = xb := by simpa using xb1
      subst this
      have g1 : (0 : Int) < ((x :: ar).length : Nat) := by simp only [List.length_cons]; omega
      have g2 : (0 : Int) < ((y :: br).length : Nat) := by simp only [List.length_cons]; omega
      simp only [List.length_cons] at la lb hle
      have n1 : (0 : Int) < (ar.length : Int) + 1 := by omega
      have n2 : (0 : Int) < (br.length : Int) + 1 := by omega
      simp [t0, t1, t2, la, lb, xa2, xa3, xb2, xb3, n1, n2]
      refine (order58 h58 h59 bd.wf (hc.ext ex) hy hx).mono ?_
      rintro _ H2 ⟨rfl, e2⟩
      have bd2 := bd.after e2
      cases hle2 : leI P x y with
      | true =>
        obtain ⟨v3, H3, k1, bd3, _⟩ := bd2.app1 (bytes := 8) i64c_len (by omega) i64c_one x (by omega)
        have k1' : appendA 1 8 (H2.push (.cells [.int .i64 x])) v (.slc H2.next 0 1 1 1 true) = some (v3, H3) := k1
        obtain ⟨va2, s1, s2, _⟩ := ra.drop i64c_len (k := 1) (by simp)
        have s1' : sliceA 1 va' (some (.int .i64 1)) none none = some va2 := s1
        have xa3' : loadA H2 none pa = some (.int .i64 x) := by
          obtain ⟨pa', xa', q1, q2, q3⟩ := Ints.idx ((ra.sl i64c_len).ext (ex.trans e2)) (k := .i64) (i := 0) (by omega) (by simp)
          rw [xa2] at q2; cases q2
          have : x = xa' := by simpa using q1
          subst this; exact q3
        simp [t0, t1, t7, xa2, xa3', s1', k1']
        refine ⟨_, ?_, va2, vb', v3, d ++ [x], ar, y :: br, ⟨bd3, s2, rb, ja.tail, jb, ?_, ?_, rfl, by simp, by simp [t1], by simp [t2], by simp⟩⟩
        · simp only [List.length_cons]; omega
        · rw [he, List.merge, if_pos hle2]; simp
        · simp only [List.length_append, List.length_cons, List.length_nil]; omega
      | false =>
        obtain ⟨v3, H3, k1, bd3, _⟩ := bd2.app1 (bytes := 8) i64c_len (by omega) i64c_one y (by omega)
        have k1' : appendA 1 8 (H2.push (.cells [.int .i64 y])) v (.slc H2.next 0 1 1 1 true) = some (v3, H3) := k1
        obtain ⟨vb2, s1, s2, _⟩ := rb.drop i64c_len (k := 1) (by simp)
        have s1' : sliceA 1 vb' (some (.int .i64 1)) none none = some vb2 := s1
        have xb3' : loadA H2 none pb = some (.int .i64 y) := by
          obtain ⟨pb', xb', q1, q2, q3⟩ := Ints.idx ((rb.sl i64c_len).ext (ex.trans e2)) (k := .i64) (i := 0) (by omega) (by simp)
          rw [xb2] at q2; cases q2
          have : y = xb' := by simpa using q1
          subst this; exact q3
        simp [t0, t1, t7, xb2, xb3', s1', k1']
        refine ⟨_, ?_, va', vb2, v3, d ++ [y], x :: ar, br, ⟨bd3, ra, s2, ja, jb.tail, ?_, ?_, rfl, by simp [t0], by simp, by simp [t2], by simp⟩⟩
        · simp only [List.length_cons]; omega
        · rw [he, List.merge, if_neg (by rw [hle2]; simp)]; simp
        · simp only [List.length_append, List.length_cons, List.length_nil]; omega
theorem sortI_in {P : List (Int × Int)} {f : Nat} {l : List Int} (h : inP P l) : inP P (sortI P f l) := fun i hi => h i ((sortI_perm P f l).mem_iff.1 hi)
theorem sort57 (h57 : FT 57 = some (.code A57)) (h66 : FT 66 = some (.code A66)) (h58 : FT 58 = some (.code A58)) (h59 : FT 59 = some (.code A59)) {o : Nat} {P : List (Int × Int)} : ∀ (f : Nat) {H : Heap} (_ : H.Wf) (_ : Ctx H o P) {va : AV} {a : List Int}
    (_ : Rw 1 i64c H va a) (_ : inP P a) (_ : a.length ≤ 1000000000) (_ : a.length ≤ f), Cp FT 57 [va, .fn 58 [] [.ptr o 0]] H (fun r H' => Rw 1 i64c H' r (sortI P f a) ∧ Ext H H')
  | 0, H, hw, hc, va, a, ha, ia, hl, hf => by
    have : a = [] := List.length_eq_zero_iff.1 (by omega)
    subst this
    refine Cp_code A57 h57 rfl ?_
    obtain ⟨v2, H2, k1, bd2, _⟩ := (Bd.init (e := 1) (enc := i64c) hw).appS (bytes := 8) i64c_len (by omega) i64c_one ha.sw (by simp)
    simp [A57, ha.len, k1]
    exact ⟨by simpa [sortI] using bd2.ow.rw i64c_len, bd2.ext hw⟩
  | f + 1, H, hw, hc, va, a, ha, ia, hl, hf => by
    refine Cp_code A57 h57 rfl ?_
    by_cases c : a.length < 2
    · obtain ⟨v2, H2, k1, bd2, _⟩ := (Bd.init (e := 1) (enc := i64c) hw).appS (bytes := 8) i64c_len (by omega) i64c_one ha.sw (by simp; omega)
      have c' : (a.length : Int) < 2 := by omega
      have hs : sortI P (f + 1) a = a := by unfold sortI; rw [if_pos c]
      simp [A57, ha.len, k1, c', hs]
      exact ⟨by simpa using bd2.ow.rw i64c_len, bd2.ext hw⟩
    · have c' : ¬ (a.length : Int) < 2 := by omega
      have hs : sortI P (f + 1) a = List.merge (sortI P f (a.take (a.length / 2))) (sortI P f (a.drop (a.length / 2))) (leI P) := by
        conv => lhs; unfold sortI
        rw [if_neg c]
      obtain ⟨m, hm⟩ : ∃ m : Nat, m = a.length / 2 := ⟨_, rfl⟩
      rw [← hm] at hs
      have wd : IntKind.i64.wrap ((a.length : Int) / 2) = (m : Int) := by
        rw [wrap64 (by omega) (by omega)]; omega
      obtain ⟨v1, s1, r1, _⟩ := ha.take i64c_len (k := m) (by omega)
      simp [A57, ha.len, c', wd, s1]
      refine (sort57 h57 h66 h58 h59 f hw hc r1 (fun i hi => ia i (List.mem_of_mem_take hi)) (by simp; omega) (by simp; omega)).mono ?_
      rintro ra H1 ⟨q1, e1⟩
      obtain ⟨v2, s2, r2, _⟩ := (ha.ext e1).drop i64c_len (k := m) (by omega)
      simp [s2]
      refine (sort57 h57 h66 h58 h59 f e1.wf (hc.ext e1) r2 (fun i hi => ia i (List.mem_of_mem_drop hi)) (by simp; omega) (by simp; omega)).mono ?_
      rintro rb H2 ⟨q2, e2⟩
      simp
      have l1 := (sortI_perm P f (a.take (m))).length_eq
      have l2 := (sortI_perm P f (a.drop (m))).length_eq
      refine (merge66 h66 h58 h59 e2.wf ((hc.ext e1).ext e2) (q1.ext e2) q2 (sortI_in fun i hi => ia i (List.mem_of_mem_take hi)) (sortI_in fun i hi => ia i (List.mem_of_mem_drop hi)) (by rw [l1, l2]; simp; omega)).mono ?_
      rintro rc H3 ⟨q3, e3⟩
      simp
      rw [hs]
      exact ⟨q3, (e1.trans e2).trans e3⟩
theorem order42 (h42 : FT 42 = some (.code A42)) (h57 : FT 57 = some (.code A57)) (h66 : FT 66 = some (.code A66)) (h58 : FT 58 = some (.code A58)) (h59 : FT 59 = some (.code A59)) (hw : H.Wf) {v : AV} {P : List (Int × Int)} (h : Pairs H v P) (hl : P.length ≤ 1000000000) :
    Cp FT 42 [v] H (fun r H' => Rw 1 i64c H' r (ordI P) ∧ Ext H H') := by
  refine Cp_code A42 h42 rfl ?_
  have e0 := Ext.push hw (.cells [v])
  have g0 : (H.push (.cells [v])).get H.next = some (.cells [v]) := get_pushN.trans (if_pos rfl)
  have l0 : loadA (H.push (.cells [v])) none (.ptr H.next 0) = some v := load_get g0 rfl
  have h1 := h.one
  have h1' : allOne [v] = true := by rw [allOne_of h1.1]; rfl
  simp [A42, h1.2, h1', l0, h.len]
  refine Wp_loop (fun m τ H1 => ∃ (i : Nat) (w : AV), i ≤ P.length ∧ m = P.length - i ∧ Bd 1 i64c (H.push (.cells [v])) H1 w (idxs i) ∧ Env.at τ 1 = .ptr H.next 0 ∧ Env.at τ 3 = w ∧ Env.at τ 6 = .int .i64 P.length ∧ Env.at τ 7 = .int .i64 i) ?_ P.length _ _
    ⟨0, .nils, by omega, by omega, Bd.init e0.wf, by simp, by simp, by simp, by simp⟩
  rintro m τ H1 ⟨i, w, hi, rfl, bd, t1, t3, t6, t7⟩
  simp only [Wp_seq, Wp_region]
  by_cases c : i < P.length
  · obtain ⟨v2, H2, k1, bd2, _⟩ := bd.app1 (bytes := 8) i64c_len (by omega) i64c_one (i : Int) (by simp [idxs]; omega)
    have k1' : appendA 1 8 (H1.push (.cells [.int .i64 (i : Int)])) w (.slc H1.next 0 1 1 1 true) = some (v2, H2) := k1
    have wr : IntKind.i64.wrap ((i : Int) + 1) = ((i + 1 : Nat) : Int) := wrap64 (by omega) (by omega)
    have hs : idxs (i + 1) = idxs i ++ [(i : Int)] := by simp [idxs, List.range_succ]
    simp [c, t1, t3, t6, t7, k1', wr]
    exact ⟨_, by omega, i + 1, by omega, rfl, v2, hs ▸ bd2, rfl, by simp⟩
  · have : i = P.length := by omega
    subst this
    have ex := bd.ext e0.wf
    simp [t1, t3, t6, t7]
    have hin : inP P (idxs P.length) := fun j hj => by
      simp [idxs] at hj
      obtain ⟨k, a, rfl⟩ := hj; omega
    refine (sort57 h57 h66 h58 h59 P.length bd.wf ⟨v, ex.keep _ _ g0, h.ext (e0.trans ex)⟩ (bd.ow.rw i64c_len) hin (by simp [idxs]; omega) (by simp [idxs])).mono ?_
    rintro r H2 ⟨q1, e2⟩
    simp
    exact ⟨q1, (e0.trans ex).trans e2⟩
def adjTo (Q : List (Int × Int)) (i : Nat) : Prop := ∃ j : Nat, j + 1 < i ∧ j + 1 < Q.length ∧ Q[j]? = Q[j + 1]?
structure TwI (Q : List (Int × Int)) (v lv : AV) (τ : Env) (i : Nat) : Prop where
  hi : 1 ≤ i
  t0 : Env.at τ 0 = v
  t5 : ∃ x, Env.at τ 5 = .int .i64 x
  t6 : ∃ y, Env.at τ 6 = .int .i64 y
  t7 : ∃ t, Env.at τ 7 = .bool t ∧ (t = true ↔ adjTo Q i)
  t8 : Env.at τ 8 = lv
  t9 : Env.at τ 9 = .int .i64 i
structure TwR (P : List (Int × Int)) (r : AV) : Prop where
  ex : ∃ x y t, r = .tup [.int .i64 x, .int .i64 y, .bool t] ∧ (t = true ↔ ¬ P.Nodup)
theorem twice24 (h24 : FT 24 = some (.code A24)) (h42 : FT 42 = some (.code A42)) (h57 : FT 57 = some (.code A57)) (h66 : FT 66 = some (.code A66)) (h58 : FT 58 = some (.code A58)) (h59 : FT 59 = some (.code A59)) (hw : H.Wf) {v : AV} {P : List (Int × Int)} (h : Pairs H v P) (hl : P.length ≤ 1000000000) :
    Cp FT 24 [v] H (fun r H' => TwR P r ∧ Ext H H') := by
  refine Cp_code A24 h24 rfl ?_
  simp [A24]
  refine (order42 h42 h57 h66 h58 h59 hw h hl).mono ?_
  rintro lv H1 ⟨hr, e1⟩
  have hlen := hr.len
  rw [ordI_len] at hlen
  have hsl := hr.sl i64c_len
  have hP1 := h.ext e1
  simp
  refine Wp_loop (fun m τ H2 => H2 = H1 ∧ ∃ (i : Nat), m = P.length + 1 - i ∧ TwI ((ordI P).map (ptAt P)) v lv τ i) ?_ P.length _ _
    ⟨rfl, 1, by omega, ⟨by omega, by simp, ⟨0, by simp⟩, ⟨0, by simp⟩, ⟨false, by simp, by simp [adjTo]⟩, by simp, by simp⟩⟩
  rintro m τ _ ⟨rfl, i, rfl, ⟨hi, t0, ⟨x, t5⟩, ⟨y, t6⟩, ⟨t, t7, ht⟩, t8, t9⟩⟩
  simp only [Wp_seq, Wp_region]
  have hml : ((ordI P).map (ptAt P)).length = P.length := by simp [ordI_len]
  by_cases c : i < P.length
  · have w0 : IntKind.i64.wrap ((i : Int) - 1) = (i : Int) - 1 := wrap64 (by omega) (by omega)
    have wr : IntKind.i64.wrap ((i : Int) + 1) = ((i + 1 : Nat) : Int) := wrap64 (by omega) (by omega)
    obtain ⟨pa, a, a1, a2, a3⟩ := Ints.idx hsl (k := .i64) (i := (i : Int) - 1) (by omega) (by rw [ordI_len]; omega)
    obtain ⟨pb, b, b1, b2, b3⟩ := Ints.idx hsl (k := .i64) (i := (i : Int)) (by omega) (by rw [ordI_len]; omega)
    have ha := ordI_mem (List.mem_of_getElem? a1)
    have hb := ordI_mem (List.mem_of_getElem? b1)
    obtain ⟨qa, c1, c2⟩ := pt_idx hP1 ha.1 ha.2
    obtain ⟨qb, d1, d2⟩ := pt_idx hP1 hb.1 hb.2
    have i1 : ((i : Int) - 1).toNat = i - 1 := by omega
    rw [i1] at a1
    rw [Int.toNat_natCast] at b1
    have m1 : ((ordI P).map (ptAt P))[i - 1]? = some (ptAt P a) := by rw [List.getElem?_map, a1]; rfl
    have m2 : ((ordI P).map (ptAt P))[i]? = some (ptAt P b) := by rw [List.getElem?_map, b1]; rfl
    have hstep : adjTo ((ordI P).map (ptAt P)) (i + 1) ↔ adjTo ((ordI P).map (ptAt P)) i ∨ ptAt P a = ptAt P b := by
      constructor
      · rintro ⟨j, h1, h2, h3⟩
        by_cases hj : j + 1 < i
        · exact .inl ⟨j, hj, h2, h3⟩
        · have : j + 1 = i := by omega
          have hj' : j = i - 1 := by omega
          rw [this, m2, hj', m1] at h3
          exact .inr (by simpa using h3)
      · rintro (⟨j, h1, h2, h3⟩ | q)
        · exact ⟨j, by omega, h2, h3⟩
        · refine ⟨i - 1, by omega, by omega, ?_⟩
          rw [show i - 1 + 1 = i from by omega, m1, m2, q]
    generalize ptAt P a = pA at *
    generalize ptAt P b = pB at *
    by_cases ceq : pA = pB
    · have hflat : binA .eql (.flat [.int, .int]) (.agg (pairc pA)) (.agg (pairc pB)) = some (.bool true) := by rw [eqPair, decide_eq_true ceq]
      have hyes : adjTo ((ordI P).map (ptAt P)) (i + 1) := hstep.2 (.inr ceq)
      cases t with
      | false =>
        simp [c, t0, t5, t6, t7, t8, t9, hlen, w0, wr, a2, a3, b2, b3, c1, c2, d1, d2, hflat]
        exact ⟨_, by omega, i + 1, rfl, ⟨by omega, by simp [t0], ⟨a, by simp⟩, ⟨b, by simp⟩, ⟨true, by simp, by simp [hyes]⟩, by simp [t8], by simp⟩⟩
      | true =>
        by_cases clt : a < x
        · simp [c, t0, t5, t6, t7, t8, t9, hlen, w0, wr, a2, a3, b2, b3, c1, c2, d1, d2, hflat, clt]
          exact ⟨_, by omega, i + 1, rfl, ⟨by omega, by simp [t0], ⟨a, by simp⟩, ⟨b, by simp⟩, ⟨true, by simp, by simp [hyes]⟩, by simp [t8], by simp⟩⟩
        · simp [c, t0, t5, t6, t7, t8, t9, hlen, w0, wr, a2, a3, b2, b3, c1, c2, d1, d2, hflat, clt]
          exact ⟨_, by omega, i + 1, rfl, ⟨by omega, by simp [t0], ⟨x, by simp [t5]⟩, ⟨y, by simp [t6]⟩, ⟨true, by simp [t7], by simp [hyes]⟩, by simp [t8], by simp⟩⟩
    · have hne : ¬ (pA.1 = pB.1 ∧ pA.2 = pB.2) := fun q => ceq (Prod.ext q.1 q.2)
      have hstep' : adjTo ((ordI P).map (ptAt P)) (i + 1) ↔ adjTo ((ordI P).map (ptAt P)) i := by rw [hstep]; exact ⟨fun q => q.elim id fun q => absurd q ceq, .inl⟩
      have hflat : binA .eql (.flat [.int, .int]) (.agg (pairc pA)) (.agg (pairc pB)) = some (.bool false) := by rw [eqPair, decide_eq_false ceq]
      simp [c, t0, t5, t6, t7, t8, t9, hlen, w0, wr, a2, a3, b2, b3, c1, c2, d1, d2, hflat]
      exact ⟨_, by omega, i + 1, rfl, ⟨by omega, by simp [t0], ⟨x, by simp [t5]⟩, ⟨y, by simp [t6]⟩, ⟨t, by simp [t7], by rw [hstep']; exact ht⟩, by simp [t8], by simp⟩⟩
  · have hall : t = true ↔ ¬ P.Nodup := by
      rw [ht, ← adj_iff]
      constructor
      · rintro ⟨j, h1, h2, h3⟩; exact ⟨j, by omega, h3⟩
      · rintro ⟨j, h1, h3⟩; exact ⟨j, by omega, by omega, h3⟩
    have c' : ¬ ((i : Int) < P.length) := by omega
    simp [c, t5, t6, t7, t8, t9, hlen]
    exact ⟨⟨x, y, t, rfl, hall⟩, e1⟩
end
end Go.Proofs.YtacfhbhfgbjleaaDoor
