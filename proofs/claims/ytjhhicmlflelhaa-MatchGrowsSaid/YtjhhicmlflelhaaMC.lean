/- The greatest size, found by trying all. No claim by itself. -/
import Derived.Test.YtjhhicmlflelhaaMB
namespace Go.Proofs.Ytjhhicmlflelhaa.Gr
def Supp (m : Nat → Option Nat) (P : Nat → Prop) : Prop := ∀ i k, m i = some k → P i
def Best (n : Nat) (E : Nat → Nat → Prop) (P : Nat → Prop) (b : Nat) : Prop :=
  (∃ m, Mt E m ∧ Supp m P ∧ cnt n m = 2 * b) ∧ ∀ m, Mt E m → Supp m P → cnt n m ≤ 2 * b
def Bk (n : Nat) (E : Nat → Nat → Prop) (P : Nat → Prop) (x k b : Nat) : Prop :=
  (∃ m, Mt E m ∧ Supp m P ∧ cnt n m = 2 * b) ∧ ∀ m, Mt E m → Supp m P → (∀ j, m x = some j → j < k) → cnt n m ≤ 2 * b
section
variable {n : Nat} {E : Nat → Nat → Prop} {P Q : Nat → Prop} {x k b : Nat}
theorem supp_lt (g : Gph n E) {m : Nat → Option Nat} (hm : Mt E m) (h : Supp m P) (k : ∀ i, i < n → P i → Q i) : Supp m Q := fun i j e => k i (g.lt (hm.edge e)) (h i j e)
theorem Best.congr (g : Gph n E) (h : Best n E P b) (k : ∀ i, i < n → (P i ↔ Q i)) : Best n E Q b := by
  obtain ⟨⟨m, h1, h2, h3⟩, h4⟩ := h
  exact ⟨⟨m, h1, supp_lt g h1 h2 fun i hi => (k i hi).1, h3⟩, fun m hm hs => h4 m hm (supp_lt g hm hs fun i hi => (k i hi).2)⟩
theorem mt_none : Mt E fun _ => none := ⟨fun h => (by cases h), fun h => (by cases h)⟩
theorem cnt_none {m : Nat → Option Nat} (h : ∀ i, i < n → m i = none) : cnt n m = 0 := by
  unfold cnt
  rw [List.length_eq_zero_iff, List.filter_eq_nil_iff]
  intro i hi
  rw [h i (List.mem_range.1 hi)]; simp
theorem best_none (h : ∀ i, i < n → ¬ P i) : Best n E P 0 := by
  refine ⟨⟨fun _ => none, mt_none, (fun _ _ e => by cases e), cnt_none fun _ _ => rfl⟩, fun m hm hs => ?_⟩
  rw [cnt_none]
  · exact Nat.zero_le _
  · intro i hi
    cases e : m i with
    | none => rfl
    | some k => exact (h i hi (hs i k e)).elim
theorem Bk.init (g : Gph n E) (hP : ∀ i, P i → x ≤ i) (h : Best n E (fun i => P i ∧ i ≠ x) b) : Bk n E P x (x + 1) b := by
  obtain ⟨⟨m, h1, h2, h3⟩, h4⟩ := h
  refine ⟨⟨m, h1, fun i k e => (h2 i k e).1, h3⟩, fun m hm hs hx => h4 m hm fun i k e => ⟨hs i k e, ?_⟩⟩
  rintro rfl
  have h5 := hx k e
  have h6 := hP k (hs k i (hm.sym e))
  have : k = i := by omega
  exact g.ne (hm.edge e) this.symm
theorem Bk.skip (h : Bk n E P x k b) (hk : ¬ P k ∨ ¬ E x k) : Bk n E P x (k + 1) b := by
  refine ⟨h.1, fun m hm hs hx => h.2 m hm hs fun j e => ?_⟩
  have := hx j e
  have : j ≠ k := by
    rintro rfl
    rcases hk with q | q
    · exact q (hs j x (hm.sym e))
    · exact q (hm.edge e)
  omega
theorem Bk.take (g : Gph n E) (h : Bk n E P x k b) {b1 : Nat} (h1 : Best n E (fun i => (P i ∧ i ≠ x) ∧ i ≠ k) b1) (hE : E x k) (hk : P k) (hx : P x) : Bk n E P x (k + 1) (max b (1 + b1)) := by
  have hne := g.ne hE
  have xn := g.lt hE
  have kn := g.lt (g.sym hE)
  obtain ⟨⟨m1, j1, j2, j3⟩, j4⟩ := h1
  constructor
  · by_cases hc : 1 + b1 ≤ b
    · rw [Nat.max_eq_left hc]; exact h.1
    · rw [Nat.max_eq_right (by omega)]
      have f1 : m1 x = none := by
        cases e : m1 x with
        | none => rfl
        | some j => exact ((j2 x j e).1.2 rfl).elim
      have f2 : m1 k = none := by
        cases e : m1 k with
        | none => rfl
        | some j => exact ((j2 k j e).2 rfl).elim
      have ux : upd (upd m1 x (some k)) k (some x) x = some k := by rw [upd_ne hne, upd_same]
      have uk : upd (upd m1 x (some k)) k (some x) k = some x := upd_same
      have uo : ∀ {i}, i ≠ x → i ≠ k → upd (upd m1 x (some k)) k (some x) i = m1 i := fun a b => by rw [upd_ne b, upd_ne a]
      refine ⟨upd (upd m1 x (some k)) k (some x), ⟨?_, ?_⟩, ?_, ?_⟩
      · intro i j e
        by_cases e1 : i = x
        · subst e1; rw [ux] at e; cases e; exact uk
        · by_cases e2 : i = k
          · subst e2; rw [uk] at e; cases e; exact ux
          · rw [uo e1 e2] at e
            have hs := j1.sym e
            have q1 : j ≠ x := fun q => by subst q; rw [f1] at hs; cases hs
            have q2 : j ≠ k := fun q => by subst q; rw [f2] at hs; cases hs
            rw [uo q1 q2]; exact hs
      · intro i j e
        by_cases e1 : i = x
        · subst e1; rw [ux] at e; cases e; exact hE
        · by_cases e2 : i = k
          · subst e2; rw [uk] at e; cases e; exact g.sym hE
          · rw [uo e1 e2] at e; exact j1.edge e
      · intro i j e
        by_cases e1 : i = x
        · subst e1; exact hx
        · by_cases e2 : i = k
          · subst e2; exact hk
          · rw [uo e1 e2] at e; exact (j2 i j e).1.1
      · rw [cnt_two (m := m1) kn xn (fun e => hne e.symm) f2 f1, j3]
        · omega
        · intro i
          by_cases e1 : i = x
          · subst e1; rw [ux]; simp
          · by_cases e2 : i = k
            · subst e2; rw [uk]; simp
            · rw [uo e1 e2]; simp [e1, e2]
  · intro m hm hs hx'
    by_cases hmx : m x = some k
    · have hmk := hm.sym hmx
      have ux : upd (upd m x none) k none x = none := by rw [upd_ne hne, upd_same]
      have uk : upd (upd m x none) k none k = none := upd_same
      have uo : ∀ {i}, i ≠ x → i ≠ k → upd (upd m x none) k none i = m i := fun a b => by rw [upd_ne b, upd_ne a]
      have q := j4 (upd (upd m x none) k none) ⟨?_, ?_⟩ ?_
      · have := cnt_two (n := n) (m := upd (upd m x none) k none) (m' := m) (t := k) (r := x) kn xn (fun e => hne e.symm) uk ux (fun i => ?_)
        · have h2 : 1 + b1 ≤ max b (1 + b1) := Nat.le_max_right _ _
          omega
        · by_cases e1 : i = x
          · subst e1; rw [hmx]; simp
          · by_cases e2 : i = k
            · subst e2; rw [hmk]; simp
            · rw [uo e1 e2]; simp [e1, e2]
      · intro i j e
        by_cases e1 : i = x
        · subst e1; rw [ux] at e; cases e
        · by_cases e2 : i = k
          · subst e2; rw [uk] at e; cases e
          · rw [uo e1 e2] at e
            have hs' := hm.sym e
            have q1 : j ≠ x := fun q => by subst q; rw [hmx] at hs'; cases hs'; exact e2 rfl
            have q2 : j ≠ k := fun q => by subst q; rw [hmk] at hs'; cases hs'; exact e1 rfl
            rw [uo q1 q2]; exact hs'
      · intro i j e
        by_cases e1 : i = x
        · subst e1; rw [ux] at e; cases e
        · by_cases e2 : i = k
          · subst e2; rw [uk] at e; cases e
          · rw [uo e1 e2] at e; exact hm.edge e
      · intro i j e
        by_cases e1 : i = x
        · subst e1; rw [ux] at e; cases e
        · by_cases e2 : i = k
          · subst e2; rw [uk] at e; cases e
          · rw [uo e1 e2] at e; exact ⟨⟨hs i j e, e1⟩, e2⟩
    · have := h.2 m hm hs fun j e => by
        have := hx' j e
        have : j ≠ k := fun q => hmx (q ▸ e)
        omega
      have h2 : b ≤ max b (1 + b1) := Nat.le_max_left _ _
      omega
theorem Bk.done (g : Gph n E) (h : Bk n E P x k b) (hk : n ≤ k) : Best n E P b :=
  ⟨h.1, fun m hm hs => h.2 m hm hs fun j e => by have := g.lt (hm.edge (hm.sym e)); omega⟩
theorem Best.le (g : Gph n E) (h : Best n E P b) : 2 * b ≤ n := by
  obtain ⟨⟨m, h1, h2, h3⟩, _⟩ := h
  rw [← h3]
  unfold cnt
  have := List.length_filter_le (fun i => (m i).isSome) (List.range n)
  rwa [List.length_range] at this
end
end Go.Proofs.Ytjhhicmlflelhaa.Gr

/- The document's greatest size, walked. No claim by itself. -/
namespace Go.Proofs.Ytjhhicmlflelhaa.Gr
open Go Go.AI
def Fr (used : Nat → Bool) (x i : Nat) : Prop := x ≤ i ∧ used i = false
structure U (H0 H : Heap) (o n : Nat) (used : Nat → Bool) : Prop where
  wf : H.Wf
  fl : H.floor = H0.floor
  nx : H.next = H0.next
  own : H.floor ≤ o ∧ o < H.next
  eq : ∀ o', o' ≠ o → H.get o' = H0.get o'
  g : H.get o = some (.cells (usedC n used))
section
variable {FT : Nat → Option FnD} {H0 H : Heap} {o n : Nat} {used : Nat → Bool}
theorem U.ld (h : U H0 H o n used) {i : Nat} (hi : i < n) : loadA H none (.ptr o i) = some (.bool (used i)) := load_get h.g (arr_get hi)
theorem U.st (h : U H0 H o n used) {i : Nat} {x : Bool} (hi : i < n) : ∃ H1, storeA H 1 (.ptr o i) (.bool x) = some (undefA, H1) ∧ U H0 H1 o n (upd used i x) := by
  refine ⟨_, storeA_one h.own.1 h.g (by rw [usedC, arr_len]; exact hi) rfl, ?_⟩
  rw [show setSeg (usedC n used) i [.bool x] = usedC n (upd used i x) by
    unfold usedC; rw [arr_set hi, ← upd_comp (f := fun y : Bool => AV.bool y)]]
  exact ⟨Wf.set h.wf h.own.2, h.fl, h.nx, h.own, fun o' q => get_setH.trans ((if_neg q).trans (h.eq o' q)), get_setH.trans (if_pos rfl)⟩
theorem U.congr {used' : Nat → Bool} (h : U H0 H o n used) (k : ∀ i, i < n → used i = used' i) : U H0 H o n used' :=
  ⟨h.wf, h.fl, h.nx, h.own, h.eq, by rw [h.g]; unfold usedC; rw [arr_congr fun i hi => by rw [k i hi]]⟩
set_option maxRecDepth 20000 in
theorem most27 (h27 : FT 27 = some (.code A27)) (h26 : FT 26 = some (.code A26)) {l : List (Int × Int)} {v : AV} {lo : Nat} {ex : Bool} (hr : rightM (n : Int) l = true) (hll : l.length ≤ 1000000) (hP : ∀ H, (∀ o', o' ≠ o → H.get o' = H0.get o') → Pairs H v l) :
    ∀ (d : Nat) {x : Nat} {H : Heap} {used : Nat → Bool}, n < d + x → x ≤ n → U H0 H o n used →
    Cp FT 27 [.int .i64 n, v, .slc o 0 n 1 lo ex, .int .i64 x] H (fun r H' => ∃ b : Nat, r = .int .i64 b ∧ Best n (Adj (natE l)) (Fr used x) b ∧ U H0 H' o n used) := by
  have hrm := right_mem hr
  have g := gph_of hr
  rw [Int.toNat_natCast] at g
  intro d
  induction d with
  | zero => intro x H used h1 h2 _; omega
  | succ d ih =>
    intro x H used hd hx hu
    refine Cp_code A27 h27 rfl ?_
    simp [A27]
    refine Wp_loop (fun f τ H' => ∃ y : Nat, x ≤ y ∧ y ≤ n ∧ f = n - y ∧ (∀ i, x ≤ i → i < y → used i = true) ∧ H' = H ∧ Env.at τ 0 = .int .i64 (n : Int) ∧ Env.at τ 1 = v ∧ Env.at τ 2 = .slc o 0 n 1 lo ex ∧ Env.at τ 3 = .int .i64 (y : Int)) ?_ (n - x) _ _ ⟨x, Nat.le_refl _, hx, rfl, (fun i a b => by omega), rfl, by simp, by simp, by simp, by simp⟩
    rintro f τ _ ⟨y, hy1, hy2, rfl, hall, rfl, t0, t1, t2, t3⟩
    simp only [Wp_seq, Wp_region, Wp_block]
    by_cases hc : y < n
    · have w : IntKind.i64.wrap ((y : Int) + 1) = ((y + 1 : Nat) : Int) := wrap64 (by omega) (by omega)
      have c1 : ((y : Int) < (n : Int)) := by omega
      cases huy : used y with
      | true =>
        have ld := hu.ld hc
        rw [huy] at ld
        simp [t0, t1, t2, t3, hc, ld, w]
        refine ⟨_, by omega, y + 1, by omega, by omega, rfl, ?_, by simp⟩
        intro i a b
        by_cases e : i = y
        · rw [e]; exact huy
        · exact hall i a (by omega)
      | false =>
        have ld := hu.ld hc
        rw [huy] at ld
        have c2 : ¬ ((n : Int) ≤ (y : Int)) := by omega
        simp [t0, t1, t2, t3, hc, ld, w, c2]
        refine (ih (x := y + 1) (by omega) (by omega) hu).mono ?_
        rintro _ H1 ⟨b0, rfl, hb0, hu1⟩
        simp [t3, w]
        have hPy : ∀ i, Fr used y i → y ≤ i := fun i q => q.1
        have hxy : ∀ i, i < n → (Fr used y i ↔ Fr used x i) := by
          intro i hi
          constructor
          · rintro ⟨a, b⟩; exact ⟨by omega, b⟩
          · rintro ⟨a, b⟩
            refine ⟨?_, b⟩
            refine Classical.byContradiction fun q => ?_
            rw [hall i a (by omega)] at b; cases b
        have bk0 : Bk n (Adj (natE l)) (Fr used y) y (y + 1) b0 := Bk.init g hPy (hb0.congr g fun i _ => by
          unfold Fr
          constructor
          · rintro ⟨a, b⟩; exact ⟨⟨by omega, b⟩, by omega⟩
          · rintro ⟨⟨a, b⟩, c⟩; exact ⟨by omega, b⟩)
        refine Wp_loop (fun f τ H' => ∃ (k best : Nat), y + 1 ≤ k ∧ k ≤ n ∧ f = n - k ∧ Bk n (Adj (natE l)) (Fr used y) y k best ∧ U H0 H' o n used ∧ Env.at τ 0 = .int .i64 (n : Int) ∧ Env.at τ 1 = v ∧ Env.at τ 2 = .slc o 0 n 1 lo ex ∧ Env.at τ 3 = .int .i64 (y : Int) ∧ Env.at τ 9 = .int .i64 (best : Int) ∧ Env.at τ 10 = .int .i64 (k : Int)) ?_ (n - (y + 1)) _ _ ⟨y + 1, b0, Nat.le_refl _, hc, rfl, bk0, hu1, by simp [t0], by simp [t1], by simp [t2], by simp [t3], by simp, by simp⟩
        rintro f τ H2 ⟨k, best, hk1, hk2, rfl, bk, hu2, t0, t1, t2, t3, t9, t10⟩
        simp only [Wp_seq, Wp_region, Wp_block]
        by_cases hck : k < n
        · have w2 : IntKind.i64.wrap ((k : Int) + 1) = ((k + 1 : Nat) : Int) := wrap64 (by omega) (by omega)
          have ld2 := hu2.ld hck
          have go : ∀ {H' best'}, Bk n (Adj (natE l)) (Fr used y) y (k + 1) best' → U H0 H' o n used → ∃ m', m' < n - k ∧ ∃ k', y + 1 ≤ k' ∧ k' ≤ n ∧ m' = n - k' ∧ ∃ x, Bk n (Adj (natE l)) (Fr used y) y k' x ∧ U H0 H' o n used ∧ (best' : Int) = (x : Int) ∧ (k : Int) + 1 = (k' : Int) := fun {H' best'} h1 h2 => ⟨_, by omega, k + 1, by omega, by omega, rfl, best', h1, h2, rfl, by simp⟩
          cases huk : used k with
          | true =>
            rw [huk] at ld2
            simp [t0, t1, t2, t3, t9, t10, hck, ld2, w2]
            exact go (bk.skip (.inl fun q => by rw [q.2] at huk; cases huk)) hu2
          | false =>
            rw [huk] at ld2
            have hP2 : Pairs H2 v l := hP H2 hu2.eq
            simp [t0, t1, t2, t3, t9, t10, hck, ld2]
            refine (joined26 h26 hP2 (by omega)).mono ?_
            rintro _ _ ⟨rfl, rfl⟩
            cases hj : hasT (hasE (y : Int) (k : Int)) l with
            | false =>
              simp [t0, t1, t2, t3, t9, t10, w2]
              refine go (bk.skip (.inr fun q => ?_)) hu2
              have : hasT (hasE (y : Int) (k : Int)) l = true := by
                rw [hasT_iff]
                rcases Adj_iff.1 q with q | q
                · exact .inl ((natE_mem hr).1 q)
                · exact .inr ((natE_mem hr).1 q)
              rw [hj] at this; cases this
            | true =>
              obtain ⟨H3, s3, hu3⟩ := hu2.st (x := true) hck
              simp [t0, t1, t2, t3, t9, t10, hck, s3, w]
              refine (ih (x := y + 1) (by omega) (by omega) hu3).mono ?_
              rintro _ H4 ⟨b1, rfl, hb1, hu4⟩
              obtain ⟨H5, s5, hu5⟩ := hu4.st (x := false) hck
              have h1 := hb1.le g
              have w3 : IntKind.i64.wrap (1 + (b1 : Int)) = ((1 + b1 : Nat) : Int) := wrap64 (by omega) (by omega)
              have hmx : maxA true (.int .i64 (best : Int)) [.int .i64 (1 + (b1 : Int))] = some (.int .i64 ((max best (1 + b1) : Nat) : Int)) := by
                simp only [maxA, if_true]
                congr 2
                by_cases q : 1 + b1 ≤ best
                · rw [Nat.max_eq_left q, if_neg (by omega)]
                · rw [Nat.max_eq_right (by omega), if_pos (by omega)]; simp
              simp [t0, t1, t2, t3, t9, t10, hck, w3, hmx, s5, w2]
              have hE : Adj (natE l) y k := by
                rw [Adj_iff, natE_mem hr, natE_mem hr]; exact hasT_iff.1 hj
              refine go (bk.take g (hb1.congr g fun i _ => ?_) hE ⟨by omega, huk⟩ ⟨Nat.le_refl _, huy⟩) (hu5.congr fun i _ => ?_)
              · unfold Fr
                by_cases e : i = k
                · subst e; simp
                · rw [upd_ne e]
                  constructor
                  · rintro ⟨a, b⟩; exact ⟨⟨⟨by omega, b⟩, by omega⟩, e⟩
                  · rintro ⟨⟨⟨a, b⟩, c⟩, _⟩; exact ⟨by omega, b⟩
              · by_cases e : i = k
                · subst e; rw [upd_same]; exact huk.symm
                · rw [upd_ne e, upd_ne e]
        · simp [t0, t1, t2, t3, t9, t10, hck]
          exact ⟨best, rfl, (bk.done g (by omega)).congr g hxy, hu2⟩
    · have : y = n := by omega
      subst this
      simp [t0, t1, t2, t3]
      exact ⟨0, rfl, best_none (fun i hi q => by have q2 := q.2; rw [hall i q.1 hi] at q2; cases q2), hu⟩
theorem sl_gets {α : Type} {e : Nat} {enc : α → List AV} {H H' : Heap} {v : AV} {xs : List α} (h : Sl e enc H v xs) (hw : H.Wf) (k : ∀ o, o < H.next → H'.get o = H.get o) : Sl e enc H' v xs := by
  rcases h with h | ⟨o, off, lo, ex, cs, a, b, d⟩
  · exact .inl h
  · refine .inr ⟨o, off, lo, ex, cs, a, ?_, d⟩
    have ho : o < H.next := Classical.byContradiction fun q => by
      unfold Heap.cellsAt at b
      rw [hw.2 o (by omega)] at b; cases b
    unfold Heap.cellsAt at b ⊢
    rw [k o ho]; exact b
theorem most14 {H : Heap} (h14 : FT 14 = some (.code A14)) (h27 : FT 27 = some (.code A27)) (h26 : FT 26 = some (.code A26)) (hw : H.Wf) {l : List (Int × Int)} {v : AV} (h : Pairs H v l) (hr : rightM (n : Int) l = true) (hll : l.length ≤ 1000000) :
    Cp FT 14 [.int .i64 n, v] H (fun r H' => ∃ b : Nat, r = .int .i64 b ∧ Best n (Adj (natE l)) (fun _ => True) b ∧ H'.Wf) := by
  have hrm := right_mem hr
  have g := gph_of hr
  rw [Int.toNat_natCast] at g
  refine Cp_code A14 h14 rfl ?_
  have hmk := mk_arr (H := H) (n := n) (b := 1) (x := .bool false) rfl (by omega) (by omega)
  simp [A14, hmk]
  have hu : U (H.push (.cells (arr n fun _ => .bool false))) (H.push (.cells (arr n fun _ => .bool false))) H.next n (fun _ => false) :=
    ⟨hw.push _, rfl, rfl, ⟨hw.1, Nat.lt_succ_self _⟩, fun _ _ => rfl, get_pushN.trans (if_pos rfl)⟩
  refine (most27 h27 h26 (H0 := H.push (.cells (arr n fun _ => .bool false))) (o := H.next) (n := n) (v := v) hr hll ?_ (n + 1) (x := 0) (by omega) (Nat.zero_le _) hu).mono ?_
  · intro H' hg
    exact sl_gets h hw fun o' ho' => by rw [hg o' (by omega), get_pushN, if_neg (by omega)]
  · rintro _ H' ⟨b, rfl, hb, hu'⟩
    simp
    exact ⟨b, rfl, hb.congr g fun i _ => by simp [Fr], hu'.wf⟩
end
end Go.Proofs.Ytjhhicmlflelhaa.Gr

