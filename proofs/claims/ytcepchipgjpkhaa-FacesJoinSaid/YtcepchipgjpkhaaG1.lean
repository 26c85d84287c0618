/- May faces be, and a mesh, as the document asks it. No claim by itself. -/
import Derived.Test.YtcepchipgjpkhaaF2
namespace Go.Proofs.Ytcepchipgjpkhaa
open Go Go.AI
theorem nod_succ {α : Type} {xs : List α} {j : Nat} {x : α} (h : (xs.take j).Nodup) (hx : xs[j]? = some x) (hn : x ∉ xs.take j) : (xs.take (j + 1)).Nodup := by
  have e : xs.take (j + 1) = xs.take j ++ [x] := by rw [List.take_add_one, hx]; rfl
  rw [e, List.nodup_append]; exact ⟨h, by simp, fun a ha b hb => by simp at hb; subst hb; exact fun q => hn (q ▸ ha)⟩
theorem nod_no {α : Type} {xs : List α} {i j : Nat} {x : α} (hi : xs[i]? = some x) (hj : xs[j]? = some x) (hij : i < j) : ¬ xs.Nodup := by
  intro h
  obtain ⟨a, ha⟩ := List.getElem?_eq_some_iff.1 hi
  obtain ⟨b, hb⟩ := List.getElem?_eq_some_iff.1 hj
  exact List.pairwise_iff_getElem.1 h i j a b hij (ha.trans hb.symm)
theorem not_take {α : Type} {xs : List α} {j : Nat} {x : α} (h : ∀ c : Nat, c < j → xs[c]? ≠ some x) : x ∉ xs.take j := by
  intro hm
  obtain ⟨c, hc, e⟩ := List.getElem_of_mem hm
  have hc' : c < j := by simp at hc; omega
  apply h c hc'
  rw [← e, List.getElem_take]
  exact List.getElem?_eq_getElem (by simp at hc; omega)
section
variable {FT : Nat → Option FnD} {H : Heap}
theorem flat_edges (F : List (List Int)) : (F.flatMap edgesF).length = F.flatten.length := by
  induction F with
  | nil => rfl
  | cons f F ih => simp [edgesF_len, ih]
def dn (F : List (List Int)) (i : Nat) (f : List Int) (j : Nat) : List (Int × Int) := (F.take i).flatMap edgesF ++ (edgesF f).take j
theorem dn_len {F : List (List Int)} {i : Nat} {f : List Int} (hf : F[i]? = some f) (j : Nat) : (dn F i f j).length ≤ F.flatten.length := by
  have h1 : F = F.take i ++ f :: F.drop (i + 1) := by rw [← drop_get hf, List.take_append_drop]
  have h2 : (F.flatMap edgesF).length = ((F.take i).flatMap edgesF).length + ((edgesF f).length + ((F.drop (i + 1)).flatMap edgesF).length) := by
    conv => lhs; rw [h1]
    simp
  rw [← flat_edges, h2]
  unfold dn
  rw [List.length_append, List.length_take]; omega
structure A1 (H H' : Heap) (vF v : AV) (F : List (List Int)) (τ : Env) (i m : Nat) : Prop where
  bd : Bd 2 pairc H H' v ((F.take i).flatMap edgesF)
  le : i ≤ F.length
  hm : m = F.length - i
  t0 : Env.at τ 0 = vF
  t3 : Env.at τ 3 = v
  t4 : Env.at τ 4 = .int .i64 i
structure A2 (H H' : Heap) (vF v : AV) (F : List (List Int)) (f : List Int) (τ : Env) (i j m : Nat) : Prop where
  bd : Bd 2 pairc H H' v (dn F i f j)
  le : j ≤ f.length
  hm : m = f.length - j
  t0 : Env.at τ 0 = vF
  t3 : Env.at τ 3 = v
  t4 : Env.at τ 4 = .int .i64 i
  t5 : Env.at τ 5 = .int .i64 j
theorem all59 (h59 : FT 59 = some (.code A59)) {vF : AV} {F : List (List Int)} (hF : Gd H vF F) (hl : F.length ≤ 1000000000) (ht : F.flatten.length ≤ 1000000000) (hw : H.Wf) :
    Cp FT 59 [vF] H (fun r H' => Rw 2 pairc H' r (F.flatMap edgesF) ∧ Ext H H') := by
  refine Cp_code A59 h59 rfl ?_
  simp [A59]
  refine Wp_loop (fun m τ H' => ∃ i v, A1 H H' vF v F τ i m) ?_ F.length _ _ ⟨0, .nils, ⟨Bd.init hw, by omega, by omega, by simp, by simp, by simp⟩⟩
  rintro m τ H1 ⟨i, v, ⟨bd, hi, rfl, t0, t3, t4⟩⟩
  simp only [Wp_seq, Wp_region]
  by_cases c : i < F.length
  · simp [c, t0, t4, hF.len]
    obtain ⟨f, hf⟩ : ∃ f, F[i]? = some f := ⟨_, List.getElem?_eq_getElem c⟩
    have hfl : f.length ≤ 1000000000 := by
      have := dn_len hf f.length
      have e : ((edgesF f).take f.length).length = f.length := by rw [List.length_take, edgesF_len]; omega
      unfold dn at this; rw [List.length_append, e] at this; omega
    refine Wp_loop (fun m τ H' => ∃ j v, A2 H H' vF v F f τ i j m) ?_ f.length _ _ ⟨0, v, ⟨by simpa [dn] using bd, by omega, by omega, by simp [t0], by simp [t3], by simp [t4], by simp⟩⟩
    rintro m τ H2 ⟨j, v, ⟨bd, hj, rfl, t0, t3, t4, t5⟩⟩
    obtain ⟨p, r, f', a1, a2, a3, a4⟩ := hF.idxE (bd.ext hw) (k := .i64) (i := (i : Int)) (by omega) (by omega)
    rw [Int.toNat_natCast, hf] at a1
    cases a1
    simp only [Wp_seq, Wp_region]
    by_cases cj : j < f.length
    · have rs := (a4.ext (bd.ext hw)).sl i64c_len
      obtain ⟨q0, x0, b1, b2, b3⟩ := Ints.idx rs (k := .i64) (i := 0) (by omega) (by omega)
      obtain ⟨qj, xj, c1, c2, c3⟩ := Ints.idx rs (k := .i64) (i := (j : Int)) (by omega) (by omega)
      rw [Int.toNat_natCast] at c1
      have b1' : f[0]? = some x0 := by simpa using b1
      have w : IntKind.i64.wrap ((j : Int) + 1) = ((j + 1 : Nat) : Int) := wrap64 (by omega) (by omega)
      have step : ∀ y, (edgesF f)[j]? = some (xj, y) → ∃ v2 H3, appendA 2 16 (H2.push (.cells [.int .i64 xj, .int .i64 y])) v (.slc H2.next 0 1 2 1 true) = some (v2, H3) ∧ Bd 2 pairc H H3 v2 (dn F i f (j + 1)) := by
        intro y hy
        have hlen := dn_len hf j
        obtain ⟨v2, H3, k1, bd2, _⟩ := bd.app1 (bytes := 16) pairc_len (by omega) pairc_one (xj, y) (by omega)
        have hd : dn F i f (j + 1) = dn F i f j ++ [(xj, y)] := by unfold dn; rw [List.take_add_one, hy]; simp
        exact ⟨v2, H3, k1, by rw [hd]; exact bd2⟩
      by_cases cn : j + 1 < f.length
      · have cn' : (j : Int) + 1 < f.length := by omega
        obtain ⟨qn, xn, d1, d2, d3⟩ := Ints.idx rs (k := .i64) (i := ((j + 1 : Nat) : Int)) (by omega) (by omega)
        rw [Int.toNat_natCast] at d1
        obtain ⟨v2, H3, k1, bd2⟩ := step xn (edgesF_get c1 (by rw [Nat.mod_eq_of_lt cn]; exact d1))
        have cn2 : ((j + 1 : Nat) : Int) < f.length := by omega
        simp [-Int.natCast_add, cj, t0, t3, t4, t5, a2, a3, a4.len, b2, b3, c2, c3, d2, d3, w, cn2, k1]
        exact ⟨_, by omega, j + 1, v2, ⟨bd2, by omega, rfl, by simp [t0], by simp, by simp [t4], by simp⟩⟩
      · have cn2 : ¬ ((j + 1 : Nat) : Int) < f.length := by omega
        have hz : (j + 1) % f.length = 0 := by rw [show j + 1 = f.length from by omega, Nat.mod_self]
        obtain ⟨v2, H3, k1, bd2⟩ := step x0 (edgesF_get c1 (by rw [hz]; exact b1'))
        simp [-Int.natCast_add, cj, t0, t3, t4, t5, a2, a3, a4.len, b2, b3, c2, c3, w, cn2, k1]
        exact ⟨_, by omega, j + 1, v2, ⟨bd2, by omega, rfl, by simp [t0], by simp, by simp [t4], by simp⟩⟩
    · have hjl : j = f.length := by omega
      subst hjl
      have w : IntKind.i64.wrap ((i : Int) + 1) = ((i + 1 : Nat) : Int) := wrap64 (by omega) (by omega)
      have hd : dn F i f f.length = (F.take (i + 1)).flatMap edgesF := by
        have e : (edgesF f).take f.length = edgesF f := List.take_of_length_le (by rw [edgesF_len]; exact Nat.le_refl _)
        unfold dn; rw [e, List.take_add_one, hf]; simp
      rw [hd] at bd
      simp [t0, t4, t5, a2, a3, a4.len, w]
      exact ⟨_, by omega, i + 1, v, ⟨bd, by omega, rfl, by simp [t0], by simp [t3], by simp⟩⟩
  · have hil : i = F.length := by omega
    subst hil
    rw [List.take_length] at bd
    simp [t0, t3, t4, hF.len]
    exact ⟨bd.ow.rw pairc_len, bd.ext hw⟩
structure B1r (H H' : Heap) (n : Int) (vF : AV) (F : List (List Int)) (τ : Env) (i m : Nat) : Prop where
  eq : H = H'
  le : i ≤ F.length
  hm : m = F.length - i
  ok : fOkTo n F i
  t0 : Env.at τ 0 = .int .i64 n
  t1 : Env.at τ 1 = vF
  t5 : Env.at τ 5 = .int .i64 i
structure B2r (H H' : Heap) (n : Int) (vF : AV) (f : List Int) (τ : Env) (i j m : Nat) : Prop where
  eq : H = H'
  le : j ≤ f.length
  hm : m = f.length - j
  ok : inTo n f j
  t0 : Env.at τ 0 = .int .i64 n
  t1 : Env.at τ 1 = vF
  t5 : Env.at τ 5 = .int .i64 i
  t6 : Env.at τ 6 = .int .i64 j
structure B3r (H H' : Heap) (n : Int) (vF : AV) (f : List Int) (x : Int) (τ : Env) (i j c m : Nat) : Prop where
  eq : H = H'
  le : c ≤ j
  hm : m = j - c
  ok : ∀ d : Nat, d < c → f[d]? ≠ some x
  t0 : Env.at τ 0 = .int .i64 n
  t1 : Env.at τ 1 = vF
  t5 : Env.at τ 5 = .int .i64 i
  t6 : Env.at τ 6 = .int .i64 j
  t7 : Env.at τ 7 = .int .i64 c
def r25a : ACode := subAt [1,1,0] A25.body
def r25b : ACode := subAt [1,1,1,1] A25.body
theorem body25 : A25.body = putAt [1,1,0] (putAt [1,1,1,1] A25.body r25b) r25a := rfl
structure Qr (H H' : Heap) (n : Int) (vF : AV) (F : List (List Int)) (τ : Env) : Prop where
  eq : H = H'
  ok : fOkTo n F F.length
  t1 : Env.at τ 1 = vF
theorem ref25a {n : Int} {vF : AV} {F : List (List Int)} (hF : Gd H vF F) (hsz : ∀ f, f ∈ F → f.length ≤ 1000000000) (hl : F.length ≤ 1000000000) {τ0 : Env} (u0 : Env.at τ0 0 = .int .i64 n) (u1 : Env.at τ0 1 = vF) :
    Wp FT r25a τ0 H (fun s τ H' => (s = .next ∧ Qr H H' n vF F τ) ∨ (s = .ret ∧ H = H' ∧ chkF n F = 2 ∧ Env.at τ 4 = .int .i64 2)) := by
  simp [r25a, subAt, A25]
  refine Wp_loop (fun m τ H' => ∃ i, B1r H H' n vF F τ i m) ?_ F.length _ _ ⟨0, ⟨rfl, by omega, by omega, by simp [fOkTo], by simp [u0], by simp [u1], by simp⟩⟩
  rintro m τ _ ⟨i, ⟨rfl, hi, rfl, ok, t0, t1, t5⟩⟩
  simp only [Wp_seq, Wp_region]
  by_cases c : i < F.length
  · obtain ⟨p, r, f, a1, a2, a3, a4⟩ := hF.idx (k := .i64) (i := (i : Int)) (by omega) (by omega)
    rw [Int.toNat_natCast] at a1
    have hfm := List.mem_of_getElem? a1
    have hfl := hsz f hfm
    by_cases c3 : f.length < 3
    · have hb := chkF_bad (n := n) hfm (fun q => by have := q.1; omega)
      have c3' : (f.length : Int) < 3 := by omega
      simp [c, t1, t5, hF.len, a2, a3, a4.len, c3']
      exact hb
    have c3' : ¬ (f.length : Int) < 3 := by omega
    simp [c, t1, t5, hF.len, a2, a3, a4.len, c3']
    refine Wp_loop (fun m τ H' => ∃ j, B2r H H' n vF f τ i j m) ?_ f.length _ _ ⟨0, ⟨rfl, by omega, by omega, ⟨by simp, by simp⟩, by simp [t0], by simp [t1], by simp [t5], by simp⟩⟩
    rintro m τ _ ⟨j, ⟨rfl, hj, rfl, hin, t0, t1, t5, t6⟩⟩
    simp only [Wp_seq, Wp_region]
    by_cases cj : j < f.length
    · obtain ⟨q, x, b1, b2, b3⟩ := Ints.idx (a4.sl i64c_len) (k := .i64) (i := (j : Int)) (by omega) (by omega)
      rw [Int.toNat_natCast] at b1
      by_cases c1 : x < 0
      · have hb := chkF_bad (n := n) hfm (rowOk_no b1 (.inl (by omega)))
        simp [cj, t1, t5, t6, a2, a3, a4.len, b2, b3, c1]
        exact hb
      by_cases c2 : n ≤ x
      · have hb := chkF_bad (n := n) hfm (rowOk_no b1 (.inl (by omega)))
        simp [cj, t0, t1, t5, t6, a2, a3, a4.len, b2, b3, c1, c2]
        exact hb
      simp [cj, t0, t1, t5, t6, a2, a3, a4.len, b2, b3, c1, c2]
      refine Wp_loop (fun m τ H' => ∃ c, B3r H H' n vF f x τ i j c m) ?_ j _ _ ⟨0, ⟨rfl, by omega, by omega, by omega, by simp [t0], by simp [t1], by simp [t5], by simp [t6], by simp⟩⟩
      rintro m τ _ ⟨k, ⟨rfl, hk, rfl, hd, t0, t1, t5, t6, t7⟩⟩
      simp only [Wp_seq, Wp_region]
      by_cases ck : k < j
      · obtain ⟨qk, xk, d1, d2, d3⟩ := Ints.idx (a4.sl i64c_len) (k := .i64) (i := (k : Int)) (by omega) (by omega)
        rw [Int.toNat_natCast] at d1
        have w : IntKind.i64.wrap ((k : Int) + 1) = ((k + 1 : Nat) : Int) := wrap64 (by omega) (by omega)
        by_cases ce : xk = x
        · have hm : x ∈ f.take j := by rw [← ce]; exact List.mem_of_getElem? (i := k) (by rw [List.getElem?_take, if_pos ck]; exact d1)
          have hb := chkF_bad (n := n) hfm (rowOk_no b1 (.inr hm))
          simp [ck, t1, t5, t6, t7, a2, a3, b2, b3, d2, d3, ce]
          exact hb
        · simp [ck, t1, t5, t6, t7, a2, a3, b2, b3, d2, d3, ce, w]
          refine ⟨_, by omega, k + 1, ⟨rfl, by omega, rfl, fun d hd' => ?_, by simp [t0], by simp [t1], by simp [t5], by simp [t6], by simp⟩⟩
          by_cases hdk : d = k
          · subst hdk; rw [d1]; simpa using ce
          · exact hd d (by omega)
      · have hkj : k = j := by omega
        subst hkj
        have w : IntKind.i64.wrap ((k : Int) + 1) = ((k + 1 : Nat) : Int) := wrap64 (by omega) (by omega)
        simp [t6, t7, w]
        exact ⟨_, by omega, k + 1, ⟨rfl, by omega, rfl, inTo_succ hin b1 (by omega) (not_take hd), by simp [t0], by simp [t1], by simp [t5], by simp⟩⟩
    · have hjl : j = f.length := by omega
      subst hjl
      have w : IntKind.i64.wrap ((i : Int) + 1) = ((i + 1 : Nat) : Int) := wrap64 (by omega) (by omega)
      have hok1 : fOkTo n F (i + 1) := by
        intro g hg
        rw [List.take_add_one, a1] at hg
        rcases List.mem_append.1 hg with q | q
        · exact ok g q
        · simp at q; subst q
          unfold inTo at hin; rw [List.take_length] at hin
          exact ⟨by omega, hin.1, hin.2⟩
      simp [t1, t5, t6, a2, a3, a4.len, w]
      exact ⟨_, by omega, i + 1, ⟨rfl, by omega, rfl, hok1, by simp [t0], by simp [t1], by simp⟩⟩
  · have hil : i = F.length := by omega
    subst hil
    simp [t1, t5, hF.len]
    exact ⟨rfl, ok, by simp [t1]⟩
structure C1r (H H' : Heap) (v : AV) (L : List (Int × Int)) (τ : Env) (i m : Nat) : Prop where
  eq : H = H'
  le : i ≤ L.length
  hm : m = L.length - i
  nd : (L.take i).Nodup
  t8 : Env.at τ 8 = v
  t9 : Env.at τ 9 = .int .i64 i
structure C2r (H H' : Heap) (v : AV) (L : List (Int × Int)) (x : Int × Int) (τ : Env) (i c m : Nat) : Prop where
  eq : H = H'
  le : c ≤ i
  hm : m = i - c
  ok : ∀ d : Nat, d < c → L[d]? ≠ some x
  t8 : Env.at τ 8 = v
  t9 : Env.at τ 9 = .int .i64 i
  t10 : Env.at τ 10 = .int .i64 c
theorem ref25b {v : AV} {L : List (Int × Int)} (hL : Rw 2 pairc H v L) (hl : L.length ≤ 1000000000) {τ0 : Env} (u8 : Env.at τ0 8 = v) :
    Wp FT r25b τ0 H (fun s τ H' => s = .ret ∧ H = H' ∧ Env.at τ 4 = .int .i64 (if L.Nodup then 0 else 80)) := by
  simp [r25b, subAt, A25]
  have hsl := hL.sl pairc_len
  refine Wp_loop (fun m τ H' => ∃ i, C1r H H' v L τ i m) ?_ L.length _ _ ⟨0, ⟨rfl, by omega, by omega, by simp, by simp [u8], by simp⟩⟩
  rintro m τ _ ⟨i, ⟨rfl, hi, rfl, nd, t8, t9⟩⟩
  simp only [Wp_seq, Wp_region]
  by_cases c : i < L.length
  · obtain ⟨p, x, a1, a2, a3, _⟩ := Sl.idx hsl (k := .i64) (i := (i : Int)) (by omega) (by omega)
    rw [Int.toNat_natCast] at a1
    simp [c, t8, t9, hL.len]
    refine Wp_loop (fun m τ H' => ∃ k, C2r H H' v L x τ i k m) ?_ i _ _ ⟨0, ⟨rfl, by omega, by omega, by omega, by simp [t8], by simp [t9], by simp⟩⟩
    rintro m τ _ ⟨k, ⟨rfl, hk, rfl, hd, t8, t9, t10⟩⟩
    simp only [Wp_seq, Wp_region]
    by_cases ck : k < i
    · obtain ⟨q, y, b1, b2, b3, _⟩ := Sl.idx hsl (k := .i64) (i := (k : Int)) (by omega) (by omega)
      rw [Int.toNat_natCast] at b1
      by_cases ce : x = y
      · have hf : binA .eql (.flat [.int, .int]) (.agg (pairc x)) (.agg (pairc y)) = some (.bool true) := by rw [eqPair, decide_eq_true ce]
        have hno : ¬ L.Nodup := nod_no b1 (by rw [a1, ce]) ck
        simp [ck, t8, t9, t10, a2, a3, b2, b3, hf, hno]
      · have hf : binA .eql (.flat [.int, .int]) (.agg (pairc x)) (.agg (pairc y)) = some (.bool false) := by rw [eqPair, decide_eq_false ce]
        have w : IntKind.i64.wrap ((k : Int) + 1) = ((k + 1 : Nat) : Int) := wrap64 (by omega) (by omega)
        simp [ck, t8, t9, t10, a2, a3, b2, b3, hf, w]
        refine ⟨_, by omega, k + 1, ⟨rfl, by omega, rfl, fun d hd' => ?_, by simp [t8], by simp [t9], by simp⟩⟩
        by_cases hdk : d = k
        · subst hdk; rw [b1]; simpa using fun q => ce q.symm
        · exact hd d (by omega)
    · have hki : k = i := by omega
      subst hki
      have w : IntKind.i64.wrap ((k : Int) + 1) = ((k + 1 : Nat) : Int) := wrap64 (by omega) (by omega)
      simp [t9, t10, w]
      exact ⟨_, by omega, k + 1, ⟨rfl, by omega, rfl, nod_succ nd a1 (not_take hd), by simp [t8], by simp⟩⟩
  · have hil : i = L.length := by omega
    subst hil
    rw [List.take_length] at nd
    simp [t8, t9, hL.len, nd]
theorem ref25 (h25 : FT 25 = some (.code A25)) (h59 : FT 59 = some (.code A59)) {n : Int} {vF : AV} {F : List (List Int)} (hF : Gd H vF F) (hsz : ∀ f, f ∈ F → f.length ≤ 1000000000) (hl : F.length ≤ 1000000000) (ht : F.flatten.length ≤ 1000000000) (hw : H.Wf) :
    Cp FT 25 [.int .i64 n, vF] H (fun r H' => r = .int .i64 (chkF n F) ∧ Ext H H') := by
  refine Cp_code A25 h25 rfl ?_
  have hA : A25.results = [.tmp 4] := rfl
  rw [hA, body25]
  have bad : (n < 0 ∨ 1048576 < n) → chkF n F = 2 := fun h => by unfold chkF; rw [if_neg]; exact fun q => by have := q.1; omega
  generalize hka : r25a = ka
  generalize hkb : r25b = kb
  by_cases c1 : n < 0
  · have hb := bad (.inl c1)
    simp [A25, putAt, c1, hb]
    exact Ext.refl hw
  by_cases c2 : 1048576 < n
  · have hb := bad (.inr c2)
    simp [A25, putAt, c1, c2, hb]
    exact Ext.refl hw
  simp [A25, putAt, c1, c2]
  rw [← hka]
  refine (ref25a (n := n) hF hsz hl (by simp) (by simp)).mono ?_
  rintro s τ _ (⟨rfl, rfl, hok, t1⟩ | ⟨rfl, rfl, hb, t4⟩)
  · have hall : (0 ≤ n ∧ n ≤ 1048576) ∧ ∀ f, f ∈ F → rowOk n f := ⟨by omega, by unfold fOkTo at hok; rwa [List.take_length] at hok⟩
    simp [t1]
    refine (all59 h59 hF hl ht hw).mono ?_
    rintro v H1 ⟨hr, e1⟩
    simp
    rw [← hkb]
    refine (ref25b hr (by rw [flat_edges]; exact ht) (by simp)).mono ?_
    rintro s τ _ ⟨rfl, rfl, t4⟩
    have hz : chkF n F = if (F.flatMap edgesF).Nodup then 0 else 80 := by
      unfold chkF; rw [if_pos hall]
    simp [t4, hz]
    exact e1
  · simp [t4, hb]
    exact Ext.refl hw
end
end Go.Proofs.Ytcepchipgjpkhaa
