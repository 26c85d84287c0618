/- A word's number, as the program reads it. No claim by itself. -/
import Derived.Test.YtacfhbhfgbjleaaDoorTab
import Derived.Test.YtacfhbhfgbjleaaDoorC4
import Derived.Test.YtacfhbhfgbjleaaDoorED
namespace Go.Proofs.YtacfhbhfgbjleaaDoor
open Go Go.AI
def rest47 : ACode := part2 (part2 (part2 (part2 (part2 A47.body))))
theorem body47 : A47.body = .seq (part1 A47.body) (.seq (part1 (part2 A47.body)) (.seq (part1 (part2 (part2 A47.body))) (.seq (part1 (part2 (part2 (part2 A47.body)))) (.seq (part1 (part2 (part2 (part2 (part2 A47.body))))) rest47)))) := rfl
theorem wrap32 {n : Int} (h0 : -2147483648 ≤ n) (h1 : n ≤ 2147483647) : IntKind.wrap .i32 n = n := by
  unfold IntKind.wrap
  simp [IntKind.bits, IntKind.signed]
  omega
def dgTo (d : List Nat) (p : Nat) : Bool := (d.take p).all isDg
def vTo (d : List Nat) (p : Nat) : Nat := digV (d.take p)
theorem dgTo_succ {d : List Nat} {p b : Nat} (h : d[p]? = some b) : dgTo d (p + 1) = (dgTo d p && isDg b) := by
  unfold dgTo; rw [List.take_add_one, h]; simp
theorem vTo_succ {d : List Nat} {p b : Nat} (h : d[p]? = some b) : vTo d (p + 1) = 10 * vTo d p + (b - 48) := by
  unfold vTo; rw [List.take_add_one, h]; exact digV_snoc _ _
def restV (d : List Nat) (minus : Bool) (most : Int) : Int × Int :=
  if d.all isDg = false then (0, 11) else if most < 0 ∨ most < digV d then (0, 10) else (if minus = true then -(digV d : Int) else digV d, 0)
section
variable {FT : Nat → Option FnD} {H : Heap}
theorem number_rest (hw : H.Wf) {d : List Nat} (hd : ∀ b, b ∈ d → b < 256) (hdl : d.length ≤ 1099511627776) {most : Int} (hm0 : -9223372036854775808 ≤ most) (hm : most ≤ 9223372036854775807) {minus : Bool} {τ0 : Env}
    (u1 : Env.at τ0 1 = .int .i64 most) (u6 : Env.at τ0 6 = .bool minus) (u7 : Env.at τ0 7 = .str d) :
    Wp FT rest47 τ0 H (finQ [.tmp 4, .tmp 5] fun r H' => r = .tup [.int .i64 (restV d minus most).1, .int .i64 (restV d minus most).2] ∧ Ext H H') := by
  simp [rest47, A47, part2, u1, u7]
  have e0 := Ext.push hw (.siter d 0)
  have g0 : (H.push (.siter d 0)).get H.next = some (.siter d 0) := get_pushN.trans (if_pos rfl)
  refine Wp_loop (fun m τ H' => Ext H H' ∧ ∃ (p : Nat) (n : Int) (far : Bool), p ≤ d.length ∧ m = d.length - p ∧ H.next < H'.next ∧ H'.get H.next = some (.siter d p) ∧ dgTo d p = true ∧ (far = true ↔ most < 0 ∨ most < vTo d p) ∧ (far = false → n = vTo d p) ∧
    Env.at τ 1 = .int .i64 most ∧ Env.at τ 6 = .bool minus ∧ Env.at τ 8 = .int .i64 n ∧ Env.at τ 9 = .bool far ∧ Env.at τ 38 = .ptr H.next 0) ?_ d.length _ _ ⟨e0, 0, 0, decide (most < 0), by omega, by omega, Nat.lt_succ_self _, g0, by simp [dgTo], by simp [vTo, digV], by simp [vTo, digV], by simp [u1], by simp [u6], by simp, by simp, by simp⟩
  rintro m τ H1 ⟨ex, p, n, far, hp, rfl, hnx, g, hdg, hfar, hn, t1, t6, t8, t9, t38⟩
  have hfl : H1.floor ≤ H.next := by rw [ex.floor]; exact hw.1
  simp only [Wp_seq, Wp_region]
  by_cases hc : p < d.length
  · obtain ⟨b, hb⟩ : ∃ b, d[p]? = some b := ⟨_, List.getElem?_eq_getElem hc⟩
    have hbm := List.mem_of_getElem? hb
    have hb2 := hd b hbm
    have hno : isDg b = false → restV d minus most = (0, 11) := fun q => by
      have : d.all isDg = false := by rw [List.all_eq_false]; exact ⟨b, hbm, by simp [q]⟩
      unfold restV; rw [if_pos this]
    by_cases hbig : 128 ≤ b
    · obtain ⟨c, w, hde, hc1, hc2⟩ := decode_big hb hbig hb2
      have hr := hno (by simp [isDg]; omega)
      have n1 : ¬ (c : Int) < 48 := by omega
      have n2 : (57 : Int) < c := by omega
      simp [t38, nextSA_go hfl g hc hde, n1, n2, hr]
      exact ex.setNew hw (Nat.le_refl _) hnx
    · have hde := decode_small hb (by omega)
      by_cases c1 : b < 48
      · have hr := hno (by simp [isDg]; omega)
        have n1 : (b : Int) < 48 := by omega
        simp [t38, nextSA_go hfl g hc hde, n1, hr]
        exact ex.setNew hw (Nat.le_refl _) hnx
      by_cases c2 : 57 < b
      · have hr := hno (by simp [isDg]; omega)
        have n1 : ¬ (b : Int) < 48 := by omega
        have n2 : (57 : Int) < b := by omega
        simp [t38, nextSA_go hfl g hc hde, n1, n2, hr]
        exact ex.setNew hw (Nat.le_refl _) hnx
      have n1 : ¬ (b : Int) < 48 := by omega
      have n2 : ¬ (57 : Int) < b := by omega
      have w1 : IntKind.i32.wrap ((b : Int) - 48) = (b : Int) - 48 := wrap32 (by omega) (by omega)
      have w2 : IntKind.i64.wrap ((b : Int) - 48) = (b : Int) - 48 := wrap64 (by omega) (by omega)
      have hv := vTo_succ hb
      have hd1 : dgTo d (p + 1) = true := by rw [dgTo_succ hb, hdg]; simp [isDg]; omega
      have gs : (H1.set H.next (.siter d (p + 1))).get H.next = some (.siter d (p + 1)) := get_setH.trans (if_pos rfl)
      have es := ex.setNew hw (x := .siter d (p + 1)) (Nat.le_refl _) hnx
      cases far with
      | true =>
        have hf := hfar.1 rfl
        simp [t38, nextSA_go hfl g hc hde, n1, n2, w1, w2, t9, t1, t6, t8]
        exact ⟨_, by omega, es, p + 1, by omega, rfl, hnx, gs, hd1, by omega⟩
      | false =>
        have hn := hn rfl
        subst hn
        have hf : ¬ (most < 0 ∨ most < vTo d p) := fun q => by have := hfar.2 q; cases this
        have w3 : IntKind.i64.wrap (most - ((b : Int) - 48)) = most - ((b : Int) - 48) := wrap64 (by omega) (by omega)
        have hq : -9223372036854775808 ≤ (most - ((b : Int) - 48)).tdiv 10 ∧ (most - ((b : Int) - 48)).tdiv 10 ≤ 9223372036854775807 ∧ ((b : Int) - 48 ≤ most → (most - ((b : Int) - 48)).tdiv 10 = (most - ((b : Int) - 48)) / 10) := by
          refine ⟨?_, ?_, fun h => Int.tdiv_eq_ediv_of_nonneg (by omega)⟩
          · rcases Int.le_total 0 (most - ((b : Int) - 48)) with q | q
            · rw [Int.tdiv_eq_ediv_of_nonneg q]; omega
            · have : most - ((b : Int) - 48) = -(((b : Int) - 48) - most) := by omega
              rw [this, Int.neg_tdiv, Int.tdiv_eq_ediv_of_nonneg (by omega)]; omega
          · rcases Int.le_total 0 (most - ((b : Int) - 48)) with q | q
            · rw [Int.tdiv_eq_ediv_of_nonneg q]; omega
            · have : most - ((b : Int) - 48) = -(((b : Int) - 48) - most) := by omega
              rw [this, Int.neg_tdiv, Int.tdiv_eq_ediv_of_nonneg (by omega)]; omega
        have w4 : IntKind.i64.wrap ((most - ((b : Int) - 48)).tdiv 10) = (most - ((b : Int) - 48)).tdiv 10 := wrap64 hq.1 hq.2.1
        by_cases r1 : (most - ((b : Int) - 48)).tdiv 10 < vTo d p
        · simp [t38, nextSA_go hfl g hc hde, n1, n2, w1, w2, t9, t1, t6, t8, w3, w4, r1]
          refine ⟨_, ?_, es, p + 1, by omega, rfl, hnx, gs, hd1, ?_⟩
          · omega
          · right; rw [hv]
            rcases Int.lt_or_le most ((b : Int) - 48) with q | q
            · omega
            · rw [hq.2.2 q] at r1; omega
        · by_cases r2 : most < (b : Int) - 48
          · simp [t38, nextSA_go hfl g hc hde, n1, n2, w1, w2, t9, t1, t6, t8, w3, w4, r1, r2]
            refine ⟨_, ?_, es, p + 1, by omega, rfl, hnx, gs, hd1, ?_⟩
            · omega
            · right; rw [hv]; omega
          · have hle : (10 * vTo d p : Int) + ((b : Int) - 48) ≤ most := by rw [hq.2.2 (by omega)] at r1; omega
            have w5 : IntKind.i64.wrap (10 * (vTo d p : Int)) = 10 * (vTo d p : Int) := wrap64 (by omega) (by omega)
            have w6 : IntKind.i64.wrap (10 * (vTo d p : Int) + ((b : Int) - 48)) = 10 * (vTo d p : Int) + ((b : Int) - 48) := wrap64 (by omega) (by omega)
            simp [t38, nextSA_go hfl g hc hde, n1, n2, w1, w2, t9, t1, t6, t8, w3, w4, r1, r2, w5, w6]
            refine ⟨_, ?_, es, p + 1, by omega, rfl, hnx, gs, hd1, ?_, ?_⟩
            · omega
            · rw [hv]; omega
            · rw [hv]; omega
  · have hpl : p = d.length := by omega
    subst hpl
    have hall : d.all isDg = true := by unfold dgTo at hdg; rwa [List.take_length] at hdg
    have hvl : vTo d d.length = digV d := by unfold vTo; rw [List.take_length]
    rw [hvl] at hfar hn
    cases far with
    | true =>
      have hr : restV d minus most = (0, 10) := by unfold restV; rw [if_neg (by rw [hall]; simp), if_pos (hfar.1 rfl)]
      simp [t38, nextSA_end hfl g hc, t9, hr]
      exact ex
    | false =>
      have hf : ¬ (most < 0 ∨ most < digV d) := fun q => by have := hfar.2 q; cases this
      have hn := hn rfl
      subst hn
      have hr : restV d minus most = (if minus = true then -(digV d : Int) else digV d, 0) := by unfold restV; rw [if_neg (by rw [hall]; simp), if_neg hf]
      cases minus with
      | true =>
        have w7 : IntKind.i64.wrap (-(digV d : Int)) = -(digV d : Int) := wrap64 (by omega) (by omega)
        simp [t38, nextSA_end hfl g hc, t9, hr, t6, t8, unA, w7]
        exact ex
      | false =>
        simp [t38, nextSA_end hfl g hc, t9, hr, t6, t8]
        exact ex
theorem slSA_tail {c : Nat} {l : List Nat} : slSA (.str (c :: l)) (some (.int .i64 1)) none = some (.str l) := by
  have h : (0 : Int) ≤ 1 ∧ (1 : Int) ≤ (((c :: l).length : Nat) : Int) := by simp only [List.length_cons]; omega
  simp only [slSA, boundsA, boundA, if_pos h, Option.map_some]
  simp
theorem number47 (h47 : FT 47 = some (.code A47)) (hw : H.Wf) {s : List Nat} (hs : ∀ b, b ∈ s → b < 256) (hl : s.length ≤ 1099511627776) {most : Int} (hm0 : -9223372036854775808 ≤ most) (hm : most ≤ 9223372036854775807) :
    Cp FT 47 [.str s, .int .i64 most] H (fun r H' => r = .tup [.int .i64 (numT s most).1, .int .i64 (numT s most).2] ∧ Ext H H') := by
  refine Cp_code A47 h47 rfl ?_
  have hA : A47.results = [.tmp 4, .tmp 5] := rfl
  rw [body47, hA]
  have bad : wfN s = false → numT s most = (0, 11) := fun q => by simp [numT, q]
  have ex := Ext.refl hw
  cases s with
  | nil =>
    have hb := bad rfl
    generalize hr : rest47 = R
    simp [A47, part1, part2, hb]
    exact ex
  | cons c r =>
    by_cases hc : c = 45
    · subst hc
      cases r with
      | nil =>
        have hb := bad rfl
        generalize hr : rest47 = R
        simp [A47, part1, part2, hb, slSA_tail, byteA]
        exact ex
      | cons d r =>
        by_cases hd : d = 48
        · subst hd
          have hb := bad (by simp [wfN, digsOf])
          generalize hr : rest47 = R
          simp [A47, part1, part2, hb, slSA_tail, byteA]
          exact ex
        · have hd' : ((d : Int) == 48) = false := by simpa using (show ¬ (d : Int) = 48 by omega)
          have e : numT (45 :: d :: r) most = restV (d :: r) true most := by
            simp only [numT, restV, wfN, digsOf, sval]
            cases h : (d :: r).all isDg <;> simp [hd, h]
          rw [e]
          generalize hr : rest47 = R
          simp [A47, part1, part2, slSA_tail, byteA, hd']
          rw [← hr]
          exact number_rest hw (fun b hb => hs b (List.mem_cons_of_mem _ hb)) (by simp at hl ⊢; omega) hm0 hm (by simp) (by simp) (by simp)
    · have hc' : ((c : Int) == 45) = false := by simpa using (show ¬ (c : Int) = 45 by omega)
      by_cases hd : c = 48 ∧ r ≠ []
      · obtain ⟨rfl, hr0⟩ := hd
        have hb := bad (by simp [wfN, digsOf, hr0])
        have hs48 : (48 :: r == [48]) = false := by simpa using hr0
        generalize hr : rest47 = R
        simp [A47, part1, part2, hb, byteA, hs48]
        exact ex
      · have e : numT (c :: r) most = restV (c :: r) false most := by
          simp only [numT, restV, wfN, digsOf, sval]
          have h45 : ¬ (some c = some 45) := by simpa using hc
          cases h : (c :: r).all isDg with
          | false => simp [hc, h]
          | true =>
            by_cases h48 : c = 48
            · have : r = [] := Classical.byContradiction fun q => hd ⟨h48, q⟩
              subst this; subst h48; simp [h]
            · simp [hc, h, h48]
        rw [e]
        by_cases h48 : c = 48
        · have : r = [] := Classical.byContradiction fun q => hd ⟨h48, q⟩
          subst this; subst h48
          generalize hr : rest47 = R
          simp [A47, part1, part2, byteA]
          rw [← hr]
          exact number_rest hw hs hl hm0 hm (by simp) (by simp) (by simp)
        · have h48' : ((c : Int) == 48) = false := by simpa using (show ¬ (c : Int) = 48 by omega)
          generalize hr : rest47 = R
          simp [A47, part1, part2, byteA, hc', h48']
          rw [← hr]
          exact number_rest hw hs hl hm0 hm (by simp) (by simp) (by simp)
end
end Go.Proofs.YtacfhbhfgbjleaaDoor
