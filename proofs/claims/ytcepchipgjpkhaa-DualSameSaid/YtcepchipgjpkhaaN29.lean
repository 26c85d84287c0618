/- The document's Lay: a segment among rising ones. No claim by itself. -/
import Derived.Test.YtcepchipgjpkhaaNF
namespace Go.Proofs.Ytcepchipgjpkhaa
open Go Go.AI
section
variable {H : Heap} {FT : Nat → Option FnD}
structure Ly1 (H Hb H' : Heap) (v v5 : AV) (l : List (Int × Int)) (s : Int × Int) (τ : Env) (k m : Nat) : Prop where
  ex : Ext H H'
  nx : Hb.next ≤ H'.next
  g3 : H'.get H.next = some (.cells (pairc s))
  mi : Mine 2 pairc Hb H' v5 (l.take k)
  lt : ∀ (j : Nat) (x : Int × Int), j < k → l[j]? = some x → ltS x s = true
  le : k ≤ l.length
  hm : m = l.length - k
  t : Tm τ [(0, v), (3, .ptr H.next 0), (5, v5), (6, .int .i64 k)]
theorem ltS_cases (x s : Int × Int) : (x.1 < s.1 ∧ ltS x s = true) ∨ (¬ x.1 < s.1 ∧ x.1 = s.1 ∧ x.2 < s.2 ∧ ltS x s = true) ∨ (¬ x.1 < s.1 ∧ x.1 = s.1 ∧ ¬ x.2 < s.2 ∧ ltS x s = false) ∨ (¬ x.1 < s.1 ∧ ¬ x.1 = s.1 ∧ ltS x s = false) := by
  simp only [ltS, decide_eq_true_eq, decide_eq_false_iff_not]
  omega
def k40m : ACode := subAt [1, 1] A40.body
def k40t : ACode := subAt [1, 1, 1] k40m
theorem body40m : k40m = putAt [1, 1, 1] k40m k40t := rfl
theorem body40 : A40.body = putAt [1, 1] A40.body k40m := rfl
theorem lay40 (h40 : FT 40 = some (.code A40)) (hw : H.Wf) {v : AV} {l : List (Int × Int)} {s : Int × Int} (hv : Rw 2 pairc H v l) (hl : l.length ≤ 1000000) :
    Cp FT 40 [v, .agg (pairc s)] H (fun r H' => Rw 2 pairc H' r (insU ltS l (upE s)) ∧ Ext H H' ∧ ∀ p, rowObj r = some p → H.next ≤ p) := by
  refine Cp_code A40 h40 rfl ?_
  obtain ⟨g0, e0⟩ := push_new hw (.cells (pairc s))
  have hpc : pairc s = [.int .i64 s.1, .int .i64 s.2] := rfl
  simp only [hpc] at *
  generalize hH1 : H.push (.cells [.int .i64 s.1, .int .i64 s.2]) = H1 at g0 e0
  have l1 : loadA H1 none (.ptr H.next 0) = some (.int .i64 s.1) := load_get g0 rfl
  have l2 : loadA H1 none (.ptr H.next 1) = some (.int .i64 s.2) := load_get g0 rfl
  have hlt0 : H.next < H1.next := e0.wf.lt g0
  have main : ∀ {H2 : Heap} {τ0 : Env} {u : Int × Int}, Ext H H2 → H.next < H2.next → H2.get H.next = some (.cells (pairc u)) → Tm τ0 [(0, v), (3, .ptr H.next 0)] →
      Wp FT k40m τ0 H2 (finQ A40.results fun r H' => Rw 2 pairc H' r (insU ltS l u) ∧ Ext H H' ∧ ∀ p, rowObj r = some p → H.next ≤ p) := by
    intro H2 τ0 u ex hlt g3 w
    simp at w
    obtain ⟨w0, w3⟩ := w
    rw [body40m]
    generalize hkt : k40t = kt
    simp [k40m, subAt, putAt, A40]
    refine Wp_loop (fun m τ H' => ∃ k v5, Ly1 H H2 H' v v5 l u τ k m) ?_ l.length _ _ ⟨0, .nils, ⟨ex, Nat.le_refl _, g3, by simpa using Mine.nil, fun j x a => by omega, by omega, by omega, by simp [w0, w3]⟩⟩
    rintro m τ H3 ⟨k, v5, ⟨ex3, nx3, g3, mi, lt, hk, rfl, t⟩⟩
    simp at t
    obtain ⟨t0, t3, t5, t6⟩ := t
    have hv3 := hv.ext ex3
    have b0 : loadA H3 none (.ptr H.next 0) = some (.int .i64 u.1) := load_get g3 rfl
    have b1 : loadA H3 none (.ptr H.next 1) = some (.int .i64 u.2) := load_get g3 rfl
    have b2 : loadA H3 (some 2) (.ptr H.next 0) = some (.agg (pairc u)) := load_agg g3 rfl
    have wk : IntKind.i64.wrap ((k : Int) + 1) = (k : Int) + 1 := wrap64 (by omega) (by omega)
    -- once the loop has stopped at k
    have stop : ∀ {τ1 : Env}, Tm τ1 [(0, v), (3, .ptr H.next 0), (5, v5), (6, .int .i64 k)] → (∀ x, l[k]? = some x → ltS x u = false) → Wp FT k40t τ1 H3 (finQ A40.results fun r H' => Rw 2 pairc H' r (insU ltS l u) ∧ Ext H H' ∧ ∀ p, rowObj r = some p → H.next ≤ p) := by
      intro τ1 w hstop
      simp at w
      obtain ⟨w0, w3, w5, w6⟩ := w
      have hins := insU_at hk lt hstop
      have hmk : (l.take k).length ≤ k := by rw [List.length_take]; omega
      obtain ⟨v', H4, d1, d2, d3, d4⟩ := mi.app1 pairc_len (by omega) pairc_one (bytes := 16) ex3.wf (by omega) u (by omega)
      have d1' : appendA 2 16 (H3.push (.cells (pairc u))) v5 (.slc H3.next 0 1 2 1 true) = some (v', H4) := d1
      have hall : allOne (pairc u) = true := rfl
      have f2 : ∀ (e : Opd → AV) (cs : List AV) (off : Nat) (x : Int × Int) (r : List (Nat × Nat × Opd)), fillV e cs off 2 (.agg (pairc x)) r = if off + 2 ≤ cs.length then fillA e (setSeg cs off (pairc x)) r else none := fun e cs off x r => fillV_2 rfl rfl
      have hset : setSeg [AV.int .i64 0, AV.int .i64 0] 0 (pairc u) = pairc u := rfl
      have e4 : Ext H H4 := ext_fr hw ex3 d3 (fun p hp => by have := mi.new p (by simpa using hp); omega)
      have hv4 := hv.ext e4
      -- the rest behind it
      have app : ∀ n, n ≤ l.length → ∃ v6 v7 H5, sliceA 2 v (some (.int .i64 n)) none none = some v6 ∧ appendA 2 16 H4 v' v6 = some (v7, H5) ∧ Rw 2 pairc H5 v7 (l.take k ++ [u] ++ l.drop n) ∧ Ext H H5 ∧ ∀ p, rowObj v7 = some p → H.next ≤ p := by
        intro n hn
        obtain ⟨v6, s1, s2, s3⟩ := hv4.drop pairc_len hn
        obtain ⟨v7, H5, a1, a2, a3, a4⟩ := d2.appS pairc_len (by omega) pairc_one (bytes := 16) e4.wf (by have := d3.next; omega) s2.sw (by rw [List.length_append, List.length_drop]; simp; omega)
        exact ⟨v6, v7, H5, s1, a1, a2.ow.rw pairc_len, ext_fr hw e4 a3 (fun p hp => by have := d2.new p (by simpa using hp); omega), fun p hp => by have := a2.new p hp; omega⟩
      by_cases q : k < l.length
      · obtain ⟨o1, off1, x, a1, a2, a3, _⟩ := Pairs.idx (hv3.sl pairc_len) (k := .i64) (i := (k : Int)) (by omega) (by omega)
        rw [Int.toNat_natCast] at a1
        have he := eqlPair x u
        by_cases e : x = u
        · subst e
          rw [decide_eq_true rfl] at he
          obtain ⟨v6, v7, H5, c1, c2, c3, c4, c5⟩ := app (k + 1) (by omega)
          rw [Int.natCast_add] at c1
          have c1' : sliceA 2 v (some (.int .i64 ((k : Int) + 1))) none none = some v6 := c1
          simp [k40t, k40m, subAt, A40, q, w0, w3, w5, w6, hv3.len, a2, a3, b2, he, wk, f2, hset, d1', c1', c2]
          refine ⟨?_, c4, c5⟩
          rw [hins, if_pos a1]
          have : l.take k ++ [x] ++ l.drop (k + 1) = l := by
            have h2 : l.drop k = x :: l.drop (k + 1) := drop_get a1
            rw [List.append_assoc, List.singleton_append, ← h2, List.take_append_drop]
          rw [this] at c3
          exact c3
        · rw [decide_eq_false e] at he
          obtain ⟨v6, v7, H5, c1, c2, c3, c4, c5⟩ := app k hk
          simp [k40t, k40m, subAt, A40, q, w0, w3, w5, w6, hv3.len, a2, a3, b2, he, f2, hset, d1', c1, c2]
          refine ⟨?_, c4, c5⟩
          rw [hins, if_neg (fun h => by rw [a1] at h; exact e (Option.some.inj h))]
          simpa using c3
      · obtain ⟨v6, v7, H5, c1, c2, c3, c4, c5⟩ := app k hk
        simp [k40t, k40m, subAt, A40, q, w0, w3, w5, w6, hv3.len, b2, f2, hset, d1', c1, c2]
        refine ⟨?_, c4, c5⟩
        rw [hins, if_neg (fun h => by have := (List.getElem?_eq_some_iff.1 h).1; omega)]
        simpa using c3
    simp only [A40] at stop
    by_cases q : k < l.length
    · obtain ⟨o1, off1, x, a1, a2, a3, a4, a5⟩ := Pairs.idx (hv3.sl pairc_len) (k := .i64) (i := (k : Int)) (by omega) (by omega)
      rw [Int.toNat_natCast] at a1
      have hmk : (l.take k).length ≤ k := by rw [List.length_take]; omega
      obtain ⟨v', H4, d1, d2, d3, d4⟩ := mi.app1 pairc_len (by omega) pairc_one (bytes := 16) ex3.wf (by omega) x (by omega)
      have d1' : appendA 2 16 (H3.push (.cells (pairc x))) v5 (.slc H3.next 0 1 2 1 true) = some (v', H4) := d1
      have hall : allOne (pairc x) = true := rfl
      have f2 : ∀ (e : Opd → AV) (cs : List AV) (off : Nat) (x : Int × Int) (r : List (Nat × Nat × Opd)), fillV e cs off 2 (.agg (pairc x)) r = if off + 2 ≤ cs.length then fillA e (setSeg cs off (pairc x)) r else none := fun e cs off x r => fillV_2 rfl rfl
      have hset : setSeg [AV.int .i64 0, AV.int .i64 0] 0 (pairc x) = pairc x := rfl
      have htk : l.take (k + 1) = l.take k ++ [x] := by rw [List.take_add_one, a1]; rfl
      have goon : ltS x u = true → ∀ τ', Tm τ' [(0, v), (3, .ptr H.next 0), (5, v'), (6, .int .i64 ((k + 1 : Nat) : Int))] → Ly1 H H2 H4 v v' l u τ' (k + 1) (l.length - (k + 1)) := fun h τ' w =>
        ⟨ext_fr hw ex3 d3 (fun p hp => by have := mi.new p (by simpa using hp); omega), by have := d3.next; omega, d3.keep _ _ (fun hm => by have := mi.new H.next (by simpa using hm); omega) g3, by rw [htk]; exact d2, fun j y hj hy => by
          by_cases e : j = k
          · subst e; rw [a1] at hy; cases hy; exact h
          · exact lt j y (by omega) hy, by omega, rfl, w⟩
      rcases ltS_cases x u with ⟨h1, h⟩ | ⟨h1, h2, h3, h⟩ | ⟨h1, h2, h3, h⟩ | ⟨h1, h2, h⟩
      · simp [q, t0, t3, t5, t6, hv3.len, a2, a3, a4, b0, h1, f2, hset, d1', wk]
        exact ⟨_, by omega, k + 1, v', goon h _ (by simp [t0, t3])⟩
      · simp [q, t0, t3, t5, t6, hv3.len, a2, a3, a4, a5, b0, b1, h2, h3, f2, hset, d1', wk]
        exact ⟨_, by omega, k + 1, v', goon h _ (by simp [t0, t3])⟩
      · simp [q, t0, t3, t6, hv3.len, a2, a4, a5, b0, b1, h2, h3]
        rw [← hkt]
        exact stop (by simp [t0, t3, t5, t6]) (fun y hy => by rw [a1] at hy; cases hy; exact h)
      · simp [q, t0, t3, t6, hv3.len, a2, a4, b0, h1, h2]
        rw [← hkt]
        exact stop (by simp [t0, t3, t5, t6]) (fun y hy => by rw [a1] at hy; cases hy; exact h)
    · simp [q, t0, t6, hv3.len]
      rw [← hkt]
      exact stop (by simp [t0, t3, t5, t6]) (fun y hy => by rw [List.getElem?_eq_none (by omega)] at hy; cases hy)
  rw [body40]
  generalize hkm : k40m = km
  by_cases c : s.2 < s.1
  · have hu : upE s = (s.2, s.1) := by unfold upE; rw [if_neg (by omega)]
    obtain ⟨H2, s1, s2, s3⟩ := store_whole (n := 2) (x := .agg [.int .i64 s.2, .int .i64 s.1]) e0.wf rfl rfl (by rw [e0.floor]; exact hw.1) g0 rfl rfl
    simp [-storeA_ptr, putAt, A40, hH1, l1, l2, c, setSeg, s1]
    rw [hu, ← hkm]
    exact main (ext_fr hw e0 s3 (fun p hp => by simp at hp; omega)) (by have := s3.next; omega) s2 (by simp)
  · have hu : upE s = s := by
      unfold upE
      split
      · rfl
      · exact Prod.ext (by show s.2 = s.1; omega) (by show s.1 = s.2; omega)
    simp [putAt, A40, hH1, l1, l2, c]
    rw [hu, ← hkm]
    exact main e0 hlt0 g0 (by simp)
end
end Go.Proofs.Ytcepchipgjpkhaa
