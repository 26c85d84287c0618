/- The reader of numbers: two at once, lists of pairs. No claim by itself. -/
import Derived.Test.YtmgaaieofdjfdaaDoorC7
import Derived.Test.YtmgaaieofdjfdaaDoorE33
namespace Go.Proofs.YtmgaaieofdjfdaaDoor
open Go Go.AI
/-- What is left to read, or where and what was wrong. -/
abbrev St := Except (Nat × Int) (List Tok)
def rdN (en : Nat) (lo hi : Int) : St → Int × St
  | .error e => (0, .error e)
  | .ok ts => if (numR (ts.head?.getD (en, [])).2 lo hi).2 = 0 then ((numR (ts.head?.getD (en, [])).2 lo hi).1, .ok ts.tail) else (0, .error ((ts.head?.getD (en, [])).1, (numR (ts.head?.getD (en, [])).2 lo hi).2))
def rd2 (en : Nat) (lo hi : Int) (r : St) : (Int × Int) × St := (((rdN en lo hi r).1, (rdN en lo hi (rdN en lo hi r).2).1), (rdN en lo hi (rdN en lo hi r).2).2)
def isOk : St → Bool
  | .ok _ => true
  | .error _ => false
/-- So many pairs, as long as nothing is wrong. -/
def rdP (en : Nat) (lo hi : Int) : Nat → St → List (Int × Int) × St
  | 0, r => ([], r)
  | n + 1, r => if isOk r = true then ((rd2 en lo hi r).1 :: (rdP en lo hi n (rd2 en lo hi r).2).1, (rdP en lo hi n (rd2 en lo hi r).2).2) else ([], r)
def RdS (H : Heap) (o : Nat) (tw : Option Nat) (en : Nat) (r : St) : Prop :=
  ∃ ts a e, Rd H o tw ts en a e ∧ Byt ts ∧ ((e = 0 ∧ r = .ok ts) ∨ (e ≠ 0 ∧ ∃ a' : Nat, a = a' ∧ r = .error (a', e)))
theorem ExtR.fr {o : Nat} {H H' : Heap} (h : ExtR o H H') : Fr [o] H H' := ⟨h.floor, h.next, fun p x n e => h.keep p x (fun q => n (by simp [q])) e, h.wf⟩
theorem RdS.fr {S : List Nat} {H H' : Heap} {o en : Nat} {tw : Option Nat} {r : St} (h : RdS H o tw en r) (k : Fr S H H') (ho : o ∉ S) (hn : ∀ p, tw = some p → p ∉ S) : RdS H' o tw en r := by
  obtain ⟨ts, a, e, ⟨h1, v, h2, h3, h4⟩, hb, hr⟩ := h
  exact ⟨ts, a, e, ⟨by rw [k.floor]; exact h1, v, k.keep _ _ ho h2, h3.fr k (fun p q => hn p (h4 p q).1), h4⟩, hb, hr⟩
theorem RdS.ext {H H' : Heap} {o en : Nat} {tw : Option Nat} {r : St} (h : RdS H o tw en r) (k : Ext H H') : RdS H' o tw en r := h.fr (S := []) k.fr (by simp) (by simp)
theorem RdS.lt {H : Heap} (hw : H.Wf) {o en : Nat} {tw : Option Nat} {r : St} (h : RdS H o tw en r) : o < H.next ∧ H.floor ≤ o := by
  obtain ⟨ts, a, e, ⟨h1, v, h2, _, _⟩, _⟩ := h; exact ⟨hw.lt h2, h1⟩
section
variable {FT : Nat → Option FnD} {H : Heap}
theorem numS (h31 : FT 31 = some (.code A31)) (h30 : FT 30 = some (.code A30)) (h43 : FT 43 = some (.code A43)) (hw : H.Wf) {o en : Nat} {tw : Option Nat} {lo hi : Int} {r : St} (h : RdS H o tw en r)
    (hlo : -1099511627776 ≤ lo ∧ lo ≤ 1099511627776) (hhi : -1099511627776 ≤ hi ∧ hi ≤ 1099511627776) :
    Cp FT 31 [.ptr o 0, .int .i64 lo, .int .i64 hi] H (fun v H' => v = .int .i64 (rdN en lo hi r).1 ∧ RdS H' o tw en (rdN en lo hi r).2 ∧ Fr [o] H H') := by
  obtain ⟨ts, a, e, h1, h2, h3⟩ := h
  refine (number31 h31 h30 h43 hw h1 h2 hlo hhi).mono ?_
  rintro v H' ⟨rfl, k1, k2⟩
  rcases h3 with ⟨rfl, rfl⟩ | ⟨he, a', rfl, rfl⟩
  · have hs : stepR ts en a 0 lo hi = (if (numR (ts.head?.getD (en, [])).2 lo hi).2 = 0 then ((numR (ts.head?.getD (en, [])).2 lo hi).1, ts.tail, a, 0) else (0, ts.tail, ((ts.head?.getD (en, [])).1 : Int), (numR (ts.head?.getD (en, [])).2 lo hi).2)) := rfl
    have hd : rdN en lo hi (.ok ts) = (if (numR (ts.head?.getD (en, [])).2 lo hi).2 = 0 then ((numR (ts.head?.getD (en, [])).2 lo hi).1, .ok ts.tail) else (0, .error ((ts.head?.getD (en, [])).1, (numR (ts.head?.getD (en, [])).2 lo hi).2))) := rfl
    rw [hs] at k1 ⊢
    rw [hd]
    by_cases hq : (numR (ts.head?.getD (en, [])).2 lo hi).2 = 0
    · rw [if_pos hq] at k1 ⊢
      rw [if_pos hq]
      exact ⟨rfl, ⟨ts.tail, a, 0, k1, h2.tail, .inl ⟨rfl, rfl⟩⟩, k2.fr⟩
    · rw [if_neg hq] at k1 ⊢
      rw [if_neg hq]
      exact ⟨rfl, ⟨ts.tail, _, _, k1, h2.tail, .inr ⟨hq, _, rfl, rfl⟩⟩, k2.fr⟩
  · have hs : stepR ts en (a' : Int) e lo hi = (0, ts, (a' : Int), e) := by simp [stepR, he]
    rw [hs] at k1 ⊢
    exact ⟨rfl, ⟨ts, _, _, k1, h2, .inr ⟨he, a', rfl, rfl⟩⟩, k2.fr⟩
theorem numbers32 (h32 : FT 32 = some (.code A32)) (h31 : FT 31 = some (.code A31)) (h30 : FT 30 = some (.code A30)) (h43 : FT 43 = some (.code A43)) (hw : H.Wf) {o en s q : Nat} {tw : Option Nat} {lo hi : Int} {r : St} {c0 c1 : AV} (h : RdS H o tw en r)
    (hlo : -1099511627776 ≤ lo ∧ lo ≤ 1099511627776) (hhi : -1099511627776 ≤ hi ∧ hi ≤ 1099511627776) (hs : H.get s = some (.cells [c0, c1])) (hq : H.get q = some (.cells [.ptr s 0, .ptr s 1])) (hfs : H.floor ≤ s) (hso : s ≠ o) (hqo : q ≠ o) (hqs : q ≠ s) (hts : tw ≠ some s) :
    Cp FT 32 [.ptr o 0, .int .i64 lo, .int .i64 hi, .slc q 0 2 1 2 true] H (fun _ H' => H'.get s = some (.cells (pairc (rd2 en lo hi r).1)) ∧ RdS H' o tw en (rd2 en lo hi r).2 ∧ Fr [o, s] H H') := by
  refine Cp_code A32 h32 rfl ?_
  have i0 : indexAddrV 1 (.slc q 0 2 1 2 true) (.int .i64 0) = some (.ptr q 0) := rfl
  have i1 : indexAddrV 1 (.slc q 0 2 1 2 true) (.int .i64 1) = some (.ptr q 1) := rfl
  have l0 : loadA H none (.ptr q 0) = some (.ptr s 0) := load_get hq rfl
  have w1 : IntKind.i64.wrap 1 = 1 := rfl
  have w2 : IntKind.i64.wrap 2 = 2 := rfl
  simp [A32]
  refine Wp_unroll ?_
  simp [l0]
  refine (numS h31 h30 h43 hw h hlo hhi).mono ?_
  rintro _ H1 ⟨rfl, r1, f1⟩
  obtain ⟨H2, st2, g2, f2⟩ := store_cell (x := .int .i64 (rdN en lo hi r).1) f1.wf (by rw [f1.floor]; exact hfs) (f1.keep _ _ (by simp [hso]) hs) (off := 0) (by simp) rfl
  have f12 : Fr [o, s] H H2 := (f1.mono (T := [o, s]) (by simp)).trans hw f2 (by simp)
  have r2 := r1.fr f2 (by simp; omega) (by intro p hp q; simp at q; subst q; exact hts hp)
  have l2 : loadA H2 none (.ptr q 1) = some (.ptr s 1) := load_get (f12.keep _ _ (by simp [hqo, hqs]) hq) rfl
  simp [st2, w1]
  refine Wp_unroll ?_
  simp [l2]
  refine (numS h31 h30 h43 f2.wf r2 hlo hhi).mono ?_
  rintro _ H3 ⟨rfl, r3, f3⟩
  have hfl : H3.floor ≤ s := by rw [f3.floor, f12.floor]; exact hfs
  obtain ⟨H4, st4, g4, f4⟩ := store_cell (x := .int .i64 (rdN en lo hi (rdN en lo hi r).2).1) f3.wf hfl (f3.keep _ _ (by simp [hso]) g2) (off := 1) (by simp) rfl
  simp [st4, w2]
  refine Wp_unroll ?_
  simp
  exact ⟨g4, r3.fr f4 (by simp; omega) (by intro p hp q; simp at q; subst q; exact hts hp), (f12.trans hw f3 (by simp)).trans hw f4 (by simp)⟩
theorem RdS.err {o en : Nat} {tw : Option Nat} {r : St} (h : RdS H o tw en r) : ∃ e, loadA H none (.ptr o 3) = some (.int .i64 e) ∧ (isOk r = true → e = 0) ∧ (isOk r = false → e ≠ 0) := by
  obtain ⟨ts, a, e, ⟨h1, v, h2, h3, h4⟩, hb, hr⟩ := h
  refine ⟨e, load_get h2 rfl, fun q => ?_, fun q => ?_⟩
  · rcases hr with ⟨r, _⟩ | ⟨_, _, _, rfl⟩
    · exact r
    · simp [isOk] at q
  · rcases hr with ⟨_, rfl⟩ | ⟨r, _⟩
    · simp [isOk] at q
    · exact r
theorem rdP_err {en : Nat} {lo hi : Int} {r : St} (h : isOk r = false) (n : Nat) : rdP en lo hi n r = ([], r) := by
  cases n with
  | zero => rfl
  | succ n => unfold rdP; rw [if_neg (by simp [h])]
theorem rdP_ok {en : Nat} {lo hi : Int} {r : St} (h : isOk r = true) (n : Nat) : rdP en lo hi (n + 1) r = ((rd2 en lo hi r).1 :: (rdP en lo hi n (rd2 en lo hi r).2).1, (rdP en lo hi n (rd2 en lo hi r).2).2) := by
  rw [rdP, if_pos h]
theorem segs33 (h33 : FT 33 = some (.code A33)) (h32 : FT 32 = some (.code A32)) (h31 : FT 31 = some (.code A31)) (h30 : FT 30 = some (.code A30)) (h43 : FT 43 = some (.code A43)) (hw : H.Wf) {o en N P : Nat} {tw : Option Nat} {r : St} (h : RdS H o tw en r)
    (hN : N ≤ 1000) (hP : P ≤ 1000) (htw : ∀ p, tw = some p → p < H.next) :
    Cp FT 33 [.ptr o 0, .int .i64 N, .int .i64 P] H (fun v H' => Mine 2 pairc H H' v (rdP en 0 ((P : Int) - 1) N r).1 ∧ RdS H' o tw en (rdP en 0 ((P : Int) - 1) N r).2 ∧ Fr [o] H H') := by
  refine Cp_code A33 h33 rfl ?_
  obtain ⟨ho, hof⟩ := h.lt hw
  simp [A33]
  refine Wp_loop (fun m τ H' => Fr [o] H H' ∧ ∃ (i : Nat) (v : AV) (xs : List (Int × Int)) (ri : St), i ≤ N ∧ m = N - i ∧ RdS H' o tw en ri ∧ Mine 2 pairc H H' v xs ∧ xs.length = i ∧
    rdP en 0 ((P : Int) - 1) N r = (xs ++ (rdP en 0 ((P : Int) - 1) (N - i) ri).1, (rdP en 0 ((P : Int) - 1) (N - i) ri).2) ∧
    Env.at τ 0 = .ptr o 0 ∧ Env.at τ 1 = .int .i64 N ∧ Env.at τ 2 = .int .i64 P ∧ Env.at τ 7 = v ∧ Env.at τ 8 = .int .i64 i) ?_ N _ _ ⟨Fr.refl hw, 0, .nils, [], r, by omega, by omega, h, Mine.nil, rfl, rfl, by simp, by simp, by simp, by simp, by simp⟩
  rintro m τ H1 ⟨f1, i, v, xs, ri, hi, rfl, r1, mi, hxl, hsp, t0, t1, t2, t7, t8⟩
  obtain ⟨e, le, e1, e2⟩ := r1.err
  simp only [Wp_seq, Wp_region]
  by_cases hc : i < N
  · cases hok : isOk ri with
    | false =>
      have he := e2 hok
      have he' : (e == 0) = false := by simpa using he
      rw [rdP_err hok] at hsp
      simp at hsp
      simp [hc, t0, t1, t7, t8, le, he', hsp]
      exact ⟨mi, r1, f1⟩
    | true =>
      have he := e1 hok
      subst he
      have hsub : N - i = (N - (i + 1)) + 1 := by omega
      rw [hsub, rdP_ok hok] at hsp
      have wP : IntKind.i64.wrap ((P : Int) - 1) = (P : Int) - 1 := wrap64 (by omega) (by omega)
      have wi : IntKind.i64.wrap ((i : Int) + 1) = ((i + 1 : Nat) : Int) := wrap64 (by omega) (by omega)
      obtain ⟨gs, es⟩ := push_new f1.wf (.cells [.int .i64 0, .int .i64 0])
      obtain ⟨gq, eq⟩ := push_new es.wf (.cells [.ptr H1.next 0, .ptr H1.next 1])
      have hn1 := f1.next
      have hnx : (H1.push (.cells [.int .i64 0, .int .i64 0])).next = H1.next + 1 := rfl
      have gs' := eq.keep _ _ gs
      have r2 := (r1.ext es).ext eq
      have hfs := eq.floor.trans (es.floor.trans f1.floor)
      have htw' : tw ≠ some H1.next := fun q => by have := htw _ q; omega
      simp [hc, t0, t1, t2, t7, t8, le, wP]
      generalize hHq : (H1.push (.cells [.int .i64 0, .int .i64 0])).push (.cells [.ptr H1.next 0, .ptr H1.next 1]) = Hq at *
      refine (numbers32 (lo := 0) (hi := (P : Int) - 1) h32 h31 h30 h43 eq.wf r2 (by omega) (by omega) gs' gq (by rw [hfs]; have := hw.1; omega) (by omega) (by omega) (by omega) htw').mono ?_
      rintro _ H3 ⟨g3, r3, f3⟩
      have f13 : Fr [o] H H3 := ((f1.thenE hw es).thenE hw eq).trans hw f3 (by simp; omega)
      have l3 : loadA H3 (some 2) (.ptr H1.next 0) = some (.agg (pairc (rd2 en 0 ((P : Int) - 1) ri).1)) := load_agg g3 (by simp [seg, pairc])
      have mi3 : Mine 2 pairc H H3 v xs := ((mi.ext es).ext eq).fr f3 (by
        intro p hp; have := mi.new p hp; have := mi.lt f1.wf hp; simp; omega)
      obtain ⟨v', H4, ap, mi4, f4, n4⟩ := mi3.app1 pairc_len (by omega) pairc_one f3.wf f13.next (rd2 en 0 ((P : Int) - 1) ri).1 (bytes := 16) (by omega)
      have hpl : ∀ p, rowObj v = some p → H.next ≤ p := mi3.new
      have f14 : Fr [o] H H4 := f13.trans hw f4 (by intro p hp; right; simp at hp; exact hpl p hp)
      have r4 : RdS H4 o tw en (rd2 en 0 ((P : Int) - 1) ri).2 := r3.fr f4 (by simp; intro q; have := hpl o q; omega) (by intro p hp; simp; intro q; have := hpl p q; have := htw p hp; omega)
      simp [l3, pairc] at ap ⊢
      simp [t7, ap, t0, t1, t2, t8, wi]
      exact ⟨_, by omega, f14, i + 1, by omega, rfl, v', xs ++ [(rd2 en 0 ((P : Int) - 1) ri).1], _, r4, mi4, by simp [hxl], by rw [hsp]; simp, rfl, by simp⟩
  · have hin : i = N := by omega
    subst hin
    have hc' : ¬ ((i : Int) < i) := by omega
    rw [Nat.sub_self] at hsp
    have hsp' : rdP en 0 ((P : Int) - 1) i r = (xs, ri) := by rw [hsp]; simp [rdP]
    simp [t1, t7, t8, hsp']
    exact ⟨mi, r1, f1⟩
end
end Go.Proofs.YtmgaaieofdjfdaaDoor
