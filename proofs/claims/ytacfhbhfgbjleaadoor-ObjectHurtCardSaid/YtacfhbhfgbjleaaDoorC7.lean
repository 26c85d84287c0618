/- The reader of numbers. No claim by itself. -/
import Derived.Test.YtacfhbhfgbjleaaDoorC6
namespace Go.Proofs.YtacfhbhfgbjleaaDoor
open Go Go.AI
/-- All objects but one are kept. -/
structure ExtR (o : Nat) (H H' : Heap) : Prop where
  floor : H'.floor = H.floor
  next : H.next ≤ H'.next
  keep : ∀ p x, p ≠ o → H.get p = some x → H'.get p = some x
  wf : H'.Wf
theorem ExtR.trans {o : Nat} {a b c : Heap} (h : ExtR o a b) (k : ExtR o b c) : ExtR o a c := ⟨k.floor.trans h.floor, Nat.le_trans h.next k.next, fun p x n e => k.keep p x n (h.keep p x n e), k.wf⟩
theorem _root_.Go.AI.Ext.r {o : Nat} {H H' : Heap} (h : Ext H H') : ExtR o H H' := ⟨h.floor, h.next, fun p x _ e => h.keep p x e, h.wf⟩
theorem ExtR.set {o : Nat} {H : Heap} (hw : H.Wf) (ho : o < H.next) (x : AObj) : ExtR o H (H.set o x) := ⟨rfl, Nat.le_refl _, fun p y n e => by rw [get_setH, if_neg n]; exact e, Wf.set hw ho⟩
theorem slExtR {α : Type} {e : Nat} {enc : α → List AV} {o : Nat} {H H' : Heap} {v : AV} {xs : List α} (h : Sl e enc H v xs) (k : ExtR o H H') (hn : rowObj v ≠ some o) : Sl e enc H' v xs := by
  rcases h with h | ⟨q, off, lo, ex, cs, rfl, b, c⟩
  · exact .inl h
  · exact .inr ⟨q, off, lo, ex, cs, rfl, cellsAt_get (k.keep _ _ (fun r => hn (by rw [← r]; rfl)) (get_cellsAt b)), c⟩
/-- The words lie in the object tw, if anywhere, which is not the reader's. -/
def RowIn (o : Nat) (tw : Option Nat) (v : AV) : Prop := ∀ p, rowObj v = some p → tw = some p ∧ p ≠ o
theorem RowIn.ne {o : Nat} {tw : Option Nat} {v : AV} (h : RowIn o tw v) : rowObj v ≠ some o := fun q => (h _ q).2 rfl
/-- The reader: words that were not read, where the bytes end, where a wrong word is, and what is wrong. -/
def Rd (H : Heap) (o : Nat) (tw : Option Nat) (rest : List Tok) (en : Nat) (at_ e : Int) : Prop :=
  H.floor ≤ o ∧ ∃ v, H.get o = some (.cells [v, .int .i64 en, .int .i64 at_, .int .i64 e]) ∧ Toks H v rest ∧ RowIn o tw v
theorem Rd.ext {H H' : Heap} {o : Nat} {tw : Option Nat} {rest : List Tok} {en : Nat} {a e : Int} (h : Rd H o tw rest en a e) (k : Ext H H') : Rd H' o tw rest en a e := by
  obtain ⟨h1, v, h2, h3, h4⟩ := h
  exact ⟨by rw [k.floor]; exact h1, v, k.keep _ _ h2, h3.ext k, h4⟩
theorem Rd.set {H : Heap} {o : Nat} {tw : Option Nat} {rest rest' : List Tok} {en : Nat} {a e a' e' : Int} (h : Rd H o tw rest en a e) (hw : H.Wf) {v' : AV} (hv : Toks H v' rest') (hn : RowIn o tw v') :
    Rd (H.set o (.cells [v', .int .i64 en, .int .i64 a', .int .i64 e'])) o tw rest' en a' e' ∧ ExtR o H (H.set o (.cells [v', .int .i64 en, .int .i64 a', .int .i64 e'])) := by
  obtain ⟨h1, v, h2, h3, h4⟩ := h
  have k := ExtR.set hw (hw.lt h2) (.cells [v', .int .i64 en, .int .i64 a', .int .i64 e'])
  exact ⟨⟨h1, v', get_setH.trans (if_pos rfl), slExtR hv k hn.ne, hn⟩, k⟩
theorem slTail {α : Type} {e : Nat} {enc : α → List AV} {H : Heap} {v : AV} {x : α} {xs : List α} (h : Sl e enc H v (x :: xs)) :
    ∃ v', sliceA e v (some (.int .i64 1)) none none = some v' ∧ Sl e enc H v' xs ∧ rowObj v' = rowObj v := by
  rcases h with ⟨_, h⟩ | ⟨o, off, lo, ex, cs, rfl, hc, hx⟩
  · cases h
  · have hb : (0 : Int) ≤ 1 ∧ (1 : Int) ≤ (((x :: xs).length : Nat) : Int) := by simp only [List.length_cons]; omega
    refine ⟨.slc o (off + 1 * e) ((x :: xs).length - 1) e (lo - 1) ex, ?_, .inr ⟨o, off + 1 * e, lo - 1, ex, cs, by simp, hc, fun i y hy => ?_⟩, rfl⟩
    · simp only [sliceA, Nat.beq_refl, cond_true, boundsA, boundA, if_pos hb, Option.map_some]
      rfl
    · have := hx (i + 1) y (by simpa using hy)
      have e1 : off + (i + 1) * e = off + 1 * e + i * e := by rw [Nat.add_mul]; omega
      rw [← e1]; exact this
section
variable {FT : Nat → Option FnD} {H : Heap}
theorem next28 (h28 : FT 28 = some (.code A28)) (hw : H.Wf) {o : Nat} {tw : Option Nat} {rest : List Tok} {en : Nat} {a e : Int} (h : Rd H o tw rest en a e) :
    Cp FT 28 [.ptr o 0] H (fun r H' => r = .agg (tokA (rest.head?.getD (en, []))) ∧ Rd H' o tw rest.tail en a e ∧ ExtR o H H') := by
  refine Cp_code A28 h28 rfl ?_
  have hr := h
  obtain ⟨hfl, v, g, hv, hne⟩ := h
  have hlt := hw.lt g
  have e0 := Ext.push hw (.cells [.int .i64 0, .str []])
  have g0 := e0.keep _ _ g
  have gn : (H.push (.cells [.int .i64 0, .str []])).get H.next = some (.cells [.int .i64 0, .str []]) := get_pushN.trans (if_pos rfl)
  have l0 : loadA (H.push (.cells [.int .i64 0, .str []])) none (.ptr o 0) = some v := load_get g0 rfl
  have l1 : loadA (H.push (.cells [.int .i64 0, .str []])) none (.ptr o 1) = some (.int .i64 en) := load_get g0 rfl
  cases rest with
  | nil =>
    have st := store_all (H := H.push (.cells [.int .i64 0, .str []])) (o := H.next) (n := 2) (x := .agg [.int .i64 en, .str []]) (xs := [.int .i64 en, .str []]) rfl rfl hw.1 gn rfl rfl
    have ex := e0.setNew hw (x := .cells [.int .i64 en, .str []]) (Nat.le_refl _) (Nat.lt_succ_self _)
    have gs : ((H.push (.cells [.int .i64 0, .str []])).set H.next (.cells [.int .i64 en, .str []])).get H.next = some (.cells [.int .i64 en, .str []]) := get_setH.trans (if_pos rfl)
    generalize (H.push (.cells [.int .i64 0, .str []])).set H.next (.cells [.int .i64 en, .str []]) = H2 at st ex gs
    simp [A28, l0, l1, hv.len, st, resultsA, resultA, cellsAt_get gs, partA, seg, packA]
    exact ⟨rfl, hr.ext ex, ex.r⟩
  | cons t ts =>
    obtain ⟨v', sl, hv', hro⟩ := slTail hv
    obtain ⟨p, x, hx, hp, hld, _⟩ := Sl.idx (hv.ext e0) (k := .i64) (i := 0) (by omega) (by simp)
    have hxt : t = x := by simpa using hx
    subst hxt
    obtain ⟨H2, st2, g2, e2, n2⟩ := store_new e0.wf (z := [.int .i64 0, .str []]) (n := 2) (x := .agg (tokA t)) (cs := tokA t) rfl rfl rfl rfl
    have e02 := e0.trans e2
    have k0 : loadA H2 none (.ptr o 0) = some v := load_get (e02.keep _ _ g) rfl
    have r2 := hr.ext e02
    have g3 := e02.keep _ _ g
    have hfl2 : H2.floor ≤ o := by rw [e02.floor]; exact hfl
    have hvo : v'.one = true := hv'.one.1
    have st3 := store_own (H := H2) (o := o) (off := 0) (x := v') hfl2 g3 (by simp) hvo
    have hst3 := r2.set e02.wf (a' := a) (e' := e) (hv'.ext e02) (by intro p; rw [hro]; exact hne p)
    simp only [List.set_cons_zero] at st3
    have g3o : (H2.set o (.cells [v', .int .i64 en, .int .i64 a, .int .i64 e])).get o = some (.cells [v', .int .i64 en, .int .i64 a, .int .i64 e]) := get_setH.trans (if_pos rfl)
    generalize H2.set o (.cells [v', .int .i64 en, .int .i64 a, .int .i64 e]) = H3 at st3 hst3 g3o
    have gt : H3.get (H.next + 1) = some (.cells (tokA t)) := hst3.2.keep _ _ (by omega) g2
    have gr : H3.get H.next = some (.cells [.int .i64 0, .str []]) := hst3.2.keep _ _ (by omega) (e2.keep _ _ gn)
    have lt3 : loadA H3 (some 2) (.ptr (H.next + 1) 0) = some (.agg (tokA t)) := load_agg gt (by simp [seg, tokA])
    have hfl3 : H3.floor ≤ H.next := by rw [hst3.2.floor, e02.floor]; exact hw.1
    have st4 := store_all (H := H3) (o := H.next) (n := 2) (x := .agg (tokA t)) (xs := tokA t) rfl rfl hfl3 gr rfl rfl
    have hn3 : H.next < H3.next := by have := hst3.2.next; have := e02.next; have := e2.next; simp at this; omega
    have ex4 : ExtR o H (H3.set H.next (.cells (tokA t))) := by
      have q := (e02.r (o := o)).trans hst3.2
      exact ⟨q.floor, q.next, fun p y n e => by have := hw.lt e; rw [get_setH, if_neg (by omega)]; exact q.keep p y n e, Wf.set q.wf hn3⟩
    have hrd : Rd (H3.set H.next (.cells (tokA t))) o tw ts en a e :=
      ⟨by rw [ex4.floor]; exact hfl, v', by rw [get_setH, if_neg (by omega)]; exact g3o, slExtR hv' ex4 (by rw [hro]; exact hne.ne), by intro p; rw [hro]; exact hne p⟩
    have gs : (H3.set H.next (.cells (tokA t))).get H.next = some (.cells (tokA t)) := get_setH.trans (if_pos rfl)
    generalize H3.set H.next (.cells (tokA t)) = H4 at st4 ex4 hrd gs
    have gs' : H4.cellsAt H.next = some [.int .i64 (t.1 : Int), .str t.2] := cellsAt_get gs
    have st2' : storeA ((H.push (.cells [.int .i64 0, .str []])).push (.cells [.int .i64 0, .str []])) 2 (.ptr (H.next + 1) 0) (.agg (tokA t)) = some (undefA, H2) := st2
    have hl0 : ((ts.length : Int) + 1 == 0) = false := by rw [beq_eq_false_iff_ne]; omega
    simp [A28, l0, hv.len, hl0, hp, hld, st2', k0, sl, st3, lt3, st4, resultsA, resultA, gs', partA, seg, packA]
    exact ⟨rfl, hrd, ex4⟩
theorem digV_sval (s : List Nat) : sval s = digV (digsOf s) ∨ sval s = -(digV (digsOf s) : Int) := by
  unfold sval digsOf
  split
  · exact .inr rfl
  · exact .inl rfl
theorem numT_R (s : List Nat) (lo hi : Int) : (if (numT s (max hi (-lo))).2 = 0 ∧ ((numT s (max hi (-lo))).1 < lo ∨ hi < (numT s (max hi (-lo))).1) then ((0 : Int), (10 : Int)) else numT s (max hi (-lo))) = numR s lo hi ∨
    ((numT s (max hi (-lo))).2 = 0 ∧ ((numT s (max hi (-lo))).1 < lo ∨ hi < (numT s (max hi (-lo))).1) ∧ numR s lo hi = (0, 10)) := by
  unfold numT numR
  cases hw : wfN s with
  | false => left; simp
  | true =>
    simp only [Bool.true_eq_false, if_false]
    have hq := digV_sval s
    by_cases h1 : max hi (-lo) < 0 ∨ max hi (-lo) < (digV (digsOf s) : Int)
    · rw [if_pos h1]
      left
      have : ¬ (lo ≤ sval s ∧ sval s ≤ hi) := by
        rintro ⟨a, b⟩
        have m1 : hi ≤ max hi (-lo) := by omega
        have m2 : -lo ≤ max hi (-lo) := by omega
        rcases h1 with h1 | h1 <;> rcases hq with q | q <;> omega
      rw [if_neg this]; simp
    · rw [if_neg h1]
      by_cases h2 : lo ≤ sval s ∧ sval s ≤ hi
      · left
        rw [if_pos h2, if_neg (by simp; omega)]
      · right
        rw [if_neg h2]
        exact ⟨rfl, by simp only; omega, rfl⟩
theorem numR_bad {s : List Nat} {lo hi : Int} (h : (numT s (max hi (-lo))).2 ≠ 0) : numR s lo hi = (0, (numT s (max hi (-lo))).2) := by
  rcases numT_R s lo hi with q | q
  · rw [if_neg (fun k => h k.1)] at q
    rw [← q]
    unfold numT
    split
    · rfl
    · split
      · rfl
      · rename_i h1 h2; exfalso; apply h; unfold numT; rw [if_neg h1, if_neg h2]
  · exact absurd q.1 h
theorem numR_out {s : List Nat} {lo hi : Int} (h : (numT s (max hi (-lo))).2 = 0) (k : (numT s (max hi (-lo))).1 < lo ∨ hi < (numT s (max hi (-lo))).1) : numR s lo hi = (0, 10) := by
  rcases numT_R s lo hi with q | q
  · rw [if_pos ⟨h, k⟩] at q; exact q.symm
  · exact q.2.2
theorem numR_in {s : List Nat} {lo hi : Int} (h : (numT s (max hi (-lo))).2 = 0) (k : ¬ ((numT s (max hi (-lo))).1 < lo ∨ hi < (numT s (max hi (-lo))).1)) : numR s lo hi = ((numT s (max hi (-lo))).1, 0) := by
  rcases numT_R s lo hi with q | q
  · rw [if_neg (fun r => k r.2)] at q; rw [← q, ← h]
  · exact absurd q.2.1 k
def Byt (l : List Tok) : Prop := ∀ t, t ∈ l → (∀ b, b ∈ t.2 → b < 256) ∧ t.2.length ≤ 1099511627776
theorem Byt.head {rest : List Tok} {en : Nat} (h : Byt rest) : (∀ b, b ∈ (rest.head?.getD (en, [])).2 → b < 256) ∧ (rest.head?.getD (en, [])).2.length ≤ 1099511627776 := by
  cases rest with
  | nil => simp
  | cons t ts => exact h t (by simp)
theorem Byt.tail {rest : List Tok} (h : Byt rest) : Byt rest.tail := fun t ht => h t (List.mem_of_mem_tail ht)
/-- The first error stays. -/
def er (s : Int × Int) (p : Nat) (q : Int) : Int × Int := if s.2 = 0 ∧ q ≠ 0 then (p, q) else s
theorem ExtR.fr {o : Nat} {H H' : Heap} (h : ExtR o H H') : Fr [o] H H' := ⟨h.floor, h.next, fun p x n e => h.keep p x (fun q => n (by simp [q])) e, h.wf⟩
theorem wrong31 (h31 : FT 31 = some (.code A31)) (hw : H.Wf) {o : Nat} {tw : Option Nat} {rest : List Tok} {en : Nat} {a e : Int} (h : Rd H o tw rest en a e) {t : Tok} {q : Int} (hq : q ≠ 0) :
    Cp FT 31 [.ptr o 0, .agg (tokA t), .int .i64 q] H (fun _ H' => Rd H' o tw rest en (er (a, e) t.1 q).1 (er (a, e) t.1 q).2 ∧ ExtR o H H') := by
  refine Cp_code A31 h31 rfl ?_
  have e0 := Ext.push hw (.cells (tokA t))
  have g0 : (H.push (.cells (tokA t))).get H.next = some (.cells (tokA t)) := get_pushN.trans (if_pos rfl)
  have r0 := h.ext e0
  have p1 : allOne (tokA t) = true := rfl
  generalize hP0 : H.push (.cells (tokA t)) = H0 at *
  obtain ⟨q1, w, q2, q3, q4⟩ := r0
  have l3 : loadA H0 none (.ptr o 3) = some (.int .i64 e) := load_get q2 rfl
  have lt : loadA H0 none (.ptr H.next 0) = some (.int .i64 (t.1 : Int)) := load_get g0 rfl
  by_cases c : e = 0
  · subst c
    have he : er (a, 0) t.1 q = ((t.1 : Int), q) := by unfold er; rw [if_pos ⟨rfl, hq⟩]
    have s1 := store_own (H := H0) (o := o) (off := 2) (x := .int .i64 (t.1 : Int)) q1 q2 (by simp) rfl
    simp only [List.set_cons_succ, List.set_cons_zero] at s1
    have k1 := ExtR.set e0.wf (e0.wf.lt q2) (.cells [w, .int .i64 en, .int .i64 (t.1 : Int), .int .i64 0])
    have gg : (H0.set o (.cells [w, .int .i64 en, .int .i64 (t.1 : Int), .int .i64 0])).get o = some (.cells [w, .int .i64 en, .int .i64 (t.1 : Int), .int .i64 0]) := get_setH.trans (if_pos rfl)
    generalize H0.set o (.cells [w, .int .i64 en, .int .i64 (t.1 : Int), .int .i64 0]) = H4 at s1 k1 gg
    have f4 : H4.floor ≤ o := by rw [k1.floor]; exact q1
    have s2 := store_own (H := H4) (o := o) (off := 3) (x := .int .i64 q) f4 gg (by simp) rfl
    simp only [List.set_cons_succ, List.set_cons_zero] at s2
    have k2 := ExtR.set k1.wf (k1.wf.lt gg) (.cells [w, .int .i64 en, .int .i64 (t.1 : Int), .int .i64 q])
    simp [A31, p1, hP0, l3, lt, s1, s2, he]
    exact ⟨⟨by rw [k2.floor]; exact f4, w, get_setH.trans (if_pos rfl), slExtR (slExtR q3 k1 q4.ne) k2 q4.ne, q4⟩, (e0.r (o := o)).trans (k1.trans k2)⟩
  · have he : er (a, e) t.1 q = (a, e) := by unfold er; rw [if_neg (fun r => c r.1)]
    have c' : (e == 0) = false := by simpa using c
    simp [A31, p1, hP0, l3, c', he]
    exact ⟨⟨q1, w, q2, q3, q4⟩, e0.r⟩
theorem peek46r (h46 : FT 46 = some (.code A46)) (hw : H.Wf) {o : Nat} {v : AV} {rest : List Tok} {en : Nat} {a e : Int} (g : H.get o = some (.cells [v, .int .i64 en, .int .i64 a, .int .i64 e])) (hv : Toks H v rest) :
    Cp FT 46 [.ptr o 0] H (fun r H' => r = .agg (tokA (wordAt en rest)) ∧ Ext H H') := by
  refine Cp_code A46 h46 rfl ?_
  have e0 := Ext.push hw (.cells [.int .i64 0, .str []])
  have gn : (H.push (.cells [.int .i64 0, .str []])).get H.next = some (.cells [.int .i64 0, .str []]) := get_pushN.trans (if_pos rfl)
  have l0 : loadA (H.push (.cells [.int .i64 0, .str []])) none (.ptr o 0) = some v := load_get (e0.keep _ _ g) rfl
  have l1 : loadA (H.push (.cells [.int .i64 0, .str []])) none (.ptr o 1) = some (.int .i64 en) := load_get (e0.keep _ _ g) rfl
  cases rest with
  | nil =>
    obtain ⟨H2, st, g2, e2, n2⟩ := store_new hw (z := [.int .i64 0, .str []]) (n := 2) (x := .agg [.int .i64 en, .str []]) (cs := [.int .i64 en, .str []]) rfl rfl rfl rfl
    have g2' := cellsAt_get g2
    simp [A46, l0, l1, hv.len, st, resultsA, resultA, g2', partA, seg, packA, wordAt]
    exact ⟨rfl, e2⟩
  | cons t ts =>
    obtain ⟨p, x, hx, hp, hld, _⟩ := Sl.idx (hv.ext e0) (k := .i64) (i := 0) (by omega) (by simp)
    have hxt : t = x := by simpa using hx
    subst hxt
    obtain ⟨H2, st, g2, e2, n2⟩ := store_new hw (z := [.int .i64 0, .str []]) (n := 2) (x := .agg (tokA t)) (cs := tokA t) rfl rfl rfl rfl
    have g2' : H2.cellsAt H.next = some [.int .i64 (t.1 : Int), .str t.2] := cellsAt_get g2
    have hl0 : ((ts.length : Int) + 1 == 0) = false := by rw [beq_eq_false_iff_ne]; omega
    simp [A46, l0, hv.len, hl0, hp, hld, st, resultsA, resultA, g2', partA, seg, packA, wordAt]
    exact ⟨rfl, e2⟩
theorem peek46 (h46 : FT 46 = some (.code A46)) (hw : H.Wf) {o : Nat} {tw : Option Nat} {rest : List Tok} {en : Nat} {a e : Int} (h : Rd H o tw rest en a e) :
    Cp FT 46 [.ptr o 0] H (fun r H' => r = .agg (tokA (wordAt en rest)) ∧ Ext H H') := by
  obtain ⟨hfl, v, g, hv, hne⟩ := h
  exact peek46r h46 hw g hv
/-- A number read; what is wrong with it is told once. -/
def valN (w : List Nat) (lo hi : Int) : Int := if (numR w lo hi).2 = 0 then (numR w lo hi).1 else lo
theorem number45 (h45 : FT 45 = some (.code A45)) (h28 : FT 28 = some (.code A28)) (h47 : FT 47 = some (.code A47)) (h31 : FT 31 = some (.code A31)) (hw : H.Wf) {o : Nat} {tw : Option Nat} {rest : List Tok} {en : Nat} {a e lo hi : Int} (h : Rd H o tw rest en a e) (hb : Byt rest)
    (hlo : -1099511627776 ≤ lo ∧ lo ≤ 1099511627776) (hhi : -1099511627776 ≤ hi ∧ hi ≤ 1099511627776) :
    Cp FT 45 [.ptr o 0, .int .i64 lo, .int .i64 hi] H (fun r H' => r = .int .i64 (valN (wordAt en rest).2 lo hi) ∧ Rd H' o tw rest.tail en (er (a, e) (wordAt en rest).1 (numR (wordAt en rest).2 lo hi).2).1 (er (a, e) (wordAt en rest).1 (numR (wordAt en rest).2 lo hi).2).2 ∧ ExtR o H H') := by
  refine Cp_code A45 h45 rfl ?_
  simp [A45]
  refine (next28 h28 hw h).mono ?_
  rintro _ H1 ⟨rfl, hr1, ex1⟩
  have hbh := hb.head (en := en)
  have hwa : wordAt en rest = rest.head?.getD (en, []) := rfl
  rw [hwa]
  generalize rest.head?.getD (en, []) = t at hbh
  generalize rest.tail = ts at hr1
  obtain ⟨H2, st2, g2, e2, n2⟩ := store_new ex1.wf (z := [.int .i64 0, .str []]) (n := 2) (x := .agg (tokA t)) (cs := tokA t) rfl rfl rfl rfl
  have ld1 : loadA H2 none (.ptr H1.next 1) = some (.str t.2) := load_get g2 rfl
  have wn : IntKind.i64.wrap (-lo) = -lo := wrap64 (by omega) (by omega)
  have hmx : (if hi < -lo then -lo else hi) = max hi (-lo) := by rw [Int.max_def]; split <;> split <;> omega
  simp [st2, ld1, unA, wn, maxA, hmx]
  refine (number47 h47 e2.wf hbh.1 hbh.2 (by omega) (by omega)).mono ?_
  rintro _ H3 ⟨rfl, e3⟩
  have hr3 := (hr1.ext e2).ext e3
  have ex3 : ExtR o H H3 := ex1.trans (e2.trans e3).r
  have ldt : loadA H3 (some 2) (.ptr H1.next 0) = some (.agg (tokA t)) := load_agg (e3.keep _ _ g2) (by simp [seg, tokA])
  have ok : ∀ n : Int, numR t.2 lo hi = (n, 0) → valN t.2 lo hi = n ∧ er (a, e) t.1 (numR t.2 lo hi).2 = (a, e) := fun n q => by
    unfold valN er; rw [q]; simp
  have bad : ∀ q : Int, q ≠ 0 → numR t.2 lo hi = (0, q) → valN t.2 lo hi = lo := fun q hq k => by
    unfold valN; rw [k]; simp [hq]
  generalize hq : numT t.2 (max hi (-lo)) = q
  obtain ⟨qv, qe⟩ := q
  by_cases c0 : qe = 0
  · subst c0
    by_cases c1 : qv < lo
    · have hR := numR_out (s := t.2) (lo := lo) (hi := hi) (by rw [hq]) (by rw [hq]; exact .inl c1)
      have hv := bad 10 (by omega) hR
      simp [c1, ldt]
      refine (wrong31 h31 e3.wf hr3 (t := t) (q := 10) (by omega)).mono ?_
      rintro _ H4 ⟨r4, ex4⟩
      simp [hR, hv]
      exact ⟨r4, ex3.trans ex4⟩
    · by_cases c2 : hi < qv
      · have hR := numR_out (s := t.2) (lo := lo) (hi := hi) (by rw [hq]) (by rw [hq]; exact .inr c2)
        have hv := bad 10 (by omega) hR
        simp [c1, c2, ldt]
        refine (wrong31 h31 e3.wf hr3 (t := t) (q := 10) (by omega)).mono ?_
        rintro _ H4 ⟨r4, ex4⟩
        simp [hR, hv]
        exact ⟨r4, ex3.trans ex4⟩
      · have hR := numR_in (s := t.2) (lo := lo) (hi := hi) (by rw [hq]) (by rw [hq]; simp only; omega)
        rw [hq] at hR
        obtain ⟨k1, k2⟩ := ok qv hR
        simp [c1, c2, k1, k2]
        exact ⟨hr3, ex3⟩
  · have hR := numR_bad (s := t.2) (lo := lo) (hi := hi) (by rw [hq]; exact c0)
    rw [hq] at hR
    simp only at hR
    have hv := bad qe c0 hR
    have c0' : (qe == 0) = false := by simpa using c0
    have c0'' : (qe != 0) = true := by simpa using c0
    simp [c0', c0'', ldt]
    refine (wrong31 h31 e3.wf hr3 (t := t) (q := qe) c0).mono ?_
    rintro _ H4 ⟨r4, ex4⟩
    simp [hR, hv]
    exact ⟨r4, ex3.trans ex4⟩
end
end Go.Proofs.YtacfhbhfgbjleaaDoor
