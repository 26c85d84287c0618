/- The parts of faces, as the program tells them. No claim by itself. -/
import Derived.Test.YtcepchipgjpkhaaF5
namespace Go.Proofs.Ytcepchipgjpkhaa
open Go Go.AI
def k33a : ACode := subAt [1, 1, 1, 1, 0, 1] A33.body
def k33o : ACode := subAt [1, 1, 1, 1, 1, 1, 0, 1] A33.body
def k33q : ACode := subAt [0, 0, 1, 1, 0, 0, 1, 1, 1, 0, 1] k33o
def k33k : ACode := subAt [0, 0, 1, 0, 1, 1, 1] k33q
theorem body33 : A33.body = putAt [1, 1, 1, 1, 0, 1] (putAt [1, 1, 1, 1, 1, 1, 0, 1] A33.body k33o) k33a := rfl
theorem body33o : k33o = putAt [0, 0, 1, 1, 0, 0, 1, 1, 1, 0, 1] k33o k33q := rfl
theorem body33q : k33q = putAt [0, 0, 1, 0, 1, 1, 1] k33q k33k := rfl
/-- A row that is taken from in front, and laid to behind. -/
structure Que (Hb H : Heap) (v : AV) (xs : List Int) : Prop where
  ex : ∃ o off ex, v = .slc o off xs.length 1 xs.length ex ∧ H.readSeg o off (xs.length * 1) = some (xs.flatMap i64c) ∧ H.floor ≤ o ∧ Hb.next ≤ o
section
variable {Hb H H' : Heap} {v : AV} {xs : List Int}
theorem Que.rw (h : Que Hb H v xs) : Rw 1 i64c H v xs := by
  obtain ⟨o, off, ex, rfl, a, b, c⟩ := h.ex
  exact ⟨.inr ⟨o, off, xs.length, ex, rfl, a⟩, by simp [capOk]⟩
theorem Que.fr {S : List Nat} (h : Que Hb H v xs) (k : Fr S H H') (hn : ∀ p, rowObj v = some p → p ∉ S) : Que Hb H' v xs := by
  have hr := (h.rw.fr k hn).sw
  obtain ⟨o, off, ex, rfl, a, b, c⟩ := h.ex
  rcases hr with ⟨q, _⟩ | ⟨o', off', lo', ex', q, r⟩
  · cases q
  · injection q with q1 q2 q3 q4 q5 q6
    subst q1; subst q2
    exact ⟨o, off, ex, rfl, r, by rw [k.floor]; exact b, c⟩
theorem Que.ext (h : Que Hb H v xs) (k : Ext H H') : Que Hb H' v xs := h.fr (S := []) k.fr (by simp)
theorem Que.new (h : Que Hb H v xs) {p : Nat} (hp : rowObj v = some p) : Hb.next ≤ p := by
  obtain ⟨o, off, ex, rfl, a, b, c⟩ := h.ex
  cases hp; exact c
theorem Que.drop (h : Que Hb H v xs) (hx : 1 ≤ xs.length) : ∃ v', sliceA 1 v (some (.int .i64 1)) none none = some v' ∧ Que Hb H v' (xs.drop 1) ∧ rowObj v' = rowObj v := by
  obtain ⟨v', a1, a2, a3⟩ := h.rw.drop i64c_len (k := 1) hx
  obtain ⟨o, off, ex, rfl, a, b, c⟩ := h.ex
  have e1 : sliceA 1 (.slc o off xs.length 1 xs.length ex) (some (.int .i64 1)) none none = some (.slc o (off + 1 * 1) (xs.length - 1) 1 (xs.length - 1) ex) := by
    have b1 : (0 : Int) ≤ 1 ∧ (1 : Int) ≤ ((xs.length : Nat) : Int) := by omega
    simp only [sliceA, Nat.beq_refl, cond_true, boundsA, boundA, if_pos b1, Option.map_some]
    rfl
  have a1' : sliceA 1 (.slc o off xs.length 1 xs.length ex) (some (.int .i64 1)) none none = some v' := a1
  rw [e1] at a1'
  cases a1'
  refine ⟨_, e1, ⟨o, off + 1, ex, by simp, ?_, b, c⟩, rfl⟩
  rcases a2.sw with ⟨q, _⟩ | ⟨o', off', lo', ex', q, r⟩
  · cases q
  · injection q with q1 q2 q3 q4 q5 q6
    subst q1; subst q2
    exact r
theorem Que.app (h : Que Hb H v xs) (hw : H.Wf) (hx : Hb.next ≤ H.next) (hl : xs.length ≤ 1000000000) (x : Int) :
    ∃ v' H', appendA 1 8 (H.push (.cells [.int .i64 x])) v (.slc H.next 0 1 1 1 true) = some (v', H') ∧ Que Hb H' v' (xs ++ [x]) ∧ Fr (rowObj v).toList H H' := by
  obtain ⟨o, off, ex, rfl, a, b, c⟩ := h.ex
  have ep := Ext.push hw (.cells [.int .i64 x])
  have hr1 : (H.push (.cells [.int .i64 x])).readSeg H.next 0 (1 * 1) = some [.int .i64 x] := by
    unfold Heap.readSeg
    rw [cellsAt_push]; rfl
  have hs : srcA 1 (H.push (.cells [.int .i64 x])) (.slc H.next 0 1 1 1 true) = some (1, [.int .i64 x]) := by
    unfold srcA
    simp only [nat_beq, decide_true, cond_true]
    rw [hr1]; rfl
  have ha : (H.push (.cells [.int .i64 x])).readSeg o off (xs.length * 1) = some (xs.flatMap i64c) := by
    unfold Heap.readSeg at a ⊢
    cases hc : H.cellsAt o with
    | none => rw [hc] at a; cases a
    | some cs => rw [ep.cells hc]; rw [hc] at a; exact a
  have hol : o < H.next := h.rw.rowLt i64c_len hw rfl
  have one : allOne [AV.int .i64 x] = true := rfl
  have c1 : Nat.beq 1 0 = false := rfl
  have c2 : Nat.ble (xs.length + 1) xs.length = false := by rw [nat_ble]; simp
  have c3 : Nat.ble ((2 * (xs.length + 1) + 1024) * 8) (2 ^ 48) = true := Nat.ble_eq_true_of_le (by omega)
  have hfm : (xs ++ [x]).flatMap i64c = xs.flatMap i64c ++ [.int .i64 x] := by rw [List.flatMap_append]; rfl
  have hnx : (H.push (.cells [.int .i64 x])).next = H.next + 1 := rfl
  have hfl : Nat.ble (H.push (.cells [.int .i64 x])).floor o = true := Nat.ble_eq_true_of_le b
  cases ex with
  | true =>
    refine ⟨.slc (H.next + 1) 0 (xs.length + 1) 1 (xs.length + 1) false, (H.push (.cells [.int .i64 x])).push (.cells (xs.flatMap i64c ++ [.int .i64 x])), ?_, ⟨H.next + 1, 0, false, by simp, ?_, ?_, by omega⟩, (ep.trans (Ext.push ep.wf _)).fr⟩
    · unfold appendA
      rw [hs]
      simp only [one, cond_true, Nat.beq_refl, c1, cond_false, c2, c3, ha]
      rfl
    · unfold Heap.readSeg
      rw [← hnx, cellsAt_push, ← hfm]
      exact seg_all (flat_len i64c_len _)
    · show H.floor ≤ _
      have := hw.1; omega
  | false =>
    have ed : Fr [o] (H.push (.cells [.int .i64 x])) ((H.push (.cells [.int .i64 x])).set o .dead) := Fr.set ep.wf (by rw [hnx]; omega) _
    have epp := Ext.push ed.wf (.cells (xs.flatMap i64c ++ [.int .i64 x]))
    refine ⟨.slc (H.next + 1) 0 (xs.length + 1) 1 (xs.length + 1) false, ((H.push (.cells [.int .i64 x])).set o .dead).push (.cells (xs.flatMap i64c ++ [.int .i64 x])), ?_, ⟨H.next + 1, 0, false, by simp, ?_, ?_, by omega⟩, ?_⟩
    · unfold appendA
      rw [hs]
      simp only [one, cond_true, Nat.beq_refl, c1, cond_false, c2, c3, ha, hfl]
      rfl
    · unfold Heap.readSeg
      have : (((H.push (.cells [.int .i64 x])).set o .dead).push (.cells (xs.flatMap i64c ++ [.int .i64 x]))).cellsAt (H.next + 1) = some (xs.flatMap i64c ++ [.int .i64 x]) := cellsAt_push (H := (H.push (.cells [.int .i64 x])).set o .dead)
      rw [this, ← hfm]
      exact seg_all (flat_len i64c_len _)
    · show H.floor ≤ _
      have := hw.1; omega
    · exact (ep.fr (S := [o])).trans hw (ed.thenE ep.wf epp) (fun p q => .inl q)
end
def negN (l : List Int) : Nat := (l.filter fun x => decide (x < 0)).length
theorem neg_set : ∀ {l : List Int} {i : Nat} {x n : Int}, l[i]? = some x → x < 0 → 0 ≤ n → negN (l.set i n) + 1 = negN l
  | [], i, x, n, h, _, _ => by simp at h
  | y :: l, 0, x, n, h, hx, hn => by
    simp at h; subst h
    show negN (n :: l) + 1 = negN (y :: l)
    unfold negN
    rw [List.filter_cons_of_neg (by simpa using hn), List.filter_cons_of_pos (by simpa using hx)]
    rfl
  | y :: l, i + 1, x, n, h, hx, hn => by
    have ih := neg_set (l := l) (i := i) (by simpa using h) hx hn
    unfold negN at ih ⊢
    rw [List.set_cons_succ, List.filter_cons, List.filter_cons]
    split <;> (try simp only [List.length_cons]) <;> omega
section
variable {F : List (List Int)} {m : Nat} {n : Int} {out0 out : List Int} {todo : List Nat}
theorem SInv.push (h : SInv F m n out0 out todo) (p : PInv F m out0 n) {v o : Nat} {x : Int} (hv : out[v]? = some n) (ha : Adj F v o) (hx : out[o]? = some x) (h0 : x < 0) : SInv F m n out0 (out.set o n) (todo ++ [o]) := by
  have hn0 := p.n0
  have ol : o < out.length := (List.getElem?_eq_some_iff.1 hx).1
  have hmv : Hang F m v := by
    rcases h.mem hv with q | q
    · have := p.lt q; omega
    · exact q.2
  have at_ : ∀ {w : Nat} {y : Int}, (out.set o n)[w]? = some y → (w = o ∧ y = n) ∨ (w ≠ o ∧ out[w]? = some y) := fun {w y} hy => by
    rw [List.getElem?_set] at hy
    by_cases e : o = w
    · rw [if_pos e, if_pos ol] at hy
      exact .inl ⟨e.symm, (Option.some.inj hy).symm⟩
    · rw [if_neg e] at hy; exact .inr ⟨fun q => e q.symm, hy⟩
  have put : ∀ {w : Nat} {y : Int}, w ≠ o → out[w]? = some y → (out.set o n)[w]? = some y := fun {w y} e hy => by
    rw [List.getElem?_set, if_neg (fun q => e q.symm)]; exact hy
  have self : (out.set o n)[o]? = some n := by rw [List.getElem?_set, if_pos rfl, if_pos ol]
  refine ⟨by simp [h.len], fun {w y} hy => ?_, fun {w y} hy hy0 => ?_, ?_, fun {w} hw => ?_, fun {u w} hu hnt hadj => ?_⟩
  · rcases at_ hy with ⟨rfl, rfl⟩ | ⟨_, q⟩
    · exact .inr ⟨rfl, .step hmv ha⟩
    · exact h.mem q
  · have := h.keep hy hy0
    refine put (fun e => ?_) this
    subst e
    rw [hx] at this
    have : x = y := Option.some.inj this
    omega
  · by_cases e : m = o
    · rw [e]; exact self
    · exact put e h.self
  · rcases List.mem_append.1 hw with q | q
    · by_cases e : w = o
      · rw [e]; exact self
      · exact put e (h.td q)
    · simp at q; rw [q]; exact self
  · rcases at_ hu with ⟨rfl, _⟩ | ⟨e, q⟩
    · exact absurd (by simp) hnt
    · obtain ⟨y, h1, h2⟩ := h.clo q (fun r => hnt (by simp [r])) hadj
      by_cases e2 : w = o
      · exact ⟨n, by rw [e2]; exact self, hn0⟩
      · exact ⟨y, put e2 h1, h2⟩
/-- What stays while parts are told. -/
structure Bas (Hb H' : Heap) (vF : AV) (F : List (List Int)) (om o3 : Nat) : Prop where
  gd : Gd H' vF F
  gm : H'.get om = some (.map ((tabF 0 F).map entc))
  g3 : H'.get o3 = some (.cells [.map om, vF])
  l3 : o3 < Hb.next
  lm : om < Hb.next
theorem Bas.ext {Hb H H' : Heap} {vF : AV} {F : List (List Int)} {om o3 : Nat} (b : Bas Hb H vF F om o3) (e : Ext H H') : Bas Hb H' vF F om o3 := ⟨b.gd.ext e, e.keep _ _ b.gm, e.keep _ _ b.g3, b.l3, b.lm⟩
/-- The memory while parts are told: Hb was when the row of numbers was made. -/
structure Pw (Hb H' : Heap) (v5 : AV) (o5 : Nat) (out : List Int) : Prop where
  fr : Fr [o5] Hb H'
  arr : Arr intV H' v5 o5 out
/-- What was there before. -/
structure Ps (H Hb : Heap) (vF : AV) (F : List (List Int)) (om o3 o5 : Nat) : Prop where
  wf : H.Wf
  ex : Ext H Hb
  gd : Gd H vF F
  sz : Fsz F
  gm : H.get om = some (.map ((tabF 0 F).map entc))
  g3 : H.get o3 = some (.cells [.map om, vF])
  no : H.next ≤ o5
  ok : chkF 1048576 F = 0
theorem Ps.extAt {H Hb H' : Heap} {vF : AV} {F : List (List Int)} {om o3 o5 : Nat} (s : Ps H Hb vF F om o3 o5) (f : Fr [o5] Hb H') : Ext H H' := ext_fr s.wf s.ex f (fun p hp => by simp at hp; rw [hp]; exact s.no)
structure Pk33 (Hb H' : Heap) (v5 vr x3 x7 x34 x35 : AV) (F : List (List Int)) (f : List Int) (o5 : Nat) (m : Nat) (n : Int) (v : Nat) (out0 out : List Int) (v9 : AV) (todo : List Nat) (c : Nat) (τ : Env) (k mm : Nat) : Prop where
  pw : Pw Hb H' v5 o5 out
  que : Que Hb H' v9 (todo.map fun (i : Nat) => (i : Int))
  inv : SInv F m n out0 out (v :: todo)
  done : ∀ (k' : Nat) (s : Int × Int) (w : Nat), k' < k → (edgesF f)[k']? = some s → leftF F (rev s) = w → ∃ y, out[w]? = some y ∧ 0 ≤ y
  cnt : negN out + todo.length = c
  le : k ≤ f.length
  hm : mm = f.length - k
  t : Tm τ [(3, x3), (5, v5), (7, x7), (9, v9), (10, vr), (34, x34), (35, x35), (62, .int .i64 f.length), (63, .int .i64 k)]
structure Qk33 (Hb H' : Heap) (v5 x3 x7 x34 x35 : AV) (F : List (List Int)) (o5 : Nat) (m : Nat) (n : Int) (out0 out : List Int) (v9 : AV) (todo : List Nat) (c : Nat) (τ : Env) : Prop where
  pw : Pw Hb H' v5 o5 out
  que : Que Hb H' v9 (todo.map fun (i : Nat) => (i : Int))
  inv : SInv F m n out0 out todo
  cnt : negN out + todo.length = c
  t : Tm τ [(3, x3), (5, v5), (7, x7), (9, v9), (34, x34), (35, x35)]
theorem parts33k {FT : Nat → Option FnD} {H Hb H0 : Heap} (T : FacesT FT) {vF v5 vr x34 x35 : AV} {F : List (List Int)} {f : List Int} {om o3 o5 : Nat} {m : Nat} {n : Int} {v : Nat} {out0 out : List Int} {v9 : AV} {todo : List Nat} {c : Nat} (S : Ps H Hb vF F om o3 o5) (pi : PInv F m out0 n) (pw : Pw Hb H0 v5 o5 out) (h5 : o5 < Hb.next)
    (que : Que Hb H0 v9 (todo.map fun (i : Nat) => (i : Int))) (inv : SInv F m n out0 out (v :: todo)) (hf : F[v]? = some f) (hr : Rw 1 i64c H vr f) (cnt : negN out + todo.length = c) (hc : c ≤ 1000000000) {τ0 : Env}
    (u : Tm τ0 [(3, .ptr o3 0), (5, v5), (7, .int .i64 n), (9, v9), (10, vr), (34, x34), (35, x35), (62, .int .i64 f.length), (63, .int .i64 0)]) :
    Wp FT k33k τ0 H0 (fun s τ H' => s = .next ∧ ∃ out' v9' todo', Qk33 Hb H' v5 (.ptr o3 0) (.int .i64 n) x34 x35 F o5 m n out0 out' v9' todo' c τ) := by
  simp at u
  obtain ⟨u3, u5, u7, u9, u10, u34, u35, u62, u63⟩ := u
  have hfl := S.sz.row f (List.mem_of_getElem? hf)
  have hz := chkF_zero S.ok
  simp [k33k, k33q, k33o, subAt, A33]
  refine Wp_loop (fun mm τ H' => ∃ k out' v9' todo', Pk33 Hb H' v5 vr (.ptr o3 0) (.int .i64 n) x34 x35 F f o5 m n v out0 out' v9' todo' c τ k mm) ?_ f.length _ _ ⟨0, out, v9, todo, ⟨pw, que, inv, by omega, cnt, by omega, by omega, by simp [u3, u5, u7, u9, u10, u34, u35, u62, u63]⟩⟩
  rintro mm τ H1 ⟨k, out1, v91, todo1, ⟨pw, que, inv, done, cnt, hk, rfl, t⟩⟩
  simp at t
  obtain ⟨t3, t5, t7, t9, t10, t34, t35, t62, t63⟩ := t
  by_cases q : k < f.length
  · have ex1 := S.extAt pw.fr
    have w1 := pw.fr.wf
    simp [q, t62, t63, t10]
    refine (edge55 T.h63 w1 (hr.ext ex1) q (by omega)).mono ?_
    rintro _ H2 ⟨⟨s, hs, rfl⟩, e2⟩
    obtain ⟨H3, st, g3, e3, n3⟩ := store_new e2.wf (z := [.int .i64 0, .int .i64 0]) (n := 2) (x := .agg (pairc s)) (cs := pairc s) rfl rfl rfl rfl
    have ex3 := (ex1.trans e2).trans e3
    have lm : loadA H3 (some 1) (.ptr o3 0) = some (.agg [.map om]) := load_agg (ex3.keep _ _ S.g3) (by simp [seg])
    have lp1 : loadA H3 none (.ptr H2.next 0) = some (.int .i64 s.1) := load_get g3 rfl
    have lp2 : loadA H3 none (.ptr H2.next 1) = some (.int .i64 s.2) := load_get g3 rfl
    simp [st, t3, lm, lp1, lp2]
    refine (left58 T.h58 e3.wf (s := (s.2, s.1)) (ex3.keep _ _ S.gm)).mono ?_
    rintro _ H4 ⟨rfl, e4⟩
    rw [look_left]
    have e14 := (e2.trans e3).trans e4
    have pw4 : Pw Hb H4 v5 o5 out1 := ⟨pw.fr.thenE S.ex.wf e14, pw.arr.ext e14⟩
    have que4 := que.ext e14
    have hsm : s ∈ edgesF f := List.mem_of_getElem? hs
    have wk : IntKind.i64.wrap ((k : Int) + 1) = (k : Int) + 1 := wrap64 (by omega) (by omega)
    have hlt := leftF_lt (s := (s.2, s.1)) (F := F)
    generalize ho : leftF F (s.2, s.1) = o at hlt
    have hl0 := inv.len
    have hpl := pi.len
    have nxt : (∀ w : Nat, o = w → ∃ y, out1[w]? = some y ∧ 0 ≤ y) → ∀ (k' : Nat) (s' : Int × Int) (w : Nat), k' < k + 1 → (edgesF f)[k']? = some s' → leftF F (rev s') = w → ∃ y, out1[w]? = some y ∧ 0 ≤ y := fun hw k' s' w hk' hs' hl' => by
      by_cases e : k' = k
      · subst e
        rw [hs] at hs'; cases hs'
        exact hw w (by rw [← ho]; exact hl')
      · exact done k' s' w (by omega) hs' hl'
    by_cases d : 0 ≤ o
    · obtain ⟨j, rfl⟩ : ∃ j : Nat, o = j := ⟨o.toNat, by omega⟩
      obtain ⟨x, x1, x2, x3⟩ := pw4.arr.idx (i := j) (by omega)
      have x3' : loadA H4 none (.ptr o5 j) = some (.int .i64 x) := x3
      by_cases hx : x < 0
      · have hv1 := inv.td (v := v) (by simp)
        have hadj : Adj F v j := (adj_left hz.2.2).2 ⟨f, s, hf, hsm, ho⟩
        have inv' := SInv.push inv pi hv1 hadj x1 hx
        have hneg := neg_set x1 hx pi.n0
        obtain ⟨H5, s1, s2, s3⟩ := pw4.arr.set pw4.fr.wf (i := j) (by omega) n rfl
        have s1' : storeA H4 1 (.ptr o5 j) (.int .i64 n) = some (undefA, H5) := s1
        have fr5 : Fr [o5] Hb H5 := pw4.fr.trans S.ex.wf s3 (fun o q => .inl q)
        have que5 := que4.fr s3 (fun p hp hq => by have := que4.new hp; simp at hq; omega)
        obtain ⟨v', H6, b1, b2, b3⟩ := que5.app fr5.wf fr5.next (by simp; omega) (j : Int)
        have fr6 : Fr [o5] Hb H6 := fr5.trans S.ex.wf b3 (fun o q => .inr (que5.new (by simpa using q)))
        have arr6 := s2.fr b3 (fun q => by have := que5.new (p := o5) (by simpa using q); omega)
        simp [x2, x3', hx, t5, t7, t9, t63, s1', b1, wk]
        refine ⟨_, by omega, k + 1, out1.set j n, v', todo1 ++ [j], ⟨⟨fr6, arr6⟩, by simpa using b2, inv', fun k' s' w hk' hs' hl' => ?_, by simp; omega, by omega, rfl, by simp [t3, t5, t7, t10, t34, t35, t62]⟩⟩
        by_cases ej : w = j
        · subst ej
          exact ⟨n, by rw [List.getElem?_set, if_pos rfl, if_pos (by omega)], pi.n0⟩
        · obtain ⟨y, h1, h2⟩ : ∃ y, out1[w]? = some y ∧ 0 ≤ y := by
            by_cases e : k' = k
            · subst e
              rw [hs] at hs'; cases hs'
              have : (j : Int) = w := by rw [← ho]; exact hl'
              omega
            · exact done k' s' w (by omega) hs' hl'
          exact ⟨y, by rw [List.getElem?_set, if_neg (fun q => ej q.symm)]; exact h1, h2⟩
      · simp [x2, x3', hx, t5, t63, wk]
        exact ⟨_, by omega, k + 1, out1, v91, todo1, ⟨pw4, que4, inv, nxt (fun w hw => ⟨x, by rw [show w = j by omega]; exact x1, by omega⟩), cnt, by omega, rfl, by simp [t3, t5, t7, t9, t10, t34, t35, t62]⟩⟩
    · simp [d, t63, wk]
      exact ⟨_, by omega, k + 1, out1, v91, todo1, ⟨pw4, que4, inv, nxt (fun w hw => by omega), cnt, by omega, rfl, by simp [t3, t5, t7, t9, t10, t34, t35, t62]⟩⟩
  · have hkl : k = f.length := by omega
    subst hkl
    simp [t62, t63]
    refine ⟨out1, v91, todo1, ⟨pw, que, ⟨inv.len, inv.mem, inv.keep, inv.self, fun h => inv.td (List.mem_cons_of_mem _ h), fun {a w} ha hnt hadj => ?_⟩, cnt, by simp [t3, t5, t7, t9, t34, t35]⟩⟩
    by_cases e : a = v
    · subst e
      obtain ⟨f', s, h1, h2, h3⟩ := (adj_left hz.2.2).1 hadj
      rw [hf] at h1; cases h1
      obtain ⟨k', hk'⟩ := List.getElem?_of_mem h2
      exact done k' s w (by rw [← edgesF_len]; exact (List.getElem?_eq_some_iff.1 hk').1) hk' h3
    · exact inv.clo ha (by simp [e, hnt]) hadj
structure Pq33 (Hb H' : Heap) (v5 x3 x7 x34 x35 : AV) (F : List (List Int)) (o5 : Nat) (m : Nat) (n : Int) (out0 out : List Int) (v9 : AV) (todo : List Nat) (τ : Env) (mm : Nat) : Prop where
  pw : Pw Hb H' v5 o5 out
  que : Que Hb H' v9 (todo.map fun (i : Nat) => (i : Int))
  inv : SInv F m n out0 out todo
  cnt : negN out + todo.length = mm
  lim : mm ≤ 1000000000
  t : Tm τ [(3, x3), (5, v5), (7, x7), (9, v9), (34, x34), (35, x35)]
structure Qq33 (Hb H' : Heap) (v5 x3 x7 x34 x35 : AV) (F : List (List Int)) (o5 : Nat) (m : Nat) (n : Int) (out0 out : List Int) (τ : Env) : Prop where
  pw : Pw Hb H' v5 o5 out
  inv : SInv F m n out0 out []
  t : Tm τ [(3, x3), (5, v5), (7, x7), (34, x34), (35, x35)]
theorem parts33q {FT : Nat → Option FnD} {H Hb H0 : Heap} (T : FacesT FT) {vF v5 x34 x35 : AV} {F : List (List Int)} {om o3 o5 : Nat} {m : Nat} {n : Int} {out0 out : List Int} {v9 : AV} {todo : List Nat} (S : Ps H Hb vF F om o3 o5) (pi : PInv F m out0 n) (pw : Pw Hb H0 v5 o5 out) (h5 : o5 < Hb.next)
    (que : Que Hb H0 v9 (todo.map fun (i : Nat) => (i : Int))) (inv : SInv F m n out0 out todo) (cnt : negN out + todo.length ≤ 1000000000) {τ0 : Env}
    (u : Tm τ0 [(3, .ptr o3 0), (5, v5), (7, .int .i64 n), (9, v9), (34, x34), (35, x35)]) :
    Wp FT k33q τ0 H0 (fun s τ H' => s = .next ∧ ∃ out', Qq33 Hb H' v5 (.ptr o3 0) (.int .i64 n) x34 x35 F o5 m n out0 out' τ) := by
  simp at u
  obtain ⟨u3, u5, u7, u9, u34, u35⟩ := u
  rw [body33q]
  generalize hkk : k33k = kk
  simp [k33q, k33o, putAt, subAt, A33]
  refine Wp_loop (fun mm τ H' => ∃ out' v9' todo', Pq33 Hb H' v5 (.ptr o3 0) (.int .i64 n) x34 x35 F o5 m n out0 out' v9' todo' τ mm) ?_ _ _ _ ⟨out, v9, todo, ⟨pw, que, inv, rfl, cnt, by simp [u3, u5, u7, u9, u34, u35]⟩⟩
  rintro mm τ H1 ⟨out1, v91, todo1, ⟨pw, que, inv, rfl, lim, t⟩⟩
  simp at t
  obtain ⟨t3, t5, t7, t9, t34, t35⟩ := t
  have hlen := que.rw.len
  cases todo1 with
  | nil =>
    simp at hlen
    simp [t9, hlen]
    exact ⟨out1, pw, inv, by simp [t3, t5, t7, t34, t35]⟩
  | cons v rest =>
    have ex1 := S.extAt pw.fr
    have hv1 := inv.td (v := v) (by simp)
    have hvl : v < F.length := by
      have h1 := inv.len
      have h2 := pi.len
      have := (List.getElem?_eq_some_iff.1 hv1).1
      omega
    obtain ⟨p0, y, c1, c2, c3⟩ := Ints.idx (que.rw.sl i64c_len) (k := .i64) (i := 0) (by omega) (by simp)
    have hy : y = (v : Int) := by
      have c1' : ((v :: rest).map fun (i : Nat) => (i : Int))[0]? = some y := c1
      simp at c1'; exact c1'.symm
    subst hy
    have hF1 := S.gd.ext ex1
    obtain ⟨p, r, f, a1, a2, a3, a4⟩ := S.gd.idxE ex1 (k := .i64) (i := (v : Int)) (by omega) (by omega)
    rw [Int.toNat_natCast] at a1
    have l53 : loadA H1 none (.ptr o3 1) = some vF := load_get (ex1.keep _ _ S.g3) rfl
    obtain ⟨v', d1, d2, d3⟩ := que.drop (by simp)
    have d2' : Que Hb H1 v' (rest.map fun (i : Nat) => (i : Int)) := by simpa using d2
    have hrl : ((List.map (fun (i : Nat) => (i : Int)) (v :: rest)).length : Int) = (rest.length : Int) + 1 := by simp
    have hpos : (0 : Int) < (rest.length : Int) + 1 := by omega
    have hlen' : lenA v91 = some (.int .i64 ((rest.length : Int) + 1)) := by rw [hlen, hrl]
    simp [t9, hlen', hpos, t3, l53, c2, c3, a2, a3, d1, a4.len]
    rw [← hkk]
    refine (parts33k T S pi pw h5 d2' inv a1 a4 (c := negN out1 + rest.length) rfl (by simp at lim; omega) (x34 := x34) (x35 := x35) (by simp [t3, t5, t7, t34, t35])).mono ?_
    rintro s τ2 H2 ⟨rfl, out2, v92, todo2, ⟨pw2, que2, inv2, cnt2, t⟩⟩
    simp at t
    obtain ⟨t3, t5, t7, t9, t34, t35⟩ := t
    simp at lim
    simp
    exact ⟨negN out1 + rest.length, by omega, out2, v92, todo2, ⟨pw2, que2, inv2, cnt2, by omega, by simp [t3, t5, t7, t9, t34, t35]⟩⟩
theorem sinv_start {F : List (List Int)} {m : Nat} {n : Int} {out : List Int} (p : PInv F m out n) (hx : out[m]? = some (-1)) : SInv F m n out (out.set m n) [m] := by
  have ml := (List.getElem?_eq_some_iff.1 hx).1
  have self : (out.set m n)[m]? = some n := by rw [List.getElem?_set, if_pos rfl, if_pos ml]
  have oth : ∀ {w : Nat}, w ≠ m → (out.set m n)[w]? = out[w]? := fun {w} e => by rw [List.getElem?_set, if_neg (fun q => e q.symm)]
  refine ⟨by simp, fun {w y} hy => ?_, fun {w y} hy h0 => ?_, self, fun {w} hw => ?_, fun {u w} hu hnt hadj => ?_⟩
  · by_cases e : w = m
    · subst e; rw [self] at hy; exact .inr ⟨(Option.some.inj hy).symm, .refl _⟩
    · rw [oth e] at hy; exact .inl hy
  · by_cases e : w = m
    · subst e; rw [hx] at hy; have := Option.some.inj hy; omega
    · rw [oth e]; exact hy
  · simp at hw; rw [hw]; exact self
  · have e : u ≠ m := by simpa using hnt
    rw [oth e] at hu
    have := p.lt hu
    omega
theorem negN_le (l : List Int) : negN l ≤ l.length := List.length_filter_le _ _
structure Po33 (Hb H' : Heap) (v5 x3 : AV) (F : List (List Int)) (o5 : Nat) (n : Int) (out : List Int) (τ : Env) (i m : Nat) : Prop where
  pw : Pw Hb H' v5 o5 out
  inv : PInv F i out n
  nl : n ≤ i
  le : i ≤ F.length
  hm : m = F.length - i
  t : Tm τ [(3, x3), (5, v5), (7, .int .i64 n), (34, .int .i64 F.length), (35, .int .i64 i)]
theorem parts33o {FT : Nat → Option FnD} {H Hb H0 : Heap} (T : FacesT FT) {vF v5 : AV} {F : List (List Int)} {om o3 o5 : Nat} (S : Ps H Hb vF F om o3 o5) (pw : Pw Hb H0 v5 o5 (List.replicate F.length (-1))) (h5 : o5 < Hb.next) {τ0 : Env}
    (u : Tm τ0 [(3, .ptr o3 0), (5, v5), (7, .int .i64 0), (34, .int .i64 F.length), (35, .int .i64 0)]) :
    Wp FT k33o τ0 H0 (fun s τ H' => s = .next ∧ Pw Hb H' v5 o5 (partsF F) ∧ Tm τ [(5, v5)]) := by
  simp at u
  obtain ⟨u3, u5, u7, u34, u35⟩ := u
  have hl := S.sz.len
  rw [body33o]
  generalize hkq : k33q = kq
  simp [k33o, putAt, subAt, A33]
  refine Wp_loop (fun m τ H' => ∃ i n out, Po33 Hb H' v5 (.ptr o3 0) F o5 n out τ i m) ?_ F.length _ _ ⟨0, 0, _, ⟨pw, PInv.start F, by omega, by omega, by omega, by simp [u3, u5, u7, u34, u35]⟩⟩
  rintro m τ H1 ⟨i, n, out, ⟨pw, inv, nl, hi, rfl, t⟩⟩
  simp at t
  obtain ⟨t3, t5, t7, t34, t35⟩ := t
  have ol := inv.len
  by_cases q : i < F.length
  · have wi : IntKind.i64.wrap ((i : Int) + 1) = (i : Int) + 1 := wrap64 (by omega) (by omega)
    obtain ⟨x, x1, x2, x3⟩ := pw.arr.idx (i := i) (by omega)
    have x3' : loadA H1 none (.ptr o5 i) = some (.int .i64 x) := x3
    by_cases hx : 0 ≤ x
    · simp [q, t34, t35, t5, x2, x3', hx, wi]
      exact ⟨_, by omega, i + 1, n, out, ⟨pw, inv.skip x1 hx, by omega, by omega, rfl, by simp [t3, t5, t7, t34]⟩⟩
    · have hx1 : x = -1 := inv.neg x1 (by omega)
      subst hx1
      have hn0 := inv.n0
      obtain ⟨H2, s1, s2, s3⟩ := pw.arr.set pw.fr.wf (i := i) (by omega) n rfl
      have s1' : storeA H1 1 (.ptr o5 i) (.int .i64 n) = some (undefA, H2) := s1
      have fr2 : Fr [o5] Hb H2 := pw.fr.trans S.ex.wf s3 (fun o q => .inl q)
      have e3 := Ext.push fr2.wf (.cells [.int .i64 i])
      have que : Que Hb (H2.push (.cells [.int .i64 i])) (.slc H2.next 0 1 1 1 true) (([i] : List Nat).map fun (i : Nat) => (i : Int)) := by
        refine ⟨H2.next, 0, true, rfl, ?_, fr2.wf.1, fr2.next⟩
        unfold Heap.readSeg
        rw [cellsAt_push]; rfl
      have hneg := neg_set x1 (by omega) hn0
      have hnl := negN_le out
      have wn : IntKind.i64.wrap (n + 1) = n + 1 := wrap64 (by omega) (by omega)
      simp [q, t34, t35, t5, t7, x2, x3', s1']
      rw [← hkq]
      refine (parts33q T S inv ⟨fr2.thenE S.ex.wf e3, s2.ext e3⟩ h5 que (sinv_start inv x1) (by simp; omega) (x34 := .int .i64 F.length) (x35 := .int .i64 i) (by simp [t3, t5, t7, t34, t35])).mono ?_
      rintro s τ2 H3 ⟨rfl, out3, ⟨pw3, inv3, t⟩⟩
      simp at t
      obtain ⟨t3, t5, t7, t34, t35⟩ := t
      simp [t7, t35, wi, wn]
      exact ⟨_, by omega, i + 1, n + 1, out3, ⟨pw3, inv.next x1 (inv3.done inv x1), by omega, by omega, rfl, by simp [t3, t5, t34]⟩⟩
  · have hil : i = F.length := by omega
    subst hil
    have := inv.done.is
    subst this
    simp [t34, t35]
    exact ⟨pw, t5⟩
structure Pa33 (Hb H' : Heap) (vF v5 x3 : AV) (F : List (List Int)) (o5 : Nat) (out : List Int) (τ : Env) (i m : Nat) : Prop where
  pw : Pw Hb H' v5 o5 out
  ol : out.length = F.length
  ok : ∀ j : Nat, j < i → out[j]? = some (-1)
  le : i ≤ F.length
  hm : m = F.length - i
  t : Tm τ [(0, vF), (3, x3), (5, v5), (25, .int .i64 F.length), (26, .int .i64 i)]
theorem parts33a {FT : Nat → Option FnD} {H Hb H0 : Heap} {vF v5 x3 : AV} {F : List (List Int)} {om o3 o5 : Nat} {out : List Int} (S : Ps H Hb vF F om o3 o5) (pw : Pw Hb H0 v5 o5 out) (ol : out.length = F.length) {τ0 : Env}
    (u : Tm τ0 [(0, vF), (3, x3), (5, v5), (25, .int .i64 F.length), (26, .int .i64 0)]) :
    Wp FT k33a τ0 H0 (fun s τ H' => s = .next ∧ Pw Hb H' v5 o5 (List.replicate F.length (-1)) ∧ Tm τ [(0, vF), (3, x3), (5, v5)]) := by
  simp at u
  obtain ⟨u0, u3, u5, u25, u26⟩ := u
  have hl := S.sz.len
  simp [k33a, subAt, A33]
  refine Wp_loop (fun m τ H' => ∃ i out, Pa33 Hb H' vF v5 x3 F o5 out τ i m) ?_ F.length _ _ ⟨0, out, ⟨pw, ol, by omega, by omega, by omega, by simp [u0, u3, u5, u25, u26]⟩⟩
  rintro m τ H1 ⟨i, out1, ⟨pw, ol, ok, hi, rfl, t⟩⟩
  simp at t
  obtain ⟨t0, t3, t5, t25, t26⟩ := t
  by_cases q : i < F.length
  · have wi : IntKind.i64.wrap ((i : Int) + 1) = (i : Int) + 1 := wrap64 (by omega) (by omega)
    obtain ⟨x, x1, x2, x3⟩ := pw.arr.idx (i := i) (by omega)
    obtain ⟨H2, s1, s2, s3⟩ := pw.arr.set pw.fr.wf (i := i) (by omega) (-1) rfl
    have s1' : storeA H1 1 (.ptr o5 i) (.int .i64 (-1)) = some (undefA, H2) := s1
    simp [q, t25, t26, t5, x2, s1', wi]
    refine ⟨_, by omega, i + 1, out1.set i (-1), ⟨⟨pw.fr.trans S.ex.wf s3 (fun o q => .inl q), s2⟩, by simpa using ol, fun j hj => ?_, by omega, rfl, by simp [t0, t3, t5, t25]⟩⟩
    rw [List.getElem?_set]
    by_cases e : i = j
    · rw [if_pos e, if_pos (by omega)]
    · rw [if_neg e]; exact ok j (by omega)
  · have hil : i = F.length := by omega
    subst hil
    have : out1 = List.replicate F.length (-1) := by
      apply List.ext_getElem?
      intro j
      rw [List.getElem?_replicate]
      by_cases c : j < F.length
      · rw [if_pos c]; exact ok j c
      · rw [if_neg c, List.getElem?_eq_none (by omega)]
    subst this
    simp [t25, t26]
    exact ⟨pw, t0, t3, t5⟩
theorem parts33 {FT : Nat → Option FnD} {H : Heap} (T : FacesT FT) {vF : AV} {F : List (List Int)} (hF : Gd H vF F) (hs : Fsz F) (hw : H.Wf) :
    Cp FT 33 [vF] H (fun r H' => Rw 1 i64c H' r (if chkF 1048576 F = 0 then partsF F else []) ∧ Ext H H') := by
  refine Cp_code A33 T.h33 rfl ?_
  have hA : A33.results = [.tmp 2] := rfl
  rw [hA, body33]
  generalize hka : k33a = ka
  generalize hko : k33o = ko
  simp [A33, putAt]
  refine (known29 T.h56 T.h91 T.h114 T.h63 T.h58 (n := 1048576) hF hs.row hs.len hw).mono ?_
  rintro _ H1 ⟨⟨m, rfl, hm2, hm3, hm4, hm5⟩, e1⟩
  obtain ⟨H2, st, g2, e2, n2⟩ := store_new e1.wf (z := [.nilm, .nils]) (n := 2) (x := m) (cs := m.cells) rfl hm2 rfl hm3
  have e02 := e1.trans e2
  have hl := hs.len
  by_cases z : chkF 1048576 F = 0
  · obtain ⟨om, rfl, gom⟩ := hm4 z
    have hF2 := hF.ext e02
    obtain ⟨v5, Hb, a1, a2, a3, a4⟩ := Arr.make (enc := intV) e2.wf 0 rfl hl (bytes := 8) (by omega)
    have a1' : makeSlA H2 1 8 [.int .i64 0] (.int .i64 F.length) (.int .i64 F.length) = some (v5, Hb) := a1
    have S : Ps H2 Hb vF F om H1.next H2.next := ⟨e2.wf, a3, hF2, hs, e2.keep _ _ gom, g2, Nat.le_refl _, z⟩
    have h5l := a2.len
    rw [List.length_replicate] at h5l
    simp [z, st, hF2.len, a1', h5l]
    rw [← hka]
    refine (parts33a S ⟨Fr.refl a3.wf, a2⟩ (by simp) (vF := vF) (x3 := .ptr H1.next 0) (by simp)).mono ?_
    rintro s τ H3 ⟨rfl, pw, t⟩
    simp at t
    obtain ⟨t0, t3, t5⟩ := t
    simp [t0, (S.gd.ext (S.extAt pw.fr)).len]
    rw [← hko]
    refine (parts33o T S pw (by omega) (by simp [t3, t5])).mono ?_
    rintro s τ H4 ⟨rfl, pw4, t⟩
    simp at t
    simp [t]
    exact ⟨pw4.arr.rw, e02.trans (S.extAt pw4.fr)⟩
  · simp [z, st]
    exact ⟨⟨.inl ⟨rfl, rfl⟩, rfl⟩, e02⟩
end
end Go.Proofs.Ytcepchipgjpkhaa
