/- Loops over maps: code whose course hangs on an order that is drawn. No claim by itself. -/
import Derived.Test.YtcepchipgjpkhaaE22
import Derived.Laws.IdiomRangeMap
namespace Go.AI
variable {P : Program} {G : World → Prop}
/-! ### The iterator's steps -/
/-- The iterator's block. -/
structure ItAt (w : World) (r bm : Nat) (en : Array MapEntry) (cl : Nat) (seen : Array Nat) (last : Nat) : Prop where
  it : w.heap[r]? = some (.mapIter (some bm) cl seen last)
  mp : w.heap[bm]? = some (.map en cl)
  le : cl ≤ last
theorem run_next {w : World} {r bm cl last : Nat} {en : Array MapEntry} {seen : Array Nat} {ty : TypeId} (h : ItAt w r bm en cl seen last) (hst : Stamped en.toList cl) :
    ((∀ e, e ∈ en.toList → e.born ∈ seen.toList) ∧ (Instr.next (.pointer (some ⟨r, 0, none⟩)) false ty).run P w = .ok (.tuple #[.bool false]) w) ∨
    ∃ (i : Nat) (e : MapEntry) (d' : Nat), en.toList[i]? = some e ∧ e.born ∉ seen.toList ∧ w.drawn ≤ d' ∧
      (Instr.next (.pointer (some ⟨r, 0, none⟩)) false ty).run P w = .ok (.tuple #[.bool true, e.key, e.val]) { w with drawn := d', heap := w.heap.setIfInBounds r (.mapIter (some bm) cl (seen.push e.born) cl) } := by
  have hold : ∀ x ∈ en.toList, x.born < cl := hst.lt
  simp only [Instr.next, getObj, Sem.run_bind, Sem.run, h.it, h.mp, Result.andThen, next_test_false seen en cl last hold h.le, Bool.false_eq_true, if_false]
  have hmem : ∀ x ∈ (Array.filter (fun e => !seen.contains e.born) en).toList, x ∈ en.toList ∧ x.born ∉ seen.toList := fun x hx => by
    simp at hx
    exact ⟨by simpa using hx.1, by simpa using hx.2⟩
  have hall : (∀ x, x ∈ (Array.filter (fun e => !seen.contains e.born) en).toList → False) → ∀ e, e ∈ en.toList → e.born ∈ seen.toList := fun k e he => by
    refine Classical.byContradiction fun q => k e ?_
    simp only [Array.toList_filter, List.mem_filter]
    exact ⟨he, by simpa using q⟩
  generalize Array.filter (fun e => !seen.contains e.born) en = L at hmem hall ⊢
  have e1 : L.filter (fun x => decide (x.born < cl)) = L := Array.filter_eq_self.2 (fun x hx => by simpa using hold x (hmem x (by simpa using hx)).1)
  have e2 : L.filter (fun x => decide (x.born ≥ cl)) = #[] := by
    rw [Array.filter_eq_empty_iff]
    intro x hx
    have := hold x (hmem x (by simpa using hx)).1
    simp
    omega
  simp only [e1, e2, Array.append_empty]
  by_cases h0 : L.size = 0
  · left
    have : L = #[] := Array.eq_empty_of_size_eq_zero h0
    subst this
    refine ⟨hall (fun x hx => by simp at hx), ?_⟩
    simp [choose, Sem.run, Question.forced]
  · right
    have hne : L.isEmpty = false := by simp [Array.isEmpty, h0]
    simp only [hne, Bool.false_eq_true, if_false, Array.empty_append, Array.size_map]
    have hch : ∃ (j d' : Nat), j < L.size ∧ w.drawn ≤ d' ∧ (choose (Question.mapNext L.size)).run P w = .ok j { w with drawn := d' } := by
      by_cases hf : L.size ≤ 1
      · exact ⟨0, w.drawn, by omega, Nat.le_refl _, by simp [choose, Sem.run, Question.forced, hf]⟩
      · exact ⟨_, w.drawn + 1, Nat.mod_lt _ (by omega), Nat.le_succ _, by
          simp only [choose, Sem.run, Question.forced, decide_eq_true_eq, hf, if_false, Question.cut]
          rfl⟩
    obtain ⟨j, d', hj, hd, hrun⟩ := hch
    have hm := hmem L[j] (by simp)
    obtain ⟨i, hi⟩ := List.getElem?_of_mem hm.1
    refine ⟨i, L[j], d', hi, hm.2, hd, ?_⟩
    simp only [hrun, Array.getElem?_map, Array.getElem?_eq_getElem hj, Option.map_some, Sem.run_bind, Result.andThen, setObj, Sem.run, h.it]
    rfl
theorem run_entry {w : World} {r bm cl : Nat} {en : Array MapEntry} {seen : Array Nat} {e : MapEntry} {i : Nat} (h : ItAt w r bm en cl (seen.push e.born) cl) (hst : Stamped en.toList cl) (he : en.toList[i]? = some e) :
    (Instr.entry (.pointer (some ⟨r, 0, none⟩))).run P w = .ok (.tuple #[e.key, e.val]) w := by
  have hf : en.find? (·.born == e.born) = some e := by rw [← Array.find?_toList]; exact find_born e en.toList hst.nd (List.mem_of_getElem? he)
  simp only [Instr.entry, getObj, Sem.run_bind, Sem.run, h.it, h.mp, Result.andThen, Array.back?_push, bne_self_eq_false, Bool.false_eq_true, if_false, hf]
  rfl
/-! ### A block of the machine's alone -/
/-- No object that is not dead lies in block r. -/
def NoOb (φ : Pl) (H : Heap) (r : Nat) : Prop := ∀ o L, φ o = some L → live H o → L.blk ≠ r
theorem NoOb.step {φ φ' : Pl} {H H' : Heap} {w w' : World} {r : Nat} (h : NoOb φ H r) (hr : r < w.heap.size) (s : Step φ H w φ' H' w') (hf : H.floor ≤ H.next) : NoOb φ' H' r := by
  intro o L e hl q
  by_cases ho : H.floor ≤ o
  · rcases s.made o L ho e hl with k | ⟨o1, L1, _, h2, h3, h4⟩
    · omega
    · exact h o1 L1 h2 h3 (h4.trans q)
  · obtain ⟨x, hx, hd⟩ := hl
    have hx' : H.get o = some x := (s.low o (by omega)).symm.trans hx
    cases hφ : φ o with
    | none => have := (s.new o L e hφ).1; omega
    | some L' =>
      have := s.ext o L' hφ
      rw [e] at this; cases this
      exact h o L hφ ⟨x, hx', hd⟩ q
theorem HRel.blk_lt {B W Z : Nat} {φ : Pl} {H : Heap} {w : World} (h : HRel G B W Z φ H w) {o : Nat} {L : Loc} {x : AObj} (e : φ o = some L) (hx : H.get o = some x) (hd : x ≠ .dead) : L.blk < w.heap.size := by
  by_cases hB : B ≤ o
  · have lt : ∀ {ob : Obj}, w.heap[L.blk]? = some ob → L.blk < w.heap.size := fun {ob} k => (Array.getElem?_eq_some_iff.1 k).1
    have hr := h.obj o L x e hx
    cases x with
    | cells cs => obtain ⟨c, t, fz, k, _⟩ := hr.2.2 hB; exact lt k
    | map es => obtain ⟨en, cl, k, _⟩ := hr; exact lt k
    | siter s p => obtain ⟨b, k, _⟩ := hr; exact lt k
    | dead => exact absurd rfl hd
    | bld T b =>
      cases b with
      | none => obtain ⟨p, k, _⟩ := hr; exact lt k
      | some qn => obtain ⟨p, Lq, _, k, _⟩ := hr; exact lt k
    | buf E bs => obtain ⟨c, l, k, _⟩ := hr; exact lt k
  · have := h.low o L e (by omega)
    have := h.wsz
    omega
theorem NoOb.fresh {B W Z : Nat} {φ : Pl} {H : Heap} {w : World} (h : HRel G B W Z φ H w) : NoOb φ H w.heap.size := by
  rintro o L e ⟨x, hx, hd⟩ q
  have := h.blk_lt e hx hd
  omega
theorem HRel.poke {B W Z : Nat} {φ : Pl} {H : Heap} {w : World} {r : Nat} (h : HRel G B W Z φ H w) (hn : NoOb φ H r) (hr : W ≤ r) (d' : Nat) (ob : Obj) : HRel G B W Z φ H { w with drawn := d', heap := w.heap.setIfInBounds r ob } where
  fl := h.fl
  fn := h.fn
  wsz := by simpa using h.wsz
  dom := h.dom
  fresh := h.fresh
  obj := fun o L x e hx => by
    by_cases hd : x = .dead
    · subst hd; trivial
    · have := hn o L e ⟨x, hx, hd⟩
      exact (h.obj o L x e hx).keep (fun _ _ k => k) (by simp [Ne.symm this])
  low := h.low
  high := h.high
  inj := h.inj
  good := fun w' k => h.good w' fun b hb => by
    rw [k b hb]
    have : r ≠ b := by omega
    simp [this]
theorem Step.poke {φ φ' : Pl} {H H' : Heap} {w w' : World} {r : Nat} (s : Step φ H w φ' H' w') (hr : w.heap.size ≤ r) {d' : Nat} (hd : w'.drawn ≤ d') (ob : Obj) : Step φ H w φ' H' { w' with drawn := d', heap := w'.heap.setIfInBounds r ob } :=
  { s with
    size := by simpa using s.size
    drawn := Nat.le_trans s.drawn hd
    kept := fun b hb hn => by
      have : r ≠ b := by omega
      rw [← s.kept b hb hn]
      simp [this] }
theorem Step.lowerTo {φ φ' : Pl} {H H1 : Heap} {w w' : World} {f : Nat} (s : Step φ { H with floor := f } w φ' H1 w') (h1 : H.floor ≤ f) (h2 : f ≤ H.next) : Step φ H w φ' { H1 with floor := H.floor } w' where
  ext := s.ext
  new := s.new
  next := s.next
  floor := rfl
  os := s.os
  tape := s.tape
  output := s.output
  size := s.size
  kept := fun b hb hn => s.kept b hb fun o L ho e hl => hn o L (Nat.le_trans h1 ho) e hl
  made := fun o L ho e hl => by
    by_cases hq : f ≤ o
    · rcases s.made o L hq e hl with h | ⟨o1, L1, k1, k2, k3, k4⟩
      · exact .inl h
      · exact .inr ⟨o1, L1, Nat.le_trans h1 k1, k2, k3, k4⟩
    · have hl' : live H o := by
        obtain ⟨x, hx, hd⟩ := hl
        have := s.low o (by show o < f; omega)
        exact ⟨x, this.symm.trans hx, hd⟩
      cases hφ : φ o with
      | none => have := (s.new o L e hφ).1; exact absurd (show H.next ≤ o from this) (by omega)
      | some L' =>
        have := s.ext o L' hφ
        rw [e] at this; cases this
        exact .inr ⟨o, L, ho, hφ, hl', rfl⟩
  low := fun o ho => s.low o (by show o < f; omega)
  drawn := s.drawn
theorem low_kept {B W Z : Nat} {φ φ' : Pl} {H H' : Heap} {w w' : World} (h : HRel G B W Z φ H w) (s : Step φ H w φ' H' w') {o : Nat} {L : Loc} {x : AObj} (e : φ o = some L) (hx : H.get o = some x) (hd : x ≠ .dead) (ho : o < H.floor) : w'.heap[L.blk]? = w.heap[L.blk]? :=
  s.kept _ (h.blk_lt e hx hd) fun o1 L1 h1 h2 h3 q => by
    have hfl := h.fl
    by_cases hB : B ≤ o
    · have := h.inj o o1 L L1 e h2 hB (by omega) ⟨x, hx, hd⟩ h3 q.symm
      omega
    · have k1 := h.low o L e (by omega)
      have k2 := h.high o1 L1 h2 (by omega) h3
      omega
/-! ### Code with loops over maps -/
inductive NC where
  | det (c : ACode)
  | seq (a b : NC)
  | cond (x : Opd) (a b : NC)
  | block (id : Nat) (b : NC)
  | rng (pre post : List AOper) (m : Opd) (ti tn tm tp out nx : Nat) (body : ACode)
structure RngOk (P : Program) (N : Nat) (c : Code) (pre post : List AOper) (m : Opd) (ti tn tm tp out nx : Nat) (body : ACode) : Prop where
  ex : ∃ (id1 id2 id3 : Nat) (ops1 ops2 ops3 : Array Oper) (mo : Operand) (xt kt et : TypeId) (o1 o2 o3 o4 : Oper) (bc : Code) (_ty1 _ty2 : TypeId),
    c = .seq (.region id1 ops1 false) (.block out (.loop (.seq (.region id2 ops2 false) (.seq (.cond (.tmp tm) .skip (.exit out)) (.block nx (.seq (.region id3 ops3 false) bc)))))) ∧
    (ops1.size = pre.length + 1 ∧ (∀ (j : Nat) (ao : AOper), pre[j]? = some ao → ∃ o, ops1[j]? = some o ∧ OperOk P ops1 N o ao) ∧ ops1[pre.length]? = some o1 ∧ o1.op = .range xt mo ∧ o1.dst = some ti ∧ o1.guard = none ∧ copd mo = some m ∧ P.underlying xt = some (.map kt et)) ∧
    (ops2.size = 2 ∧ ops2[0]? = some o2 ∧ o2.op = .next (.tmp ti) false ∧ o2.dst = some tn ∧ o2.guard = none ∧ ops2[1]? = some o3 ∧ o3.op = .extract (.tmp tn) 0 ∧ o3.dst = some tm ∧ o3.guard = none) ∧
    (ops3.size = 1 + post.length ∧ ops3[0]? = some o4 ∧ o4.op = .entry (.tmp ti) ∧ o4.dst = some tp ∧ o4.guard = none ∧ (∀ (j : Nat) (ao : AOper), post[j]? = some ao → ∃ o, ops3[1 + j]? = some o ∧ OperOk P ops3 N o ao)) ∧
    CodeOk P N bc body ∧ ti < N ∧ tn < N ∧ tm < N ∧ tp < N ∧ ti ≠ tn ∧ ti ≠ tm ∧ tn ≠ tm ∧ out ≠ nx
inductive NCodeOk (P : Program) (N : Nat) : Code → NC → Prop
  | det {c : Code} {a : ACode} (h : CodeOk P N c a) : NCodeOk P N c (.det a)
  | seq {a b : Code} {x y : NC} (h : NCodeOk P N a x) (k : NCodeOk P N b y) : NCodeOk P N (.seq a b) (.seq x y)
  | cond {c : Operand} {d : Opd} {a b : Code} {x y : NC} (hc : copd c = some d) (h : NCodeOk P N a x) (k : NCodeOk P N b y) : NCodeOk P N (.cond c a b) (.cond d x y)
  | block {id : Nat} {a : Code} {x : NC} (h : NCodeOk P N a x) : NCodeOk P N (.block id a) (.block id x)
  | rng {c : Code} {pre post : List AOper} {m : Opd} {ti tn tm tp out nx : Nat} {body : ACode} (h : RngOk P N c pre post m ti tn tm tp out nx body) : NCodeOk P N c (.rng pre post m ti tn tm tp out nx body)
def rngQ (I : List Nat → Env → Heap → Prop) (nx out fl : Nat) (seen : List Nat) (Q : Post) : Post
  | .next, τ, H => I seen τ H
  | .exit id, τ, H => if id = nx then I seen τ H else if id = out then Q .next τ { H with floor := fl } else Q (.exit id) τ { H with floor := fl }
  | .ret, τ, H => Q .ret τ { H with floor := fl }
/-- A loop over a map, by what holds of the entries that have come. -/
structure RngI (FT : Nat → Option FnD) (post : List AOper) (ti tn tm tp out nx : Nat) (body : ACode) (o : Nat) (es : List (AV × AV)) (fl : Nat) (τ0 : Env) (H0 : Heap) (Q : Post) (I : List Nat → Env → Heap → Prop) : Prop where
  lo : H0.floor ≤ fl
  hi : fl ≤ H0.next
  om : o < fl
  map : H0.get o = some (.map es)
  start : I [] (Tr.set τ0 ti (.ptr H0.next 0)) { H0.push .dead with floor := fl }
  keep : ∀ {seen τ H}, I seen τ H → Env.at τ ti = .ptr H0.next 0
  step : ∀ {seen τ H i e}, I seen τ H → i ∉ seen → es[i]? = some e → Wo FT post (Tr.set (Tr.set (Tr.set τ tn (.tup [.bool true, e.1, e.2])) tm (.bool true)) tp (.tup [e.1, e.2])) H fun _ τ1 H1 => Wp FT body τ1 H1 (rngQ I nx out H0.floor (i :: seen) Q)
  done : ∀ {seen τ H}, I seen τ H → (∀ i, i < es.length → i ∈ seen) → Q .next (Tr.set (Tr.set τ tn (.tup [.bool false])) tm (.bool false)) { H with floor := H0.floor }
def RngW (FT : Nat → Option FnD) (pre post : List AOper) (m : Opd) (ti tn tm tp out nx : Nat) (body : ACode) (τ : Env) (H : Heap) (Q : Post) : Prop :=
  Wo FT pre τ H fun _ τ0 H0 => (ev τ0 m = .nilm ∧ Q .next (Tr.set (Tr.set (Tr.set τ0 ti (.ptr H0.next 0)) tn (.tup [.bool false])) tm (.bool false)) (H0.push .dead)) ∨
    ∃ o es fl I, ev τ0 m = .map o ∧ RngI FT post ti tn tm tp out nx body o es fl τ0 H0 Q I
def nseqQ (K : Env → Heap → Prop) (Q : Post) : Post
  | .next, τ, H => K τ H
  | s, τ, H => Q s τ H
def WpN (FT : Nat → Option FnD) : NC → Env → Heap → Post → Prop
  | .det c, τ, H, Q => Wp FT c τ H Q
  | .seq a b, τ, H, Q => WpN FT a τ H (nseqQ (fun τ H => WpN FT b τ H Q) Q)
  | .cond x a b, τ, H, Q => condP (ev τ x) (WpN FT a τ H Q) (WpN FT b τ H Q)
  | .block id b, τ, H, Q => WpN FT b τ H (blockQ id Q)
  | .rng pre post m ti tn tm tp out nx body, τ, H, Q => RngW FT pre post m ti tn tm tp out nx body τ H Q
end Go.AI

/- Loops over maps: soundness. No claim by itself. -/
namespace Go.AI
variable {P : Program} {G : World → Prop} {FT : Nat → Option FnD}
theorem wpOp_plain {ops : Array Oper} {Q : Exit → Act → World → Prop} {i : Nat} {K : Act → World → Prop} {a : Act} {w : World} {o : Oper} (hi : ops[i]? = some o) (hg : o.guard = none) (h : o.wp P a w K Q) : wpOp P ops Q i K a w := by
  unfold wpOp
  rw [hi]
  have : Region.wanted o (yielded ops a.tmps) = true := by unfold Region.wanted; rw [hg]
  simp only [this, if_true]
  exact .inl h
theorem oper_val {o : Oper} {a : Act} {w w' : World} {v : Value} {next : Act → World → Prop} {Q : Exit → Act → World → Prop} (hr : (execOp a.eval o).run P w = .ok (.value v) w') (h : next (a.put o.dst v) w') : o.wp P a w next Q := by
  unfold Oper.wp; rw [hr]; exact h
structure Rnd (G : World → Prop) (B W Z N : Nat) (φ0 : Pl) (H0 : Heap) (w0 : World) (io bm : Nat) (en : Array MapEntry) (cl : Nat) (I : List Nat → Env → Heap → Prop) (seen : List Nat) (d0 : List Deferred) (φ : Pl) (τ : Env) (H : Heap) (act : Act) (w : World) : Prop where
  inv : I seen τ H
  fr : FRel φ N τ act
  df : act.defers = d0
  hr : HRel G B W Z φ H w
  st : Step φ0 H0 w0 φ H w
  no : NoOb φ H w0.heap.size
  sz : w0.heap.size < w.heap.size
  pl : φ io = some ⟨w0.heap.size, 0, 0⟩
  it : ∃ sb last, ItAt w w0.heap.size bm en cl sb last ∧ ∀ (i : Nat) (e : MapEntry), en.toList[i]? = some e → (e.born ∈ sb.toList ↔ i ∈ seen)
theorem born_inj {l : List MapEntry} (h : (l.map (·.born)).Nodup) {i j : Nat} {e f : MapEntry} (hi : l[i]? = some e) (hj : l[j]? = some f) (hb : e.born = f.born) : i = j := by
  have h1 : i < (l.map (·.born)).length := by simpa using (List.getElem?_eq_some_iff.1 hi).1
  have h2 : (l.map (·.born))[i]? = (l.map (·.born))[j]? := by rw [List.getElem?_map, List.getElem?_map, hi, hj]; simp [hb]
  exact (List.getElem?_inj h1 h).1 h2
theorem ItAt.step {B W Z : Nat} {φ φ' : Pl} {H H' : Heap} {w w' : World} {r cl last o : Nat} {Lm : Loc} {en : Array MapEntry} {sb : Array Nat} {es : List (AV × AV)} (h : ItAt w r Lm.blk en cl sb last) (hr : HRel G B W Z φ H w) (no : NoOb φ H r) (sz : r < w.heap.size) (hmo : φ o = some Lm) (hgo : H.get o = some (.map es)) (ho : o < H.floor) (s : Step φ H w φ' H' w') : ItAt w' r Lm.blk en cl sb last :=
  ⟨by rw [s.kept _ sz (fun o L _ e hl => no o L e hl)]; exact h.it, by rw [low_kept hr s hmo hgo (by simp) ho]; exact h.mp, h.le⟩
theorem rng_round (hFT : TableOk P G FT) {post : List AOper} {ti tn tm tp out nx o fl B W Z N : Nat} {body : ACode} {es : List (AV × AV)} {τ0 : Env} {Hp : Heap} {Q : Post} {I : List Nat → Env → Heap → Prop} (hI : RngI FT post ti tn tm tp out nx body o es fl τ0 Hp Q I)
    {id2 id3 : Nat} {ops2 ops3 : Array Oper} {o2 o3 o4 : Oper} {bc : Code}
    (c2 : ops2.size = 2 ∧ ops2[0]? = some o2 ∧ o2.op = .next (.tmp ti) false ∧ o2.dst = some tn ∧ o2.guard = none ∧ ops2[1]? = some o3 ∧ o3.op = .extract (.tmp tn) 0 ∧ o3.dst = some tm ∧ o3.guard = none)
    (c3 : ops3.size = 1 + post.length ∧ ops3[0]? = some o4 ∧ o4.op = .entry (.tmp ti) ∧ o4.dst = some tp ∧ o4.guard = none ∧ (∀ (j : Nat) (ao : AOper), post[j]? = some ao → ∃ o, ops3[1 + j]? = some o ∧ OperOk P ops3 N o ao))
    (hb : CodeOk P N bc body) (hN : ti < N ∧ tn < N ∧ tm < N ∧ tp < N ∧ ti ≠ tn ∧ ti ≠ tm ∧ tn ≠ tm ∧ out ≠ nx)
    (hZ : ∀ seen τ H, I seen τ H → H.floor = fl → fl ≤ H.next → H.next ≤ Z) (hQZ : ∀ s τ H, Q s τ H → H.floor = Hp.floor → H.floor ≤ H.next → H.next ≤ Z)
    {φ0 : Pl} {w0 : World} {en : Array MapEntry} {cl : Nat} {Lm : Loc} (hm : φ0 o = some Lm) (_hmap : w0.heap[Lm.blk]? = some (.map en cl)) (hH0 : HRel G B W Z φ0 { Hp with floor := fl } w0) {d0 : List Deferred} (hst : Stamped en.toList cl)
    {QC : Exit → Act → World → Prop}
    (hQ : ∀ (φ' : Pl) (s : Sig) (τ' : Env) (H' : Heap) (act' : Act) (w' : World), Q s τ' { H' with floor := Hp.floor } → FRel φ' N τ' act' → act'.defers = d0 → HRel G B W Z φ' H' w' → Step φ0 { Hp with floor := fl } w0 φ' H' w' → QC (sigExit s) act' w') {R : Act → World → Prop} {seen : List Nat} {φ : Pl} {τ : Env} {H : Heap} {act : Act} {w : World}
    (hR : Rnd G B W Z N φ0 { Hp with floor := fl } w0 Hp.next Lm.blk en cl I seen d0 φ τ H act w)
    (K : ∀ (i : Nat) (φ' : Pl) (τ' : Env) (H' : Heap) (act' : Act) (w' : World), i ∉ seen → i < es.length → Rnd G B W Z N φ0 { Hp with floor := fl } w0 Hp.next Lm.blk en cl I (i :: seen) d0 φ' τ' H' act' w' → R act' w') :
    (Code.seq (.region id2 ops2 false) (.seq (.cond (.tmp tm) .skip (.exit out)) (.block nx (.seq (.region id3 ops3 false) bc)))).wp P (Exit.then R (Exit.inBlock out QC)) act w := by
  obtain ⟨b1, b2, b3, b4, b5, b6, b7, b8, b9⟩ := c2
  obtain ⟨d1, d2, d3, d4, d5, d6⟩ := c3
  obtain ⟨n1, n2, n3, n4, n5, n6, n7, n8⟩ := hN
  obtain ⟨inv, fr, df, hr, st, no, sz, pl, sb, last, it, ids⟩ := hR
  have hfl : H.floor = fl := st.floor
  have hfn : H.floor ≤ H.next := hr.fn
  have hmo : φ o = some Lm := st.ext _ _ hm
  have hgo : H.get o = some (.map es) := (st.low o (show o < fl from hI.om)).trans hI.map
  have her : ERel φ es en.toList := by
    obtain ⟨en', cl', k1, k2, _⟩ := hr.obj o Lm _ hmo hgo
    rw [it.mp] at k1; cases k1; exact k2
  have hiv : act.eval (.tmp ti) = .pointer (some ⟨w0.heap.size, 0, none⟩) := by
    have hv := fr.ev [.tmp ti] (.tmp ti) (by simp) (.tmp ti) rfl
    rw [show ev τ (.tmp ti) = .ptr Hp.next 0 from hI.keep inv] at hv
    generalize act.eval (.tmp ti) = x at hv
    cases hv with
    | ptr _ _ L hL => rw [pl] at hL; cases hL; rfl
  have hW0 : W ≤ w0.heap.size := hH0.wsz
  have hcs := (run_sound hFT 0).2.2
  refine wp_seq (wp_region ?_)
  rw [b1]
  show wpOps P ops2 _ [0, 1] act w
  rw [wpOps_cons]
  rcases run_next (P := P) (ty := o2.type) it hst with ⟨hall, hrun⟩ | ⟨i, e, d', hie, hns, hd', hrun⟩
  · -- no entry is left
    refine wpOp_plain b2 b5 (oper_val (v := .tuple #[.bool false]) (w' := w) ?_ ?_)
    · obtain ⟨dst, op, ty, pos, after, guard⟩ := o2
      simp only at b3; subst b3
      exact run_v' (by rw [hiv]; exact hrun)
    · have fr1 : FRel φ N (Tr.set τ tn (.tup [.bool false])) (act.put o2.dst (.tuple #[.bool false])) := by
        rw [b4]
        exact fr.put (some tn) (fun k q => by cases q; exact n2) (.tup _ _ (.cons (.bool false) .nil))
      rw [wpOps_cons]
      refine wpOp_plain b6 b9 (oper_wp hcs (ao := .extract 0 (.tmp tn)) (by rw [b7]; rfl) (by rw [b7]; exact fr1.ev _) hr (H' := H) (a := .bool false) ?_ (hZ _ _ _ inv hfl (by rw [← hfl]; exact hfn)) ?_)
      · simp [operA, plainOp, AOp.writes, readOp, pureOp]
      · intro φ' v w' hv hr' hs
        have fr2 : FRel φ' N (Tr.set (Tr.set τ tn (.tup [.bool false])) tm (.bool false)) ((act.put o2.dst (.tuple #[.bool false])).put o3.dst v) := by
          rw [b8]
          exact (fr1.mono hs.ext).put (some tm) (fun k q => by cases q; exact n3) hv
        have hcv : ((act.put o2.dst (.tuple #[.bool false])).put o3.dst v).eval (.tmp tm) = .bool false := by
          have hq := fr2.ev [.tmp tm] (.tmp tm) (by simp) (.tmp tm) rfl
          rw [show ev (Tr.set (Tr.set τ tn (.tup [.bool false])) tm (.bool false)) (.tmp tm) = .bool false by simp] at hq
          generalize ((act.put o2.dst (.tuple #[.bool false])).put o3.dst v).eval (.tmp tm) = x at hq
          cases hq; rfl
        show (Code.seq (.cond (.tmp tm) .skip (.exit out)) _).wp P _ _ _
        refine wp_seq (wp_cond hcv ?_)
        simp only [Bool.false_eq_true, if_false]
        refine wp_exit ?_
        show Exit.inBlock out QC (.exit out) _ _
        simp only [Exit.inBlock, if_true]
        refine hQ φ' .next _ H _ w' (hI.done inv fun i hi => ?_) fr2 (by rw [put_defers, put_defers]; exact df) hr' (st.trans hs)
        obtain ⟨e, he⟩ : ∃ e, en.toList[i]? = some e := ⟨_, List.getElem?_eq_getElem (by rw [← her.len]; exact hi)⟩
        exact (ids i e he).1 (hall e (List.mem_of_getElem? he))
  · -- one more
    have hil : i < es.length := by rw [her.len]; exact (List.getElem?_eq_some_iff.1 hie).1
    obtain ⟨kv, hes⟩ : ∃ kv, es[i]? = some kv := ⟨_, List.getElem?_eq_getElem hil⟩
    obtain ⟨ka, va⟩ := kv
    obtain ⟨e', he', hk, hv⟩ := her.get hes
    rw [hie] at he'; cases he'
    have hns' : i ∉ seen := fun q => hns ((ids i e hie).2 q)
    have hr1 := hr.poke no hW0 d' (.mapIter (some Lm.blk) cl (sb.push e.born) cl)
    have st1 := st.poke (Nat.le_refl _) hd' (.mapIter (some Lm.blk) cl (sb.push e.born) cl)
    have sz1 : w0.heap.size < ({ w with drawn := d', heap := w.heap.setIfInBounds w0.heap.size (.mapIter (some Lm.blk) cl (sb.push e.born) cl) } : World).heap.size := by simpa using sz
    have it1 : ItAt { w with drawn := d', heap := w.heap.setIfInBounds w0.heap.size (.mapIter (some Lm.blk) cl (sb.push e.born) cl) } w0.heap.size Lm.blk en cl (sb.push e.born) cl := by
      have hne : Lm.blk ≠ w0.heap.size := no o Lm hmo ⟨_, hgo, by simp⟩
      exact ⟨by simp [sz], by simpa [Ne.symm hne] using it.mp, Nat.le_refl _⟩
    refine wpOp_plain b2 b5 (oper_val (v := .tuple #[.bool true, e.key, e.val]) (w' := { w with drawn := d', heap := w.heap.setIfInBounds w0.heap.size (.mapIter (some Lm.blk) cl (sb.push e.born) cl) }) ?_ ?_)
    · obtain ⟨dst, op, ty, pos, after, guard⟩ := o2
      simp only at b3; subst b3
      exact run_v' (by rw [hiv]; exact hrun)
    generalize ({ w with drawn := d', heap := w.heap.setIfInBounds w0.heap.size (.mapIter (some Lm.blk) cl (sb.push e.born) cl) } : World) = w1 at *
    have fr1 : FRel φ N (Tr.set τ tn (.tup [.bool true, ka, va])) (act.put o2.dst (.tuple #[.bool true, e.key, e.val])) := by
      rw [b4]
      exact fr.put (some tn) (fun k q => by cases q; exact n2) (.tup _ _ (.cons (.bool true) (.cons hk (.cons hv .nil))))
    rw [wpOps_cons]
    refine wpOp_plain b6 b9 (oper_wp hcs (ao := .extract 0 (.tmp tn)) (by rw [b7]; rfl) (by rw [b7]; exact fr1.ev _) hr1 (H' := H) (a := .bool true) ?_ (hZ _ _ _ inv hfl (by rw [← hfl]; exact hfn)) ?_)
    · simp [operA, plainOp, AOp.writes, readOp, pureOp]
    intro φ2 v2 w2 hv2 hr2 hs2
    have fr2 : FRel φ2 N (Tr.set (Tr.set τ tn (.tup [.bool true, ka, va])) tm (.bool true)) ((act.put o2.dst (.tuple #[.bool true, e.key, e.val])).put o3.dst v2) := by
      rw [b8]
      exact (fr1.mono hs2.ext).put (some tm) (fun k q => by cases q; exact n3) hv2
    have df2 : ((act.put o2.dst (.tuple #[.bool true, e.key, e.val])).put o3.dst v2).defers = d0 := by rw [put_defers, put_defers]; exact df
    generalize (act.put o2.dst (.tuple #[.bool true, e.key, e.val])).put o3.dst v2 = act2 at fr2 df2 ⊢
    have it2 := it1.step hr1 no sz1 hmo hgo (by rw [hfl]; exact hI.om) hs2
    have no2 := no.step sz1 hs2 hfn
    have st2 := st1.trans hs2
    have sz2 := Nat.lt_of_lt_of_le sz1 hs2.size
    have hcv : act2.eval (.tmp tm) = .bool true := by
      have hq := fr2.ev [.tmp tm] (.tmp tm) (by simp) (.tmp tm) rfl
      rw [show ev (Tr.set (Tr.set τ tn (.tup [.bool true, ka, va])) tm (.bool true)) (.tmp tm) = .bool true by simp] at hq
      generalize act2.eval (.tmp tm) = x at hq
      cases hq; rfl
    have hiv2 : act2.eval (.tmp ti) = .pointer (some ⟨w0.heap.size, 0, none⟩) := by
      have hq := fr2.ev [.tmp ti] (.tmp ti) (by simp) (.tmp ti) rfl
      rw [show ev (Tr.set (Tr.set τ tn (.tup [.bool true, ka, va])) tm (.bool true)) (.tmp ti) = .ptr Hp.next 0 by simp [n5, n6, hI.keep inv]] at hq
      generalize act2.eval (.tmp ti) = x at hq
      cases hq with
      | ptr _ _ L hL => rw [hs2.ext _ _ pl] at hL; cases hL; rfl
    show (Code.seq (.cond (.tmp tm) .skip (.exit out)) _).wp P _ _ _
    refine wp_seq (wp_cond hcv ?_)
    simp only [if_true]
    refine wp_skip ?_
    show (Code.block nx _).wp P _ _ _
    refine wp_block (wp_seq (wp_region ?_))
    rw [d1, Nat.add_comm, List.range_eq_range', List.range'_succ, wpOps_cons]
    obtain ⟨m1, τ4, H4, hops, m2, s, τ5, H5, hrun5, hq5⟩ := hI.step inv hns' hes
    have mo4 := opsA_mono (run_mono hFT m1).2 post _ H H4 τ4 hops hfn
    have hf4 : H4.floor ≤ H4.next := by rw [mo4.floor]; exact Nat.le_trans hfn mo4.next
    have mo5 := (run_mono hFT m2).1 body τ4 H4 s τ5 H5 hrun5 hf4
    have hfl5 : H5.floor = fl := by rw [mo5.floor, mo4.floor]; exact hfl
    have hn5 : fl ≤ H5.next := by rw [← hfl]; exact Nat.le_trans hfn (Nat.le_trans mo4.next mo5.next)
    have hZ5 : H5.next ≤ Z := by
      have q1 : ∀ s', Q s' τ5 { H5 with floor := Hp.floor } → H5.next ≤ Z := fun s' q => hQZ s' τ5 { H5 with floor := Hp.floor } q rfl (Nat.le_trans hI.lo hn5)
      cases s with
      | next => exact hZ _ _ _ hq5 hfl5 hn5
      | ret => exact q1 _ hq5
      | exit id =>
        simp only [rngQ] at hq5
        split at hq5
        · exact hZ _ _ _ hq5 hfl5 hn5
        · split at hq5
          · exact q1 _ hq5
          · exact q1 _ hq5
    have hZ4 : H4.next ≤ Z := Nat.le_trans mo5.next hZ5
    refine wpOp_plain d2 d5 (oper_val (v := .tuple #[e.key, e.val]) (w' := w2) ?_ ?_)
    · obtain ⟨dst, op, ty, pos, after, guard⟩ := o4
      simp only at d3; subst d3
      exact run_v' (by rw [hiv2]; exact run_entry it2 hst hie)
    have fr3 : FRel φ2 N (Tr.set (Tr.set (Tr.set τ tn (.tup [.bool true, ka, va])) tm (.bool true)) tp (.tup [ka, va])) (act2.put o4.dst (.tuple #[e.key, e.val])) := by
      rw [d4]
      exact fr2.put (some tp) (fun k q => by cases q; exact n4) (.tup _ _ (.cons (hk.mono hs2.ext) (.cons (hv.mono hs2.ext) .nil)))
    have df3 : (act2.put o4.dst (.tuple #[e.key, e.val])).defers = d0 := by rw [put_defers]; exact df2
    generalize act2.put o4.dst (.tuple #[e.key, e.val]) = act3 at fr3 df3 ⊢
    refine seq_ops (run_sound hFT m1).2.2 (run_mono hFT m1).2 post 1 (by omega) d6 φ2 H H4 w2 _ τ4 act3 fr3 hr2 hops hZ4 fun φ4 act4 w4 fr4 df4 hr4 hs4 => ?_
    show bc.wp P _ act4 w4
    have hgo4 : H4.get o = some (.map es) := (mo4.low o (by rw [hfl]; exact hI.om)).trans hgo
    have it4 := it2.step hr2 no2 sz2 (hs2.ext _ _ hmo) hgo (by rw [hfl]; exact hI.om) hs4
    have no4 := no2.step sz2 hs4 hfn
    have sz4 := Nat.lt_of_lt_of_le sz2 hs4.size
    refine (run_sound hFT m2).1 bc body B W Z N φ4 τ4 τ5 H4 H5 act4 w4 s _ hb hrun5 fr4 hr4 hZ5 fun φ5 act5 w5 fr5 df5 hr5 hs5 => ?_
    have it5 := it4.step hr4 no4 sz4 (hs4.ext _ _ (hs2.ext _ _ hmo)) hgo4 (by rw [mo4.floor, hfl]; exact hI.om) hs5
    have no5 := no4.step sz4 hs5 hf4
    have sz5 := Nat.lt_of_lt_of_le sz4 hs5.size
    have st5 := ((st2.trans hs4).trans hs5)
    have df5' : act5.defers = d0 := by rw [df5, df4]; exact df3
    have go : I (i :: seen) τ5 H5 → R act5 w5 := fun q => K i φ5 τ5 H5 act5 w5 hns' hil ⟨q, fr5, df5', hr5, st5, no5, sz5, hs5.ext _ _ (hs4.ext _ _ (hs2.ext _ _ pl)), _, _, it5, fun j f hf => by
      rw [Array.toList_push, List.mem_append, List.mem_singleton, List.mem_cons]
      constructor
      · rintro (q | q)
        · exact .inr ((ids j f hf).1 q)
        · exact .inl (born_inj hst.nd hf hie q)
      · rintro (q | q)
        · subst q; rw [hf] at hie; cases hie; exact .inr rfl
        · exact .inl ((ids j f hf).2 q)⟩
    have fin : ∀ s', Q s' τ5 { H5 with floor := Hp.floor } → QC (sigExit s') act5 w5 := fun s' q => hQ φ5 s' τ5 H5 act5 w5 q fr5 df5' hr5 st5
    cases s with
    | next => exact go hq5
    | ret => exact fin .ret hq5
    | exit id =>
      simp only [rngQ] at hq5
      show Exit.inBlock nx (Exit.then R (Exit.inBlock out QC)) (.exit id) act5 w5
      by_cases h1 : id = nx
      · rw [if_pos h1] at hq5
        simp only [Exit.inBlock, if_pos h1]
        exact go hq5
      · rw [if_neg h1] at hq5
        simp only [Exit.inBlock, if_neg h1]
        show Exit.inBlock out QC (.exit id) act5 w5
        by_cases h2 : id = out
        · rw [if_pos h2] at hq5
          simp only [Exit.inBlock, if_pos h2]
          exact fin .next hq5
        · rw [if_neg h2] at hq5
          simp only [Exit.inBlock, if_neg h2]
          exact fin (.exit id) hq5
theorem rng_rounds (hFT : TableOk P G FT) {post : List AOper} {ti tn tm tp out nx o fl B W Z N : Nat} {body : ACode} {es : List (AV × AV)} {τ0 : Env} {Hp : Heap} {Q : Post} {I : List Nat → Env → Heap → Prop} (hI : RngI FT post ti tn tm tp out nx body o es fl τ0 Hp Q I)
    {id2 id3 : Nat} {ops2 ops3 : Array Oper} {o2 o3 o4 : Oper} {bc : Code}
    (c2 : ops2.size = 2 ∧ ops2[0]? = some o2 ∧ o2.op = .next (.tmp ti) false ∧ o2.dst = some tn ∧ o2.guard = none ∧ ops2[1]? = some o3 ∧ o3.op = .extract (.tmp tn) 0 ∧ o3.dst = some tm ∧ o3.guard = none)
    (c3 : ops3.size = 1 + post.length ∧ ops3[0]? = some o4 ∧ o4.op = .entry (.tmp ti) ∧ o4.dst = some tp ∧ o4.guard = none ∧ (∀ (j : Nat) (ao : AOper), post[j]? = some ao → ∃ o, ops3[1 + j]? = some o ∧ OperOk P ops3 N o ao))
    (hb : CodeOk P N bc body) (hN : ti < N ∧ tn < N ∧ tm < N ∧ tp < N ∧ ti ≠ tn ∧ ti ≠ tm ∧ tn ≠ tm ∧ out ≠ nx)
    (hZ : ∀ seen τ H, I seen τ H → H.floor = fl → fl ≤ H.next → H.next ≤ Z) (hQZ : ∀ s τ H, Q s τ H → H.floor = Hp.floor → H.floor ≤ H.next → H.next ≤ Z)
    {φ0 : Pl} {w0 : World} {en : Array MapEntry} {cl : Nat} {Lm : Loc} (hm : φ0 o = some Lm) (hmap : w0.heap[Lm.blk]? = some (.map en cl)) (hH0 : HRel G B W Z φ0 { Hp with floor := fl } w0) {d0 : List Deferred} (hst : Stamped en.toList cl)
    {QC : Exit → Act → World → Prop}
    (hQ : ∀ (φ' : Pl) (s : Sig) (τ' : Env) (H' : Heap) (act' : Act) (w' : World), Q s τ' { H' with floor := Hp.floor } → FRel φ' N τ' act' → act'.defers = d0 → HRel G B W Z φ' H' w' → Step φ0 { Hp with floor := fl } w0 φ' H' w' → QC (sigExit s) act' w') :
    ∀ (n : Nat) (seen : List Nat) (φ : Pl) (τ : Env) (H : Heap) (act : Act) (w : World), Rnd G B W Z N φ0 { Hp with floor := fl } w0 Hp.next Lm.blk en cl I seen d0 φ τ H act w → ((List.range es.length).filter fun i => !seen.contains i).length ≤ n →
      Code.rounds P (.seq (.region id2 ops2 false) (.seq (.cond (.tmp tm) .skip (.exit out)) (.block nx (.seq (.region id3 ops3 false) bc)))) (Exit.inBlock out QC) (n + 1) act w := by
  obtain ⟨b1, b2, b3, b4, b5, b6, b7, b8, b9⟩ := c2
  obtain ⟨d1, d2, d3, d4, d5, d6⟩ := c3
  obtain ⟨n1, n2, n3, n4, n5, n6, n7, n8⟩ := hN
  intro n
  induction n with
  | zero =>
    intro seen φ τ H act w hR hn
    rw [rounds_succ]
    refine rng_round hFT hI ⟨b1, b2, b3, b4, b5, b6, b7, b8, b9⟩ ⟨d1, d2, d3, d4, d5, d6⟩ hb ⟨n1, n2, n3, n4, n5, n6, n7, n8⟩ hZ hQZ hm hmap hH0 hst hQ hR fun i φ' τ' H' act' w' hi hil _ => ?_
    have : i ∈ (List.range es.length).filter fun i => !seen.contains i := by simp [hi, hil]
    rw [List.length_eq_zero_iff.1 (Nat.le_zero.1 hn)] at this
    cases this
  | succ n ih =>
    intro seen φ τ H act w hR hn
    rw [rounds_succ]
    refine rng_round hFT hI ⟨b1, b2, b3, b4, b5, b6, b7, b8, b9⟩ ⟨d1, d2, d3, d4, d5, d6⟩ hb ⟨n1, n2, n3, n4, n5, n6, n7, n8⟩ hZ hQZ hm hmap hH0 hst hQ hR fun i φ' τ' H' act' w' hi hil hR' => ih _ _ _ _ _ _ hR' ?_
    have := Go.AI.filter_lt (fun j => !seen.contains j) (fun j => !(i :: seen).contains j) i (List.range es.length) (by simpa using hil) (by simpa using hi) (by simp) (fun x hx => by simp at hx ⊢; exact hx.2)
    omega
end Go.AI

/- Code with loops over maps: soundness. No claim by itself. -/
namespace Go.AI
variable {P : Program} {G : World → Prop} {FT : Nat → Option FnD}
theorem rng_reach (hFT : TableOk P G FT) {post : List AOper} {ti tn tm tp out nx o fl : Nat} {body : ACode} {es : List (AV × AV)} {τ0 : Env} {Hp : Heap} {Q : Post} {I : List Nat → Env → Heap → Prop} (hI : RngI FT post ti tn tm tp out nx body o es fl τ0 Hp Q I) :
    ∀ (n : Nat) (seen : List Nat) (τ : Env) (H : Heap), ((List.range es.length).filter fun i => !seen.contains i).length ≤ n → I seen τ H → H.floor = fl → fl ≤ H.next → ∃ s τ' H', Q s τ' H' ∧ H'.floor = Hp.floor ∧ H.next ≤ H'.next := by
  intro n
  induction n with
  | zero =>
    intro seen τ H hn inv hf hl
    refine ⟨_, _, _, hI.done inv fun i hi => Classical.byContradiction fun q => ?_, rfl, Nat.le_refl _⟩
    have : i ∈ (List.range es.length).filter fun i => !seen.contains i := by simp [q, hi]
    rw [List.length_eq_zero_iff.1 (Nat.le_zero.1 hn)] at this
    cases this
  | succ n ih =>
    intro seen τ H hn inv hf hl
    by_cases c : ∃ i, i < es.length ∧ i ∉ seen
    · obtain ⟨i, hi, hs⟩ := c
      obtain ⟨m1, τ4, H4, hops, m2, s, τ5, H5, hrun5, hq5⟩ := hI.step inv hs (List.getElem?_eq_getElem hi)
      have mo4 := opsA_mono (run_mono hFT m1).2 post _ H H4 τ4 hops (by omega)
      have mo5 := (run_mono hFT m2).1 body τ4 H4 s τ5 H5 hrun5 (by have := mo4.next; rw [mo4.floor]; omega)
      have hn5 : H.next ≤ H5.next := Nat.le_trans mo4.next mo5.next
      have hf5 : H5.floor = fl := by rw [mo5.floor, mo4.floor]; exact hf
      have hlt := Go.AI.filter_lt (fun j => !seen.contains j) (fun j => !(i :: seen).contains j) i (List.range es.length) (by simpa using hi) (by simpa using hs) (by simp) (fun x hx => by simp at hx ⊢; exact hx.2)
      have go : I (i :: seen) τ5 H5 → ∃ s τ' H', Q s τ' H' ∧ H'.floor = Hp.floor ∧ H.next ≤ H'.next := fun q => by
        obtain ⟨s, τ', H', k1, k2, k3⟩ := ih _ _ _ (by omega) q hf5 (by omega)
        exact ⟨s, τ', H', k1, k2, Nat.le_trans hn5 k3⟩
      cases s with
      | next => exact go hq5
      | ret => exact ⟨_, _, _, hq5, rfl, hn5⟩
      | exit id =>
        simp only [rngQ] at hq5
        split at hq5
        · exact go hq5
        · split at hq5
          · exact ⟨_, _, _, hq5, rfl, hn5⟩
          · exact ⟨_, _, _, hq5, rfl, hn5⟩
    · exact ⟨_, _, _, hI.done inv fun i hi => Classical.byContradiction fun q => c ⟨i, hi, q⟩, rfl, Nat.le_refl _⟩
theorem wpN_reach (hFT : TableOk P G FT) : ∀ (nc : NC) (τ : Env) (H : Heap) (Q : Post), WpN FT nc τ H Q → H.floor ≤ H.next → ∃ s τ' H', Q s τ' H' ∧ H'.floor = H.floor ∧ H.next ≤ H'.next
  | .det c, τ, H, Q, h, hf => by
    obtain ⟨n, s, τ', H', hr, q⟩ := h
    have m := (run_mono hFT n).1 c τ H s τ' H' hr hf
    exact ⟨s, τ', H', q, m.floor, m.next⟩
  | .seq a b, τ, H, Q, h, hf => by
    obtain ⟨s, τ', H', q, k1, k2⟩ := wpN_reach hFT a τ H _ h hf
    cases s with
    | next =>
      obtain ⟨s2, τ2, H2, q2, j1, j2⟩ := wpN_reach hFT b τ' H' Q q (by omega)
      exact ⟨s2, τ2, H2, q2, j1.trans k1, Nat.le_trans k2 j2⟩
    | ret => exact ⟨_, _, _, q, k1, k2⟩
    | exit id => exact ⟨_, _, _, q, k1, k2⟩
  | .cond x a b, τ, H, Q, h, hf => by
    simp only [WpN, condP] at h
    split at h
    · exact wpN_reach hFT a τ H Q h hf
    · exact wpN_reach hFT b τ H Q h hf
    · exact h.elim
  | .block id b, τ, H, Q, h, hf => by
    obtain ⟨s, τ', H', q, k1, k2⟩ := wpN_reach hFT b τ H _ h hf
    cases s with
    | next => exact ⟨_, _, _, q, k1, k2⟩
    | ret => exact ⟨_, _, _, q, k1, k2⟩
    | exit i =>
      simp only [blockQ_exit] at q
      split at q
      · exact ⟨_, _, _, q, k1, k2⟩
      · exact ⟨_, _, _, q, k1, k2⟩
  | .rng pre post m ti tn tm tp out nx body, τ, H, Q, h, hf => by
    obtain ⟨n, τ0, H0, hops, q⟩ := h
    have mo := opsA_mono (run_mono hFT n).2 pre τ H H0 τ0 hops hf
    have hp : (H0.push .dead).next = H0.next + 1 := rfl
    rcases q with ⟨_, q⟩ | ⟨o, es, fl, I, hm, hI⟩
    · exact ⟨_, _, _, q, mo.floor, by rw [hp]; have := mo.next; omega⟩
    · obtain ⟨s, τ', H', k1, k2, k3⟩ := rng_reach hFT hI _ [] _ _ (Nat.le_refl _) hI.start rfl (by show fl ≤ H0.next + 1; have := hI.hi; omega)
      have k3' : H0.next + 1 ≤ H'.next := k3
      exact ⟨s, τ', H', k1, k2.trans mo.floor, by have := mo.next; omega⟩
theorem seq_pre {cf : CallF} (hcf : CallSound P G cf) (hcm : CallMono cf) {ops : Array Oper} {B W Z N : Nat} {Q : Exit → Act → World → Prop} (aops : List AOper) (rest : List Nat) :
    ∀ (k : Nat), (∀ (j : Nat) (ao : AOper), aops[j]? = some ao → ∃ o, ops[k + j]? = some o ∧ OperOk P ops N o ao) →
    ∀ (φ : Pl) (H H' : Heap) (w : World) (τ τ' : Env) (act : Act), FRel φ N τ act → HRel G B W Z φ H w → opsA cf aops τ H = some (τ', H') → H'.next ≤ Z →
    (∀ φ' act' w', FRel φ' N τ' act' → act'.defers = act.defers → HRel G B W Z φ' H' w' → Step φ H w φ' H' w' → wpOps P ops Q rest act' w') →
    wpOps P ops Q (List.range' k aops.length ++ rest) act w := by
  induction aops with
  | nil =>
    intro k hok φ H H' w τ τ' act hF hH h hK hQ
    simp [opsA] at h; obtain ⟨rfl, rfl⟩ := h
    simp only [List.length_nil, List.range'_zero, List.nil_append]
    exact hQ φ act w hF rfl hH (Step.refl _ _ _)
  | cons ao tl ih =>
    intro k hok φ H H' w τ τ' act hF hH h hK hQ
    rw [opsA_cons] at h
    cases hst : stepA cf ao τ H with
    | none => simp [hst] at h
    | some r =>
      obtain ⟨τ1, H1⟩ := r
      simp [hst] at h
      obtain ⟨o, ho, hoo⟩ := hok 0 ao rfl
      simp only [List.length_cons, List.range'_succ, List.cons_append]
      rw [wpOps_cons]
      have hm0 := stepA_mono hcm hst hH.fn
      have hm1 : H1.next ≤ H'.next := (opsA_mono hcm tl τ1 H1 H' τ' h (by rw [hm0.floor]; exact Nat.le_trans hH.fn hm0.next)).next
      refine step_wp hcf (i := k) (by simpa using ho) hoo hF.size (hF.ev _) (fun t b _ => hF.at_ t) hH hst (Nat.le_trans hm1 hK) fun φ' x v w' e1 h1 h2 h3 _ => ?_
      refine ih (k + 1) (fun j a hj => by
        obtain ⟨o', q1, q2⟩ := hok (j + 1) a (by simpa using hj)
        exact ⟨o', by rw [← q1]; congr 1; omega, q2⟩) φ' H1 H' w' τ1 τ' (act.put o.dst v) ?_ h2 h hK fun φ2 act2 w2 g1 g2 g3 g4 => hQ φ2 act2 w2 g1 (by rw [g2, put_defers]) g3 (h3.trans g4)
      rw [e1, hoo.dst]
      exact (hF.mono h3.ext).put _ hoo.dlt h1
theorem run_next_nil {w : World} {r a b : Nat} {s : Array Nat} {ty : TypeId} (h : w.heap[r]? = some (.mapIter none a s b)) : (Instr.next (.pointer (some ⟨r, 0, none⟩)) false ty).run P w = .ok (.tuple #[.bool false]) w := by
  simp only [Instr.next, getObj, Sem.run_bind, Sem.run, h, Result.andThen]
  rfl
theorem rng_sound (hFT : TableOk P G FT) {B W Z N : Nat} {c : Code} {pre post : List AOper} {m : Opd} {ti tn tm tp out nx : Nat} {body : ACode} (hok : RngOk P N c pre post m ti tn tm tp out nx body) {φ : Pl} {τ : Env} {H : Heap} {act : Act} {w : World} {Q : Post} {QC : Exit → Act → World → Prop}
    (h : RngW FT pre post m ti tn tm tp out nx body τ H Q) (hF : FRel φ N τ act) (hH : HRel G B W Z φ H w) (hZ : ∀ s τ' H', Q s τ' H' → H'.floor = H.floor → H.floor ≤ H'.next → H'.next ≤ Z)
    (hQ : ∀ (φ' : Pl) (s : Sig) (τ' : Env) (H' : Heap) (act' : Act) (w' : World), Q s τ' H' → FRel φ' N τ' act' → act'.defers = act.defers → HRel G B W Z φ' H' w' → Step φ H w φ' H' w' → QC (sigExit s) act' w') : c.wp P QC act w := by
  obtain ⟨id1, id2, id3, ops1, ops2, ops3, mo, xt, kt, et, o1, o2, o3, o4, bc, _, _, rfl, ⟨a1, a2, a3, a4, a5, a6, a7, a8⟩, c2, c3, hb, n1, n2, n3, n4, n5, n6, n7, n8⟩ := hok
  have hcs := (run_sound hFT 0).2.2
  have hreach := wpN_reach hFT (.rng pre post m ti tn tm tp out nx body) τ H Q h hH.fn
  obtain ⟨n, τ0, H0, hops, q⟩ := h
  have mo0 := opsA_mono (run_mono hFT n).2 pre τ H H0 τ0 hops hH.fn
  have hf0 : H0.floor ≤ H0.next := by rw [mo0.floor]; exact Nat.le_trans hH.fn mo0.next
  -- what comes must be within the bound
  have hb0 : H0.next + 1 ≤ Z := by
    rcases q with ⟨_, q⟩ | ⟨o, es, fl, I, hm, hI⟩
    · exact hZ _ _ _ q mo0.floor (by show H.floor ≤ H0.next + 1; have := mo0.floor; omega)
    · obtain ⟨s, τ', H', k1, k2, k3⟩ := rng_reach hFT hI _ [] _ _ (Nat.le_refl _) hI.start rfl (by show fl ≤ H0.next + 1; have := hI.hi; omega)
      have k3' : H0.next + 1 ≤ H'.next := k3
      have := hZ _ _ _ k1 (k2.trans mo0.floor) (by have := mo0.floor; omega)
      omega
  refine wp_seq (wp_region ?_)
  rw [a1, List.range_succ, List.range_eq_range']
  refine seq_pre (run_sound hFT n).2.2 (run_mono hFT n).2 pre [pre.length] 0 (fun j ao hj => by simpa using a2 j ao hj) φ H H0 w τ τ0 act hF hH hops (by omega) fun φ0 act0 w0 fr0 df0 hr0 st0 => ?_
  rw [wpOps_cons]
  have hmv := fr0.ev [mo] mo (by simp) m a7
  rcases q with ⟨hnil, q⟩ | ⟨o, es, fl, I, hm, hI⟩
  · -- a nil map
    rw [hnil] at hmv
    have hmo : act0.eval mo = .map none := by
      generalize act0.eval mo = x at hmv
      cases hmv; rfl
    obtain ⟨hr1, st1⟩ := hr0.push (show H0.next < Z by omega) (w' := w0.alloc (.mapIter none 0 #[] 0)) .dead ⟨w0.heap.size, 0, 0⟩ (.mapIter none 0 #[] 0) rfl rfl rfl rfl rfl trivial
    refine wpOp_plain a3 a6 (oper_val (v := .pointer (some ⟨w0.heap.size, 0, none⟩)) (w' := w0.alloc (.mapIter none 0 #[] 0)) ?_ ?_)
    · obtain ⟨dst, op, ty, pos, after, guard⟩ := o1
      simp only at a4; subst a4
      exact run_v' (by rw [hmo]; exact run_range_nilMap w0 xt kt et a8)
    have fr1 : FRel (φ0.put H0.next ⟨w0.heap.size, 0, 0⟩) N (Tr.set τ0 ti (.ptr H0.next 0)) (act0.put o1.dst (.pointer (some ⟨w0.heap.size, 0, none⟩))) := by
      rw [a5]
      exact (fr0.mono st1.ext).put (some ti) (fun k q => by cases q; exact n1) (VRel.ptr H0.next 0 _ (Pl.put_same _ _ _))
    show (Code.block out _).wp P _ _ _
    refine wp_block (wp_loop_rounds 1 ?_)
    rw [rounds_succ]
    obtain ⟨b1, b2, b3, b4, b5, b6, b7, b8, b9⟩ := c2
    refine wp_seq (wp_region ?_)
    rw [b1]
    show wpOps P ops2 _ [0, 1] _ _
    rw [wpOps_cons]
    have hiv : (act0.put o1.dst (.pointer (some ⟨w0.heap.size, 0, none⟩))).eval (.tmp ti) = .pointer (some ⟨w0.heap.size, 0, none⟩) := by
      have hv := fr1.ev [.tmp ti] (.tmp ti) (by simp) (.tmp ti) rfl
      rw [show ev (Tr.set τ0 ti (.ptr H0.next 0)) (.tmp ti) = .ptr H0.next 0 by simp] at hv
      generalize (act0.put o1.dst (.pointer (some ⟨w0.heap.size, 0, none⟩))).eval (.tmp ti) = x at hv
      cases hv with
      | ptr _ _ L hL => rw [Pl.put_same] at hL; cases hL; rfl
    refine wpOp_plain b2 b5 (oper_val (v := .tuple #[.bool false]) (w' := w0.alloc (.mapIter none 0 #[] 0)) ?_ ?_)
    · obtain ⟨dst, op, ty, pos, after, guard⟩ := o2
      simp only at b3; subst b3
      exact run_v' (by rw [hiv]; exact run_next_nil (heap_alloc_new w0 _))
    have df1 : (act0.put o1.dst (.pointer (some ⟨w0.heap.size, 0, none⟩))).defers = act.defers := by rw [put_defers]; exact df0
    generalize act0.put o1.dst (.pointer (some ⟨w0.heap.size, 0, none⟩)) = act1 at fr1 df1 ⊢
    have fr2 : FRel (φ0.put H0.next ⟨w0.heap.size, 0, 0⟩) N (Tr.set (Tr.set τ0 ti (.ptr H0.next 0)) tn (.tup [.bool false])) (act1.put o2.dst (.tuple #[.bool false])) := by
      rw [b4]
      exact fr1.put (some tn) (fun k q => by cases q; exact n2) (.tup _ _ (.cons (.bool false) .nil))
    rw [wpOps_cons]
    refine wpOp_plain b6 b9 (oper_wp hcs (ao := .extract 0 (.tmp tn)) (by rw [b7]; rfl) (by rw [b7]; exact fr2.ev _) hr1 (H' := H0.push .dead) (a := .bool false) ?_ (show H0.next + 1 ≤ Z from hb0) ?_)
    · simp [operA, plainOp, AOp.writes, readOp, pureOp]
    intro φ' v w' hv hr' hs
    have fr3 : FRel φ' N (Tr.set (Tr.set (Tr.set τ0 ti (.ptr H0.next 0)) tn (.tup [.bool false])) tm (.bool false)) ((act1.put o2.dst (.tuple #[.bool false])).put o3.dst v) := by
      rw [b8]
      exact (fr2.mono hs.ext).put (some tm) (fun k q => by cases q; exact n3) hv
    have hcv : ((act1.put o2.dst (.tuple #[.bool false])).put o3.dst v).eval (.tmp tm) = .bool false := by
      have hq := fr3.ev [.tmp tm] (.tmp tm) (by simp) (.tmp tm) rfl
      rw [show ev (Tr.set (Tr.set (Tr.set τ0 ti (.ptr H0.next 0)) tn (.tup [.bool false])) tm (.bool false)) (.tmp tm) = .bool false by simp] at hq
      generalize ((act1.put o2.dst (.tuple #[.bool false])).put o3.dst v).eval (.tmp tm) = x at hq
      cases hq; rfl
    show (Code.seq (.cond (.tmp tm) .skip (.exit out)) _).wp P _ _ _
    refine wp_seq (wp_cond hcv ?_)
    simp only [Bool.false_eq_true, if_false]
    refine wp_exit ?_
    show Exit.inBlock out _ (.exit out) _ _
    simp only [Exit.inBlock, if_true]
    exact hQ φ' .next _ _ _ w' q fr3 (by rw [put_defers, put_defers]; exact df1) hr' ((st0.trans st1).trans hs)
  · -- a map
    rw [hm] at hmv
    obtain ⟨Lm, hLm, hmo⟩ : ∃ Lm, φ0 o = some Lm ∧ act0.eval mo = .map (some Lm.blk) := by
      generalize act0.eval mo = x at hmv
      cases hmv with
      | map _ L hL => exact ⟨L, hL, rfl⟩
    obtain ⟨en, cl, k1, k2, k3⟩ := hr0.obj o Lm _ hLm hI.map
    have hlo : B ≤ fl := Nat.le_trans hr0.fl hI.lo
    have hr0f : HRel G B W Z φ0 { H0 with floor := fl } w0 := hr0.lower hlo hI.hi
    obtain ⟨hr1, st1⟩ := hr0f.push (show H0.next < Z by omega) (w' := w0.alloc (.mapIter (some Lm.blk) cl #[] cl)) .dead ⟨w0.heap.size, 0, 0⟩ (.mapIter (some Lm.blk) cl #[] cl) rfl rfl rfl rfl rfl trivial
    refine wpOp_plain a3 a6 (oper_val (v := .pointer (some ⟨w0.heap.size, 0, none⟩)) (w' := w0.alloc (.mapIter (some Lm.blk) cl #[] cl)) ?_ ?_)
    · obtain ⟨dst, op, ty, pos, after, guard⟩ := o1
      simp only at a4; subst a4
      exact run_v' (by rw [hmo]; exact run_range_map w0 xt kt et Lm.blk en cl a8 k1)
    have fr1 : FRel (φ0.put H0.next ⟨w0.heap.size, 0, 0⟩) N (Tr.set τ0 ti (.ptr H0.next 0)) (act0.put o1.dst (.pointer (some ⟨w0.heap.size, 0, none⟩))) := by
      rw [a5]
      exact (fr0.mono st1.ext).put (some ti) (fun k q => by cases q; exact n1) (VRel.ptr H0.next 0 _ (Pl.put_same _ _ _))
    have hlm : Lm.blk < w0.heap.size := (Array.getElem?_eq_some_iff.1 k1).1
    have no1 : NoOb (φ0.put H0.next ⟨w0.heap.size, 0, 0⟩) { H0.push .dead with floor := fl } w0.heap.size := by
      rintro p L e ⟨x, hx, hd⟩ q
      have hx' : (if p = H0.next then some AObj.dead else H0.get p) = some x := by rw [← Heap.get_push]; exact hx
      by_cases c : p = H0.next
      · rw [if_pos c] at hx'; cases hx'; exact hd rfl
      · rw [if_neg c] at hx'
        have e' : φ0 p = some L := by unfold Pl.put at e; rw [if_neg c] at e; exact e
        exact NoOb.fresh hr0 p L e' ⟨x, hx', hd⟩ q
    show (Code.block out _).wp P _ _ _
    refine wp_block (wp_loop_rounds (((List.range es.length).filter fun i => !([] : List Nat).contains i).length + 1) ?_)
    refine rng_rounds hFT hI c2 c3 hb ⟨n1, n2, n3, n4, n5, n6, n7, n8⟩ (fun seen τ' H' inv h1 h2 => ?_) (fun s τ' H' k h1 h2 => ?_) hLm k1 hr0f (d0 := act.defers) k3 (fun φ' s τ' H' act' w' k fr' df' hr' st' => ?_) _ [] _ _ _ _ _ ⟨hI.start, fr1, by rw [put_defers]; exact df0, hr1, st1, no1, by show w0.heap.size < (w0.heap.push _).size; simp, Pl.put_same _ _ _, #[], cl, ⟨heap_alloc_new w0 _, by rw [heap_alloc_old w0 _ hlm]; exact k1, Nat.le_refl _⟩, fun i e he => by simp⟩ (Nat.le_refl _)
    · obtain ⟨s, τ2, H2, j1, j2, j3⟩ := rng_reach hFT hI _ seen τ' H' (Nat.le_refl _) inv h1 h2
      have e := mo0.floor
      have := hI.lo
      have := hZ _ _ _ j1 (j2.trans mo0.floor) (by omega)
      omega
    · exact hZ _ _ _ k (h1.trans mo0.floor) (by have := mo0.floor; omega)
    · exact hQ φ' s τ' _ act' w' k fr' df' (hr'.lower hr0.fl (by have := st'.next; have : H0.next ≤ H'.next := this; omega)) (st0.trans (st'.lowerTo hI.lo hI.hi))
theorem wpN_sound (hFT : TableOk P G FT) {B W Z N : Nat} {c : Code} {nc : NC} (hok : NCodeOk P N c nc) : ∀ {φ : Pl} {τ : Env} {H : Heap} {act : Act} {w : World} {Q : Post} {QC : Exit → Act → World → Prop},
    WpN FT nc τ H Q → FRel φ N τ act → HRel G B W Z φ H w → (∀ s τ' H', Q s τ' H' → H'.floor = H.floor → H.floor ≤ H'.next → H'.next ≤ Z) →
    (∀ (φ' : Pl) (s : Sig) (τ' : Env) (H' : Heap) (act' : Act) (w' : World), Q s τ' H' → FRel φ' N τ' act' → act'.defers = act.defers → HRel G B W Z φ' H' w' → Step φ H w φ' H' w' → QC (sigExit s) act' w') → c.wp P QC act w := by
  induction hok with
  | @det c a hc =>
    intro φ τ H act w Q QC h hF hH hZ hQ
    obtain ⟨n, s, τ', H', hr, q⟩ := h
    have m := (run_mono hFT n).1 a τ H s τ' H' hr hH.fn
    exact (run_sound hFT n).1 c a B W Z N φ τ τ' H H' act w s QC hc hr hF hH (hZ _ _ _ q m.floor (Nat.le_trans hH.fn m.next)) fun φ' act' w' g1 g2 g3 g4 => hQ φ' s τ' H' act' w' q g1 g2 g3 g4
  | @seq a b x y ha hb iha ihb =>
    intro φ τ H act w Q QC h hF hH hZ hQ
    refine wp_seq (iha h hF hH (fun s τ' H' q h1 h2 => ?_) fun φ' s τ' H' act' w' q g1 g2 g3 g4 => ?_)
    · cases s with
      | next =>
        obtain ⟨s2, τ2, H2, q2, j1, j2⟩ := wpN_reach hFT y τ' H' Q q (by omega)
        have := hZ _ _ _ q2 (j1.trans h1) (by omega)
        omega
      | ret => exact hZ _ _ _ q h1 h2
      | exit id => exact hZ _ _ _ q h1 h2
    · cases s with
      | next =>
        refine ihb q g1 g3 (fun s2 τ2 H2 q2 h1 h2 => hZ _ _ _ q2 (h1.trans g4.floor) (by have := g4.floor; omega)) fun φ2 s2 τ2 H2 act2 w2 q2 k1 k2 k3 k4 => hQ φ2 s2 τ2 H2 act2 w2 q2 k1 (k2.trans g2) k3 (g4.trans k4)
      | ret => exact hQ φ' .ret τ' H' act' w' q g1 g2 g3 g4
      | exit id => exact hQ φ' (.exit id) τ' H' act' w' q g1 g2 g3 g4
  | @cond c d a b x y hc ha hb iha ihb =>
    intro φ τ H act w Q QC h hF hH hZ hQ
    have hv := hF.ev [c] c (by simp) d hc
    simp only [WpN, condP] at h
    split at h
    · rename_i hd
      rw [hd] at hv
      generalize hcv : act.eval c = cv at hv
      cases hv
      exact wp_cond hcv (by simpa using iha h hF hH hZ hQ)
    · rename_i hd
      rw [hd] at hv
      generalize hcv : act.eval c = cv at hv
      cases hv
      exact wp_cond hcv (by simpa using ihb h hF hH hZ hQ)
    · exact h.elim
  | @block id a x ha iha =>
    intro φ τ H act w Q QC h hF hH hZ hQ
    refine wp_block (iha h hF hH (fun s τ' H' q h1 h2 => ?_) fun φ' s τ' H' act' w' q g1 g2 g3 g4 => ?_)
    · cases s with
      | next => exact hZ _ _ _ q h1 h2
      | ret => exact hZ _ _ _ q h1 h2
      | exit id' =>
        simp only [blockQ_exit] at q
        split at q
        · exact hZ _ _ _ q h1 h2
        · exact hZ _ _ _ q h1 h2
    · cases s with
      | next => exact hQ φ' .next τ' H' act' w' q g1 g2 g3 g4
      | ret => exact hQ φ' .ret τ' H' act' w' q g1 g2 g3 g4
      | exit id' =>
        simp only [blockQ_exit] at q
        simp only [sigExit, Exit.inBlock]
        split at q
        · rename_i c; rw [if_pos c]; exact hQ φ' .next τ' H' act' w' q g1 g2 g3 g4
        · rename_i c; rw [if_neg c]; exact hQ φ' (.exit id') τ' H' act' w' q g1 g2 g3 g4
  | rng hok =>
    intro φ τ H act w Q QC h hF hH hZ hQ
    exact rng_sound hFT hok h hF hH hZ hQ
end Go.AI

/- Functions with loops over maps, told by what all orders come to. No claim by itself. -/
namespace Go.AI
variable {P : Program} {G : World → Prop} {FT : Nat → Option FnD}
theorem rng_mono (hFT : TableOk P G FT) {post : List AOper} {ti tn tm tp out nx o fl : Nat} {body : ACode} {es : List (AV × AV)} {τ0 : Env} {Hp : Heap} {Q : Post} {I : List Nat → Env → Heap → Prop} (hI : RngI FT post ti tn tm tp out nx body o es fl τ0 Hp Q I) :
    ∀ (n : Nat) (seen : List Nat) (τ : Env) (H : Heap), ((List.range es.length).filter fun i => !seen.contains i).length ≤ n → I seen τ H → H.floor = fl → fl ≤ H.next → ∃ s τ' H', Q s τ' { H' with floor := Hp.floor } ∧ Mono H H' := by
  intro n
  induction n with
  | zero =>
    intro seen τ H hn inv hf hl
    refine ⟨_, _, _, hI.done inv fun i hi => Classical.byContradiction fun q => ?_, Mono.refl H⟩
    have : i ∈ (List.range es.length).filter fun i => !seen.contains i := by simp [q, hi]
    rw [List.length_eq_zero_iff.1 (Nat.le_zero.1 hn)] at this
    cases this
  | succ n ih =>
    intro seen τ H hn inv hf hl
    by_cases c : ∃ i, i < es.length ∧ i ∉ seen
    · obtain ⟨i, hi, hs⟩ := c
      obtain ⟨m1, τ4, H4, hops, m2, s, τ5, H5, hrun5, hq5⟩ := hI.step inv hs (List.getElem?_eq_getElem hi)
      have mo4 := opsA_mono (run_mono hFT m1).2 post _ H H4 τ4 hops (by omega)
      have mo5 := (run_mono hFT m2).1 body τ4 H4 s τ5 H5 hrun5 (by have := mo4.next; rw [mo4.floor]; omega)
      have mo := mo4.trans mo5
      have hf5 : H5.floor = fl := mo.floor.trans hf
      have hlt := Go.AI.filter_lt (fun j => !seen.contains j) (fun j => !(i :: seen).contains j) i (List.range es.length) (by simpa using hi) (by simpa using hs) (by simp) (fun x hx => by simp at hx ⊢; exact hx.2)
      have go : I (i :: seen) τ5 H5 → ∃ s τ' H', Q s τ' { H' with floor := Hp.floor } ∧ Mono H H' := fun q => by
        obtain ⟨s, τ', H', k1, k2⟩ := ih _ _ _ (by omega) q hf5 (by have := mo.next; omega)
        exact ⟨s, τ', H', k1, mo.trans k2⟩
      cases s with
      | next => exact go hq5
      | ret => exact ⟨_, _, _, hq5, mo⟩
      | exit id =>
        simp only [rngQ] at hq5
        split at hq5
        · exact go hq5
        · split at hq5
          · exact ⟨_, _, _, hq5, mo⟩
          · exact ⟨_, _, _, hq5, mo⟩
    · exact ⟨_, _, _, hI.done inv fun i hi => Classical.byContradiction fun q => c ⟨i, hi, q⟩, Mono.refl H⟩
theorem wpN_mono (hFT : TableOk P G FT) : ∀ (nc : NC) (τ : Env) (H : Heap) (Q : Post), WpN FT nc τ H Q → H.floor ≤ H.next → ∃ s τ' H', Q s τ' H' ∧ Mono H H'
  | .det c, τ, H, Q, h, hf => by
    obtain ⟨n, s, τ', H', hr, q⟩ := h
    exact ⟨s, τ', H', q, (run_mono hFT n).1 c τ H s τ' H' hr hf⟩
  | .seq a b, τ, H, Q, h, hf => by
    obtain ⟨s, τ', H', q, k⟩ := wpN_mono hFT a τ H _ h hf
    cases s with
    | next =>
      obtain ⟨s2, τ2, H2, q2, j⟩ := wpN_mono hFT b τ' H' Q q (by have := k.floor; have := k.next; omega)
      exact ⟨s2, τ2, H2, q2, k.trans j⟩
    | ret => exact ⟨_, _, _, q, k⟩
    | exit id => exact ⟨_, _, _, q, k⟩
  | .cond x a b, τ, H, Q, h, hf => by
    simp only [WpN, condP] at h
    split at h
    · exact wpN_mono hFT a τ H Q h hf
    · exact wpN_mono hFT b τ H Q h hf
    · exact h.elim
  | .block id b, τ, H, Q, h, hf => by
    obtain ⟨s, τ', H', q, k⟩ := wpN_mono hFT b τ H _ h hf
    cases s with
    | next => exact ⟨_, _, _, q, k⟩
    | ret => exact ⟨_, _, _, q, k⟩
    | exit i =>
      simp only [blockQ_exit] at q
      split at q
      · exact ⟨_, _, _, q, k⟩
      · exact ⟨_, _, _, q, k⟩
  | .rng pre post m ti tn tm tp out nx body, τ, H, Q, h, hf => by
    obtain ⟨n, τ0, H0, hops, q⟩ := h
    have mo := opsA_mono (run_mono hFT n).2 pre τ H H0 τ0 hops hf
    have hf0 : H0.floor ≤ H0.next := by rw [mo.floor]; exact Nat.le_trans hf mo.next
    have mp := Mono.push (H := H0) .dead hf0
    rcases q with ⟨_, q⟩ | ⟨o, es, fl, I, hm, hI⟩
    · exact ⟨_, _, _, q, mo.trans mp⟩
    · have lo := hI.lo
      have hi := hI.hi
      obtain ⟨s, τ', H', k1, k2⟩ := rng_mono hFT hI _ [] _ _ (Nat.le_refl _) hI.start rfl (by show fl ≤ H0.next + 1; omega)
      refine ⟨s, τ', _, k1, mo.trans ⟨?_, rfl, fun o ho => ?_, fun f => ?_⟩⟩
      · have : H0.next + 1 ≤ H'.next := k2.next
        show H0.next ≤ H'.next; omega
      · have q1 := k2.low o (show o < fl by omega)
        exact Eq.trans q1 (mp.low o ho)
      · exact fun o ho => k2.fresh (fun p hp => mp.fresh f p hp) o ho
/-- A memory that keeps less of what is new. -/
structure Sub (H1 H' : Heap) : Prop where
  floor : H'.floor = H1.floor
  next : H1.next ≤ H'.next
  get : ∀ o x, H'.get o = some x → H1.get o = some x
  low : ∀ o, o < H1.floor → H'.get o = H1.get o
theorem Sub.refl (H : Heap) : Sub H H := ⟨rfl, Nat.le_refl _, fun _ _ h => h, fun _ _ => rfl⟩
theorem HRel.sub {B W Z : Nat} {φ : Pl} {H1 H' : Heap} {w : World} (h : HRel G B W Z φ H1 w) (s : Sub H1 H') : HRel G B W Z φ H' w where
  fl := by rw [s.floor]; exact h.fl
  fn := by rw [s.floor]; exact Nat.le_trans h.fn s.next
  wsz := h.wsz
  dom := fun o L e => (h.dom o L e).imp (fun k => Nat.lt_of_lt_of_le k s.next) id
  fresh := fun o ho => by
    cases hq : H'.get o with
    | none => rfl
    | some x =>
      have h1 := s.get o x hq
      rw [h.fresh o (Nat.le_trans s.next ho)] at h1; cases h1
  obj := fun o L x e hx => h.obj o L x e (s.get o x hx)
  low := h.low
  high := fun o L e hB ⟨x, hx, hd⟩ => h.high o L e hB ⟨x, s.get o x hx, hd⟩
  inj := fun o o' L L' e e' hB hB' ⟨x, hx, hd⟩ ⟨y, hy, hd'⟩ q => h.inj o o' L L' e e' hB hB' ⟨x, s.get o x hx, hd⟩ ⟨y, s.get o' y hy, hd'⟩ q
  good := h.good
theorem Step.sub {φ φ' : Pl} {H H1 H' : Heap} {w w' : World} (h : Step φ H w φ' H1 w') (s : Sub H1 H') : Step φ H w φ' H' w' :=
  { h with
    new := fun o L e k => ⟨(h.new o L e k).1, Nat.lt_of_lt_of_le (h.new o L e k).2 s.next⟩
    next := Nat.le_trans h.next s.next
    floor := s.floor.trans h.floor
    made := fun o L ho e ⟨x, hx, hd⟩ => h.made o L ho e ⟨x, s.get o x hx, hd⟩
    low := fun o ho => (s.low o (by rw [h.floor]; exact ho)).trans (h.low o ho) }
theorem Mono.sub {H H1 H' : Heap} (h : Mono H H1) (s : Sub H1 H') : Mono H H' :=
  ⟨Nat.le_trans h.next s.next, s.floor.trans h.floor, fun o ho => (s.low o (by rw [h.floor]; exact ho)).trans (h.low o ho), fun f o ho => by
    cases hq : H'.get o with
    | none => rfl
    | some x =>
      have h1 := s.get o x hq
      rw [h.fresh f o (Nat.le_trans s.next ho)] at h1; cases h1⟩
structure FuncOkN (P : Program) (f N : Nat) (nc : NC) (rs : List AResult) : Prop where
  ex : ∃ fn c, P.funcs[f]? = some fn ∧ (fn.name == "runtime.NumGoroutine") = false ∧ fn.body = some c ∧ fn.ntmps = N ∧ NCodeOk P N c nc ∧
    fn.results.toList.length = rs.length ∧ ∀ (i : Nat) (r : ResultVar) (ar : AResult), fn.results.toList[i]? = some r → rs[i]? = some ar → ResOk P r ar
/-- A call comes to this, in every world that is told so. -/
def Good (P : Program) (f : Nat) (args : List AV) (H : Heap) (v : AV) (H' : Heap) : Prop :=
  (H.floor ≤ H.next → Mono H H') ∧ ∀ (G : World → Prop) (B W Z : Nat) (φ : Pl) (w : World) (avs : List Value), LRel φ args avs → HRel G B W Z φ H w → H'.next ≤ Z →
    FnOk P f ∧ Calls P f avs.toArray w (Ret G B W Z φ H w v H')
open Classical in
/-- A told function that is chosen: one answer that is good, and of which K holds. -/
noncomputable def pickG (P : Program) (f : Nat) (K : List AV → Heap → AV → Heap → Prop) : List AV → Heap → Option (AV × Heap) := fun args H =>
  if h : ∃ p : AV × Heap, Good P f args H p.1 p.2 ∧ K args H p.1 p.2 then some (Classical.choose h) else none
theorem pick_spec {f : Nat} {K : List AV → Heap → AV → Heap → Prop} {args : List AV} {H : Heap} {v : AV} {H' : Heap} (h : pickG P f K args H = some (v, H')) : Good P f args H v H' ∧ K args H v H' := by
  unfold pickG at h
  split at h
  · rename_i q
    have := Classical.choose_spec q
    rw [Option.some.inj h] at this
    exact this
  · cases h
theorem pick_ok {f : Nat} {K : List AV → Heap → AV → Heap → Prop} : ExtOk P G f (pickG P f K) :=
  ⟨fun args H v H' h => (pick_spec h).1.1, fun B W Z args H v H' φ w avs h => (pick_spec h).1.2 G B W Z φ w avs⟩
theorem Cp_pick {f : Nat} {K : List AV → Heap → AV → Heap → Prop} {args : List AV} {H : Heap} (hg : FT f = some (.ext (pickG P f K))) {v : AV} {H' : Heap} (h : Good P f args H v H') (k : K args H v H') : Cp FT f args H (K args H) := by
  have hq : ∃ p : AV × Heap, Good P f args H p.1 p.2 ∧ K args H p.1 p.2 := ⟨(v, H'), h, k⟩
  refine Cp_ext _ hg (v := (Classical.choose hq).1) (H' := (Classical.choose hq).2) ?_ (Classical.choose_spec hq).2
  unfold pickG
  rw [dif_pos hq]
end Go.AI

/- The translation of code with loops over maps. No claim by itself. -/
namespace Go.AI
variable {P : Program} {G : World → Prop}
def AOp.isBad : AOp → Bool
  | .bad => true
  | _ => false
def ACode.noBad : ACode → Bool
  | .bad => false
  | .region ops => ops.all fun o => !o.op.isBad
  | .seq a b => a.noBad && b.noBad
  | .cond _ a b => a.noBad && b.noBad
  | .block _ a => a.noBad
  | .loop a => a.noBad
  | _ => true
def rngBefore (P : Program) (N : Nat) (ops : Array Oper) : Option (List AOper × Opd × Nat) :=
  match ops.toList.reverse with
  | ⟨some ti, .range xt mo, _, _, _, none⟩ :: rest =>
    match copd mo, P.underlying xt, copers P N ops rest.reverse [] with
    | some m, some (.map _ _), some pre => some (pre, m, ti)
    | _, _, _ => none
  | _ => none
theorem rngBefore_ok {N : Nat} {ops : Array Oper} {pre : List AOper} {m : Opd} {ti : Nat} (h : rngBefore P N ops = some (pre, m, ti)) : ∃ (o1 : Oper) (mo : Operand) (xt kt et : TypeId),
    ops.size = pre.length + 1 ∧ (∀ (j : Nat) (ao : AOper), pre[j]? = some ao → ∃ o, ops[j]? = some o ∧ OperOk P ops N o ao) ∧ ops[pre.length]? = some o1 ∧ o1.op = .range xt mo ∧ o1.dst = some ti ∧ o1.guard = none ∧ copd mo = some m ∧ P.underlying xt = some (.map kt et) := by
  unfold rngBefore at h
  split at h
  · rename_i ti' xt mo ty pos after rest hr
    split at h
    · rename_i m' kt et pre' h1 h2 h3
      cases h
      have hl : ops.toList = rest.reverse ++ [⟨some ti, .range xt mo, ty, pos, after, none⟩] := by
        rw [← List.reverse_reverse ops.toList, hr]; simp
      obtain ⟨k1, k2⟩ := copers_ok h3
      have hlen : pre.length = rest.length := by rw [k1]; simp
      refine ⟨⟨some ti, .range xt mo, ty, pos, after, none⟩, mo, xt, kt, et, ?_, fun j ao hj => ?_, ?_, rfl, rfl, rfl, h1, h2⟩
      · rw [← Array.length_toList, hl]; simp [hlen]
      · obtain ⟨o, q1, q2⟩ := k2 j ao hj
        refine ⟨o, ?_, q2⟩
        rw [← Array.getElem?_toList, hl, List.getElem?_append_left (by rw [← k1]; exact (List.getElem?_eq_some_iff.1 hj).1)]
        exact q1
      · rw [← Array.getElem?_toList, hl, List.getElem?_append_right (by simp [hlen])]
        simp [hlen]
    · cases h
  · cases h
def rngStep (ops : Array Oper) : Option (Nat × Nat × Nat) :=
  match ops.toList with
  | [⟨some tn, .next (.tmp ti) false, _, _, _, none⟩, ⟨some tm, .extract (.tmp tn') 0, _, _, _, none⟩] => if tn' = tn then some (ti, tn, tm) else none
  | _ => none
theorem rngStep_ok {ops : Array Oper} {ti tn tm : Nat} (h : rngStep ops = some (ti, tn, tm)) : ∃ o2 o3 : Oper,
    ops.size = 2 ∧ ops[0]? = some o2 ∧ o2.op = .next (.tmp ti) false ∧ o2.dst = some tn ∧ o2.guard = none ∧ ops[1]? = some o3 ∧ o3.op = .extract (.tmp tn) 0 ∧ o3.dst = some tm ∧ o3.guard = none := by
  unfold rngStep at h
  split at h
  · rename_i hl
    split at h
    · rename_i e
      subst e
      cases h
      refine ⟨_, _, by rw [← Array.length_toList, hl]; rfl, by rw [← Array.getElem?_toList, hl]; rfl, rfl, rfl, rfl, by rw [← Array.getElem?_toList, hl]; rfl, rfl, rfl, rfl⟩
    · cases h
  · cases h
def rngAssign (P : Program) (N : Nat) (ops : Array Oper) : Option (Nat × Nat × List AOper) :=
  match ops.toList with
  | ⟨some tp, .entry (.tmp ti), _, _, _, none⟩ :: rest => (copers P N ops rest []).map fun post => (ti, tp, post)
  | _ => none
theorem rngAssign_ok {N : Nat} {ops : Array Oper} {ti tp : Nat} {post : List AOper} (h : rngAssign P N ops = some (ti, tp, post)) : ∃ o4 : Oper,
    ops.size = 1 + post.length ∧ ops[0]? = some o4 ∧ o4.op = .entry (.tmp ti) ∧ o4.dst = some tp ∧ o4.guard = none ∧ (∀ (j : Nat) (ao : AOper), post[j]? = some ao → ∃ o, ops[1 + j]? = some o ∧ OperOk P ops N o ao) := by
  unfold rngAssign at h
  split at h
  · rename_i tp' ti' ty pos after rest hl
    cases hq : copers P N ops rest [] with
    | none => simp [hq] at h
    | some l =>
      simp [hq] at h
      obtain ⟨rfl, rfl, rfl⟩ := h
      obtain ⟨k1, k2⟩ := copers_ok hq
      refine ⟨_, by rw [← Array.length_toList, hl, k1]; simp [Nat.add_comm], by rw [← Array.getElem?_toList, hl]; rfl, rfl, rfl, rfl, fun j ao hj => ?_⟩
      obtain ⟨o, q1, q2⟩ := k2 j ao hj
      refine ⟨o, ?_, q2⟩
      rw [← Array.getElem?_toList, hl, Nat.add_comm]
      simpa using q1
  · cases h
def crng (P : Program) (N : Nat) : Code → Option NC
  | .seq (.region _ ops1 false) (.block out (.loop (.seq (.region _ ops2 false) (.seq (.cond (.tmp tm) .skip (.exit out')) (.block nx (.seq (.region _ ops3 false) bc)))))) =>
    match rngBefore P N ops1, rngStep ops2, rngAssign P N ops3, ccode P N bc with
    | some (pre, m, ti), some (ti2, tn, tm2), some (ti3, tp, post), some body =>
      if ti2 = ti ∧ ti3 = ti ∧ tm2 = tm ∧ out' = out ∧ ti < N ∧ tn < N ∧ tm < N ∧ tp < N ∧ ti ≠ tn ∧ ti ≠ tm ∧ tn ≠ tm ∧ out ≠ nx then some (.rng pre post m ti tn tm tp out nx body) else none
    | _, _, _, _ => none
  | _ => none
theorem crng_ok {N : Nat} {c : Code} {nc : NC} (h : crng P N c = some nc) : NCodeOk P N c nc := by
  unfold crng at h
  split at h
  · split at h
    · rename_i h1 h2 h3 h4
      split at h
      · rename_i hc
        obtain ⟨rfl, rfl, rfl, rfl, n1, n2, n3, n4, n5, n6, n7, n8⟩ := hc
        cases h
        obtain ⟨o1, mo, xt, kt, et, k1⟩ := rngBefore_ok h1
        obtain ⟨o2, o3, k2⟩ := rngStep_ok h2
        obtain ⟨o4, k3⟩ := rngAssign_ok h3
        exact .rng ⟨_, _, _, _, _, _, mo, xt, kt, et, o1, o2, o3, o4, _, xt, xt, rfl, k1, k2, k3, ccode_ok h4, n1, n2, n3, n4, n5, n6, n7, n8⟩
      · cases h
    · cases h
  · cases h
def cnc (P : Program) (N : Nat) : Code → Option NC
  | .seq a b =>
    match crng P N (.seq a b) with
    | some r => some r
    | none =>
      match ccode P N (.seq a b) with
      | none => none
      | some x => bif x.noBad then some (.det x) else match cnc P N a, cnc P N b with | some x, some y => some (.seq x y) | _, _ => none
  | .cond c a b =>
    match ccode P N (.cond c a b) with
    | none => none
    | some x => bif x.noBad then some (.det x) else match copd c, cnc P N a, cnc P N b with | some d, some x, some y => some (.cond d x y) | _, _, _ => none
  | .block id a =>
    match ccode P N (.block id a) with
    | none => none
    | some x => bif x.noBad then some (.det x) else (cnc P N a).map (.block id)
  | c => (ccode P N c).map .det
theorem cnc_ok {N : Nat} : ∀ {c : Code} {nc : NC}, cnc P N c = some nc → NCodeOk P N c nc
  | .seq a b, nc, h => by
    simp only [cnc] at h
    split at h
    · rename_i r hr; cases h; exact crng_ok hr
    · split at h
      · cases h
      · rename_i x hx
        cases hb : x.noBad with
        | true => rw [hb] at h; cases h; exact .det (ccode_ok hx)
        | false =>
          rw [hb] at h
          simp only [cond_false] at h
          split at h
          · rename_i h1 h2; cases h; exact .seq (cnc_ok h1) (cnc_ok h2)
          · cases h
  | .cond c a b, nc, h => by
    simp only [cnc] at h
    split at h
    · cases h
    · rename_i x hx
      cases hb : x.noBad with
      | true => rw [hb] at h; cases h; exact .det (ccode_ok hx)
      | false =>
        rw [hb] at h
        simp only [cond_false] at h
        split at h
        · rename_i h1 h2 h3; cases h; exact .cond h1 (cnc_ok h2) (cnc_ok h3)
        · cases h
  | .block id a, nc, h => by
    simp only [cnc] at h
    split at h
    · cases h
    · rename_i x hx
      cases hb : x.noBad with
      | true => rw [hb] at h; cases h; exact .det (ccode_ok hx)
      | false =>
        rw [hb] at h
        simp only [cond_false] at h
        cases hq : cnc P N a with
        | none => simp [hq] at h
        | some y => simp [hq] at h; subst h; exact .block (cnc_ok hq)
  | .skip, nc, h => by simp only [cnc, Option.map_eq_some_iff] at h; obtain ⟨a, h1, rfl⟩ := h; exact .det (ccode_ok h1)
  | .ret, nc, h => by simp only [cnc, Option.map_eq_some_iff] at h; obtain ⟨a, h1, rfl⟩ := h; exact .det (ccode_ok h1)
  | .exit _, nc, h => by simp only [cnc, Option.map_eq_some_iff] at h; obtain ⟨a, h1, rfl⟩ := h; exact .det (ccode_ok h1)
  | .label _, nc, h => by simp only [cnc, Option.map_eq_some_iff] at h; obtain ⟨a, h1, rfl⟩ := h; exact .det (ccode_ok h1)
  | .goto _, nc, h => by simp only [cnc, Option.map_eq_some_iff] at h; obtain ⟨a, h1, rfl⟩ := h; exact .det (ccode_ok h1)
  | .refuse _, nc, h => by simp only [cnc, Option.map_eq_some_iff] at h; obtain ⟨a, h1, rfl⟩ := h; exact .det (ccode_ok h1)
  | .scope _, nc, h => by simp only [cnc, Option.map_eq_some_iff] at h; obtain ⟨a, h1, rfl⟩ := h; exact .det (ccode_ok h1)
  | .loop _, nc, h => by simp only [cnc, Option.map_eq_some_iff] at h; obtain ⟨a, h1, rfl⟩ := h; exact .det (ccode_ok h1)
  | .region _ _ _, nc, h => by simp only [cnc, Option.map_eq_some_iff] at h; obtain ⟨a, h1, rfl⟩ := h; exact .det (ccode_ok h1)
  | .rangeFunc .., nc, h => by simp only [cnc, Option.map_eq_some_iff] at h; obtain ⟨a, h1, rfl⟩ := h; exact .det (ccode_ok h1)
structure NFunc where
  ntmps : Nat
  results : List AResult
  body : NC
def cnfunc (P : Program) (fn : Func) : Option NFunc :=
  match fn.body, cres P fn.results.toList with
  | some c, some rs => bif fn.name == "runtime.NumGoroutine" then none else (cnc P fn.ntmps c).map fun nc => ⟨fn.ntmps, rs, nc⟩
  | _, _ => none
theorem cnfunc_ok {f : Nat} {fn : Func} {nf : NFunc} (hf : P.funcs[f]? = some fn) (h : cnfunc P fn = some nf) : FuncOkN P f nf.ntmps nf.body nf.results := by
  unfold cnfunc at h
  split at h
  · rename_i c rs h1 h2
    cases hn : fn.name == "runtime.NumGoroutine" with
    | true => simp [hn] at h
    | false =>
      simp only [hn, cond_false, Option.map_eq_some_iff] at h
      obtain ⟨nc, h3, rfl⟩ := h
      obtain ⟨k1, k2⟩ := cres_ok h2
      exact ⟨fn, c, hf, hn, h1, rfl, cnc_ok h3, k1, k2⟩
  · cases h
end Go.AI
