/- Loops over maps: code whose course hangs on an order that is drawn. No claim by itself. -/
import Derived.Test.YtcepchipgjpkhaaE22
import Derived.Laws.IdiomRangeMap
namespace Go.AI
variable {P : Program} {G : World -> Prop}
structure ItAt (w : World) (r bm : Nat) (en : Array MapEntry) (cl : Nat) (seen : Array Nat) (last : Nat) : Prop where
 it : w.heap[r]? = some (.mapIter (some bm) cl seen last)
 mp : w.heap[bm]? = some (.map en cl)
 le : cl <= last
theorem zbp4 {w : World} {r bm cl last : Nat} {en : Array MapEntry} {seen : Array Nat} {ty : TypeId} (h : ItAt w r bm en cl seen last) (hst : Stamped en.toList cl) :
  ((∀ e, e ∈ en.toList -> e.born ∈ seen.toList) /\ (Instr.next (.pointer (some ⟨r, 0, none⟩)) false ty).run P w = .ok (.tuple #[.bool false]) w) \/
  ∃ (i : Nat) (e : MapEntry) (d' : Nat), en.toList[i]? = some e /\ e.born ∉ seen.toList /\ w.drawn <= d' /\
   (Instr.next (.pointer (some ⟨r, 0, none⟩)) false ty).run P w = .ok (.tuple #[.bool true, e.key, e.val]) { w with drawn := d', heap := w.heap.setIfInBounds r (.mapIter (some bm) cl (seen.push e.born) cl) } := by
 have hold : ∀ x ∈ en.toList, x.born < cl := hst.lt
 simp only [Instr.next, getObj, Sem.run_bind, Sem.run, h.it, h.mp, Result.andThen, next_test_false seen en cl last hold h.le, Bool.false_eq_true, if_false]
 have hmem : ∀ x ∈ (Array.filter (fun e => !seen.contains e.born) en).toList, x ∈ en.toList /\ x.born ∉ seen.toList := fun x hx => by
  simp at hx
  exact ⟨by simpa using hx.1, by simpa using hx.2⟩
 have hall : (∀ x, x ∈ (Array.filter (fun e => !seen.contains e.born) en).toList -> False) -> ∀ e, e ∈ en.toList -> e.born ∈ seen.toList := fun k e he => by
  refine Classical.byContradiction fun q => k e ?_
  simp only [Array.toList_filter, List.mem_filter]
  exact ⟨he, by simpa using q⟩
 generalize Array.filter (fun e => !seen.contains e.born) en = L at hmem hall ⊢
 have e1 : L.filter (fun x => decide (x.born < cl)) = L := Array.filter_eq_self.2 (fun x hx => by simpa using hold x (hmem x (by simpa using hx)).1)
 have e2 : L.filter (fun x => decide (x.born >= cl)) = #[] := by
  rw [Array.filter_eq_empty_iff]
  intro x hx
  have := hold x (hmem x (by simpa using hx)).1
  simp
  omega
 simp only [e1, e2, Array.append_empty]
 by_cases h0 : L.size = 0
 ·left
  have : L = #[] := Array.eq_empty_of_size_eq_zero h0
  subst this
  refine ⟨hall (fun x hx => by simp at hx), ?_⟩
  simp [choose, Sem.run, Question.forced]
 ·right
  have hne : L.isEmpty = false := by simp [Array.isEmpty, h0]
  simp only [hne, Bool.false_eq_true, if_false, Array.empty_append, Array.size_map]
  have hch : ∃ (j d' : Nat), j < L.size /\ w.drawn <= d' /\ (choose (Question.mapNext L.size)).run P w = .ok j { w with drawn := d' } := by
   by_cases hf : L.size <= 1
   ·exact ⟨0, w.drawn, by omega, Nat.le_refl _, by simp [choose, Sem.run, Question.forced, hf]⟩
   ·exact ⟨_, w.drawn + 1, Nat.mod_lt _ (by omega), Nat.le_succ _, by
     simp only [choose, Sem.run, Question.forced, decide_eq_true_eq, hf, if_false, Question.cut]
     rfl⟩
  obtain ⟨j, d', hj, hd, hrun⟩ := hch
  have hm := hmem L[j] (by simp)
  obtain ⟨i, hi⟩ := List.getElem?_of_mem hm.1
  refine ⟨i, L[j], d', hi, hm.2, hd, ?_⟩
  simp only [hrun, Array.getElem?_map, Array.getElem?_eq_getElem hj, Option.map_some, Sem.run_bind, Result.andThen, setObj, Sem.run, h.it]
  rfl
theorem zbc7 {w : World} {r bm cl : Nat} {en : Array MapEntry} {seen : Array Nat} {e : MapEntry} {i : Nat} (h : ItAt w r bm en cl (seen.push e.born) cl) (hst : Stamped en.toList cl) (he : en.toList[i]? = some e) :
  (Instr.entry (.pointer (some ⟨r, 0, none⟩))).run P w = .ok (.tuple #[e.key, e.val]) w := by
 have hf : en.find? (·.born == e.born) = some e := by rw [<- Array.find?_toList]; exact find_born e en.toList hst.nd (List.mem_of_getElem? he)
 simp only [Instr.entry, getObj, Sem.run_bind, Sem.run, h.it, h.mp, Result.andThen, Array.back?_push, bne_self_eq_false, Bool.false_eq_true, if_false, hf]
 rfl
def NoOb (φ : Pl) (H : Heap) (r : Nat) : Prop := ∀ o L, φ o = some L -> live H o -> L.blk ≠ r
theorem NoOb.step {φ φ' : Pl} {H H' : Heap} {w w' : World} {r : Nat} (h : NoOb φ H r) (hr : r < w.heap.size) (s : Step φ H w φ' H' w') (hf : H.floor <= H.next) : NoOb φ' H' r := by
 intro o L e hl q
 by_cases ho : H.floor <= o
 ·rcases s.made o L ho e hl with k | ⟨o1, L1, _, h2, h3, h4⟩
  ·omega
  ·exact h o1 L1 h2 h3 (h4.trans q)
 ·obtain ⟨x, hx, hd⟩ := hl
  have hx' : H.get o = some x := (s.low o (by omega)).symm.trans hx
  cases hφ : φ o with
  | none => have := (s.new o L e hφ).1; omega
  | some L' =>
   have := s.ext o L' hφ
   rw [e] at this; cases this
   exact h o L hφ ⟨x, hx', hd⟩ q
theorem zc7.blk_lt {B W Z : Nat} {φ : Pl} {H : Heap} {w : World} (h : zc7 G B W Z φ H w) {o : Nat} {L : Loc} {x : zo4} (e : φ o = some L) (hx : H.get o = some x) (hd : x ≠ .dead) : L.blk < w.heap.size := by
 by_cases hB : B <= o
 ·have lt : ∀ {ob : Obj}, w.heap[L.blk]? = some ob -> L.blk < w.heap.size := fun {ob} k => (Array.getElem?_eq_some_iff.1 k).1
  have hr := h.obj o L x e hx
  cases x with
  | cells cs => obtain ⟨c, t, fz, k, _⟩ := hr.2.2 hB; exact lt k
  | map es => obtain ⟨en, cl, k, _⟩ := hr; exact lt k
  | siter s p => obtain ⟨b, k, _⟩ := hr; exact lt k
  | dead => exact absurd rfl hd
  | bld T b =>
   cases b with
   | none => obtain ⟨p, k, _⟩ := hr; exact lt k
   | some qn => obtain ⟨p, Lq, _, k, _⟩ := hr; exact lt k
  | buf E bs => obtain ⟨c, l, k, _⟩ := hr; exact lt k
 ·have := h.low o L e (by omega)
  have := h.wsz
  omega
theorem NoOb.fresh {B W Z : Nat} {φ : Pl} {H : Heap} {w : World} (h : zc7 G B W Z φ H w) : NoOb φ H w.heap.size := by
 rintro o L e ⟨x, hx, hd⟩ q
 have := h.blk_lt e hx hd
 omega
theorem zc7.poke {B W Z : Nat} {φ : Pl} {H : Heap} {w : World} {r : Nat} (h : zc7 G B W Z φ H w) (hn : NoOb φ H r) (hr : W <= r) (d' : Nat) (ob : Obj) : zc7 G B W Z φ H { w with drawn := d', heap := w.heap.setIfInBounds r ob } where
 fl := h.fl
 fn := h.fn
 wsz := by simpa using h.wsz
 dom := h.dom
 fresh := h.fresh
 obj := fun o L x e hx => by
  by_cases hd : x = .dead
  ·subst hd; trivial
  ·have := hn o L e ⟨x, hx, hd⟩
   exact (h.obj o L x e hx).keep (fun _ _ k => k) (by simp [Ne.symm this])
 low := h.low
 high := h.high
 inj := h.inj
 good := fun w' k => h.good w' fun b hb => by
  rw [k b hb]
  have : r ≠ b := by omega
  simp [this]
theorem Step.poke {φ φ' : Pl} {H H' : Heap} {w w' : World} {r : Nat} (s : Step φ H w φ' H' w') (hr : w.heap.size <= r) {d' : Nat} (hd : w'.drawn <= d') (ob : Obj) : Step φ H w φ' H' { w' with drawn := d', heap := w'.heap.setIfInBounds r ob } :=
 {s with
  size := by simpa using s.size
  drawn := Nat.le_trans s.drawn hd
  kept := fun b hb hn => by
   have : r ≠ b := by omega
   rw [<- s.kept b hb hn]
   simp [this] }
theorem Step.lowerTo {φ φ' : Pl} {H H1 : Heap} {w w' : World} {f : Nat} (s : Step φ { H with floor := f } w φ' H1 w') (h1 : H.floor <= f) (h2 : f <= H.next) : Step φ H w φ' { H1 with floor := H.floor } w' where
 ext := s.ext
 new := s.new
 next := s.next
 floor := rfl
 os := s.os
 tape := s.tape
 output := s.output
 size := s.size
 kept := fun b hb hn => s.kept b hb fun o L ho e hl => hn o L (Nat.le_trans h1 ho) e hl
 made := fun o L ho e hl => by
  by_cases hq : f <= o
  ·rcases s.made o L hq e hl with h | ⟨o1, L1, k1, k2, k3, k4⟩
   ·exact .inl h
   ·exact .inr ⟨o1, L1, Nat.le_trans h1 k1, k2, k3, k4⟩
  ·have hl' : live H o := by
    obtain ⟨x, hx, hd⟩ := hl
    have := s.low o (by show o < f; omega)
    exact ⟨x, this.symm.trans hx, hd⟩
   cases hφ : φ o with
   | none => have := (s.new o L e hφ).1; exact absurd (show H.next <= o from this) (by omega)
   | some L' =>
    have := s.ext o L' hφ
    rw [e] at this; cases this
    exact .inr ⟨o, L, ho, hφ, hl', rfl⟩
 low := fun o ho => s.low o (by show o < f; omega)
 drawn := s.drawn
theorem zbr4 {B W Z : Nat} {φ φ' : Pl} {H H' : Heap} {w w' : World} (h : zc7 G B W Z φ H w) (s : Step φ H w φ' H' w') {o : Nat} {L : Loc} {x : zo4} (e : φ o = some L) (hx : H.get o = some x) (hd : x ≠ .dead) (ho : o < H.floor) : w'.heap[L.blk]? = w.heap[L.blk]? :=
 s.kept _ (h.blk_lt e hx hd) fun o1 L1 h1 h2 h3 q => by
  have hfl := h.fl
  by_cases hB : B <= o
  ·have := h.inj o o1 L L1 e h2 hB (by omega) ⟨x, hx, hd⟩ h3 q.symm
   omega
  ·have k1 := h.low o L e (by omega)
   have k2 := h.high o1 L1 h2 (by omega) h3
   omega
inductive NC where
 | det (c : za0)
 | seq (a b : NC)
 | cond (x : Opd) (a b : NC)
 | block (id : Nat) (b : NC)
 | rng (pre post : List zb6) (m : Opd) (ti tn tm tp out nx : Nat) (body : za0)
structure zcj0 (P : Program) (N : Nat) (c : Code) (pre post : List zb6) (m : Opd) (ti tn tm tp out nx : Nat) (body : za0) : Prop where
 ex : ∃ (id1 id2 id3 : Nat) (ops1 ops2 ops3 : Array Oper) (mo : Operand) (xt kt et : TypeId) (o1 o2 o3 o4 : Oper) (bc : Code) (_ty1 _ty2 : TypeId),
  c = .seq (.region id1 ops1 false) (.block out (.loop (.seq (.region id2 ops2 false) (.seq (.cond (.tmp tm) .skip (.exit out)) (.block nx (.seq (.region id3 ops3 false) bc)))))) /\
  (ops1.size = pre.length + 1 /\ (∀ (j : Nat) (ao : zb6), pre[j]? = some ao -> ∃ o, ops1[j]? = some o /\ zp6 P ops1 N o ao) /\ ops1[pre.length]? = some o1 /\ o1.op = .range xt mo /\ o1.dst = some ti /\ o1.guard = none /\ zk0 mo = some m /\ P.underlying xt = some (.map kt et)) /\
  (ops2.size = 2 /\ ops2[0]? = some o2 /\ o2.op = .next (.tmp ti) false /\ o2.dst = some tn /\ o2.guard = none /\ ops2[1]? = some o3 /\ o3.op = .extract (.tmp tn) 0 /\ o3.dst = some tm /\ o3.guard = none) /\
  (ops3.size = 1 + post.length /\ ops3[0]? = some o4 /\ o4.op = .entry (.tmp ti) /\ o4.dst = some tp /\ o4.guard = none /\ (∀ (j : Nat) (ao : zb6), post[j]? = some ao -> ∃ o, ops3[1 + j]? = some o /\ zp6 P ops3 N o ao)) /\
  zf4 P N bc body /\ ti < N /\ tn < N /\ tm < N /\ tp < N /\ ti ≠ tn /\ ti ≠ tm /\ tn ≠ tm /\ out ≠ nx
inductive zk9 (P : Program) (N : Nat) : Code -> NC -> Prop
 | det {c : Code} {a : za0} (h : zf4 P N c a) : zk9 P N c (.det a)
 | seq {a b : Code} {x y : NC} (h : zk9 P N a x) (k : zk9 P N b y) : zk9 P N (.seq a b) (.seq x y)
 | cond {c : Operand} {d : Opd} {a b : Code} {x y : NC} (hc : zk0 c = some d) (h : zk9 P N a x) (k : zk9 P N b y) : zk9 P N (.cond c a b) (.cond d x y)
 | block {id : Nat} {a : Code} {x : NC} (h : zk9 P N a x) : zk9 P N (.block id a) (.block id x)
 | rng {c : Code} {pre post : List zb6} {m : Opd} {ti tn tm tp out nx : Nat} {body : za0} (h : zcj0 P N c pre post m ti tn tm tp out nx body) : zk9 P N c (.rng pre post m ti tn tm tp out nx body)
def rngQ (I : List Nat -> Env -> Heap -> Prop) (nx out fl : Nat) (seen : List Nat) (Q : Post) : Post
 | .next, τ, H => I seen τ H
 | .exit id, τ, H => if id = nx then I seen τ H else if id = out then Q .next τ { H with floor := fl } else Q (.exit id) τ { H with floor := fl }
 | .ret, τ, H => Q .ret τ { H with floor := fl }
structure RngI (FT : Nat -> Option FnD) (post : List zb6) (ti tn tm tp out nx : Nat) (body : za0) (o : Nat) (es : List (AV × AV)) (fl : Nat) (τ0 : Env) (H0 : Heap) (Q : Post) (I : List Nat -> Env -> Heap -> Prop) : Prop where
 lo : H0.floor <= fl
 hi : fl <= H0.next
 om : o < fl
 map : H0.get o = some (.map es)
 start : I [] (Tr.set τ0 ti (.ptr H0.next 0)) { H0.push .dead with floor := fl }
 keep : ∀ {seen τ H}, I seen τ H -> Env.at τ ti = .ptr H0.next 0
 step : ∀ {seen τ H i e}, I seen τ H -> i ∉ seen -> es[i]? = some e -> Wo FT post (Tr.set (Tr.set (Tr.set τ tn (.tup [.bool true, e.1, e.2])) tm (.bool true)) tp (.tup [e.1, e.2])) H fun _ τ1 H1 => Wp FT body τ1 H1 (rngQ I nx out H0.floor (i :: seen) Q)
 done : ∀ {seen τ H}, I seen τ H -> (∀ i, i < es.length -> i ∈ seen) -> Q .next (Tr.set (Tr.set τ tn (.tup [.bool false])) tm (.bool false)) { H with floor := H0.floor }
def RngW (FT : Nat -> Option FnD) (pre post : List zb6) (m : Opd) (ti tn tm tp out nx : Nat) (body : za0) (τ : Env) (H : Heap) (Q : Post) : Prop :=
 Wo FT pre τ H fun _ τ0 H0 => (ev τ0 m = .nilm /\ Q .next (Tr.set (Tr.set (Tr.set τ0 ti (.ptr H0.next 0)) tn (.tup [.bool false])) tm (.bool false)) (H0.push .dead)) \/
  ∃ o es fl I, ev τ0 m = .map o /\ RngI FT post ti tn tm tp out nx body o es fl τ0 H0 Q I
def zbf6 (K : Env -> Heap -> Prop) (Q : Post) : Post
 | .next, τ, H => K τ H
 | s, τ, H => Q s τ H
def WpN (FT : Nat -> Option FnD) : NC -> Env -> Heap -> Post -> Prop
 | .det c, τ, H, Q => Wp FT c τ H Q
 | .seq a b, τ, H, Q => WpN FT a τ H (zbf6 (fun τ H => WpN FT b τ H Q) Q)
 | .cond x a b, τ, H, Q => zas8 (ev τ x) (WpN FT a τ H Q) (WpN FT b τ H Q)
 | .block id b, τ, H, Q => WpN FT b τ H (zak7 id Q)
 | .rng pre post m ti tn tm tp out nx body, τ, H, Q => RngW FT pre post m ti tn tm tp out nx body τ H Q
end Go.AI
