/- Code with loops over maps: soundness. No claim by itself. -/
import Derived.Test.YtcepchipgjpkhaaE46
namespace Go.AI
variable {P : Program} {G : World -> Prop} {FT : Nat -> Option FnD}
theorem zad2 (hFT : zg3 P G FT) {post : List zb6} {ti tn tm tp out nx o fl : Nat} {body : za0} {es : List (AV × AV)} {τ0 : Env} {Hp : Heap} {Q : Post} {I : List Nat -> Env -> Heap -> Prop} (hI : RngI FT post ti tn tm tp out nx body o es fl τ0 Hp Q I) :
  ∀ (n : Nat) (seen : List Nat) (τ : Env) (H : Heap), ((List.range es.length).filter fun i => !seen.contains i).length <= n -> I seen τ H -> H.floor = fl -> fl <= H.next -> ∃ s τ' H', Q s τ' H' /\ H'.floor = Hp.floor /\ H.next <= H'.next := by
 intro n
 induction n with
 | zero =>
  intro seen τ H hn inv hf hl
  refine ⟨_, _, _, hI.done inv fun i hi => Classical.byContradiction fun q => ?_, rfl, Nat.le_refl _⟩
  have : i ∈ (List.range es.length).filter fun i => !seen.contains i := by simp [q, hi]
  rw [List.length_eq_zero_iff.1 (Nat.le_zero.1 hn)] at this
  cases this
 | succ n ih =>
  intro seen τ H hn inv hf hl
  by_cases c : ∃ i, i < es.length /\ i ∉ seen
  ·obtain ⟨i, hi, hs⟩ := c
   obtain ⟨m1, τ4, H4, hops, m2, s, τ5, H5, hrun5, hq5⟩ := hI.step inv hs (List.getElem?_eq_getElem hi)
   have mo4 := zj3 (zg5 hFT m1).2 post _ H H4 τ4 hops (by omega)
   have mo5 := (zg5 hFT m2).1 body τ4 H4 s τ5 H5 hrun5 (by have := mo4.next; rw [mo4.floor]; omega)
   have hn5 : H.next <= H5.next := Nat.le_trans mo4.next mo5.next
   have hf5 : H5.floor = fl := by rw [mo5.floor, mo4.floor]; exact hf
   have hlt := Go.AI.filter_lt (fun j => !seen.contains j) (fun j => !(i :: seen).contains j) i (List.range es.length) (by simpa using hi) (by simpa using hs) (by simp) (fun x hx => by simp at hx ⊢; exact hx.2)
   have go : I (i :: seen) τ5 H5 -> ∃ s τ' H', Q s τ' H' /\ H'.floor = Hp.floor /\ H.next <= H'.next := fun q => by
    obtain ⟨s, τ', H', k1, k2, k3⟩ := ih _ _ _ (by omega) q hf5 (by omega)
    exact ⟨s, τ', H', k1, k2, Nat.le_trans hn5 k3⟩
   cases s with
   | next => exact go hq5
   | ret => exact ⟨_, _, _, hq5, rfl, hn5⟩
   | exit id =>
    simp only [rngQ] at hq5
    split at hq5
    ·exact go hq5
    ·split at hq5
     ·exact ⟨_, _, _, hq5, rfl, hn5⟩
     ·exact ⟨_, _, _, hq5, rfl, hn5⟩
  ·exact ⟨_, _, _, hI.done inv fun i hi => Classical.byContradiction fun q => c ⟨i, hi, q⟩, rfl, Nat.le_refl _⟩
theorem zo6 (hFT : zg3 P G FT) : ∀ (nc : NC) (τ : Env) (H : Heap) (Q : Post), WpN FT nc τ H Q -> H.floor <= H.next -> ∃ s τ' H', Q s τ' H' /\ H'.floor = H.floor /\ H.next <= H'.next
 | .det c, τ, H, Q, h, hf => by
  obtain ⟨n, s, τ', H', hr, q⟩ := h
  have m := (zg5 hFT n).1 c τ H s τ' H' hr hf
  exact ⟨s, τ', H', q, m.floor, m.next⟩
 | .seq a b, τ, H, Q, h, hf => by
  obtain ⟨s, τ', H', q, k1, k2⟩ := zo6 hFT a τ H _ h hf
  cases s with
  | next =>
   obtain ⟨s2, τ2, H2, q2, j1, j2⟩ := zo6 hFT b τ' H' Q q (by omega)
   exact ⟨s2, τ2, H2, q2, j1.trans k1, Nat.le_trans k2 j2⟩
  | ret => exact ⟨_, _, _, q, k1, k2⟩
  | exit id => exact ⟨_, _, _, q, k1, k2⟩
 | .cond x a b, τ, H, Q, h, hf => by
  simp only [WpN, zas8] at h
  split at h
  ·exact zo6 hFT a τ H Q h hf
  ·exact zo6 hFT b τ H Q h hf
  ·exact h.elim
 | .block id b, τ, H, Q, h, hf => by
  obtain ⟨s, τ', H', q, k1, k2⟩ := zo6 hFT b τ H _ h hf
  cases s with
  | next => exact ⟨_, _, _, q, k1, k2⟩
  | ret => exact ⟨_, _, _, q, k1, k2⟩
  | exit i =>
   simp only [zt0] at q
   split at q
   ·exact ⟨_, _, _, q, k1, k2⟩
   ·exact ⟨_, _, _, q, k1, k2⟩
 | .rng pre post m ti tn tm tp out nx body, τ, H, Q, h, hf => by
  obtain ⟨n, τ0, H0, hops, q⟩ := h
  have mo := zj3 (zg5 hFT n).2 pre τ H H0 τ0 hops hf
  have hp : (H0.push .dead).next = H0.next + 1 := rfl
  rcases q with ⟨_, q⟩ | ⟨o, es, fl, I, hm, hI⟩
  ·exact ⟨_, _, _, q, mo.floor, by rw [hp]; have := mo.next; omega⟩
  ·obtain ⟨s, τ', H', k1, k2, k3⟩ := zad2 hFT hI _ [] _ _ (Nat.le_refl _) hI.start rfl (by show fl <= H0.next + 1; have := hI.hi; omega)
   have k3' : H0.next + 1 <= H'.next := k3
   exact ⟨s, τ', H', k1, k2.trans mo.floor, by have := mo.next; omega⟩
theorem zb24 {cf : zj5} (hcf : zl0 P G cf) (hcm : zm1 cf) {ops : Array Oper} {B W Z N : Nat} {Q : Exit -> Act -> World -> Prop} (aops : List zb6) (rest : List Nat) :
  ∀ (k : Nat), (∀ (j : Nat) (ao : zb6), aops[j]? = some ao -> ∃ o, ops[k + j]? = some o /\ zp6 P ops N o ao) ->
  ∀ (φ : Pl) (H H' : Heap) (w : World) (τ τ' : Env) (act : Act), zp7 φ N τ act -> zc7 G B W Z φ H w -> zv3 cf aops τ H = some (τ', H') -> H'.next <= Z ->
  (∀ φ' act' w', zp7 φ' N τ' act' -> act'.defers = act.defers -> zc7 G B W Z φ' H' w' -> Step φ H w φ' H' w' -> wpOps P ops Q rest act' w') ->
  wpOps P ops Q (List.range' k aops.length ++ rest) act w := by
 induction aops with
 | nil =>
  intro k hok φ H H' w τ τ' act hF hH h hK hQ
  simp [zv3] at h; obtain ⟨rfl, rfl⟩ := h
  simp only [List.length_nil, List.range'_zero, List.nil_append]
  exact hQ φ act w hF rfl hH (Step.refl _ _ _)
 | cons ao tl ih =>
  intro k hok φ H H' w τ τ' act hF hH h hK hQ
  rw [zz1] at h
  cases hst : zn8 cf ao τ H with
  | none => simp [hst] at h
  | some r =>
   obtain ⟨τ1, H1⟩ := r
   simp [hst] at h
   obtain ⟨o, ho, hoo⟩ := hok 0 ao rfl
   simp only [List.length_cons, List.range'_succ, List.cons_append]
   rw [wpOps_cons]
   have hm0 := zl3 hcm hst hH.fn
   have hm1 : H1.next <= H'.next := (zj3 hcm tl τ1 H1 H' τ' h (by rw [hm0.floor]; exact Nat.le_trans hH.fn hm0.next)).next
   refine z14 hcf (i := k) (by simpa using ho) hoo hF.size (hF.ev _) (fun t b _ => hF.at_ t) hH hst (Nat.le_trans hm1 hK) fun φ' x v w' e1 h1 h2 h3 _ => ?_
   refine ih (k + 1) (fun j a hj => by
    obtain ⟨o', q1, q2⟩ := hok (j + 1) a (by simpa using hj)
    exact ⟨o', by rw [<- q1]; congr 1; omega, q2⟩) φ' H1 H' w' τ1 τ' (act.put o.dst v) ?_ h2 h hK fun φ2 act2 w2 g1 g2 g3 g4 => hQ φ2 act2 w2 g1 (by rw [g2, put_defers]) g3 (h3.trans g4)
   rw [e1, hoo.dst]
   exact (hF.mono h3.ext).put _ hoo.dlt h1
theorem zao7 {w : World} {r a b : Nat} {s : Array Nat} {ty : TypeId} (h : w.heap[r]? = some (.mapIter none a s b)) : (Instr.next (.pointer (some ⟨r, 0, none⟩)) false ty).run P w = .ok (.tuple #[.bool false]) w := by
 simp only [Instr.next, getObj, Sem.run_bind, Sem.run, h, Result.andThen]
 rfl
theorem zbd0 (hFT : zg3 P G FT) {B W Z N : Nat} {c : Code} {pre post : List zb6} {m : Opd} {ti tn tm tp out nx : Nat} {body : za0} (hok : zcj0 P N c pre post m ti tn tm tp out nx body) {φ : Pl} {τ : Env} {H : Heap} {act : Act} {w : World} {Q : Post} {QC : Exit -> Act -> World -> Prop}
  (h : RngW FT pre post m ti tn tm tp out nx body τ H Q) (hF : zp7 φ N τ act) (hH : zc7 G B W Z φ H w) (hZ : ∀ s τ' H', Q s τ' H' -> H'.floor = H.floor -> H.floor <= H'.next -> H'.next <= Z)
  (hQ : ∀ (φ' : Pl) (s : Sig) (τ' : Env) (H' : Heap) (act' : Act) (w' : World), Q s τ' H' -> zp7 φ' N τ' act' -> act'.defers = act.defers -> zc7 G B W Z φ' H' w' -> Step φ H w φ' H' w' -> QC (zk7 s) act' w') : c.wp P QC act w := by
 obtain ⟨id1, id2, id3, ops1, ops2, ops3, mo, xt, kt, et, o1, o2, o3, o4, bc, _, _, rfl, ⟨a1, a2, a3, a4, a5, a6, a7, a8⟩, c2, c3, hb, n1, n2, n3, n4, n5, n6, n7, n8⟩ := hok
 have hcs := (zm3 hFT 0).2.2
 have hreach := zo6 hFT (.rng pre post m ti tn tm tp out nx body) τ H Q h hH.fn
 obtain ⟨n, τ0, H0, hops, q⟩ := h
 have mo0 := zj3 (zg5 hFT n).2 pre τ H H0 τ0 hops hH.fn
 have hf0 : H0.floor <= H0.next := by rw [mo0.floor]; exact Nat.le_trans hH.fn mo0.next
 have hb0 : H0.next + 1 <= Z := by
  rcases q with ⟨_, q⟩ | ⟨o, es, fl, I, hm, hI⟩
  ·exact hZ _ _ _ q mo0.floor (by show H.floor <= H0.next + 1; have := mo0.floor; omega)
  ·obtain ⟨s, τ', H', k1, k2, k3⟩ := zad2 hFT hI _ [] _ _ (Nat.le_refl _) hI.start rfl (by show fl <= H0.next + 1; have := hI.hi; omega)
   have k3' : H0.next + 1 <= H'.next := k3
   have := hZ _ _ _ k1 (k2.trans mo0.floor) (by have := mo0.floor; omega)
   omega
 refine wp_seq (wp_region ?_)
 rw [a1, List.range_succ, List.range_eq_range']
 refine zb24 (zm3 hFT n).2.2 (zg5 hFT n).2 pre [pre.length] 0 (fun j ao hj => by simpa using a2 j ao hj) φ H H0 w τ τ0 act hF hH hops (by omega) fun φ0 act0 w0 fr0 df0 hr0 st0 => ?_
 rw [wpOps_cons]
 have hmv := fr0.ev [mo] mo (by simp) m a7
 rcases q with ⟨hnil, q⟩ | ⟨o, es, fl, I, hm, hI⟩
 ·
  rw [hnil] at hmv
  have hmo : act0.eval mo = .map none := by
   generalize act0.eval mo = x at hmv
   cases hmv; rfl
  obtain ⟨hr1, st1⟩ := hr0.push (show H0.next < Z by omega) (w' := w0.alloc (.mapIter none 0 #[] 0)) .dead ⟨w0.heap.size, 0, 0⟩ (.mapIter none 0 #[] 0) rfl rfl rfl rfl rfl trivial
  refine zi6 a3 a6 (zu8 (v := .pointer (some ⟨w0.heap.size, 0, none⟩)) (w' := w0.alloc (.mapIter none 0 #[] 0)) ?_ ?_)
  ·obtain ⟨dst, op, ty, pos, after, guard⟩ := o1
   simp only at a4; subst a4
   exact zi2 (by rw [hmo]; exact run_range_nilMap w0 xt kt et a8)
  have fr1 : zp7 (φ0.put H0.next ⟨w0.heap.size, 0, 0⟩) N (Tr.set τ0 ti (.ptr H0.next 0)) (act0.put o1.dst (.pointer (some ⟨w0.heap.size, 0, none⟩))) := by
   rw [a5]
   exact (fr0.mono st1.ext).put (some ti) (fun k q => by cases q; exact n1) (zc3.ptr H0.next 0 _ (Pl.put_same _ _ _))
  show (Code.block out _).wp P _ _ _
  refine wp_block (wp_loop_rounds 1 ?_)
  rw [rounds_succ]
  obtain ⟨b1, b2, b3, b4, b5, b6, b7, b8, b9⟩ := c2
  refine wp_seq (wp_region ?_)
  rw [b1]
  show wpOps P ops2 _ [0, 1] _ _
  rw [wpOps_cons]
  have hiv : (act0.put o1.dst (.pointer (some ⟨w0.heap.size, 0, none⟩))).eval (.tmp ti) = .pointer (some ⟨w0.heap.size, 0, none⟩) := by
   have hv := fr1.ev [.tmp ti] (.tmp ti) (by simp) (.tmp ti) rfl
   rw [show ev (Tr.set τ0 ti (.ptr H0.next 0)) (.tmp ti) = .ptr H0.next 0 by simp] at hv
   generalize (act0.put o1.dst (.pointer (some ⟨w0.heap.size, 0, none⟩))).eval (.tmp ti) = x at hv
   cases hv with
   | ptr _ _ L hL => rw [Pl.put_same] at hL; cases hL; rfl
  refine zi6 b2 b5 (zu8 (v := .tuple #[.bool false]) (w' := w0.alloc (.mapIter none 0 #[] 0)) ?_ ?_)
  ·obtain ⟨dst, op, ty, pos, after, guard⟩ := o2
   simp only at b3; subst b3
   exact zi2 (by rw [hiv]; exact zao7 (heap_alloc_new w0 _))
  have df1 : (act0.put o1.dst (.pointer (some ⟨w0.heap.size, 0, none⟩))).defers = act.defers := by rw [put_defers]; exact df0
  generalize act0.put o1.dst (.pointer (some ⟨w0.heap.size, 0, none⟩)) = act1 at fr1 df1 ⊢
  have fr2 : zp7 (φ0.put H0.next ⟨w0.heap.size, 0, 0⟩) N (Tr.set (Tr.set τ0 ti (.ptr H0.next 0)) tn (.tup [.bool false])) (act1.put o2.dst (.tuple #[.bool false])) := by
   rw [b4]
   exact fr1.put (some tn) (fun k q => by cases q; exact n2) (.tup _ _ (.cons (.bool false) .nil))
  rw [wpOps_cons]
  refine zi6 b6 b9 (zae0 hcs (ao := .extract 0 (.tmp tn)) (by rw [b7]; rfl) (by rw [b7]; exact fr2.ev _) hr1 (H' := H0.push .dead) (a := .bool false) ?_ (show H0.next + 1 <= Z from hb0) ?_)
  ·simp [zl6, zb2, AOp.writes, ze8, zb9]
  intro φ' v w' hv hr' hs
  have fr3 : zp7 φ' N (Tr.set (Tr.set (Tr.set τ0 ti (.ptr H0.next 0)) tn (.tup [.bool false])) tm (.bool false)) ((act1.put o2.dst (.tuple #[.bool false])).put o3.dst v) := by
   rw [b8]
   exact (fr2.mono hs.ext).put (some tm) (fun k q => by cases q; exact n3) hv
  have hcv : ((act1.put o2.dst (.tuple #[.bool false])).put o3.dst v).eval (.tmp tm) = .bool false := by
   have hq := fr3.ev [.tmp tm] (.tmp tm) (by simp) (.tmp tm) rfl
   rw [show ev (Tr.set (Tr.set (Tr.set τ0 ti (.ptr H0.next 0)) tn (.tup [.bool false])) tm (.bool false)) (.tmp tm) = .bool false by simp] at hq
   generalize ((act1.put o2.dst (.tuple #[.bool false])).put o3.dst v).eval (.tmp tm) = x at hq
   cases hq; rfl
  show (Code.seq (.cond (.tmp tm) .skip (.exit out)) _).wp P _ _ _
  refine wp_seq (wp_cond hcv ?_)
  simp only [Bool.false_eq_true, if_false]
  refine wp_exit ?_
  show Exit.inBlock out _ (.exit out) _ _
  simp only [Exit.inBlock, if_true]
  exact hQ φ' .next _ _ _ w' q fr3 (by rw [put_defers, put_defers]; exact df1) hr' ((st0.trans st1).trans hs)
 ·
  rw [hm] at hmv
  obtain ⟨Lm, hLm, hmo⟩ : ∃ Lm, φ0 o = some Lm /\ act0.eval mo = .map (some Lm.blk) := by
   generalize act0.eval mo = x at hmv
   cases hmv with
   | map _ L hL => exact ⟨L, hL, rfl⟩
  obtain ⟨en, cl, k1, k2, k3⟩ := hr0.obj o Lm _ hLm hI.map
  have hlo : B <= fl := Nat.le_trans hr0.fl hI.lo
  have hr0f : zc7 G B W Z φ0 { H0 with floor := fl } w0 := hr0.lower hlo hI.hi
  obtain ⟨hr1, st1⟩ := hr0f.push (show H0.next < Z by omega) (w' := w0.alloc (.mapIter (some Lm.blk) cl #[] cl)) .dead ⟨w0.heap.size, 0, 0⟩ (.mapIter (some Lm.blk) cl #[] cl) rfl rfl rfl rfl rfl trivial
  refine zi6 a3 a6 (zu8 (v := .pointer (some ⟨w0.heap.size, 0, none⟩)) (w' := w0.alloc (.mapIter (some Lm.blk) cl #[] cl)) ?_ ?_)
  ·obtain ⟨dst, op, ty, pos, after, guard⟩ := o1
   simp only at a4; subst a4
   exact zi2 (by rw [hmo]; exact run_range_map w0 xt kt et Lm.blk en cl a8 k1)
  have fr1 : zp7 (φ0.put H0.next ⟨w0.heap.size, 0, 0⟩) N (Tr.set τ0 ti (.ptr H0.next 0)) (act0.put o1.dst (.pointer (some ⟨w0.heap.size, 0, none⟩))) := by
   rw [a5]
   exact (fr0.mono st1.ext).put (some ti) (fun k q => by cases q; exact n1) (zc3.ptr H0.next 0 _ (Pl.put_same _ _ _))
  have hlm : Lm.blk < w0.heap.size := (Array.getElem?_eq_some_iff.1 k1).1
  have no1 : NoOb (φ0.put H0.next ⟨w0.heap.size, 0, 0⟩) { H0.push .dead with floor := fl } w0.heap.size := by
   rintro p L e ⟨x, hx, hd⟩ q
   have hx' : (if p = H0.next then some zo4.dead else H0.get p) = some x := by rw [<- Heap.get_push]; exact hx
   by_cases c : p = H0.next
   ·rw [if_pos c] at hx'; cases hx'; exact hd rfl
   ·rw [if_neg c] at hx'
    have e' : φ0 p = some L := by unfold Pl.put at e; rw [if_neg c] at e; exact e
    exact NoOb.fresh hr0 p L e' ⟨x, hx', hd⟩ q
  show (Code.block out _).wp P _ _ _
  refine wp_block (wp_loop_rounds (((List.range es.length).filter fun i => !([] : List Nat).contains i).length + 1) ?_)
  refine za56 hFT hI c2 c3 hb ⟨n1, n2, n3, n4, n5, n6, n7, n8⟩ (fun seen τ' H' inv h1 h2 => ?_) (fun s τ' H' k h1 h2 => ?_) hLm k1 hr0f (d0 := act.defers) k3 (fun φ' s τ' H' act' w' k fr' df' hr' st' => ?_) _ [] _ _ _ _ _ ⟨hI.start, fr1, by rw [put_defers]; exact df0, hr1, st1, no1, by show w0.heap.size < (w0.heap.push _).size; simp, Pl.put_same _ _ _, #[], cl, ⟨heap_alloc_new w0 _, by rw [heap_alloc_old w0 _ hlm]; exact k1, Nat.le_refl _⟩, fun i e he => by simp⟩ (Nat.le_refl _)
  ·obtain ⟨s, τ2, H2, j1, j2, j3⟩ := zad2 hFT hI _ seen τ' H' (Nat.le_refl _) inv h1 h2
   have e := mo0.floor
   have := hI.lo
   have := hZ _ _ _ j1 (j2.trans mo0.floor) (by omega)
   omega
  ·exact hZ _ _ _ k (h1.trans mo0.floor) (by have := mo0.floor; omega)
  ·exact hQ φ' s τ' _ act' w' k fr' df' (hr'.lower hr0.fl (by have := st'.next; have : H0.next <= H'.next := this; omega)) (st0.trans (st'.lowerTo hI.lo hI.hi))
theorem za96 (hFT : zg3 P G FT) {B W Z N : Nat} {c : Code} {nc : NC} (hok : zk9 P N c nc) : ∀ {φ : Pl} {τ : Env} {H : Heap} {act : Act} {w : World} {Q : Post} {QC : Exit -> Act -> World -> Prop},
  WpN FT nc τ H Q -> zp7 φ N τ act -> zc7 G B W Z φ H w -> (∀ s τ' H', Q s τ' H' -> H'.floor = H.floor -> H.floor <= H'.next -> H'.next <= Z) ->
  (∀ (φ' : Pl) (s : Sig) (τ' : Env) (H' : Heap) (act' : Act) (w' : World), Q s τ' H' -> zp7 φ' N τ' act' -> act'.defers = act.defers -> zc7 G B W Z φ' H' w' -> Step φ H w φ' H' w' -> QC (zk7 s) act' w') -> c.wp P QC act w := by
 induction hok with
 | @det c a hc =>
  intro φ τ H act w Q QC h hF hH hZ hQ
  obtain ⟨n, s, τ', H', hr, q⟩ := h
  have m := (zg5 hFT n).1 a τ H s τ' H' hr hH.fn
  exact (zm3 hFT n).1 c a B W Z N φ τ τ' H H' act w s QC hc hr hF hH (hZ _ _ _ q m.floor (Nat.le_trans hH.fn m.next)) fun φ' act' w' g1 g2 g3 g4 => hQ φ' s τ' H' act' w' q g1 g2 g3 g4
 | @seq a b x y ha hb iha ihb =>
  intro φ τ H act w Q QC h hF hH hZ hQ
  refine wp_seq (iha h hF hH (fun s τ' H' q h1 h2 => ?_) fun φ' s τ' H' act' w' q g1 g2 g3 g4 => ?_)
  ·cases s with
   | next =>
    obtain ⟨s2, τ2, H2, q2, j1, j2⟩ := zo6 hFT y τ' H' Q q (by omega)
    have := hZ _ _ _ q2 (j1.trans h1) (by omega)
    omega
   | ret => exact hZ _ _ _ q h1 h2
   | exit id => exact hZ _ _ _ q h1 h2
  ·cases s with
   | next =>
    refine ihb q g1 g3 (fun s2 τ2 H2 q2 h1 h2 => hZ _ _ _ q2 (h1.trans g4.floor) (by have := g4.floor; omega)) fun φ2 s2 τ2 H2 act2 w2 q2 k1 k2 k3 k4 => hQ φ2 s2 τ2 H2 act2 w2 q2 k1 (k2.trans g2) k3 (g4.trans k4)
   | ret => exact hQ φ' .ret τ' H' act' w' q g1 g2 g3 g4
   | exit id => exact hQ φ' (.exit id) τ' H' act' w' q g1 g2 g3 g4
 | @cond c d a b x y hc ha hb iha ihb =>
  intro φ τ H act w Q QC h hF hH hZ hQ
  have hv := hF.ev [c] c (by simp) d hc
  simp only [WpN, zas8] at h
  split at h
  ·rename_i hd
   rw [hd] at hv
   generalize hcv : act.eval c = cv at hv
   cases hv
   exact wp_cond hcv (by simpa using iha h hF hH hZ hQ)
  ·rename_i hd
   rw [hd] at hv
   generalize hcv : act.eval c = cv at hv
   cases hv
   exact wp_cond hcv (by simpa using ihb h hF hH hZ hQ)
  ·exact h.elim
 | @block id a x ha iha =>
  intro φ τ H act w Q QC h hF hH hZ hQ
  refine wp_block (iha h hF hH (fun s τ' H' q h1 h2 => ?_) fun φ' s τ' H' act' w' q g1 g2 g3 g4 => ?_)
  ·cases s with
   | next => exact hZ _ _ _ q h1 h2
   | ret => exact hZ _ _ _ q h1 h2
   | exit id' =>
    simp only [zt0] at q
    split at q
    ·exact hZ _ _ _ q h1 h2
    ·exact hZ _ _ _ q h1 h2
  ·cases s with
   | next => exact hQ φ' .next τ' H' act' w' q g1 g2 g3 g4
   | ret => exact hQ φ' .ret τ' H' act' w' q g1 g2 g3 g4
   | exit id' =>
    simp only [zt0] at q
    simp only [zk7, Exit.inBlock]
    split at q
    ·rename_i c; rw [if_pos c]; exact hQ φ' .next τ' H' act' w' q g1 g2 g3 g4
    ·rename_i c; rw [if_neg c]; exact hQ φ' (.exit id') τ' H' act' w' q g1 g2 g3 g4
 | rng hok =>
  intro φ τ H act w Q QC h hF hH hZ hQ
  exact zbd0 hFT hok h hF hH hZ hQ
end Go.AI
