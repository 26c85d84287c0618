/- Loops over maps: soundness. No claim by itself. -/
import Derived.Test.YtcepchipgjpkhaaE45
namespace Go.AI
variable {P : Program} {G : World -> Prop} {FT : Nat -> Option FnD}
theorem zi6 {ops : Array Oper} {Q : Exit -> Act -> World -> Prop} {i : Nat} {K : Act -> World -> Prop} {a : Act} {w : World} {o : Oper} (hi : ops[i]? = some o) (hg : o.guard = none) (h : o.wp P a w K Q) : wpOp P ops Q i K a w := by
 unfold wpOp
 rw [hi]
 have : Region.wanted o (yielded ops a.tmps) = true := by unfold Region.wanted; rw [hg]
 simp only [this, if_true]
 exact .inl h
theorem zu8 {o : Oper} {a : Act} {w w' : World} {v : Value} {next : Act -> World -> Prop} {Q : Exit -> Act -> World -> Prop} (hr : (execOp a.eval o).run P w = .ok (.value v) w') (h : next (a.put o.dst v) w') : o.wp P a w next Q := by
 unfold Oper.wp; rw [hr]; exact h
structure Rnd (G : World -> Prop) (B W Z N : Nat) (φ0 : Pl) (H0 : Heap) (w0 : World) (io bm : Nat) (en : Array MapEntry) (cl : Nat) (I : List Nat -> Env -> Heap -> Prop) (seen : List Nat) (d0 : List Deferred) (φ : Pl) (τ : Env) (H : Heap) (act : Act) (w : World) : Prop where
 inv : I seen τ H
 fr : zp7 φ N τ act
 df : act.defers = d0
 hr : zc7 G B W Z φ H w
 st : Step φ0 H0 w0 φ H w
 no : NoOb φ H w0.heap.size
 sz : w0.heap.size < w.heap.size
 pl : φ io = some ⟨w0.heap.size, 0, 0⟩
 it : ∃ sb last, ItAt w w0.heap.size bm en cl sb last /\ ∀ (i : Nat) (e : MapEntry), en.toList[i]? = some e -> (e.born ∈ sb.toList ↔ i ∈ seen)
theorem born_inj {l : List MapEntry} (h : (l.map (·.born)).Nodup) {i j : Nat} {e f : MapEntry} (hi : l[i]? = some e) (hj : l[j]? = some f) (hb : e.born = f.born) : i = j := by
 have h1 : i < (l.map (·.born)).length := by simpa using (List.getElem?_eq_some_iff.1 hi).1
 have h2 : (l.map (·.born))[i]? = (l.map (·.born))[j]? := by rw [List.getElem?_map, List.getElem?_map, hi, hj]; simp [hb]
 exact (List.getElem?_inj h1 h).1 h2
theorem ItAt.step {B W Z : Nat} {φ φ' : Pl} {H H' : Heap} {w w' : World} {r cl last o : Nat} {Lm : Loc} {en : Array MapEntry} {sb : Array Nat} {es : List (AV × AV)} (h : ItAt w r Lm.blk en cl sb last) (hr : zc7 G B W Z φ H w) (no : NoOb φ H r) (sz : r < w.heap.size) (hmo : φ o = some Lm) (hgo : H.get o = some (.map es)) (ho : o < H.floor) (s : Step φ H w φ' H' w') : ItAt w' r Lm.blk en cl sb last :=
 ⟨by rw [s.kept _ sz (fun o L _ e hl => no o L e hl)]; exact h.it, by rw [zbr4 hr s hmo hgo (by simp) ho]; exact h.mp, h.le⟩
theorem zao8 (hFT : zg3 P G FT) {post : List zb6} {ti tn tm tp out nx o fl B W Z N : Nat} {body : za0} {es : List (AV × AV)} {τ0 : Env} {Hp : Heap} {Q : Post} {I : List Nat -> Env -> Heap -> Prop} (hI : RngI FT post ti tn tm tp out nx body o es fl τ0 Hp Q I)
  {id2 id3 : Nat} {ops2 ops3 : Array Oper} {o2 o3 o4 : Oper} {bc : Code}
  (c2 : ops2.size = 2 /\ ops2[0]? = some o2 /\ o2.op = .next (.tmp ti) false /\ o2.dst = some tn /\ o2.guard = none /\ ops2[1]? = some o3 /\ o3.op = .extract (.tmp tn) 0 /\ o3.dst = some tm /\ o3.guard = none)
  (c3 : ops3.size = 1 + post.length /\ ops3[0]? = some o4 /\ o4.op = .entry (.tmp ti) /\ o4.dst = some tp /\ o4.guard = none /\ (∀ (j : Nat) (ao : zb6), post[j]? = some ao -> ∃ o, ops3[1 + j]? = some o /\ zp6 P ops3 N o ao))
  (hb : zf4 P N bc body) (hN : ti < N /\ tn < N /\ tm < N /\ tp < N /\ ti ≠ tn /\ ti ≠ tm /\ tn ≠ tm /\ out ≠ nx)
  (hZ : ∀ seen τ H, I seen τ H -> H.floor = fl -> fl <= H.next -> H.next <= Z) (hQZ : ∀ s τ H, Q s τ H -> H.floor = Hp.floor -> H.floor <= H.next -> H.next <= Z)
  {φ0 : Pl} {w0 : World} {en : Array MapEntry} {cl : Nat} {Lm : Loc} (hm : φ0 o = some Lm) (_hmap : w0.heap[Lm.blk]? = some (.map en cl)) (hH0 : zc7 G B W Z φ0 { Hp with floor := fl } w0) {d0 : List Deferred} (hst : Stamped en.toList cl)
  {QC : Exit -> Act -> World -> Prop}
  (hQ : ∀ (φ' : Pl) (s : Sig) (τ' : Env) (H' : Heap) (act' : Act) (w' : World), Q s τ' { H' with floor := Hp.floor } -> zp7 φ' N τ' act' -> act'.defers = d0 -> zc7 G B W Z φ' H' w' -> Step φ0 { Hp with floor := fl } w0 φ' H' w' -> QC (zk7 s) act' w') {R : Act -> World -> Prop} {seen : List Nat} {φ : Pl} {τ : Env} {H : Heap} {act : Act} {w : World}
  (hR : Rnd G B W Z N φ0 { Hp with floor := fl } w0 Hp.next Lm.blk en cl I seen d0 φ τ H act w)
  (K : ∀ (i : Nat) (φ' : Pl) (τ' : Env) (H' : Heap) (act' : Act) (w' : World), i ∉ seen -> i < es.length -> Rnd G B W Z N φ0 { Hp with floor := fl } w0 Hp.next Lm.blk en cl I (i :: seen) d0 φ' τ' H' act' w' -> R act' w') :
  (Code.seq (.region id2 ops2 false) (.seq (.cond (.tmp tm) .skip (.exit out)) (.block nx (.seq (.region id3 ops3 false) bc)))).wp P (Exit.then R (Exit.inBlock out QC)) act w := by
 obtain ⟨b1, b2, b3, b4, b5, b6, b7, b8, b9⟩ := c2
 obtain ⟨d1, d2, d3, d4, d5, d6⟩ := c3
 obtain ⟨n1, n2, n3, n4, n5, n6, n7, n8⟩ := hN
 obtain ⟨inv, fr, df, hr, st, no, sz, pl, sb, last, it, ids⟩ := hR
 have hfl : H.floor = fl := st.floor
 have hfn : H.floor <= H.next := hr.fn
 have hmo : φ o = some Lm := st.ext _ _ hm
 have hgo : H.get o = some (.map es) := (st.low o (show o < fl from hI.om)).trans hI.map
 have her : zn3 φ es en.toList := by
  obtain ⟨en', cl', k1, k2, _⟩ := hr.obj o Lm _ hmo hgo
  rw [it.mp] at k1; cases k1; exact k2
 have hiv : act.eval (.tmp ti) = .pointer (some ⟨w0.heap.size, 0, none⟩) := by
  have hv := fr.ev [.tmp ti] (.tmp ti) (by simp) (.tmp ti) rfl
  rw [show ev τ (.tmp ti) = .ptr Hp.next 0 from hI.keep inv] at hv
  generalize act.eval (.tmp ti) = x at hv
  cases hv with
  | ptr _ _ L hL => rw [pl] at hL; cases hL; rfl
 have hW0 : W <= w0.heap.size := hH0.wsz
 have hcs := (zm3 hFT 0).2.2
 refine wp_seq (wp_region ?_)
 rw [b1]
 show wpOps P ops2 _ [0, 1] act w
 rw [wpOps_cons]
 rcases zbp4 (P := P) (ty := o2.type) it hst with ⟨hall, hrun⟩ | ⟨i, e, d', hie, hns, hd', hrun⟩
 ·
  refine zi6 b2 b5 (zu8 (v := .tuple #[.bool false]) (w' := w) ?_ ?_)
  ·obtain ⟨dst, op, ty, pos, after, guard⟩ := o2
   simp only at b3; subst b3
   exact zi2 (by rw [hiv]; exact hrun)
  ·have fr1 : zp7 φ N (Tr.set τ tn (.tup [.bool false])) (act.put o2.dst (.tuple #[.bool false])) := by
    rw [b4]
    exact fr.put (some tn) (fun k q => by cases q; exact n2) (.tup _ _ (.cons (.bool false) .nil))
   rw [wpOps_cons]
   refine zi6 b6 b9 (zae0 hcs (ao := .extract 0 (.tmp tn)) (by rw [b7]; rfl) (by rw [b7]; exact fr1.ev _) hr (H' := H) (a := .bool false) ?_ (hZ _ _ _ inv hfl (by rw [<- hfl]; exact hfn)) ?_)
   ·simp [zl6, zb2, AOp.writes, ze8, zb9]
   ·intro φ' v w' hv hr' hs
    have fr2 : zp7 φ' N (Tr.set (Tr.set τ tn (.tup [.bool false])) tm (.bool false)) ((act.put o2.dst (.tuple #[.bool false])).put o3.dst v) := by
     rw [b8]
     exact (fr1.mono hs.ext).put (some tm) (fun k q => by cases q; exact n3) hv
    have hcv : ((act.put o2.dst (.tuple #[.bool false])).put o3.dst v).eval (.tmp tm) = .bool false := by
     have hq := fr2.ev [.tmp tm] (.tmp tm) (by simp) (.tmp tm) rfl
     rw [show ev (Tr.set (Tr.set τ tn (.tup [.bool false])) tm (.bool false)) (.tmp tm) = .bool false by simp] at hq
     generalize ((act.put o2.dst (.tuple #[.bool false])).put o3.dst v).eval (.tmp tm) = x at hq
     cases hq; rfl
    show (Code.seq (.cond (.tmp tm) .skip (.exit out)) _).wp P _ _ _
    refine wp_seq (wp_cond hcv ?_)
    simp only [Bool.false_eq_true, if_false]
    refine wp_exit ?_
    show Exit.inBlock out QC (.exit out) _ _
    simp only [Exit.inBlock, if_true]
    refine hQ φ' .next _ H _ w' (hI.done inv fun i hi => ?_) fr2 (by rw [put_defers, put_defers]; exact df) hr' (st.trans hs)
    obtain ⟨e, he⟩ : ∃ e, en.toList[i]? = some e := ⟨_, List.getElem?_eq_getElem (by rw [<- her.len]; exact hi)⟩
    exact (ids i e he).1 (hall e (List.mem_of_getElem? he))
 ·
  have hil : i < es.length := by rw [her.len]; exact (List.getElem?_eq_some_iff.1 hie).1
  obtain ⟨kv, hes⟩ : ∃ kv, es[i]? = some kv := ⟨_, List.getElem?_eq_getElem hil⟩
  obtain ⟨ka, va⟩ := kv
  obtain ⟨e', he', hk, hv⟩ := her.get hes
  rw [hie] at he'; cases he'
  have hns' : i ∉ seen := fun q => hns ((ids i e hie).2 q)
  have hr1 := hr.poke no hW0 d' (.mapIter (some Lm.blk) cl (sb.push e.born) cl)
  have st1 := st.poke (Nat.le_refl _) hd' (.mapIter (some Lm.blk) cl (sb.push e.born) cl)
  have sz1 : w0.heap.size < ({ w with drawn := d', heap := w.heap.setIfInBounds w0.heap.size (.mapIter (some Lm.blk) cl (sb.push e.born) cl) } : World).heap.size := by simpa using sz
  have it1 : ItAt { w with drawn := d', heap := w.heap.setIfInBounds w0.heap.size (.mapIter (some Lm.blk) cl (sb.push e.born) cl) } w0.heap.size Lm.blk en cl (sb.push e.born) cl := by
   have hne : Lm.blk ≠ w0.heap.size := no o Lm hmo ⟨_, hgo, by simp⟩
   exact ⟨by simp [sz], by simpa [Ne.symm hne] using it.mp, Nat.le_refl _⟩
  refine zi6 b2 b5 (zu8 (v := .tuple #[.bool true, e.key, e.val]) (w' := { w with drawn := d', heap := w.heap.setIfInBounds w0.heap.size (.mapIter (some Lm.blk) cl (sb.push e.born) cl) }) ?_ ?_)
  ·obtain ⟨dst, op, ty, pos, after, guard⟩ := o2
   simp only at b3; subst b3
   exact zi2 (by rw [hiv]; exact hrun)
  generalize ({ w with drawn := d', heap := w.heap.setIfInBounds w0.heap.size (.mapIter (some Lm.blk) cl (sb.push e.born) cl) } : World) = w1 at *
  have fr1 : zp7 φ N (Tr.set τ tn (.tup [.bool true, ka, va])) (act.put o2.dst (.tuple #[.bool true, e.key, e.val])) := by
   rw [b4]
   exact fr.put (some tn) (fun k q => by cases q; exact n2) (.tup _ _ (.cons (.bool true) (.cons hk (.cons hv .nil))))
  rw [wpOps_cons]
  refine zi6 b6 b9 (zae0 hcs (ao := .extract 0 (.tmp tn)) (by rw [b7]; rfl) (by rw [b7]; exact fr1.ev _) hr1 (H' := H) (a := .bool true) ?_ (hZ _ _ _ inv hfl (by rw [<- hfl]; exact hfn)) ?_)
  ·simp [zl6, zb2, AOp.writes, ze8, zb9]
  intro φ2 v2 w2 hv2 hr2 hs2
  have fr2 : zp7 φ2 N (Tr.set (Tr.set τ tn (.tup [.bool true, ka, va])) tm (.bool true)) ((act.put o2.dst (.tuple #[.bool true, e.key, e.val])).put o3.dst v2) := by
   rw [b8]
   exact (fr1.mono hs2.ext).put (some tm) (fun k q => by cases q; exact n3) hv2
  have df2 : ((act.put o2.dst (.tuple #[.bool true, e.key, e.val])).put o3.dst v2).defers = d0 := by rw [put_defers, put_defers]; exact df
  generalize (act.put o2.dst (.tuple #[.bool true, e.key, e.val])).put o3.dst v2 = act2 at fr2 df2 ⊢
  have it2 := it1.step hr1 no sz1 hmo hgo (by rw [hfl]; exact hI.om) hs2
  have no2 := no.step sz1 hs2 hfn
  have st2 := st1.trans hs2
  have sz2 := Nat.lt_of_lt_of_le sz1 hs2.size
  have hcv : act2.eval (.tmp tm) = .bool true := by
   have hq := fr2.ev [.tmp tm] (.tmp tm) (by simp) (.tmp tm) rfl
   rw [show ev (Tr.set (Tr.set τ tn (.tup [.bool true, ka, va])) tm (.bool true)) (.tmp tm) = .bool true by simp] at hq
   generalize act2.eval (.tmp tm) = x at hq
   cases hq; rfl
  have hiv2 : act2.eval (.tmp ti) = .pointer (some ⟨w0.heap.size, 0, none⟩) := by
   have hq := fr2.ev [.tmp ti] (.tmp ti) (by simp) (.tmp ti) rfl
   rw [show ev (Tr.set (Tr.set τ tn (.tup [.bool true, ka, va])) tm (.bool true)) (.tmp ti) = .ptr Hp.next 0 by simp [n5, n6, hI.keep inv]] at hq
   generalize act2.eval (.tmp ti) = x at hq
   cases hq with
   | ptr _ _ L hL => rw [hs2.ext _ _ pl] at hL; cases hL; rfl
  show (Code.seq (.cond (.tmp tm) .skip (.exit out)) _).wp P _ _ _
  refine wp_seq (wp_cond hcv ?_)
  simp only [if_true]
  refine wp_skip ?_
  show (Code.block nx _).wp P _ _ _
  refine wp_block (wp_seq (wp_region ?_))
  rw [d1, Nat.add_comm, List.range_eq_range', List.range'_succ, wpOps_cons]
  obtain ⟨m1, τ4, H4, hops, m2, s, τ5, H5, hrun5, hq5⟩ := hI.step inv hns' hes
  have mo4 := zj3 (zg5 hFT m1).2 post _ H H4 τ4 hops hfn
  have hf4 : H4.floor <= H4.next := by rw [mo4.floor]; exact Nat.le_trans hfn mo4.next
  have mo5 := (zg5 hFT m2).1 body τ4 H4 s τ5 H5 hrun5 hf4
  have hfl5 : H5.floor = fl := by rw [mo5.floor, mo4.floor]; exact hfl
  have hn5 : fl <= H5.next := by rw [<- hfl]; exact Nat.le_trans hfn (Nat.le_trans mo4.next mo5.next)
  have hZ5 : H5.next <= Z := by
   have q1 : ∀ s', Q s' τ5 { H5 with floor := Hp.floor } -> H5.next <= Z := fun s' q => hQZ s' τ5 { H5 with floor := Hp.floor } q rfl (Nat.le_trans hI.lo hn5)
   cases s with
   | next => exact hZ _ _ _ hq5 hfl5 hn5
   | ret => exact q1 _ hq5
   | exit id =>
    simp only [rngQ] at hq5
    split at hq5
    ·exact hZ _ _ _ hq5 hfl5 hn5
    ·split at hq5
     ·exact q1 _ hq5
     ·exact q1 _ hq5
  have hZ4 : H4.next <= Z := Nat.le_trans mo5.next hZ5
  refine zi6 d2 d5 (zu8 (v := .tuple #[e.key, e.val]) (w' := w2) ?_ ?_)
  ·obtain ⟨dst, op, ty, pos, after, guard⟩ := o4
   simp only at d3; subst d3
   exact zi2 (by rw [hiv2]; exact zbc7 it2 hst hie)
  have fr3 : zp7 φ2 N (Tr.set (Tr.set (Tr.set τ tn (.tup [.bool true, ka, va])) tm (.bool true)) tp (.tup [ka, va])) (act2.put o4.dst (.tuple #[e.key, e.val])) := by
   rw [d4]
   exact fr2.put (some tp) (fun k q => by cases q; exact n4) (.tup _ _ (.cons (hk.mono hs2.ext) (.cons (hv.mono hs2.ext) .nil)))
  have df3 : (act2.put o4.dst (.tuple #[e.key, e.val])).defers = d0 := by rw [put_defers]; exact df2
  generalize act2.put o4.dst (.tuple #[e.key, e.val]) = act3 at fr3 df3 ⊢
  refine zbc4 (zm3 hFT m1).2.2 (zg5 hFT m1).2 post 1 (by omega) d6 φ2 H H4 w2 _ τ4 act3 fr3 hr2 hops hZ4 fun φ4 act4 w4 fr4 df4 hr4 hs4 => ?_
  show bc.wp P _ act4 w4
  have hgo4 : H4.get o = some (.map es) := (mo4.low o (by rw [hfl]; exact hI.om)).trans hgo
  have it4 := it2.step hr2 no2 sz2 (hs2.ext _ _ hmo) hgo (by rw [hfl]; exact hI.om) hs4
  have no4 := no2.step sz2 hs4 hfn
  have sz4 := Nat.lt_of_lt_of_le sz2 hs4.size
  refine (zm3 hFT m2).1 bc body B W Z N φ4 τ4 τ5 H4 H5 act4 w4 s _ hb hrun5 fr4 hr4 hZ5 fun φ5 act5 w5 fr5 df5 hr5 hs5 => ?_
  have it5 := it4.step hr4 no4 sz4 (hs4.ext _ _ (hs2.ext _ _ hmo)) hgo4 (by rw [mo4.floor, hfl]; exact hI.om) hs5
  have no5 := no4.step sz4 hs5 hf4
  have sz5 := Nat.lt_of_lt_of_le sz4 hs5.size
  have st5 := ((st2.trans hs4).trans hs5)
  have df5' : act5.defers = d0 := by rw [df5, df4]; exact df3
  have go : I (i :: seen) τ5 H5 -> R act5 w5 := fun q => K i φ5 τ5 H5 act5 w5 hns' hil ⟨q, fr5, df5', hr5, st5, no5, sz5, hs5.ext _ _ (hs4.ext _ _ (hs2.ext _ _ pl)), _, _, it5, fun j f hf => by
   rw [Array.toList_push, List.mem_append, List.mem_singleton, List.mem_cons]
   constructor
   ·rintro (q | q)
    ·exact .inr ((ids j f hf).1 q)
    ·exact .inl (born_inj hst.nd hf hie q)
   ·rintro (q | q)
    ·subst q; rw [hf] at hie; cases hie; exact .inr rfl
    ·exact .inl ((ids j f hf).2 q)⟩
  have fin : ∀ s', Q s' τ5 { H5 with floor := Hp.floor } -> QC (zk7 s') act5 w5 := fun s' q => hQ φ5 s' τ5 H5 act5 w5 q fr5 df5' hr5 st5
  cases s with
  | next => exact go hq5
  | ret => exact fin .ret hq5
  | exit id =>
   simp only [rngQ] at hq5
   show Exit.inBlock nx (Exit.then R (Exit.inBlock out QC)) (.exit id) act5 w5
   by_cases h1 : id = nx
   ·rw [if_pos h1] at hq5
    simp only [Exit.inBlock, if_pos h1]
    exact go hq5
   ·rw [if_neg h1] at hq5
    simp only [Exit.inBlock, if_neg h1]
    show Exit.inBlock out QC (.exit id) act5 w5
    by_cases h2 : id = out
    ·rw [if_pos h2] at hq5
     simp only [Exit.inBlock, if_pos h2]
     exact fin .next hq5
    ·rw [if_neg h2] at hq5
     simp only [Exit.inBlock, if_neg h2]
     exact fin (.exit id) hq5
theorem za56 (hFT : zg3 P G FT) {post : List zb6} {ti tn tm tp out nx o fl B W Z N : Nat} {body : za0} {es : List (AV × AV)} {τ0 : Env} {Hp : Heap} {Q : Post} {I : List Nat -> Env -> Heap -> Prop} (hI : RngI FT post ti tn tm tp out nx body o es fl τ0 Hp Q I)
  {id2 id3 : Nat} {ops2 ops3 : Array Oper} {o2 o3 o4 : Oper} {bc : Code}
  (c2 : ops2.size = 2 /\ ops2[0]? = some o2 /\ o2.op = .next (.tmp ti) false /\ o2.dst = some tn /\ o2.guard = none /\ ops2[1]? = some o3 /\ o3.op = .extract (.tmp tn) 0 /\ o3.dst = some tm /\ o3.guard = none)
  (c3 : ops3.size = 1 + post.length /\ ops3[0]? = some o4 /\ o4.op = .entry (.tmp ti) /\ o4.dst = some tp /\ o4.guard = none /\ (∀ (j : Nat) (ao : zb6), post[j]? = some ao -> ∃ o, ops3[1 + j]? = some o /\ zp6 P ops3 N o ao))
  (hb : zf4 P N bc body) (hN : ti < N /\ tn < N /\ tm < N /\ tp < N /\ ti ≠ tn /\ ti ≠ tm /\ tn ≠ tm /\ out ≠ nx)
  (hZ : ∀ seen τ H, I seen τ H -> H.floor = fl -> fl <= H.next -> H.next <= Z) (hQZ : ∀ s τ H, Q s τ H -> H.floor = Hp.floor -> H.floor <= H.next -> H.next <= Z)
  {φ0 : Pl} {w0 : World} {en : Array MapEntry} {cl : Nat} {Lm : Loc} (hm : φ0 o = some Lm) (hmap : w0.heap[Lm.blk]? = some (.map en cl)) (hH0 : zc7 G B W Z φ0 { Hp with floor := fl } w0) {d0 : List Deferred} (hst : Stamped en.toList cl)
  {QC : Exit -> Act -> World -> Prop}
  (hQ : ∀ (φ' : Pl) (s : Sig) (τ' : Env) (H' : Heap) (act' : Act) (w' : World), Q s τ' { H' with floor := Hp.floor } -> zp7 φ' N τ' act' -> act'.defers = d0 -> zc7 G B W Z φ' H' w' -> Step φ0 { Hp with floor := fl } w0 φ' H' w' -> QC (zk7 s) act' w') :
  ∀ (n : Nat) (seen : List Nat) (φ : Pl) (τ : Env) (H : Heap) (act : Act) (w : World), Rnd G B W Z N φ0 { Hp with floor := fl } w0 Hp.next Lm.blk en cl I seen d0 φ τ H act w -> ((List.range es.length).filter fun i => !seen.contains i).length <= n ->
   Code.rounds P (.seq (.region id2 ops2 false) (.seq (.cond (.tmp tm) .skip (.exit out)) (.block nx (.seq (.region id3 ops3 false) bc)))) (Exit.inBlock out QC) (n + 1) act w := by
 obtain ⟨b1, b2, b3, b4, b5, b6, b7, b8, b9⟩ := c2
 obtain ⟨d1, d2, d3, d4, d5, d6⟩ := c3
 obtain ⟨n1, n2, n3, n4, n5, n6, n7, n8⟩ := hN
 intro n
 induction n with
 | zero =>
  intro seen φ τ H act w hR hn
  rw [rounds_succ]
  refine zao8 hFT hI ⟨b1, b2, b3, b4, b5, b6, b7, b8, b9⟩ ⟨d1, d2, d3, d4, d5, d6⟩ hb ⟨n1, n2, n3, n4, n5, n6, n7, n8⟩ hZ hQZ hm hmap hH0 hst hQ hR fun i φ' τ' H' act' w' hi hil _ => ?_
  have : i ∈ (List.range es.length).filter fun i => !seen.contains i := by simp [hi, hil]
  rw [List.length_eq_zero_iff.1 (Nat.le_zero.1 hn)] at this
  cases this
 | succ n ih =>
  intro seen φ τ H act w hR hn
  rw [rounds_succ]
  refine zao8 hFT hI ⟨b1, b2, b3, b4, b5, b6, b7, b8, b9⟩ ⟨d1, d2, d3, d4, d5, d6⟩ hb ⟨n1, n2, n3, n4, n5, n6, n7, n8⟩ hZ hQZ hm hmap hH0 hst hQ hR fun i φ' τ' H' act' w' hi hil hR' => ih _ _ _ _ _ _ hR' ?_
  have := Go.AI.filter_lt (fun j => !seen.contains j) (fun j => !(i :: seen).contains j) i (List.range es.length) (by simpa using hil) (by simpa using hi) (by simp) (fun x hx => by simp at hx ⊢; exact hx.2)
  omega
end Go.AI
