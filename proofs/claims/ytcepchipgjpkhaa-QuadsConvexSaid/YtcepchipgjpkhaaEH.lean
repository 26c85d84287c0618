/- Helpers for walks: lists cut where a test fails, the first face. No claim by itself. -/
import Derived.Test.YtcepchipgjpkhaaEG
import Derived.Test.YtcepchipgjpkhaaE56
import Derived.Test.YtcepchipgjpkhaaEE
import Derived.Test.YtcepchipgjpkhaaE22
namespace Go.AI
end Go.AI
namespace Go.AI
structure Arr {α : Type} (enc : α -> AV) (H : Heap) (v : AV) (o : Nat) (xs : List α) : Prop where
 v : v = .slc o 0 xs.length 1 xs.length true
 get : H.get o = some (.cells (xs.map enc))
 fl : H.floor <= o
section
variable {α : Type} {enc : α -> AV} {H H' : Heap} {v : AV} {o : Nat} {xs : List α}
theorem Arr.len (h : Arr enc H v o xs) : lenA v = some (.int .i64 xs.length) := by rw [h.v]; rfl
theorem Arr.idx (h : Arr enc H v o xs) {i : Nat} (hi : i < xs.length) : ∃ x, xs[i]? = some x /\ zd7 1 v (.int .i64 i) = some (.ptr o i) /\ za9 H none (.ptr o i) = some (enc x) := by
 refine ⟨xs[i], List.getElem?_eq_getElem hi, ?_, ?_⟩
 ·rw [h.v, zf2, if_pos ⟨by omega, by omega, rfl⟩]; simp
 ·exact za1 h.get (by rw [List.getElem?_map, List.getElem?_eq_getElem hi]; rfl)
theorem Arr.set (h : Arr enc H v o xs) (hw : H.Wf) {i : Nat} (hi : i < xs.length) (x : α) (h1 : (enc x).one = true) : ∃ H', zf6 H 1 (.ptr o i) (enc x) = some (zb8, H') /\ Arr enc H' v o (xs.set i x) /\ Fr [o] H H' := by
 obtain ⟨H', a, b, c⟩ := zai9 (x := enc x) hw h.fl h.get (off := i) (by simpa using hi) h1
 refine ⟨H', a, ⟨by rw [h.v]; simp, ?_, by rw [c.floor]; exact h.fl⟩, c⟩
 rw [b, List.map_set]
theorem Arr.fr {S : List Nat} (h : Arr enc H v o xs) (k : Fr S H H') (hn : o ∉ S) : Arr enc H' v o xs := ⟨h.v, k.keep _ _ hn h.get, by rw [k.floor]; exact h.fl⟩
theorem Arr.ext (h : Arr enc H v o xs) (k : Ext H H') : Arr enc H' v o xs := h.fr (S := []) k.fr (by simp)
theorem Arr.lt (h : Arr enc H v o xs) (hw : H.Wf) : o < H.next := hw.lt h.get
theorem Arr.rw (h : Arr enc H v o xs) : Rw 1 (fun x => [enc x]) H v xs := by
 refine ⟨.inr ⟨o, 0, xs.length, true, h.v, ?_⟩, by rw [h.v]; simp [zo2]⟩
 unfold Heap.readSeg
 rw [za3 h.get, <- List.flatMap_singleton' (xs.map enc), List.flatMap_map]
 simp only [Option.bind_some]
 exact zo7 (by rw [zg6 (e := 1) (fun _ => rfl)])
end
structure Rows (Hb H : Heap) (v : AV) (F : List (List Int)) : Prop where
 ex : ∃ rs : List OneV, Mine 1 onec Hb H v rs /\ rs.length = F.length /\ ∀ (i : Nat) (r : OneV) (f : List Int), rs[i]? = some r -> F[i]? = some f -> Rw 1 zi7 H r.1 f /\ ∀ p, rowObj r.1 = some p -> Hb.next <= p /\ rowObj v ≠ some p
section
variable {Hb H H' : Heap} {v : AV} {F : List (List Int)}
theorem Rows.nil : Rows Hb H .nils [] := ⟨[], Mine.nil, rfl, fun i r f h => by simp at h⟩
theorem Rows.gd (h : Rows Hb H v F) : Gd H v F := by
 obtain ⟨rs, a, b, c⟩ := h.ex
 exact ⟨rs, a.ow.rw zq2, b, fun i r f p q => (c i r f p q).1⟩
theorem Rows.fr {S : List Nat} (h : Rows Hb H v F) (k : Fr S H H') (hs : ∀ p, p ∈ S -> p < Hb.next) : Rows Hb H' v F := by
 obtain ⟨rs, a, b, c⟩ := h.ex
 refine ⟨rs, a.fr k fun p q r => ?_, b, fun i r f p q => ⟨(c i r f p q).1.fr k fun o ho hS => ?_, (c i r f p q).2⟩⟩
 ·have := a.new p q; have := hs p r; omega
 ·have := ((c i r f p q).2 o ho).1; have := hs o hS; omega
theorem Rows.ext (h : Rows Hb H v F) (k : Ext H H') : Rows Hb H' v F := h.fr (S := []) k.fr (by simp)
theorem Rows.snoc (h : Rows Hb H v F) (hw : H.Wf) (hx : Hb.next <= H.next) {r : AV} {f : List Int} (hr : Rw 1 zi7 H r f) (hn : ∀ p, rowObj r = some p -> Hb.next <= p) (hd : ∀ p, rowObj r = some p -> rowObj v ≠ some p) {bytes : Nat} (hb : (2 * (F.length + 1) + 1024) * bytes <= 2 ^ 48) :
  ∃ v' H', zc4 1 bytes (H.push (.cells [r])) v (.slc H.next 0 1 1 1 true) = some (v', H') /\ Rows Hb H' v' (F ++ [f]) /\ Fr (rowObj v).toList H H' /\ ∀ p, rowObj v' = some p -> rowObj v = some p \/ H.next <= p := by
 obtain ⟨rs, a, b, c⟩ := h.ex
 obtain ⟨v', H', k1, k2, k3, k4⟩ := a.app1 zq2 (by omega) za13 hw hx (⟨r, hr.one.1⟩ : OneV) (bytes := bytes) (by rw [b]; exact hb)
 have hrows : ∀ (q : AV) (g : List Int), Rw 1 zi7 H q g -> (∀ p, rowObj q = some p -> rowObj v ≠ some p) -> Rw 1 zi7 H' q g := fun q g hq hne => hq.fr k3 fun o ho hS => by
  cases hv : rowObj v with
  | none => rw [hv] at hS; simp at hS
  | some w => rw [hv] at hS; simp at hS; subst hS; exact hne _ ho hv
 refine ⟨v', H', k1, ⟨rs ++ [⟨r, hr.one.1⟩], k2, by simp [b], fun i q g hq hg => ?_⟩, k3, k4⟩
 by_cases e : i < rs.length
 ·rw [List.getElem?_append_left e] at hq
  rw [List.getElem?_append_left (by omega)] at hg
  obtain ⟨c1, c2⟩ := c i q g hq hg
  refine ⟨hrows q.1 g c1 fun p hp => (c2 p hp).2, fun p hp => ⟨(c2 p hp).1, fun hv => ?_⟩⟩
  rcases k4 p hv with w | w
  ·exact (c2 p hp).2 w
  ·have := c1.rowLt zc9 hw hp; omega
 ·rw [List.getElem?_append_right (by omega)] at hq
  rw [List.getElem?_append_right (by omega)] at hg
  have e2 : i - rs.length = 0 := by
   rcases Nat.eq_zero_or_pos (i - rs.length) with q0 | q0
   ·exact q0
   ·rw [List.getElem?_eq_none (by simp; omega)] at hq; cases hq
  rw [e2] at hq
  rw [show i - F.length = 0 by omega] at hg
  cases hq; cases hg
  refine ⟨hrows r f hr hd, fun p hp => ⟨hn p hp, fun hv => ?_⟩⟩
  rcases k4 p hv with w | w
  ·exact hd p hp w
  ·have := hr.rowLt zc9 hw hp; omega
end
end Go.AI
namespace Go.AI
variable {P : Program} {G : World -> Prop} {FT : Nat -> Option FnD}
inductive Rn (f : Nat -> Nat) (n k : Nat) : AV -> AV -> Prop
 | same (a : AV) : Rn f n k a a
 | slc (i off len e lo : Nat) (ex : Bool) (h : i < k) : Rn f n k (.slc (f i) off len e lo ex) (.slc (n + i) off len e lo ex)
 | two (a b : AV) (c : AV) (h : Rn f n k a b) : Rn f n k (.tup [a, c]) (.tup [b, c])
structure Mov (n k : Nat) (f : Nat -> Nat) (H1 H' : Heap) : Prop where
 floor : H'.floor = H1.floor
 base : H1.next <= n
 next : n + k <= H'.next
 hi : ∀ o, n + k <= o -> H'.get o = none
 cell : ∀ i, i < k -> ∃ cs cs', H1.get (f i) = some (.cells cs) /\ H'.get (n + i) = some (.cells cs') /\ cs'.length = cs.length /\ ∀ (j : Nat) (a b : AV), cs[j]? = some a -> cs'[j]? = some b -> Rn f n k a b
 inj : ∀ i j, i < k -> j < k -> f i = f j -> i = j
 get : ∀ o x, o < n -> H'.get o = some x -> (∀ i, i < k -> o ≠ f i) /\ H1.get o = some x
 of : ∀ i, i < k -> H1.floor <= f i
def movP (φ : Pl) (n k : Nat) (f : Nat -> Nat) : Pl := fun o => if n <= o /\ o < n + k then φ (f (o - n)) else φ o
theorem zc3.rn {φ φ' : Pl} {f : Nat -> Nat} {n k : Nat} (le : φ.le φ') (hm : ∀ i L, i < k -> φ (f i) = some L -> φ' (n + i) = some L) {a b : AV} (h : Rn f n k a b) : ∀ {u : Value}, zc3 φ a u -> zc3 φ' b u := by
 induction h with
 | same a => intro u hv; exact hv.mono le
 | slc i off len e lo ex hi =>
  intro u hv
  cases hv with
  | slc _ _ _ _ _ _ L cap hL a b c d => exact .slc (n + i) off len e lo ex L cap (hm i L hi hL) a b c d
  | slc0 _ _ _ _ a => exact .slc0 (n + i) off e ex a
 | two a b c h ih =>
  intro u hv
  cases hv with
  | tup _ vs hl =>
   refine .tup _ vs ?_
   generalize vs.toList = l at hl
   cases hl with
   | cons x t => exact .cons (ih x) (t.mono le)
theorem zc7.mov {B W Z : Nat} {φ : Pl} {n k : Nat} {f : Nat -> Nat} {H1 H' : Heap} {w : World} (h : zc7 G B W Z φ H1 w) (m : Mov n k f H1 H') (hZ : H'.next <= Z) :
  φ.le (movP φ n k f) /\ (∀ i L, i < k -> φ (f i) = some L -> movP φ n k f (n + i) = some L) /\ zc7 G B W Z (movP φ n k f) H' w := by
 have hbase := m.base
 have hnext := m.next
 have hn : ∀ i, i < k -> φ (n + i) = none := fun i hi => by
  cases q : φ (n + i) with
  | none => rfl
  | some L => rcases h.dom (n + i) L q with r | r <;> omega
 have le : φ.le (movP φ n k f) := fun o L e => by
  unfold movP
  split
  ·rename_i q
   have := hn (o - n) (by omega)
   rw [show n + (o - n) = o by omega, e] at this; cases this
  ·exact e
 have hm : ∀ i L, i < k -> φ (f i) = some L -> movP φ n k f (n + i) = some L := fun i L hi e => by
  unfold movP
  rw [if_pos ⟨by omega, by omega⟩, show n + i - n = i by omega]; exact e
 have hB : ∀ i, i < k -> B <= f i := fun i hi => Nat.le_trans h.fl (m.of i hi)
 have hnB : B <= n := Nat.le_trans h.fl (Nat.le_trans h.fn hbase)
 have hl1 : ∀ i, i < k -> live H1 (f i) := fun i hi => by
  obtain ⟨cs, _, c1, _⟩ := m.cell i hi
  exact ⟨_, c1, by simp⟩
 have back : ∀ {o : Nat} {L : Loc}, movP φ n k f o = some L -> (∃ i, i < k /\ o = n + i /\ φ (f i) = some L) \/ (¬ (n <= o /\ o < n + k) /\ φ o = some L) := fun {o L} e => by
  unfold movP at e
  split at e
  ·rename_i q; exact .inl ⟨o - n, by omega, by omega, e⟩
  ·rename_i q; exact .inr ⟨q, e⟩
 have lv : ∀ {o : Nat} {L : Loc}, ¬ (n <= o /\ o < n + k) -> live H' o -> (∀ i, i < k -> o ≠ f i) /\ live H1 o := fun {o L} q ⟨x, hx, hd⟩ => by
  have ho : o < n := by
   rcases Nat.lt_or_ge o n with r | r
   ·exact r
   ·rw [m.hi o (by omega)] at hx; cases hx
  exact ⟨(m.get o x ho hx).1, x, (m.get o x ho hx).2, hd⟩
 refine ⟨le, hm, ⟨by rw [m.floor]; exact h.fl, by rw [m.floor]; have := h.fn; omega, h.wsz, fun o L e => ?_, fun o ho => m.hi o (by omega), fun o L x e hx => ?_, fun o L e ho => ?_, fun o L e ho hv => ?_, fun o o' L L' e e' ho ho' hv hv' hb => ?_, h.good⟩⟩
 ·rcases back e with ⟨i, hi, q, _⟩ | ⟨_, q⟩
  ·left; omega
  ·rcases h.dom o L q with r | r
   ·left; omega
   ·exact .inr r
 ·rcases back e with ⟨i, hi, q, r⟩ | ⟨q, r⟩
  ·subst q
   obtain ⟨cs, cs', c1, c2, c3, c4⟩ := m.cell i hi
   rw [c2] at hx; cases hx
   obtain ⟨a, b, c⟩ := h.obj (f i) L _ r c1
   refine ⟨fun j b' hj => ?_, by rw [c3]; exact b, fun _ => c (hB i hi)⟩
   have hjl : j < cs.length := by rw [<- c3]; exact (List.getElem?_eq_some_iff.1 hj).1
   obtain ⟨u, hu, hv⟩ := a j cs[j] (List.getElem?_eq_getElem hjl)
   exact ⟨u, hu, hv.rn le hm (c4 j _ _ (List.getElem?_eq_getElem hjl) hj)⟩
  ·have ho : o < n := by
    rcases Nat.lt_or_ge o n with s | s
    ·exact s
    ·rw [m.hi o (by omega)] at hx; cases hx
   exact (h.obj o L x r (m.get o x ho hx).2).keep le rfl
 ·rcases back e with ⟨i, hi, q, r⟩ | ⟨q, r⟩
  ·omega
  ·exact h.low o L r ho
 ·rcases back e with ⟨i, hi, q, r⟩ | ⟨q, r⟩
  ·exact h.high (f i) L r (hB i hi) (hl1 i hi)
  ·exact h.high o L r ho (lv (L := L) q hv).2
 ·rcases back e with ⟨i, hi, q, r⟩ | ⟨q, r⟩ <;> rcases back e' with ⟨i', hi', q', r'⟩ | ⟨q', r'⟩
  ·have := m.inj i i' hi hi' (h.inj (f i) (f i') L L' r r' (hB i hi) (hB i' hi') (hl1 i hi) (hl1 i' hi') hb)
   rw [q, q', this]
  ·exact absurd (h.inj (f i) o' L L' r r' (hB i hi) ho' (hl1 i hi) (lv (L := L') q' hv').2 hb).symm ((lv (L := L') q' hv').1 i hi)
  ·exact absurd (h.inj o (f i') L L' r r' ho (hB i' hi') (lv (L := L) q hv).2 (hl1 i' hi') hb) ((lv (L := L) q hv).1 i' hi')
  ·exact h.inj o o' L L' r r' ho ho' (lv (L := L) q hv).2 (lv (L := L') q' hv').2 hb
theorem Step.mov {φ φ1 : Pl} {H H1 H' : Heap} {w w' : World} {n k : Nat} {f : Nat -> Nat} (s : Step φ H w φ1 H1 w') (m : Mov n k f H1 H') (low : ∀ o, o < H.floor -> H'.get o = H.get o) (le : φ1.le (movP φ1 n k f)) : Step φ H w (movP φ1 n k f) H' w' :=
 {s with
  ext := Pl.le_trans s.ext le
  new := fun o L e q => by
   have h1 := m.base
   have h2 := m.next
   have h3 := s.next
   unfold movP at e
   split at e
   ·omega
   ·have := s.new o L e q; omega
  next := by have h1 := m.base; have h2 := m.next; have h3 := s.next; omega
  floor := m.floor.trans s.floor
  made := fun o L ho e hv => by
   unfold movP at e
   split at e
   ·rename_i q
    obtain ⟨cs, _, c1, _⟩ := m.cell (o - n) (by omega)
    exact s.made (f (o - n)) L (by rw [<- s.floor]; exact m.of _ (by omega)) e ⟨_, c1, by simp⟩
   ·rename_i q
    obtain ⟨x, hx, hd⟩ := hv
    have ho' : o < n := by
     rcases Nat.lt_or_ge o n with r | r
     ·exact r
     ·rw [m.hi o (by omega)] at hx; cases hx
    exact s.made o L ho e ⟨x, (m.get o x ho' hx).2, hd⟩
  low := low }
theorem zf5.mov {H H1 H' : Heap} {n k : Nat} {f : Nat -> Nat} (h : zf5 H H1) (m : Mov n k f H1 H') (low : ∀ o, o < H.floor -> H'.get o = H.get o) : zf5 H H' :=
 ⟨by have h1 := m.base; have h2 := m.next; have h3 := h.next; omega, m.floor.trans h.floor, low, fun _ o ho => m.hi o (by have := m.next; omega)⟩
def Outs (r : AV) (H1 : Heap) (v : AV) (H' : Heap) : Prop := ∃ n k f, Rn f n k r v /\ Mov n k f H1 H'
theorem Outs.same {v : AV} {H1 H' : Heap} (floor : H'.floor = H1.floor) (next : H1.next <= H'.next) (hi : ∀ o, H'.next <= o -> H'.get o = none) (get : ∀ o x, H'.get o = some x -> H1.get o = some x) : Outs v H1 v H' :=
 ⟨H'.next, 0, id, .same v, floor, next, Nat.le_refl _, hi, fun i hi => absurd hi (Nat.not_lt_zero i), fun i _j hi => absurd hi (Nat.not_lt_zero i), fun o x _ hx => ⟨fun i hi => absurd hi (Nat.not_lt_zero i), get o x hx⟩, fun i hi => absurd hi (Nat.not_lt_zero i)⟩
theorem Outs.next {r v : AV} {H1 H' : Heap} (h : Outs r H1 v H') : H1.next <= H'.next := by
 obtain ⟨n, k, f, _, m⟩ := h
 have h1 := m.base
 have h2 := m.next
 omega
theorem zbs6 (hFT : ∀ G, zg3 P G FT) {f N : Nat} {nc : NC} {rs : List zf7} (hf : zaz1 P f N nc rs) {args : List AV} {H H' : Heap} {v : AV} (hb : args.length <= N) (low : ∀ o, o < H.floor -> H'.get o = H.get o) (h : WpN FT nc (zf9 0 args .leaf) H (finQ rs fun r H1 => Outs r H1 v H')) : Good P f args H v H' := by
 have key : ∀ {s : Sig} {τ1 : Env} {H1 : Heap}, finQ rs (fun r H1 => Outs r H1 v H') s τ1 H1 -> (s = .next \/ s = .ret) /\ ∃ vs, zb5 τ1 H1 rs = some vs /\ Outs (zg8 vs) H1 v H' := by
  intro s τ1 H1 q
  cases s with
  | exit id => exact q.elim
  | next =>
   rw [zas2] at q
   cases hr : zb5 τ1 H1 rs with
   | none => rw [hr] at q; exact q.elim
   | some vs => rw [hr] at q; exact ⟨.inl rfl, vs, rfl, q⟩
  | ret =>
   rw [za31] at q
   cases hr : zb5 τ1 H1 rs with
   | none => rw [hr] at q; exact q.elim
   | some vs => rw [hr] at q; exact ⟨.inr rfl, vs, rfl, q⟩
 refine ⟨fun hfl => ?_, fun G B W Z φ w avs hl hH hK => ?_⟩
 ·obtain ⟨s, τ', H1, q, m⟩ := zu4 (hFT fun _ => True) nc _ H _ h hfl
  obtain ⟨_, vs, _, o⟩ := key q
  obtain ⟨_, _, _, _, mv⟩ := o
  exact m.mov mv low
 ·obtain ⟨fn, c, k1, k2, k3, k4, k5, k6, k7⟩ := hf.ex
  refine ⟨⟨fn, k1, k2, by rw [k3]; rfl⟩, calls_of_wp k1 k3 ?_⟩
  rw [k4]
  refine za96 (hFT G) k5 (Z := Z) h (zas3 hl N hb) hH (fun s τ1 H1 q _ _ => ?_) fun φ' s τ1 H1 act' w' q g1 g2 g3 g4 => ?_
  ·obtain ⟨_, vs, _, o⟩ := key q
   exact Nat.le_trans o.next hK
  ·obtain ⟨hs, vs, hvs, o⟩ := key q
   obtain ⟨us, q1, q2⟩ := zt6 (P := P) g1 g3 fn.results.toList rs vs k6 k7 hvs
   have hpk := zaj7 (us := us.toArray) (by simpa using q2)
   have hret : act'.defers = [] /\ ∃ u, (results fn act'.tmps).run P w' = .ok u w' /\ Ret G B W Z φ H w v H' (.returned u) w' := by
    generalize hu : (if h : us.toArray.size = 1 then us.toArray[0] else Value.tuple us.toArray) = uu at hpk
    refine ⟨g2, uu, ?_, ?_⟩
    ·rw [zaj4, <- hu]
     simp only [Array.mapM_eq_mapM_toList, Sem.run_bind, Sem.run_map, q1, Result.andThen_ok, Sem.run_pure]
    ·obtain ⟨n, k, f, rn, mv⟩ := o
     obtain ⟨le, hm, hr⟩ := g3.mov mv hK
     exact ⟨movP φ' n k f, _, rfl, hpk.rn le hm rn, hr, g4.mov mv low le⟩
   rcases hs with rfl | rfl
   ·exact hret
   ·exact hret
section
variable {K : Env -> Heap -> Prop} {Q : Post} {τ : Env} {H : Heap} {I : List Nat -> Env -> Heap -> Prop} {nx out fl id : Nat} {seen : List Nat}
@[simp] theorem zr2 : zbf6 K Q .next τ H = K τ H := rfl
@[simp] theorem zaq4 : zbf6 K Q .ret τ H = Q .ret τ H := rfl
@[simp] theorem nseqQ_exit : zbf6 K Q (.exit id) τ H = Q (.exit id) τ H := rfl
@[simp] theorem rngQ_next : rngQ I nx out fl seen Q .next τ H = I seen τ H := rfl
@[simp] theorem rngQ_ret : rngQ I nx out fl seen Q .ret τ H = Q .ret τ { H with floor := fl } := rfl
@[simp] theorem rngQ_exit : rngQ I nx out fl seen Q (.exit id) τ H = if id = nx then I seen τ H else if id = out then Q .next τ { H with floor := fl } else Q (.exit id) τ { H with floor := fl } := rfl
@[simp] theorem zbl7 {FT : Nat -> Option FnD} {c : za0} : WpN FT (.det c) τ H Q = Wp FT c τ H Q := rfl
@[simp] theorem zay8 {FT : Nat -> Option FnD} {a b : NC} : WpN FT (.seq a b) τ H Q = WpN FT a τ H (zbf6 (fun τ H => WpN FT b τ H Q) Q) := rfl
@[simp] theorem WpN_cond {FT : Nat -> Option FnD} {x : Opd} {a b : NC} : WpN FT (.cond x a b) τ H Q = zas8 (ev τ x) (WpN FT a τ H Q) (WpN FT b τ H Q) := rfl
@[simp] theorem WpN_block {FT : Nat -> Option FnD} {b : NC} : WpN FT (.block id b) τ H Q = WpN FT b τ H (zak7 id Q) := rfl
theorem zb82 {FT : Nat -> Option FnD} {pre post : List zb6} {m : Opd} {ti tn tm tp out nx : Nat} {body : za0} : WpN FT (.rng pre post m ti tn tm tp out nx body) τ H Q = RngW FT pre post m ti tn tm tp out nx body τ H Q := rfl
end
theorem zay3 {e bytes : Nat} {H H' : Heap} {x y v' : AV} (h : zc4 e bytes H x y = some (v', H')) : H'.next <= H.next + 1 := by
 have push1 : ∀ (K : Heap) (c : zo4), (K.push c).next = K.next + 1 := fun _ _ => rfl
 have ifs : ∀ {c : Bool} {p : AV × Heap} {q : Option (AV × Heap)}, (bif c then some p else q) = some (v', H') -> (p.2.next <= H.next + 1) -> (q = some (v', H') -> H'.next <= H.next + 1) -> H'.next <= H.next + 1 := by
  intro c p q hc h1 h2
  cases c with
  | true => simp only [cond_true, Option.some.injEq] at hc; rw [hc] at h1; exact h1
  | false => exact h2 hc
 unfold zc4 at h
 split at h
 ·cases h
 ·rename_i n new _
  cases ho : za5 new with
  | false => rw [ho] at h; cases h
  | true =>
   rw [ho] at h
   simp only [cond_true] at h
   split at h
   ·refine ifs h (by simp) fun h => ifs h (by simp) fun h => by cases h
   ·rename_i o off len e' lo ex
    cases he : Nat.beq e e' with
    | false => rw [he] at h; cases h
    | true =>
     rw [he] at h
     simp only [cond_true] at h
     refine ifs h (by simp) fun h => ?_
     cases hb : Nat.ble (len + n) lo with
     | true =>
      rw [hb] at h
      simp only [cond_true, Option.map_eq_some_iff] at h
      obtain ⟨K, hk, e2⟩ := h
      cases e2
      unfold Heap.writeSeg at hk
      cases hf : Nat.ble H.floor o with
      | false => rw [hf] at hk; cases hk
      | true =>
       rw [hf] at hk
       simp only [cond_true] at hk
       split at hk
       ·rename_i cs _
        cases hc : (Nat.ble (off + len * e + new.length) cs.length && za5 new) with
        | false => rw [hc] at hk; cases hk
        | true => rw [hc] at hk; simp only [cond_true, Option.some.injEq] at hk; subst hk; exact Nat.le_succ _
       ·cases hk
     | false =>
      rw [hb] at h
      simp only [cond_false] at h
      cases hc : Nat.ble ((2 * (len + n) + 1024) * bytes) (2 ^ 48) with
      | false => rw [hc] at h; cases h
      | true =>
       rw [hc] at h
       simp only [cond_true] at h
       split at h
       ·cases h
       ·refine ifs h (by simp) fun h => ifs h (by exact Nat.le_refl _) fun h => by cases h
   ·cases h
end Go.AI
namespace Go.AI
section
variable {α : Type} {enc : α -> AV}
def delA (H : Heap) (d : EqD) (m k : AV) : Option (AV × Heap) :=
 match m with
 | .nilm => bif plainKey d k then some (zb8, H) else none
 | .map o =>
  bif Nat.ble H.floor o then
   match H.get o with
   | some (.map es) =>
    bif plainKey d k then
     match zk2 d k es 0 with
     | none => none
     | some (some (i, _)) => some (zb8, H.set o (.map (es.eraseIdx i)))
     | some none => some (zb8, H)
    else none
   | _ => none
  else none
 | _ => none
@[simp] theorem p_delete {e : Opd -> AV} {H : Heap} {d : EqD} {m k : Opd} : zb2 e H (.delete d m k) = delA H d (e m) (e k) := rfl
end
def zl4 : Heap -> List (List AV) -> Heap
 | H, [] => H
 | H, c :: cs => zl4 (H.push (.cells c)) cs
theorem zt7 : ∀ (cs : List (List AV)) (H : Heap), (zl4 H cs).next = H.next + cs.length
 | [], H => rfl
 | c :: cs, H => by unfold zl4; rw [zt7 cs]; show H.next + 1 + cs.length = _; simp; omega
theorem zy9 : ∀ (cs : List (List AV)) (H : Heap), (zl4 H cs).floor = H.floor
 | [], H => rfl
 | c :: cs, H => by unfold zl4; rw [zy9 cs]; rfl
theorem zad6 : ∀ (cs : List (List AV)) {H : Heap}, H.Wf -> Ext H (zl4 H cs)
 | [], _H, hw => Ext.refl hw
 | _c :: cs, _H, hw => (Ext.push hw _).trans (zad6 cs (hw.push _))
theorem zw5 : ∀ (cs : List (List AV)) {H : Heap} {o : Nat}, o < H.next -> (zl4 H cs).get o = H.get o
 | [], H, o, _ => rfl
 | c :: cs, H, o, h => by
  unfold zl4
  rw [zw5 cs (show o < H.next + 1 by omega), za6, if_neg (by omega)]
theorem zw6 : ∀ (cs : List (List AV)) {H : Heap} {i : Nat}, i < cs.length -> (zl4 H cs).get (H.next + i) = (cs[i]?).map .cells
 | [], H, i, h => by simp at h
 | c :: cs, H, 0, _ => by
  unfold zl4
  rw [Nat.add_zero, zw5 cs (show H.next < H.next + 1 by omega), za6, if_pos rfl]; rfl
 | c :: cs, H, i + 1, h => by
  unfold zl4
  have := zw6 cs (H := H.push (.cells c)) (i := i) (by simpa using h)
  rw [show H.next + (i + 1) = (H.push (.cells c)).next + i from by show _ = H.next + 1 + i; omega, this]
  simp
theorem zap4 (cs : List (List AV)) {H : Heap} (hw : H.Wf) {o : Nat} (h : H.next + cs.length <= o) : (zl4 H cs).get o = none :=
 (zad6 cs hw).wf.2 o (by rw [zt7]; exact h)
def zac8 (p : Nat) (f : List Int) : AV := .slc p 0 f.length 1 f.length false
def rowsOf (ps : List Nat) (F : List (List Int)) : List OneV := (ps.zip F).map fun q => ⟨zac8 q.1 q.2, rfl⟩
theorem za55 {ps : List Nat} {F : List (List Int)} {i p : Nat} {f : List Int} (hp : ps[i]? = some p) (hf : F[i]? = some f) : (rowsOf ps F)[i]? = some ⟨zac8 p f, rfl⟩ := by
 unfold rowsOf
 have hz : (ps.zip F)[i]? = some (p, f) := List.getElem?_zip_eq_some.2 ⟨hp, hf⟩
 rw [List.getElem?_map, hz]; rfl
theorem zu5 {ps : List Nat} {F : List (List Int)} (h : ps.length = F.length) : (rowsOf ps F).length = F.length := by unfold rowsOf; simp [h]
structure zai7 (Hb H : Heap) (v : AV) (ps : List Nat) (F : List (List Int)) : Prop where
 len : ps.length = F.length
 mine : Mine 1 onec Hb H v (rowsOf ps F)
 get : ∀ {i p : Nat} {f : List Int}, ps[i]? = some p -> F[i]? = some f -> H.get p = some (.cells (f.flatMap zi7)) /\ f ≠ [] /\ Hb.next <= p /\ H.floor <= p /\ rowObj v ≠ some p
 inc : ps.Pairwise (· < ·)
section
variable {Hb H H' : Heap} {v : AV} {ps : List Nat} {F : List (List Int)}
theorem zai7.nil : zai7 Hb H .nils [] [] := ⟨rfl, Mine.nil, fun h => by simp at h, by simp⟩
theorem zai7.fr {S : List Nat} (h : zai7 Hb H v ps F) (k : Fr S H H') (hs : ∀ p, p ∈ S -> p < Hb.next) : zai7 Hb H' v ps F :=
 ⟨h.len, h.mine.fr k fun p q r => by have := h.mine.new p q; have := hs p r; omega, fun {i p f} a b => by
  obtain ⟨c1, c2, c3, c4, c5⟩ := h.get a b
  exact ⟨k.keep _ _ (fun r => by have := hs p r; omega) c1, c2, c3, by rw [k.floor]; exact c4, c5⟩, h.inc⟩
theorem zai7.snoc (h : zai7 Hb H v ps F) (hw : H.Wf) (hx : Hb.next <= H.next) {r : AV} {f : List Int} {Hr : Heap} (hr : Mine 1 zi7 Hr H r f) (hf : f ≠ []) (hrb : Hb.next <= Hr.next) (hlt : ∀ p, p ∈ ps -> p < Hr.next) (hv : ∀ p, rowObj v = some p -> p < Hr.next) {bytes : Nat} (hb : (2 * (F.length + 1) + 1024) * bytes <= 2 ^ 48) :
  ∃ p v' H', r = zac8 p f /\ zc4 1 bytes (H.push (.cells [r])) v (.slc H.next 0 1 1 1 true) = some (v', H') /\ zai7 Hb H' v' (ps ++ [p]) (F ++ [f]) /\ Fr (rowObj v).toList H H' /\ H'.next <= H.next + 2 := by
 obtain ⟨p, rfl, _, h2, h3⟩ : ∃ p, r = zac8 p f /\ f ≠ [] /\ H.get p = some (.cells (f.flatMap zi7)) /\ H.floor <= p := by
  rcases hr.ow with ⟨_, q⟩ | ⟨p, q1, q2, q3, q4⟩
  ·exact absurd q hf
  ·exact ⟨p, q1, q2, q3, q4⟩
 have hpr : Hr.next <= p := hr.new p rfl
 obtain ⟨v', H', k1, k2, k3, k4⟩ := h.mine.app1 zq2 (by omega) za13 hw hx (⟨zac8 p f, rfl⟩ : OneV) (bytes := bytes) (by rw [zu5 h.len]; exact hb)
 have hnv : ∀ q, (q < Hr.next /\ rowObj v ≠ some q) \/ q = p -> rowObj v' ≠ some q -> True := fun _ _ _ => trivial
 have hS : ∀ q, rowObj v ≠ some q -> q ∉ (rowObj v).toList := fun q hq hm => hq (by simpa using hm)
 have hvp : rowObj v ≠ some p := fun e => by have := hv p e; omega
 have hpl : p < H.next := hw.lt h2
 refine ⟨p, v', H', rfl, k1, ⟨by simp [h.len], ?_, fun {i q g} a b => ?_, ?_⟩, k3, ?_⟩
 ·have : rowsOf (ps ++ [p]) (F ++ [f]) = rowsOf ps F ++ [⟨zac8 p f, rfl⟩] := by
   unfold rowsOf
   rw [List.zip_append h.len]; simp
  rw [this]; exact k2
 ·have hobj : ∀ q, rowObj v ≠ some q -> q < H.next -> rowObj v' ≠ some q := fun q h1 h2 e => by
   rcases k4 q e with w | w
   ·exact h1 w
   ·omega
  by_cases e : i < ps.length
  ·rw [List.getElem?_append_left e] at a
   rw [List.getElem?_append_left (by rw [<- h.len]; exact e)] at b
   obtain ⟨c1, c2, c3, c4, c5⟩ := h.get a b
   exact ⟨k3.keep _ _ (hS q c5) c1, c2, c3, by rw [k3.floor]; exact c4, hobj q c5 (hw.lt c1)⟩
  ·rw [List.getElem?_append_right (by omega)] at a
   rw [List.getElem?_append_right (by rw [<- h.len]; omega)] at b
   have e2 : i - ps.length = 0 := by
    rcases Nat.eq_zero_or_pos (i - ps.length) with q0 | q0
    ·exact q0
    ·rw [List.getElem?_eq_none (by simp; omega)] at a; cases a
   rw [e2] at a
   rw [show i - F.length = 0 by rw [<- h.len]; exact e2] at b
   cases a; cases b
   exact ⟨k3.keep _ _ (hS p hvp) h2, hf, Nat.le_trans hrb hpr, by rw [k3.floor]; exact h3, hobj p hvp hpl⟩
 ·rw [List.pairwise_append]
  exact ⟨h.inc, by simp, fun a ha b hb => by simp at hb; subst hb; have := hlt a ha; omega⟩
 ·have := zay3 k1
  rw [zo9] at this; omega
def zw1 (H : Heap) (n : Nat) (F : List (List Int)) : Heap := zl4 { H with next := n } (F.map (fun f => f.flatMap zi7) ++ if F = [] then [] else [(List.range F.length).map fun i => zac8 (n + i) (F.getD i [])])
def zbk8 (n : Nat) (F : List (List Int)) : AV := if F = [] then .nils else .slc (n + F.length) 0 F.length 1 F.length false
theorem zbq0 (hw : H.Wf) {n : Nat} (hn : H.next <= n) : ({ H with next := n } : Heap).Wf := ⟨Nat.le_trans hw.1 hn, fun o ho => hw.2 o (Nat.le_trans hn ho)⟩
theorem zbk7 {n : Nat} (F : List (List Int)) {o : Nat} (ho : o < n) : (zw1 H n F).get o = H.get o := zw5 _ (H := { H with next := n }) ho
theorem zbk5 (n : Nat) {i : Nat} {f : List Int} (hf : F[i]? = some f) : (zw1 H n F).get (n + i) = some (.cells (f.flatMap zi7)) := by
 have hi : i < F.length := (List.getElem?_eq_some_iff.1 hf).1
 unfold zw1
 rw [show n + i = ({ H with next := n } : Heap).next + i from rfl, zw6 _ (by simp; omega), List.getElem?_append_left (by simpa using hi), List.getElem?_map, hf]; rfl
theorem zbk6 (n : Nat) (hF : F ≠ []) : (zw1 H n F).get (n + F.length) = some (.cells ((List.range F.length).map fun i => zac8 (n + i) (F.getD i []))) := by
 unfold zw1
 rw [if_neg hF, show n + F.length = ({ H with next := n } : Heap).next + F.length from rfl, zw6 _ (by simp), List.getElem?_append_right (by simp)]
 simp
theorem zai7.out (h : zai7 Hb H v ps F) {H0 : Heap} (hw0 : H0.Wf) (hold : ∀ o x, H0.get o = some x -> H.get o = some x) (hfl : H.floor = H0.floor) (hb : H0.next <= Hb.next) {n : Nat} (hn : H.next <= n) (hn0 : H0.next <= n) (c : AV) :
  Outs (.tup [v, c]) H (.tup [zbk8 n F, c]) (zw1 H0 n F) := by
 by_cases hF : F = []
 ·subst hF
  have hps : ps = [] := List.length_eq_zero_iff.1 h.len
  have hv : v = .nils := by
   rcases h.mine.ow with ⟨q, _⟩ | ⟨_, _, q, _⟩
   ·exact q
   ·rw [hps] at q; exact absurd rfl q
  subst hv
  have ev' : zbk8 n [] = .nils := rfl
  have eH : zw1 H0 n [] = { H0 with next := n } := rfl
  rw [ev', eH]
  exact Outs.same hfl.symm hn (fun o ho => hw0.2 o (Nat.le_trans hn0 ho)) (fun o x q => hold o x q)
 ·obtain ⟨q, hv, _, hq, hqf⟩ : ∃ q, v = .slc q 0 F.length 1 F.length false /\ rowsOf ps F ≠ [] /\ H.get q = some (.cells ((rowsOf ps F).flatMap onec)) /\ H.floor <= q := by
   rcases h.mine.ow with ⟨_, q⟩ | ⟨q, q1, q2, q3, q4⟩
   ·have := zu5 h.len
    rw [q] at this
    exact absurd (List.length_eq_zero_iff.1 this.symm) hF
   ·exact ⟨q, by rw [zu5 h.len] at q1; exact q1, q2, q3, q4⟩
  have ev' : zbk8 n F = .slc (n + F.length) 0 F.length 1 F.length false := if_neg hF
  have hcs : (F.map (fun f => f.flatMap zi7) ++ if F = [] then [] else [(List.range F.length).map fun i => zac8 (n + i) (F.getD i [])]).length = F.length + 1 := by rw [if_neg hF]; simp
  let f : Nat -> Nat := fun i => if i < F.length then ps.getD i 0 else q
  have fl : ∀ i, i < F.length -> ∃ p, ps[i]? = some p /\ f i = p := fun i hi => by
   have hp : i < ps.length := by rw [h.len]; exact hi
   exact ⟨ps[i], List.getElem?_eq_getElem hp, by show (if i < F.length then _ else _) = _; rw [if_pos hi]; simp [List.getD, List.getElem?_eq_getElem hp]⟩
  have fq : f F.length = q := by show (if F.length < F.length then _ else _) = _; rw [if_neg (by omega)]
  have ob : rowObj v = some q := by rw [hv]; rfl
  have wn := zbq0 hw0 hn0
  rw [ev', hv]
  refine ⟨n, F.length + 1, f, .two _ _ _ (by have := Rn.slc (f := f) (n := n) (k := F.length + 1) F.length 0 F.length 1 F.length false (by omega); rw [fq] at this; exact this), ?_⟩
  refine ⟨by unfold zw1; rw [zy9]; exact hfl.symm, hn, by unfold zw1; rw [zt7, hcs]; exact Nat.le_refl _, fun o ho => by unfold zw1; exact zap4 _ wn (by rw [hcs]; exact ho), fun i hi => ?_, fun i j hi hj e => ?_, fun o x ho hx => ?_, fun i hi => ?_⟩
  ·by_cases c : i < F.length
   ·obtain ⟨p, hp, hfp⟩ := fl i c
    have hg := List.getElem?_eq_getElem c
    obtain ⟨c1, _⟩ := h.get hp hg
    refine ⟨_, _, by rw [hfp]; exact c1, zbk5 n hg, rfl, fun j a b ha hb => ?_⟩
    rw [ha] at hb; cases hb; exact .same a
   ·have : i = F.length := by omega
    subst this
    refine ⟨_, _, by rw [fq]; exact hq, zbk6 n hF, ?_, fun j a b ha hb => ?_⟩
    ·rw [List.length_map, List.length_range, zg6 zq2, zu5 h.len]; omega
    ·have hj : j < F.length := by
      have := (List.getElem?_eq_some_iff.1 hb).1
      simpa using this
     rw [List.getElem?_map, List.getElem?_range hj] at hb
     cases hb
     obtain ⟨p, hp, hfp⟩ := fl j hj
     have hg := List.getElem?_eq_getElem hj
     have hfm : (rowsOf ps F).flatMap onec = (rowsOf ps F).map (·.1) := by
      rw [<- List.flatMap_singleton' ((rowsOf ps F).map _), List.flatMap_map]; rfl
     rw [hfm, List.getElem?_map, za55 hp hg] at ha
     cases ha
     have e2 : F.getD j [] = F[j] := by simp [List.getD, hg]
     show Rn f n (F.length + 1) (zac8 p F[j]) (zac8 (n + j) (F.getD j []))
     rw [e2]
     have := Rn.slc (f := f) (n := n) (k := F.length + 1) j 0 F[j].length 1 F[j].length false (by omega)
     rw [hfp] at this
     exact this
  ·have key : ∀ i j, i < F.length -> j < F.length + 1 -> i < j -> f i ≠ f j := fun i j hi hj hij e => by
    obtain ⟨p, hp, hfp⟩ := fl i hi
    by_cases c : j < F.length
    ·obtain ⟨p', hp', hfp'⟩ := fl j c
     obtain ⟨a1, a2⟩ := List.getElem?_eq_some_iff.1 hp
     obtain ⟨b1, b2⟩ := List.getElem?_eq_some_iff.1 hp'
     have := List.pairwise_iff_getElem.1 h.inc i j a1 b1 hij
     rw [a2, b2] at this
     omega
    ·have : j = F.length := by omega
     subst this
     rw [fq, hfp] at e
     have := (h.get hp (List.getElem?_eq_getElem hi)).2.2.2.2
     rw [ob] at this
     exact this (by rw [e])
   rcases Nat.lt_trichotomy i j with r | r | r
   ·exact absurd e (key i j (by omega) hj r)
   ·exact r
   ·exact absurd e.symm (key j i (by omega) hi r)
  ·rw [zbk7 F ho] at hx
   have hlt := hw0.lt hx
   refine ⟨fun i hi => ?_, hold o x hx⟩
   by_cases c : i < F.length
   ·obtain ⟨p, hp, hfp⟩ := fl i c
    have := (h.get hp (List.getElem?_eq_getElem c)).2.2.1
    omega
   ·have : i = F.length := by omega
    subst this
    rw [fq]
    have := h.mine.new q ob
    omega
  ·by_cases c : i < F.length
   ·obtain ⟨p, hp, hfp⟩ := fl i c
    rw [hfp]; exact (h.get hp (List.getElem?_eq_getElem c)).2.2.2.1
   ·have : i = F.length := by omega
    subst this
    rw [fq]; exact hqf
end
end Go.AI
namespace Go.AI
open Go.ChangeShapes Go.WideShapes Go.Deep
structure PArg (w : World) (o : Nat) (v : Value) (av : AV) (css : List (List AV)) (Ls : List (Option Loc)) (Q : Heap -> Prop) : Prop where
 ln : Ls.length = css.length
 rel : ∀ φ : Pl, (∀ k, k < Ls.length -> φ (o + k) = (Ls[k]?).join) -> zc3 φ av v
 mem : ∀ (k : Nat) (l : Loc), Ls[k]? = some (some l) -> ∀ cs, css[k]? = some cs -> l.blk < w.heap.size /\ (∀ φ : Pl, (∀ k, k < Ls.length -> φ (o + k) = (Ls[k]?).join) -> At φ w l cs) /\ l.base + cs.length <= l.size
 gd : ∀ H : Heap, (∀ k cs, css[k]? = some cs -> H.get (o + k) = some (.cells cs)) -> Q H
structure zah3 (w : World) (o : Nat) (vs : List Value) (avs : List AV) (css : List (List AV)) (Ls : List (Option Loc)) (Q : Heap -> Prop) : Prop where
 ln : Ls.length = css.length
 rel : ∀ φ : Pl, (∀ k, k < Ls.length -> φ (o + k) = (Ls[k]?).join) -> zg4 φ avs vs
 mem : ∀ (k : Nat) (l : Loc), Ls[k]? = some (some l) -> ∀ cs, css[k]? = some cs -> l.blk < w.heap.size /\ (∀ φ : Pl, (∀ k, k < Ls.length -> φ (o + k) = (Ls[k]?).join) -> At φ w l cs) /\ l.base + cs.length <= l.size
 gd : ∀ H : Heap, (∀ k cs, css[k]? = some cs -> H.get (o + k) = some (.cells cs)) -> Q H
theorem PArg.mono {w : World} {o : Nat} {v : Value} {av : AV} {css : List (List AV)} {Ls : List (Option Loc)} {Q R : Heap -> Prop} (h : PArg w o v av css Ls Q) (k : ∀ H, Q H -> R H) : PArg w o v av css Ls R :=
 ⟨h.ln, h.rel, h.mem, fun H g => k H (h.gd H g)⟩
theorem zah3.nil {w : World} {o : Nat} : zah3 w o [] [] [] [] (fun _ => True) :=
 ⟨rfl, fun _ _ => .nil, fun k l e => by simp at e, fun _ _ => trivial⟩
theorem zah3.cons {w : World} {o : Nat} {v : Value} {av : AV} {c1 : List (List AV)} {L1 : List (Option Loc)} {Q1 : Heap -> Prop} {vs : List Value} {avs : List AV} {c2 : List (List AV)} {L2 : List (Option Loc)} {Q2 : Heap -> Prop}
  (h : PArg w o v av c1 L1 Q1) (t : zah3 w (o + c1.length) vs avs c2 L2 Q2) : zah3 w o (v :: vs) (av :: avs) (c1 ++ c2) (L1 ++ L2) (fun H => Q1 H /\ Q2 H) := by
 have hln := h.ln
 have p1 : ∀ φ : Pl, (∀ k, k < (L1 ++ L2).length -> φ (o + k) = ((L1 ++ L2)[k]?).join) -> ∀ k, k < L1.length -> φ (o + k) = (L1[k]?).join := fun φ a k hk => by
  have := a k (by rw [List.length_append]; omega)
  rwa [List.getElem?_append_left hk] at this
 have p2 : ∀ φ : Pl, (∀ k, k < (L1 ++ L2).length -> φ (o + k) = ((L1 ++ L2)[k]?).join) -> ∀ k, k < L2.length -> φ (o + c1.length + k) = (L2[k]?).join := fun φ a k hk => by
  have := a (L1.length + k) (by rw [List.length_append]; omega)
  rw [List.getElem?_append_right (by omega), show L1.length + k - L1.length = k from by omega, <- Nat.add_assoc, hln] at this
  exact this
 refine ⟨by rw [List.length_append, List.length_append, h.ln, t.ln], fun φ a => .cons (h.rel φ (p1 φ a)) (t.rel φ (p2 φ a)), ?_, fun H g => ⟨h.gd H fun k cs e => g k cs ?_, t.gd H fun k cs e => ?_⟩⟩
 ·intro k l hk cs hc
  rcases Nat.lt_or_ge k L1.length with q | q
  ·rw [List.getElem?_append_left q] at hk
   rw [List.getElem?_append_left (by omega)] at hc
   obtain ⟨x1, x2, x3⟩ := h.mem k l hk cs hc
   exact ⟨x1, fun φ a => x2 φ (p1 φ a), x3⟩
  ·rw [List.getElem?_append_right q] at hk
   rw [List.getElem?_append_right (by omega), <- hln] at hc
   obtain ⟨x1, x2, x3⟩ := t.mem _ l hk cs hc
   exact ⟨x1, fun φ a => x2 φ (p2 φ a), x3⟩
 ·rw [List.getElem?_append_left (List.getElem?_eq_some_iff.1 e).1]; exact e
 ·rw [Nat.add_assoc]
  refine g _ _ ?_
  rw [List.getElem?_append_right (by omega), show c1.length + k - c1.length = k from by omega]; exact e
theorem zah3.agg {w : World} {o : Nat} {vs : Array Value} {avs : List AV} {css : List (List AV)} {Ls : List (Option Loc)} {Q : Heap -> Prop} (h : zah3 w o vs.toList avs css Ls Q) : PArg w o (.agg vs) (.agg avs) css Ls Q :=
 ⟨h.ln, fun φ a => .agg _ _ (h.rel φ a), h.mem, h.gd⟩
theorem PArg.int {w : World} {o : Nat} {k : IntKind} {n : Int} {Q : Prop} (q : Q) : PArg w o (.int k n) (.int k n) [] [] (fun _ => Q) :=
 ⟨rfl, fun _ _ => .int _ _, fun k l e => by simp at e, fun _ _ => q⟩
theorem PArg.bool {w : World} {o : Nat} {b : Bool} : PArg w o (.bool b) (.bool b) [] [] (fun _ => True) :=
 ⟨rfl, fun _ _ => .bool _, fun k l e => by simp at e, fun _ _ => trivial⟩
theorem PArg.sl {α : Type} {w : World} {o e : Nat} {en : α -> List AV} (hn : ∀ x, (en x).length = e) {v : Value} {xs : List α} {av : AV} {L : Option Loc} (h : zx8 w o e en v xs av L) : PArg w o v av [xs.flatMap en] [L] (fun H => Rw e en H av xs) :=
 ⟨rfl, fun φ a => h.1.rel φ (a 0 (by simp)), fun k l hk cs hc => by
  cases k with
  | zero =>
   simp at hk hc
   subst hc
   obtain ⟨x1, x2, x3⟩ := h.1.mem l hk
   exact ⟨x1, fun φ _ => x2 φ, x3⟩
  | succ k => simp at hk, fun H g => h.rw hn (g 0 _ rfl)⟩
theorem zbh0 {P : Program} {FT : Nat -> Option FnD} (hFT : zg3 P (fun _ => True) FT) {f : Nat} {vs : List Value} {avs : List AV} {css : List (List AV)} {Ls : List (Option Loc)} {Q : Heap -> Prop} {w : World}
  (h : zah3 w 0 vs avs css Ls Q) (hc : ∀ H : Heap, H.Wf -> Q H -> Cp FT f avs H fun r _ => r = .bool true) :
  Calls P f vs.toArray w fun e w' => e = .returned (.bool true) /\ RowKit.Below w.heap.size w w' := by
 have hφ : ∀ k, k < Ls.length -> (fun o => (Ls[o]?).join : Pl) (0 + k) = (Ls[k]?).join := fun k _ => by rw [Nat.zero_add]
 refine (zbh1 hFT (css := css) (Ls := Ls) (hc _ (za23 css.reverse) (h.gd _ fun k cs e => ?_)) rfl (h.rel _ hφ) h.ln (fun o l ho cs hcs => ?_) (fun _ _ => trivial)).mono ?_
 ·rw [Nat.zero_add, zbh7, e]; rfl
 ·obtain ⟨x1, x2, x3⟩ := h.mem o l ho cs hcs
  exact ⟨x1, x2 _ hφ, x3⟩
 ·rintro e w' ⟨r, rfl, hv, hb⟩
  cases hv
  exact ⟨rfl, hb⟩
section
variable {H : Type} {enc : TypeId × Value -> H} {P : Program} {w : World} {base : Nat} {held : Bool}
theorem zbf0 {t e : TypeId} {f0 f1 : Field} {fuel : Nat} {cs : List Value} {x : DataW H × List MemPlace} (o : Nat) (ht : P.underlying t = some (.slice e)) (he : P.underlying e = some (.struct #[f0, f1]))
  (ce : P.cellsOf e = 2) (o0 : f0.offset = 0) (o1 : f1.offset = 1) (c0 : P.cellsOf f0.type = 1) (c1 : P.cellsOf f1.type = 1) (u0 : P.underlying f0.type = some (.int .i64)) (u1 : P.underlying f1.type = some (.int .i64))
  (h : DataW.trod enc P w base (fun _ => true) held fuel t cs = some x) : ∃ v xs av css Ls, cs = [v] /\ PArg w o v av css Ls (fun H => Rw 2 za2 H av xs) := by
 obtain ⟨v, xs, av, L, h1, h2⟩ := za82 o ht he ce o0 o1 c0 c1 u0 u1 h
 exact ⟨v, xs, av, _, _, h1, PArg.sl zc6 h2⟩
theorem zbq3 {t e q : TypeId} {fuel : Nat} {cs : List Value} {x : DataW H × List MemPlace} (o : Nat) (ht : P.underlying t = some (.slice e)) (he : P.underlying e = some (.slice q)) (hq : P.underlying q = some (.int .i64)) (ce : P.cellsOf e = 1) (cq : P.cellsOf q = 1)
  (h : DataW.trod enc P w base (fun _ => true) held fuel t cs = some x) : ∃ v F av css Ls, cs = [v] /\ PArg w o v av css Ls (fun H => Gd H av F) := by
 rcases open_slice1 ht ce h with ⟨hcs, _⟩ | ⟨a, len, cap, m, n, V, D, Pl, rfl, hb, hl, hm, hmm, rfl, hx⟩
 ·subst hcs
  refine ⟨_, [], .nils, [], [], rfl, ⟨rfl, fun φ _ => .nils, fun k l e => by simp at e, fun H _ => ⟨⟨[], ⟨.inl ⟨rfl, rfl⟩, rfl⟩, rfl, fun i r f h => by simp at h⟩⟩⟩⟩
 ·simp only [if_true] at hmm
  subst hmm
  have each : ∀ r, r < len -> ∃ y : List Int × OneV × Option Loc, zx8 w (o + 1 + r) 1 zi7 (V r) y.1 y.2.1.1 y.2.2 := by
   intro r hr
   obtain ⟨v, xs, av, L, h1, h2⟩ := zbl5 (o + 1 + r) he hq cq (hx r (by omega)).2
   cases h1
   exact ⟨(xs, ⟨av, by rcases h2.2 with ⟨q, _⟩ | q <;> (rw [q]; rfl)⟩, L), h2⟩
  obtain ⟨y, hy⟩ := choose_lt each
  obtain ⟨L0, r0, m0⟩ := za83 (w := w) (Q := fun φ => ∀ r, r < len -> φ (o + 1 + r) = (y r).2.2) (a := a) (len := len) (cap := m) (e := 1) (o := o) (cs := ((List.range len).map fun r => (y r).2.1).flatMap onec) hl (by omega) (by rw [zg6 zq2]; simp)
   (fun i hi => ⟨_, (hx i (by omega)).1⟩) (fun i z hz => by
    have hfl : (((List.range len).map fun r => (y r).2.1).flatMap onec) = (List.range len).map fun r => (y r).2.1.1 := by
     generalize List.range len = l
     induction l with
     | nil => rfl
     | cons r l ih => simp only [List.map_cons, List.flatMap_cons, ih]; rfl
    rw [hfl, List.getElem?_map] at hz
    cases hr : (List.range len)[i]? with
    | none => rw [hr] at hz; cases hz
    | some r =>
     obtain ⟨h1, h2⟩ := List.getElem?_eq_some_iff.1 hr
     simp at h1 h2
     subst h2
     rw [hr] at hz
     simp at hz; subst hz
     exact ⟨_, (hx i (by omega)).1, fun φ hφ => (hy i h1).1.rel φ (hφ i h1)⟩)
  have hL : ∀ r, r < len -> ((L0 :: (List.range len).map fun r => (y r).2.2)[r + 1]?).join = (y r).2.2 := fun r hr => by simp [hr]
  refine ⟨_, (List.range len).map fun r => (y r).1, .slc o 0 len 1 len false, (((List.range len).map fun r => (y r).2.1).flatMap onec) :: (List.range len).map (fun r => (y r).1.flatMap zi7), L0 :: (List.range len).map (fun r => (y r).2.2), rfl, ⟨by simp, fun φ hφ => r0 φ (by have := hφ 0 (by simp); simpa using this), ?_, ?_⟩⟩
  ·intro k l hk cs hcs
   cases k with
   | zero =>
    simp at hk hcs
    subst hcs
    obtain ⟨h1, h2, h3⟩ := m0 l hk
    refine ⟨h1, fun φ hφ => h2 φ fun r hr => ?_, h3⟩
    have := hφ (r + 1) (by simp; omega)
    rw [hL r hr] at this
    rw [<- this]; congr 1; omega
   | succ k =>
    have hkl : k < len := by
     have := (List.getElem?_eq_some_iff.1 hk).1; simp at this; exact this
    simp [hkl] at hk hcs
    subst hcs
    obtain ⟨h1, h2, h3⟩ := (hy k hkl).1.mem l hk
    exact ⟨h1, fun φ _ => h2 φ, h3⟩
  ·intro Hp hg
   have g0 := hg 0 _ rfl
   refine ⟨⟨(List.range len).map fun r => (y r).2.1, ⟨.inr ⟨o, 0, len, false, by simp, ?_⟩, by simp [zo2]⟩, by simp, fun i r f h1 h2 => ?_⟩⟩
   ·unfold Heap.readSeg
    rw [show o + 0 = o from rfl] at g0
    rw [za3 g0]
    exact zo7 (by rw [zg6 zq2])
   ·have hil : i < len := by
     have := (List.getElem?_eq_some_iff.1 h1).1; simpa using this
    simp [hil] at h1 h2
    subst h1 h2
    have gi := hg (i + 1) ((y i).1.flatMap zi7) (by simp [hil])
    exact (hy i hil).rw zc9 (by rw [show o + 1 + i = o + (i + 1) from by omega]; exact gi)
end
end Go.AI
namespace Go.AI
section
variable {e : Opd -> AV} {H : Heap}
def zw9 (len sz : Nat) : AV -> AV -> Option AV
 | .ptr o off, .int _ i => if 0 <= i /\ i < len then some (.ptr o (off + i.toNat * sz)) else none
 | _, _ => none
@[simp] theorem p_indexAddrA {len sz : Nat} {x i : Opd} : zb2 e H (.indexAddrA len sz x i) = lft H (zw9 len sz (e x) (e i)) := zg0
theorem zar1 {len o i : Nat} {k : IntKind} (h : i < len) : zw9 len 1 (.ptr o 0) (.int k (i : Int)) = some (.ptr o i) := by
 show (if 0 <= (i : Int) /\ (i : Int) < len then some (AV.ptr o (0 + (i : Int).toNat * 1)) else none) = _
 rw [if_pos ⟨by omega, by omega⟩]
 simp
end
end Go.AI
namespace Go.AI
def zh2 (t : Int × Int × Int) : List AV := [.int .i64 t.1, .int .i64 t.2.1, .int .i64 t.2.2]
theorem zq0 (t : Int × Int × Int) : (zh2 t).length = 3 := rfl
abbrev Tris := Sl 3 zh2
theorem Tris.idx {H : Heap} {v : AV} {xs : List (Int × Int × Int)} (h : Tris H v xs) {k : IntKind} {i : Int} (h0 : 0 <= i) (h1 : i < xs.length) :
  ∃ o off x, xs[i.toNat]? = some x /\ zd7 3 v (.int k i) = some (.ptr o off) /\ za9 H (some 3) (.ptr o off) = some (.agg (zh2 x)) /\ za9 H none (.ptr o off) = some (.int .i64 x.1) /\ za9 H none (.ptr o (off + 1)) = some (.int .i64 x.2.1) /\ za9 H none (.ptr o (off + 2)) = some (.int .i64 x.2.2) := by
 rcases h with ⟨rfl, rfl⟩ | ⟨o, off, lo, ex, cs, rfl, hc, hx⟩
 ·simp at h1; omega
 ·have hl : i.toNat < xs.length := by omega
  have hg : xs[i.toNat]? = some xs[i.toNat] := List.getElem?_eq_getElem hl
  have hs := hx _ _ hg
  refine ⟨o, off + i.toNat * 3, _, hg, by simp only [zf2, h0, h1, and_self, if_true], by simp [ze3, hc, ze2, hs], ?_, ?_, ?_⟩ <;>
  ·unfold seg at hs
   cases hb : Nat.ble (off + i.toNat * 3 + 3) cs.length with
   | false => rw [hb] at hs; cases hs
   | true =>
    rw [hb] at hs; simp only [cond_true, Option.some.injEq] at hs
    have q0 := congrArg (fun l => l[0]?) hs
    have q1 := congrArg (fun l => l[1]?) hs
    have q2 := congrArg (fun l => l[2]?) hs
    simp [zh2] at q0 q1 q2
    simp [ze3, hc, ze2, q0, q1, q2]
theorem za28 {α : Type} {e : Nat} {enc : α -> List AV} (hn : ∀ x, (enc x).length = e) (hi : ∀ x y, enc x = enc y -> x = y) : ∀ {xs ys : List α}, xs.length = ys.length -> xs.flatMap enc = ys.flatMap enc -> xs = ys
 | [], [], _, _ => rfl
 | [], _ :: _, h, _ => by simp at h
 | _ :: _, [], h, _ => by simp at h
 | x :: xs, y :: ys, h, k => by
  rw [List.flatMap_cons, List.flatMap_cons] at k
  obtain ⟨k1, k2⟩ := List.append_inj k (by rw [hn, hn])
  rw [hi x y k1, za28 hn hi (by simpa using h) k2]
theorem Rw.inj {α : Type} {e : Nat} {enc : α -> List AV} (hn : ∀ x, (enc x).length = e) (hi : ∀ x y, enc x = enc y -> x = y) {H : Heap} {v : AV} {xs ys : List α} (h : Rw e enc H v xs) (k : Rw e enc H v ys) : xs = ys := by
 rcases h.sw with ⟨rfl, rfl⟩ | ⟨o, off, lo, ex, rfl, h1⟩
 ·rcases k.sw with ⟨_, rfl⟩ | ⟨_, _, _, _, q, _⟩
  ·rfl
  ·cases q
 ·rcases k.sw with ⟨q, _⟩ | ⟨o', off', lo', ex', q, h2⟩
  ·cases q
  ·injection q with q1 q2 q3 q4 q5 q6
   subst q1 q2
   rw [<- q3, h1] at h2
   exact za28 hn hi q3 (Option.some.inj h2)
theorem zaq0 (x y : Int × Int) (h : za2 x = za2 y) : x = y := by
 simp [za2] at h
 exact Prod.ext h.1 h.2
theorem zbn9 (x y : Int × Int × Int) (h : zh2 x = zh2 y) : x = y := by
 simp [zh2] at h
 exact Prod.ext h.1 (Prod.ext h.2.1 h.2.2)
def entb (s : Int × Int) : AV × AV := (.agg (za2 s), .bool true)
theorem zaf2 (s : Int × Int) : ∀ (L : List (Int × Int)) (j : Nat), (s ∈ L -> ∃ i, zk2 (.flat [.int, .int]) (.agg (za2 s)) (L.map entb) j = some (some (i, .bool true))) /\ (s ∉ L -> zk2 (.flat [.int, .int]) (.agg (za2 s)) (L.map entb) j = some none)
 | [], j => ⟨fun h => by simp at h, fun _ => rfl⟩
 | q :: L, j => by
  have ih := zaf2 s L (j + 1)
  simp only [List.map_cons, entb, zk2, z99]
  by_cases h : s = q
  ·refine ⟨fun _ => ⟨j, ?_⟩, fun k => absurd (by rw [h]; simp) k⟩
   rw [decide_eq_true h]
  ·rw [decide_eq_false h]
   exact ⟨fun k => ih.1 (by simpa [h] using k), fun k => ih.2 (fun w => k (List.mem_cons_of_mem _ w))⟩
theorem zp0 {H : Heap} {o : Nat} {L : List (Int × Int)} {s : Int × Int} (h : H.get o = some (.map (L.map entb))) :
  (zp1 H (.flat [.int, .int]) (.map o) (.agg (za2 s))).map (zt3 (.bool false) false) = some (.bool (decide (s ∈ L))) := by
 have hf := zaf2 s L 0
 unfold zp1
 simp only [h, zu7, cond_true]
 by_cases c : s ∈ L
 ·obtain ⟨i, hi⟩ := hf.1 c
  rw [hi]; simp [zt3, c]
 ·rw [hf.2 c]; simp [zt3, c]
theorem zaw8 {H : Heap} {o : Nat} {L : List (Int × Int)} {s : Int × Int} (hf : H.floor <= o) (h : H.get o = some (.map (L.map entb))) (hn : s ∉ L) :
  zl7 H (.flat [.int, .int]) (.map o) (.agg (za2 s)) (.bool true) = some (zb8, H.set o (.map ((L ++ [s]).map entb))) := by
 have hb : Nat.ble H.floor o = true := Nat.ble_eq_true_of_le hf
 unfold zl7
 simp only [h, hb, cond_true, zu7, (zaf2 s L 0).2 hn, List.map_append, List.map_cons, List.map_nil]
 rfl
open Go.ChangeShapes Go.WideShapes Go.Deep
section
variable {H : Type} {enc : TypeId × Value -> H} {P : Program} {w : World} {base : Nat} {held : Bool}
structure Msh (H : Heap) (av : AV) (Pt : List (Int × Int)) (T : List (Int × Int × Int)) (S : List (Int × Int)) : Prop where
 ex : ∃ vP vT vS, av = .agg [vP, vT, vS] /\ Rw 2 za2 H vP Pt /\ Rw 3 zh2 H vT T /\ Rw 2 za2 H vS S
theorem Msh.ext {H H' : Heap} {av : AV} {Pt : List (Int × Int)} {T : List (Int × Int × Int)} {S : List (Int × Int)} (h : Msh H av Pt T S) (k : Ext H H') : Msh H' av Pt T S := by
 obtain ⟨vP, vT, vS, e, a, b, c⟩ := h.ex
 exact ⟨vP, vT, vS, e, a.ext k, b.ext k, c.ext k⟩
theorem Msh.inj {H : Heap} {av : AV} {Pt Pt' : List (Int × Int)} {T T' : List (Int × Int × Int)} {S S' : List (Int × Int)} (h : Msh H av Pt T S) (k : Msh H av Pt' T' S') : Pt = Pt' /\ T = T' /\ S = S' := by
 obtain ⟨vP, vT, vS, e, a, b, c⟩ := h.ex
 obtain ⟨vP', vT', vS', e', a', b', c'⟩ := k.ex
 rw [e] at e'
 simp only [AV.agg.injEq, List.cons.injEq, and_true] at e'
 obtain ⟨rfl, rfl, rfl⟩ := e'
 exact ⟨a.inj zc6 zaq0 a', b.inj zq0 zbn9 b', c.inj zc6 zaq0 c'⟩
end
end Go.AI
