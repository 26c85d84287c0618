/- Operations in a frame: calls, and the growth of abstract memory. No claim by itself. -/
import Derived.Test.YtcepchipgjpkhaaEB
import Derived.LoopN
import Derived.Scope
namespace Go.AI
variable {P : Program} {G : World -> Prop}
structure zf5 (H H' : Heap) : Prop where
 next : H.next <= H'.next
 floor : H'.floor = H.floor
 low : ∀ o, o < H.floor -> H'.get o = H.get o
 fresh : (∀ o, H.next <= o -> H.get o = none) -> ∀ o, H'.next <= o -> H'.get o = none
theorem zf5.refl (H : Heap) : zf5 H H := ⟨Nat.le_refl _, rfl, fun _ _ => rfl, fun h => h⟩
theorem zf5.trans {a b c : Heap} (h : zf5 a b) (k : zf5 b c) : zf5 a c :=
 ⟨Nat.le_trans h.next k.next, k.floor.trans h.floor, fun o ho => (k.low o (by rw [h.floor]; exact ho)).trans (h.low o ho), fun f => k.fresh (h.fresh f)⟩
theorem zf5.push {H : Heap} (x : zo4) (h : H.floor <= H.next) : zf5 H (H.push x) :=
 ⟨Nat.le_succ _, rfl, fun o ho => by rw [Heap.get_push, if_neg (by omega)], fun f o ho => by
  have : o ≠ H.next := by intro q; subst q; exact absurd ho (Nat.not_succ_le_self _)
  rw [Heap.get_push, if_neg this]; exact f o (Nat.le_of_succ_le ho)⟩
theorem zf5.set {H : Heap} {o : Nat} {x0 : zo4} (x : zo4) (h : H.floor <= o) (hx : H.get o = some x0) : zf5 H (H.set o x) :=
 ⟨Nat.le_refl _, rfl, fun p hp => by rw [Heap.get_set, if_neg (by omega)], fun f p hp => by
  have : p ≠ o := by intro q; subst q; rw [f p hp] at hx; cases hx
  rw [Heap.get_set, if_neg this]; exact f p hp⟩
theorem zf5.write {H H' : Heap} {o off : Nat} {xs : List AV} (h : H.writeSeg o off xs = some H') : zf5 H H' := by
 obtain ⟨hf, cs, hc, _, _, rfl⟩ := zk3 h
 exact zf5.set _ hf (zn1 hc)
theorem zbe0 {e : Opd -> AV} {H H' : Heap} {ao : AOp} {a : AV} (h : ze8 e H ao = some (a, H')) (hf : H.floor <= H.next) : zf5 H H' := by
 by_cases hr : ao.isRead = true
 case neg =>
  rw [zw4 e H ao (by simpa using hr)] at h
  cases hp : zb9 e ao <;> simp [hp] at h
  rw [<- h.2]; exact zf5.refl _
 cases ao <;> first | (cases hr; done) | skip
 case allocB t => simp only [ze8] at h; cases h; exact zf5.push _ hf
 case alloc z =>
  simp only [ze8] at h
  cases h1 : za5 z <;> simp [h1] at h
  rw [<- h.2]; exact zf5.push _ hf
 case box x =>
  simp only [ze8] at h
  cases h1 : za5 (e x).cells <;> simp [h1] at h
  rw [<- h.2]; exact zf5.push _ hf
 case buildSlice sz len z ps =>
  simp only [ze8] at h
  cases hb : Nat.beq z.length (len * sz) with
  | false => simp only [hb, cond_false] at h; cases h
  | true =>
   simp only [hb, cond_true] at h
   cases hq : zh0 e z ps <;> simp [hq] at h
   rw [<- h.2]; exact zf5.push _ hf
 case load n x =>
  simp only [ze8] at h
  split at h
  ·rename_i o off _
   cases hc : H.cellsAt o with
   | none => simp [hc] at h
   | some cs => cases hp : ze2 cs off n <;> simp [hc, hp] at h; rw [<- h.2]; exact zf5.refl _
  ·cases h
 case convert c x =>
  cases c <;> first | (cases hr; done) | skip
  ·simp only [ze8] at h
   split at h
   ·cases h; exact zf5.refl _
   ·rename_i o off len _ _ _
    cases hc : H.readSeg o off len with
    | none => simp [hc] at h
    | some cs => cases hp : bytesOf cs <;> simp [hc, hp] at h; rw [<- h.2]; exact zf5.refl _
   ·cases h
  ·simp only [ze8] at h
   split at h
   ·cases h; exact zf5.push _ hf
   ·cases h
 case makeMap hint =>
  simp only [ze8] at h
  split at h
  ·cases h; exact zf5.push _ hf
  ·split at h
   ·cases h; exact zf5.push _ hf
   ·cases h
 case makeSlice sz by_ z l c =>
  simp only [ze8] at h
  split at h
  ·split at h
   ·cases hb : (Nat.beq z.length sz && za5 z) with
    | false => simp only [hb, cond_false] at h; cases h
    | true => simp only [hb, cond_true] at h; cases h; exact zf5.push _ hf
   ·cases h
  ·cases h
 case sliceA n sz x lo hi =>
  simp only [ze8] at h
  split at h
  ·split at h
   ·rename_i cs _
    rename_i o off _ _ _
    cases hb : Nat.ble (off + n * sz) cs.length with
    | false => simp only [hb, cond_false] at h; cases h
    | true =>
     simp only [hb, cond_true] at h
     cases hq : zd8 n n true (lo.map e) (hi.map e) none <;> simp [hq] at h
     rw [<- h.2]; exact zf5.refl _
   ·cases h
  ·cases h
 case lookup d z ok m k =>
  simp only [ze8] at h
  cases hl : zp1 H d (e m) (e k) <;> simp [hl] at h
  rw [<- h.2]; exact zf5.refl _
 case len d x =>
  cases d <;> first | (cases hr; done) | skip
  simp only [ze8] at h
  split at h
  ·cases h; exact zf5.refl _
  ·split at h
   ·cases h; exact zf5.refl _
   ·cases h
  ·cases h
 case rangeS x =>
  simp only [ze8] at h
  split at h
  ·cases h; exact zf5.push _ hf
  ·cases h
theorem zay4 {e by_ : Nat} {H H' : Heap} {x y a : AV} (h : zc4 e by_ H x y = some (a, H')) (hf : H.floor <= H.next) : zf5 H H' := by
 unfold zc4 at h
 split at h
 ·cases h
 rename_i n new _
 cases h1 : za5 new with
 | false => simp [h1] at h
 | true =>
 simp only [h1, cond_true] at h
 split at h
 ·cases hn : Nat.beq n 0 with
  | true => simp only [hn, cond_true] at h; cases h; exact zf5.refl _
  | false =>
   simp only [hn, cond_false] at h
   cases hbd : Nat.ble ((2 * n + 1024) * by_) (2 ^ 48) with
   | false => simp only [hbd, cond_false] at h; cases h
   | true => simp only [hbd, cond_true] at h; cases h; exact zf5.push _ hf
 ·rename_i o off len e' lo ex
  cases hee : Nat.beq e e' with
  | false => simp [hee] at h
  | true =>
   simp only [hee, cond_true] at h
   cases hn : Nat.beq n 0 with
   | true => simp only [hn, cond_true] at h; cases h; exact zf5.refl _
   | false =>
    simp only [hn, cond_false] at h
    cases hlo : Nat.ble (len + n) lo with
    | true =>
     simp only [hlo, cond_true] at h
     cases hw : H.writeSeg o (off + len * e) new with
     | none => simp [hw] at h
     | some H2 => simp [hw] at h; rw [<- h.2]; exact zf5.write hw
    | false =>
     simp only [hlo, cond_false] at h
     cases hbd : Nat.ble ((2 * (len + n) + 1024) * by_) (2 ^ 48) with
     | false => simp only [hbd, cond_false] at h; cases h
     | true =>
      simp only [hbd, cond_true] at h
      split at h
      ·cases h
      rename_i old hrs
      obtain ⟨cs, hcs, _⟩ := zq1 hrs
      cases ex with
      | true => simp only [cond_true] at h; cases h; exact zf5.push _ hf
      | false =>
       simp only [cond_false] at h
       cases hfl : Nat.ble H.floor o with
       | false => simp [hfl] at h
       | true =>
        simp only [hfl, cond_true] at h; cases h
        exact (zf5.set .dead (Nat.le_of_ble_eq_true hfl) (zn1 hcs)).trans (zf5.push _ hf)
 ·cases h
theorem za53 {e : Opd -> AV} {H H' : Heap} {ao : AOp} {a : AV} (h : zd1 e H ao = some (a, H')) (hf : H.floor <= H.next) : zf5 H H' := by
 cases ao <;> first | (simp [zd1] at h; done) | skip
 case store n p x =>
  simp only [zd1] at h
  split at h
  ·rename_i o off _
   cases hb : Nat.beq (e x).cells.length n with
   | false => simp [hb] at h
   | true =>
    simp only [hb, cond_true] at h
    cases hw : H.writeSeg o off (e x).cells with
    | none => simp [hw] at h
    | some H2 => simp [hw] at h; rw [<- h.2]; exact zf5.write hw
  ·cases h
 case freeze x =>
  simp only [zd1] at h
  split at h
  ·rename_i o _ _ _ lo _ _
   cases hb : (Nat.ble H.floor o && Nat.ble 1 lo) with
   | false => simp only [hb, cond_false] at h; cases h
   | true =>
    simp only [hb, cond_true] at h
    split at h
    ·cases h; exact zf5.refl _
    ·cases h
  ·cases h
 case mapUpdate d m k v =>
  simp only [zd1] at h
  split at h
  ·rename_i o _
   cases hb : Nat.ble H.floor o with
   | false => simp [hb] at h
   | true =>
    simp only [hb, cond_true] at h
    split at h
    ·rename_i es he
     cases hp : plainKey d (e k) with
     | false => simp [hp] at h
     | true =>
      simp only [hp, cond_true] at h
      split at h
      ·cases h
      ·cases h; exact zf5.set _ (Nat.le_of_ble_eq_true hb) he
      ·cases h; exact zf5.set _ (Nat.le_of_ble_eq_true hb) he
    ·cases h
  ·cases h
 case append sz by_ x y => exact zay4 h hf
 case copy sz x y =>
  simp only [zd1] at h
  unfold zaf8 at h
  split at h
  ·cases hs : srcN sz H 0 (e y) <;> simp [hs] at h
   rw [<- h.2]; exact zf5.refl _
  ·rename_i o off len e' lo ex _
   cases hee : Nat.beq sz e' with
   | false => simp [hee] at h
   | true =>
    simp only [hee, cond_true] at h
    split at h
    ·cases h
    rename_i n cs _
    cases hz : Nat.beq cs.length 0 with
    | true => simp only [hz, cond_true] at h; cases h; exact zf5.refl _
    | false =>
     simp only [hz, cond_false] at h
     cases hw : H.writeSeg o off cs with
     | none => simp [hw] at h
     | some H2 => simp [hw] at h; rw [<- h.2]; exact zf5.write hw
  ·cases h
 case delete d m k =>
  simp only [zd1] at h
  split at h
  ·cases hp : plainKey d (e k) <;> simp [hp] at h
   rw [<- h.2]; exact zf5.refl _
  ·rename_i o _
   cases hb : Nat.ble H.floor o with
   | false => simp [hb] at h
   | true =>
    simp only [hb, cond_true] at h
    split at h
    ·rename_i es he
     cases hp : plainKey d (e k) with
     | false => simp [hp] at h
     | true =>
      simp only [hp, cond_true] at h
      split at h
      ·cases h
      ·cases h; exact zf5.set _ (Nat.le_of_ble_eq_true hb) he
      ·cases h; exact zf5.refl _
    ·cases h
  ·cases h
 case clearMap m =>
  simp only [zd1] at h
  split at h
  ·cases h; exact zf5.refl _
  ·rename_i o _
   cases hb : Nat.ble H.floor o with
   | false => simp [hb] at h
   | true =>
    simp only [hb, cond_true] at h
    split at h
    ·rename_i es he; cases h; exact zf5.set _ (Nat.le_of_ble_eq_true hb) he
    ·cases h
  ·cases h
 case clearSlice z x =>
  simp only [zd1] at h
  split at h
  ·cases h; exact zf5.refl _
  ·rename_i o off len sz lo ex _
   cases hb : (Nat.beq z.length sz && Nat.ble 1 sz) with
   | false => simp only [hb, cond_false] at h; cases h
   | true =>
    simp only [hb, cond_true] at h
    cases hl : Nat.beq len 0 with
    | true => simp only [hl, cond_true] at h; cases h; exact zf5.refl _
    | false =>
     simp only [hl, cond_false] at h
     cases hw : H.writeSeg o off ((List.replicate len z).flatten) with
     | none => simp [hw] at h
     | some H2 => simp [hw] at h; rw [<- h.2]; exact zf5.write hw
  ·cases h
 case nextS it =>
  simp only [zd1] at h
  split at h
  ·rename_i o _
   cases hb : Nat.ble H.floor o with
   | false => simp [hb] at h
   | true =>
    simp only [hb, cond_true] at h
    split at h
    ·rename_i s pos he
     split at h
     ·cases h; exact zf5.set _ (Nat.le_of_ble_eq_true hb) he
     ·cases h; exact zf5.refl _
    ·cases h
  ·cases h
theorem za63 {e : Opd -> AV} {H H' : Heap} {ao : AOp} {a : AV} (h : zb2 e H ao = some (a, H')) (hf : H.floor <= H.next) : zf5 H H' := by
 unfold zb2 at h
 cases hw : ao.writes with
 | true => rw [hw] at h; exact za53 h hf
 | false => rw [hw] at h; exact zbe0 h hf
def zm1 (cf : zj5) : Prop := ∀ f args H v H', cf f args H = some (v, H') -> H.floor <= H.next -> zf5 H H'
theorem zae1 {cf : zj5} (hcf : zm1 cf) {τ : Env} {H H' : Heap} {ao : AOp} {a : AV} (h : zl6 cf τ H ao = some (a, H')) (hf : H.floor <= H.next) : zf5 H H' := by
 unfold zl6 at h
 split at h
 ·split at h
  ·exact hcf _ _ _ _ _ h hf
  ·cases h
 ·exact za63 h hf
def FnOk (P : Program) (f : Nat) : Prop := ∃ fn, P.funcs[f]? = some fn /\ (fn.name == "runtime.NumGoroutine") = false /\ fn.body.isNone = false
def Ret (G : World -> Prop) (B W Z : Nat) (φ : Pl) (H : Heap) (w : World) (v : AV) (H' : Heap) (e : Ending) (w' : World) : Prop :=
 ∃ φ' r, e = .returned r /\ zc3 φ' v r /\ zc7 G B W Z φ' H' w' /\ Step φ H w φ' H' w'
def zl0 (P : Program) (G : World -> Prop) (cf : zj5) : Prop :=
 ∀ (B W Z : Nat) (f : Nat) (args : List AV) (H : Heap) (v : AV) (H' : Heap) (φ : Pl) (w : World) (avs : List Value), cf f args H = some (v, H') -> zg4 φ args avs -> zc7 G B W Z φ H w -> H'.next <= Z ->
  FnOk P f /\ Calls P f avs.toArray w (Ret G B W Z φ H w v H')
theorem zae0 {cf : zj5} (hcf : zl0 P G cf) {B W Z : Nat} {φ : Pl} {H H' : Heap} {w : World} {τ : Env} {act : Act} {o : Oper} {ao : AOp} {a : AV} {next : Act -> World -> Prop} {Q : Exit -> Act -> World -> Prop}
  (hc : cop P o.op = some ao) (hx : XRel φ (ev τ) act.eval o.op.operands.toList) (hH : zc7 G B W Z φ H w) (h : zl6 cf τ H ao = some (a, H')) (hK : H'.next <= Z)
  (hnext : ∀ φ' v w', zc3 φ' a v -> zc7 G B W Z φ' H' w' -> Step φ H w φ' H' w' -> next (act.put o.dst v) w') : o.wp P act w next Q := by
 unfold zl6 at h
 split at h
 ·rename_i f args
  have hcall : ∃ f0 as ts, o.op = .call ⟨.value f0, as, ts⟩ /\ zk0 f0 = some f /\ zj8 as.toList = some args := by
   generalize o.op = op at hc
   cases op <;> simp only [cop] at hc
   case call c =>
    obtain ⟨callee, as, ts⟩ := c
    cases callee with
    | value f0 =>
     simp only at hc
     cases h1 : zk0 f0 <;> cases h2 : zj8 as.toList <;> simp [h1, h2] at hc
     obtain ⟨rfl, rfl⟩ := hc
     exact ⟨f0, as, ts, rfl, h1, h2⟩
    | invoke r m => simp at hc
    | builtin b =>
     simp only at hc
     unfold zv1 at hc
     split at hc
     ·split at hc
      ·rename_i el _ _ _
       cases hn : zb3 P el <;> cases hb : zg7 P el <;> cases hz : zc5 P el <;> simp [hn, hb, hz] at hc
       obtain ⟨_, hc⟩ := hc
       obtain ⟨_, _, _, _, q⟩ := zc1 hc; cases q
      ·rename_i el _ _
       cases hn : zb3 P el <;> cases hb : zg7 P el <;> cases hz : zc5 P el <;> simp [hn, hb, hz] at hc
       obtain ⟨_, hc⟩ := hc
       obtain ⟨_, _, _, _, q⟩ := zc1 hc; cases q
      ·cases hc
     ·split at hc <;> first | (cases hc; done) | (obtain ⟨_, _, q⟩ := zb0 hc; cases q)
     ·split at hc <;> first | (cases hc; done) | (obtain ⟨_, _, q⟩ := zb0 hc; cases q)
     ·split at hc
      ·rename_i el _
       cases hn : zb3 P el <;> simp [hn] at hc
       obtain ⟨_, _, _, _, q⟩ := zc1 hc; cases q
      ·cases hc
     ·split at hc <;> first | (cases hc; done) | (obtain ⟨_, _, _, _, q⟩ := zc1 hc; cases q)
     ·split at hc
      ·obtain ⟨_, _, q⟩ := zb0 hc; cases q
      ·rename_i el _
       cases hz : zc5 P el <;> simp [hz] at hc
       obtain ⟨_, _, q⟩ := zb0 hc; cases q
      ·cases hc
     ·cases hq : zj8 as.toList <;> simp [hq] at hc
     ·cases hq : zj8 as.toList <;> simp [hq] at hc
     ·cases hc
   all_goals first
    | (obtain ⟨_, _, q⟩ := zb0 hc; cases q; done)
    | (obtain ⟨_, _, _, _, q⟩ := zc1 hc; cases q; done)
    | (obtain ⟨_, _, _, _, _, _, q⟩ := zn5 hc; cases q; done)
    | (cases hc; done)
    | skip
   case alloc t =>
    by_cases hbl : zaw9 P t = true
    ·simp [hbl] at hc
    cases hz : zc5 P t <;> simp [hbl, hz] at hc
   case build t parts =>
    split at hc
    ·rename_i fs _
     cases hz : zc5 P t <;> cases hp : placesOf P fs.toList <;> simp [hz, hp] at hc
    ·rename_i el _
     cases hz : zc5 P t <;> cases hp : zb3 P el <;> simp [hz, hp] at hc
    ·cases hc
   case buildSlice t len parts =>
    split at hc
    ·rename_i el ht
     cases hn : zb3 P el <;> cases hz : zc5 P el <;> simp [hn, hz] at hc
    ·cases hc
   case insert t m k x => split at hc <;> first | (cases hc; done) | (obtain ⟨_, _, _, _, _, _, q⟩ := zn5 hc; cases q)
   case load t x =>
    cases ht : zh9 P t <;> simp [ht] at hc
    obtain ⟨_, _, q⟩ := zb0 hc; cases q
   case store t x y =>
    cases ht : zb3 P t <;> simp [ht] at hc
    obtain ⟨_, _, _, _, q⟩ := zc1 hc; cases q
   case convert s d x =>
    split at hc
    ·obtain ⟨_, _, q⟩ := zb0 hc; cases q
    ·obtain ⟨_, _, q⟩ := zb0 hc; cases q
    ·split at hc <;> first | (cases hc; done) | (obtain ⟨_, _, q⟩ := zb0 hc; cases q)
    ·split at hc <;> first | (cases hc; done) | (obtain ⟨_, _, q⟩ := zb0 hc; cases q)
    ·by_cases hsd : s = d
     ·rw [if_pos hsd] at hc
      split at hc <;> first | (cases hc; done) | (obtain ⟨_, _, q⟩ := zb0 hc; cases q)
     ·rw [if_neg hsd] at hc; cases hc
    ·cases hc
   case sliceToArrayPointer t x => split at hc <;> first | (cases hc; done) | (obtain ⟨_, _, q⟩ := zb0 hc; cases q)
   case makeFunc fn first captured =>
    cases fn <;> simp only at hc <;> first | (cases hc; done) | skip
    cases h1 : zj8 first.toList <;> cases h2 : zj8 captured.toList <;> simp [h1, h2] at hc
   case makeMap t r =>
    split at hc
    ·cases hq : zq8 r <;> simp [hq] at hc
    ·cases hc
   case makeSlice t l c =>
    split at hc
    ·rename_i el ht
     cases hn : zb3 P el <;> cases hb : zg7 P el <;> cases hz : zc5 P el <;> simp [hn, hb, hz] at hc
     obtain ⟨_, _, _, _, q⟩ := zc1 hc; cases q
    ·cases hc
   case slice t x lo hi mx =>
    split at hc
    ·split at hc
     ·cases hc
     ·cases h1 : zk0 x <;> cases h2 : zq8 lo <;> cases h3 : zq8 hi <;> simp [h1, h2, h3] at hc
    ·rename_i el ht
     cases hn : zb3 P el <;> cases h1 : zk0 x <;> cases h2 : zq8 lo <;> cases h3 : zq8 hi <;> cases h4 : zq8 mx <;> simp [hn, h1, h2, h3, h4] at hc
    ·split at hc
     ·cases hc
     ·rename_i k el ht hmx
      cases hn : zb3 P el <;> cases h1 : zk0 x <;> cases h2 : zq8 lo <;> cases h3 : zq8 hi <;> simp [hn, h1, h2, h3] at hc
    ·cases hc
   case fieldAddr s x f =>
    split at hc
    ·split at hc
     ·split at hc
      ·cases hc
      ·obtain ⟨_, _, q⟩ := zb0 hc; cases q
      ·cases hc
     ·cases hc
    ·cases hc
   case field s x f =>
    split at hc
    ·split at hc
     ·rename_i fd hfd
      cases hn : zh9 P fd.type <;> simp [hn] at hc
      obtain ⟨_, _, q⟩ := zb0 hc; cases q
     ·cases hc
    ·cases hc
   case indexAddr t x i =>
    split at hc
    ·rename_i el ht
     cases hn : zb3 P el <;> simp [hn] at hc
     obtain ⟨_, _, _, _, q⟩ := zc1 hc; cases q
    ·rename_i k el ht
     cases hn : zb3 P el <;> simp [hn] at hc
     obtain ⟨_, _, _, _, q⟩ := zc1 hc; cases q
    ·cases hc
   case index t x i =>
    split at hc
    ·rename_i k el ht
     cases hn : zb3 P el <;> cases ha : zh9 P el <;> simp [hn, ha] at hc
     obtain ⟨_, _, _, _, q⟩ := zc1 hc; cases q
    ·obtain ⟨_, _, _, _, q⟩ := zc1 hc; cases q
    ·cases hc
   case lookup t x i ok =>
    split at hc
    ·rename_i k el ht
     cases hz : zc5 P el <;> simp [hz] at hc
     obtain ⟨_, _, _, _, q⟩ := zc1 hc; cases q
    ·cases hc
   case mapUpdate t m k x => split at hc <;> first | (cases hc; done) | (obtain ⟨_, _, _, _, _, _, q⟩ := zn5 hc; cases q)
   case range t x => split at hc <;> first | (cases hc; done) | (obtain ⟨_, _, q⟩ := zb0 hc; cases q)
   case next it s => cases s <;> simp only at hc <;> first | (cases hc; done) | (obtain ⟨_, _, q⟩ := zb0 hc; cases q)
  obtain ⟨f0, as, ts, hop, hf0, has⟩ := hcall
  split at h
  ·rename_i g first captured hg
   have r1 := hx f0 (by simp [hop, Op.operands, Call.operands]) f hf0
   have r2 := XRel.list has (fun x hx' => hx x (by simp [hop, Op.operands, Call.operands]; exact .inr (by simpa using hx')))
   rw [hg] at r1
   generalize hv : act.eval f0 = fv at r1
   cases r1 with
   | fn _ _ _ fs cs q1 q2 =>
    have hargs : zg4 φ (first ++ args.map (ev τ) ++ captured) (fs.toList ++ as.toList.map act.eval ++ cs.toList) := (q1.append r2).append q2
    obtain ⟨⟨fn, k1, k2, k3⟩, hcalls⟩ := hcf B W Z g _ H a H' φ w _ h hargs hH hK
    have hrun : (execOp act.eval o).run P w = .ok (.enter g (fs.toList ++ as.toList.map act.eval ++ cs.toList).toArray) w := by
     have e1 : execOp act.eval o = (do let d <- resolve act.eval ⟨.value f0, as, ts⟩ o.type; invoke d.target d.args) := by
      obtain ⟨dst, op, type, pos, after, guard⟩ := o
      simp only at hop; subst hop; rfl
     have e2 : (fs ++ as.map act.eval ++ cs) = (fs.toList ++ as.toList.map act.eval ++ cs.toList).toArray := by
      apply Array.toList_inj.1; simp
     rw [e1]
     simp only [resolve, Sem.run_bind, hv, Deferred.ofValue, Sem.run_pure, Result.andThen_ok, invoke, callFunc, run_program, k1]
     simp [k2, k3, e2]
    unfold Oper.wp
    rw [hrun]
    simp only [Oper.upon]
    refine hcalls.mono ?_
    rintro e w' ⟨φ', r, rfl, hv', hH', hs⟩
    exact hnext φ' r w' hv' hH' hs
  ·cases h
 ·obtain ⟨v, φ', w', hr, hv, hH', hs⟩ := zav8 hc hx hH h hK
  unfold Oper.wp
  rcases hr with hr | ⟨hr, rfl⟩
  ·rw [hr]; exact hnext φ' v w' hv hH' hs
  ·rw [hr]; exact hnext φ' undef w' hv hH' hs
end Go.AI
namespace Go.AI
variable {P : Program} {G : World -> Prop}
structure zp7 (φ : Pl) (N : Nat) (τ : Env) (a : Act) : Prop where
 size : a.tmps.size = N
 at_ : ∀ t, zc3 φ (Env.at τ t) (a.tmps.getD t undef)
theorem zp7.mono {φ φ' : Pl} {N : Nat} {τ : Env} {a : Act} (h : zp7 φ N τ a) (hφ : φ.le φ') : zp7 φ' N τ a := ⟨h.size, fun t => (h.at_ t).mono hφ⟩
theorem zy8 (a : Act) (d : Option Tmp) (v : Value) : (a.put d v).tmps = match d with | some d => a.tmps.setIfInBounds d v | none => a.tmps := by cases d <;> rfl
theorem put_defers (a : Act) (d : Option Tmp) (v : Value) : (a.put d v).defers = a.defers := by cases d <;> rfl
theorem zat4 (τ : Env) (d : Option Nat) (x : AV) (t : Nat) : Env.at (putA τ d x) t = if d = some t then x else Env.at τ t := by
 cases d with
 | none => simp [putA]
 | some d =>
  simp only [putA, Env.at, Tr.get_set, Option.some.injEq]
  by_cases h : t = d
  ·subst h; simp
  ·simp [h, Ne.symm h]
theorem za25 (a : Act) (d : Option Tmp) (v : Value) (t : Nat) (hd : ∀ k, d = some k -> k < a.tmps.size) : (a.put d v).tmps.getD t undef = if d = some t then v else a.tmps.getD t undef := by
 cases d with
 | none => simp [Act.put]
 | some d =>
  have := hd d rfl
  simp only [Act.put, Array.getD_eq_getD_getElem?, Array.getElem?_setIfInBounds, Option.some.injEq]
  by_cases h : d = t
  ·subst h; simp [this]
  ·simp [h]
theorem zp7.put {φ : Pl} {N : Nat} {τ : Env} {a : Act} (h : zp7 φ N τ a) (d : Option Tmp) (hd : ∀ k, d = some k -> k < N) {x : AV} {v : Value} (hv : zc3 φ x v) : zp7 φ N (putA τ d x) (a.put d v) := by
 refine ⟨by rw [zy8]; cases d <;> simp [h.size], fun t => ?_⟩
 rw [zat4, za25 a d v t (by rw [h.size]; exact hd)]
 split
 ·exact hv
 ·exact h.at_ t
theorem zp7.ev {φ : Pl} {N : Nat} {τ : Env} {a : Act} (h : zp7 φ N τ a) (xs : List Operand) : XRel φ (ev τ) a.eval xs := by
 intro x _ y hy
 cases x with
 | tmp t => simp [zk0] at hy; subst hy; exact h.at_ t
 | const v =>
  cases hc : cval v <;> simp [zk0, hc] at hy
  subst hy; exact zan3 hc
 | global g => simp [zk0] at hy
 | func f => simp [zk0] at hy; subst hy; exact .fn f [] [] _ _ .nil .nil
structure zp6 (P : Program) (ops : Array Oper) (N : Nat) (o : Oper) (ao : zb6) : Prop where
 op : cop P o.op = some ao.op \/ ao.op = .bad
 dst : ao.dst = o.dst
 dlt : ∀ d, o.dst = some d -> d < N
 guard : match o.guard, ao.guard with
  | none, none => True
  | some (j, b), some (t, b') => b = b' /\ t < N /\ (ops[j]?).bind (·.dst) = some t
  | _, _ => False
theorem zba0 {ops : Array Oper} {N : Nat} {o : Oper} {ao : zb6} (h : zp6 P ops N o ao) {φ : Pl} {τ : Env} {a : Act} (hs : a.tmps.size = N) (hg : ∀ t b, ao.guard = some (t, b) -> zc3 φ (Env.at τ t) (a.tmps.getD t undef)) :
  Region.wanted o (yielded ops a.tmps) = ze5 τ ao.guard := by
 have := h.guard
 unfold Region.wanted ze5
 cases ho : o.guard with
 | none => cases ha : ao.guard <;> simp [ho, ha] at this ⊢
 | some jb =>
  obtain ⟨j, b⟩ := jb
  cases ha : ao.guard with
  | none => simp [ho, ha] at this
  | some tb =>
   obtain ⟨t, b'⟩ := tb
   simp [ho, ha] at this
   obtain ⟨rfl, ht, hd⟩ := this
   have hv := hg t b ha
   simp only [yielded]
   have hb : ((ops[j]?).bind (·.dst)).bind (a.tmps[·]?) = some (a.tmps.getD t undef) := by
    rw [hd]
    have ht' : t < a.tmps.size := by rw [hs]; exact ht
    simp [Array.getD_eq_getD_getElem?, ht']
   rw [hb]
   generalize a.tmps.getD t undef = u at hv
   generalize Env.at τ t = x at hv
   cases hv <;> rfl
def Heap.raise (H : Heap) : Heap := { H with floor := H.next }
theorem zc7.raise {B W Z : Nat} {φ : Pl} {H : Heap} {w : World} (h : zc7 G B W Z φ H w) : zc7 G B W Z φ H.raise w :=
 ⟨Nat.le_trans h.fl h.fn, Nat.le_refl _, h.wsz, h.dom, h.fresh, h.obj, h.low, h.high, h.inj, h.good⟩
theorem zc7.lower {B W Z : Nat} {φ : Pl} {H : Heap} {w : World} {f : Nat} (h : zc7 G B W Z φ H w) (h1 : B <= f) (h2 : f <= H.next) : zc7 G B W Z φ { H with floor := f } w :=
 ⟨h1, h2, h.wsz, h.dom, h.fresh, h.obj, h.low, h.high, h.inj, h.good⟩
def zn8 (cf : zj5) (o : zb6) (τ : Env) (H : Heap) : Option (Env × Heap) :=
 bif ze5 τ o.guard then
  bif zg1 τ o then
   match zf0 o.quiet H fun H => zl6 cf τ H o.op with
   | some (v, H') => some (putA τ o.dst v, H')
   | none => none
  else none
 else some (putA τ o.dst zb8, H)
theorem zi0 {cf : zj5} {o : zb6} {τ : Env} {H : Heap} {r : Env × Heap} (h : zn8 cf o τ H = some r) (hw : ze5 τ o.guard = true) :
  zg1 τ o = true /\ ∃ v, zf0 o.quiet H (fun H => zl6 cf τ H o.op) = some (v, r.2) /\ r.1 = putA τ o.dst v := by
 unfold zn8 at h
 rw [hw, cond_true] at h
 cases hf : zg1 τ o with
 | false => rw [hf] at h; cases h
 | true =>
  rw [hf, cond_true] at h
  split at h
  ·rename_i v H' hq
   cases h; exact ⟨rfl, v, hq, rfl⟩
  ·cases h
theorem zk6 {cf : zj5} {o : zb6} {τ : Env} {H : Heap} (hw : ze5 τ o.guard = false) : zn8 cf o τ H = some (putA τ o.dst zb8, H) := by
 unfold zn8; rw [hw]; rfl
theorem zz1 (cf : zj5) (o : zb6) (rest : List zb6) (τ : Env) (H : Heap) : zv3 cf (o :: rest) τ H = (zn8 cf o τ H).bind fun r => zv3 cf rest r.1 r.2 := by
 simp only [zv3, zn8]
 cases ze5 τ o.guard with
 | false => rfl
 | true =>
  simp only [cond_true]
  cases zg1 τ o with
  | false => rfl
  | true =>
   simp only [cond_true]
   cases zf0 o.quiet H fun H => zl6 cf τ H o.op with
   | none => rfl
   | some r => rfl
theorem zu6 {q : Bool} {H H' : Heap} {g : Heap -> Option (AV × Heap)} {v : AV} (h : zf0 q H g = some (v, H')) :
  (q = false /\ g H = some (v, H')) \/ (q = true /\ ∃ H1, g H.raise = some (v, H1) /\ H' = { H1 with floor := H.floor }) := by
 cases q with
 | false => exact .inl ⟨rfl, h⟩
 | true =>
  right
  simp only [zf0, cond_true] at h
  cases hg : g { H with floor := H.next } with
  | none => simp [hg] at h
  | some r =>
   obtain ⟨u, H1⟩ := r
   simp [hg] at h
   exact ⟨rfl, H1, by rw [<- h.1]; exact hg, h.2.symm⟩
theorem Step.quiet {φ φ' : Pl} {H H1 : Heap} {w w' : World} (s : Step φ H.raise w φ' H1 w') (hf : H.floor <= H.next) : Step φ H w φ' { H1 with floor := H.floor } w' where
 ext := s.ext
 new := s.new
 next := s.next
 floor := rfl
 os := s.os
 tape := s.tape
 output := s.output
 size := s.size
 kept := fun b hb hn => s.kept b hb fun o L ho e hl => by
  have : H.next <= o := ho
  exact hn o L (Nat.le_trans hf this) e hl
 made := fun o L ho e hl => by
  by_cases hq : H.next <= o
  ·rcases s.made o L hq e hl with h | ⟨o1, L1, h1, h2, h3, h4⟩
   ·exact .inl h
   ·exact .inr ⟨o1, L1, Nat.le_trans hf h1, h2, h3, h4⟩
  ·have hl' : live H o := by
    obtain ⟨x, hx, hd⟩ := hl
    have := s.low o (by show o < H.next; omega)
    exact ⟨x, this.symm.trans hx, hd⟩
   cases hφ : φ o with
   | none => have := s.new o L e hφ; exact absurd this.1 hq
   | some L' =>
    have := s.ext o L' hφ
    rw [e] at this; cases this
    exact .inr ⟨o, L, ho, hφ, hl', rfl⟩
 low := fun o ho => s.low o (by show o < H.next; omega)
 drawn := s.drawn
theorem zbf7 {cf : zj5} {τ : Env} {H H' : Heap} {o : AOp} {v : AV} (h : zl6 cf τ H o = some (v, H')) : o ≠ .bad := by
 rintro rfl
 simp [zl6, zb2, AOp.writes, ze8, zb9] at h
theorem z14 {cf : zj5} (hcf : zl0 P G cf) {ops : Array Oper} {B W Z N : Nat} {φ : Pl} {H H' : Heap} {w : World} {τ τ' : Env} {act : Act} {o : Oper} {ao : zb6} {i : Nat} {K : Act -> World -> Prop} {Q : Exit -> Act -> World -> Prop}
  (hi : ops[i]? = some o) (ho : zp6 P ops N o ao) (hs : act.tmps.size = N) (hx : XRel φ (ev τ) act.eval o.op.operands.toList) (hg : ∀ t b, ao.guard = some (t, b) -> zc3 φ (Env.at τ t) (act.tmps.getD t undef)) (hH : zc7 G B W Z φ H w)
  (h : zn8 cf ao τ H = some (τ', H')) (hK : H'.next <= Z)
  (hnext : ∀ φ' x v w', τ' = putA τ ao.dst x -> zc3 φ' x v -> zc7 G B W Z φ' H' w' -> Step φ H w φ' H' w' ->
   (ao.quiet = true -> (∀ b, b < w.heap.size -> w'.heap[b]? = w.heap[b]?) /\ ∀ o L, φ' o = some L -> φ o = none -> live H' o -> w.heap.size <= L.blk) -> K (act.put o.dst v) w') : wpOp P ops Q i K act w := by
 unfold wpOp
 rw [hi]
 simp only
 rw [zba0 ho hs hg]
 cases hw : ze5 τ ao.guard with
 | false =>
  rw [zk6 hw] at h
  simp only [Option.some.injEq, Prod.mk.injEq] at h
  obtain ⟨rfl, rfl⟩ := h
  simp only [Bool.false_eq_true, if_false]
  exact hnext φ zb8 undef w rfl (zc3.undef _) hH (Step.refl _ _ _) fun _ => ⟨fun _ _ => rfl, fun o L h k => by rw [h] at k; cases k⟩
 | true =>
  simp only [if_true]
  refine .inl ?_
  obtain ⟨_, v, hq, e1⟩ := zi0 h hw
  dsimp only at hq e1
  subst e1
  rcases zu6 hq with ⟨hqf, hq2⟩ | ⟨_, H1, hq2, rfl⟩
  ·exact zae0 hcf (ho.op.resolve_right (zbf7 hq2)) hx hH hq2 hK fun φ' u w' h1 h2 h3 => hnext φ' v u w' rfl h1 h2 h3 fun q => by rw [hqf] at q; cases q
  ·refine zae0 hcf (ho.op.resolve_right (zbf7 hq2)) hx hH.raise hq2 hK fun φ' u w' h1 h2 h3 => hnext φ' v u w' rfl h1 ?_ (h3.quiet hH.fn) fun _ => ?_
   ·exact h2.lower hH.fl (Nat.le_trans hH.fn h3.next)
   ·have none : ∀ o, H.next <= o -> ¬ live H o := fun o ho ⟨x, hx, _⟩ => by rw [hH.fresh o ho] at hx; cases hx
    refine ⟨fun b hb => h3.kept b hb fun o L ho _ hl => (none o ho hl).elim, fun o L e k hl => ?_⟩
    have hn := (h3.new o L e k).1
    rcases h3.made o L hn e hl with q | ⟨o1, L1, q1, _, q3, _⟩
    ·exact q
    ·exact (none o1 q1 q3).elim
theorem zl3 {cf : zj5} (hcm : zm1 cf) {ao : zb6} {τ : Env} {H : Heap} {r : Env × Heap} (h : zn8 cf ao τ H = some r) (hf : H.floor <= H.next) : zf5 H r.2 := by
 cases hw : ze5 τ ao.guard with
 | false => rw [zk6 hw] at h; cases h; exact zf5.refl _
 | true =>
  obtain ⟨_, v, hq, _⟩ := zi0 h hw
  rcases zu6 hq with ⟨_, hq2⟩ | ⟨_, H1, hq2, e⟩
  ·exact zae1 hcm hq2 hf
  ·have m := zae1 hcm hq2 (Nat.le_refl _)
   rw [e]
   exact ⟨m.next, rfl, fun o ho => m.low o (by show o < H.next; omega), m.fresh⟩
theorem zj3 {cf : zj5} (hcm : zm1 cf) : ∀ (l : List zb6) (τ : Env) (H H' : Heap) (τ' : Env), zv3 cf l τ H = some (τ', H') -> H.floor <= H.next -> zf5 H H'
 | [], τ, H, H', τ', h, hf => by simp [zv3] at h; obtain ⟨_, rfl⟩ := h; exact zf5.refl _
 | o :: l, τ, H, H', τ', h, hf => by
  rw [zz1] at h
  cases hs : zn8 cf o τ H with
  | none => simp [hs] at h
  | some r =>
   simp [hs] at h
   have m := zl3 hcm hs hf
   exact m.trans (zj3 hcm l _ _ _ _ h (by rw [m.floor]; exact Nat.le_trans hf m.next))
theorem zbc4 {cf : zj5} (hcf : zl0 P G cf) (hcm : zm1 cf) {ops : Array Oper} {B W Z N : Nat} {Q : Exit -> Act -> World -> Prop} (aops : List zb6) :
  ∀ (k : Nat), k + aops.length = ops.size -> (∀ (j : Nat) (ao : zb6), aops[j]? = some ao -> ∃ o, ops[k + j]? = some o /\ zp6 P ops N o ao) ->
  ∀ (φ : Pl) (H H' : Heap) (w : World) (τ τ' : Env) (act : Act), zp7 φ N τ act -> zc7 G B W Z φ H w -> zv3 cf aops τ H = some (τ', H') -> H'.next <= Z ->
  (∀ φ' act' w', zp7 φ' N τ' act' -> act'.defers = act.defers -> zc7 G B W Z φ' H' w' -> Step φ H w φ' H' w' -> Q .normal act' w') ->
  wpOps P ops Q (List.range' k aops.length) act w := by
 induction aops with
 | nil =>
  intro k hk hok φ H H' w τ τ' act hF hH h hK hQ
  simp [zv3] at h; obtain ⟨rfl, rfl⟩ := h
  simp only [List.length_nil, List.range'_zero, wpOps]
  exact hQ φ act w hF rfl hH (Step.refl _ _ _)
 | cons ao rest ih =>
  intro k hk hok φ H H' w τ τ' act hF hH h hK hQ
  rw [zz1] at h
  cases hst : zn8 cf ao τ H with
  | none => simp [hst] at h
  | some r =>
   obtain ⟨τ1, H1⟩ := r
   simp [hst] at h
   obtain ⟨o, ho, hoo⟩ := hok 0 ao rfl
   simp only [List.length_cons, List.range'_succ]
   rw [wpOps_cons]
   have hm0 := zl3 hcm hst hH.fn
   have hm1 : H1.next <= H'.next := (zj3 hcm rest τ1 H1 H' τ' h (by rw [hm0.floor]; exact Nat.le_trans hH.fn hm0.next)).next
   refine z14 hcf (i := k) (by simpa using ho) hoo hF.size (hF.ev _) (fun t b _ => hF.at_ t) hH hst (Nat.le_trans hm1 hK) fun φ' x v w' e1 h1 h2 h3 _ => ?_
   refine ih (k + 1) (by simp at hk; omega) (fun j a hj => by
    obtain ⟨o', q1, q2⟩ := hok (j + 1) a (by simpa using hj)
    exact ⟨o', by rw [<- q1]; congr 1; omega, q2⟩) φ' H1 H' w' τ1 τ' (act.put o.dst v) ?_ h2 h hK fun φ2 act2 w2 g1 g2 g3 g4 => hQ φ2 act2 w2 g1 (by rw [g2, put_defers]) g3 (h3.trans g4)
   rw [e1, hoo.dst]
   exact (hF.mono h3.ext).put _ hoo.dlt h1
theorem zbd9 {cf : zj5} (hcf : zl0 P G cf) (hcm : zm1 cf) {id : Nat} {ops : Array Oper} {B W Z N : Nat} {Q : Exit -> Act -> World -> Prop} {aops : List zb6} (hlen : aops.length = ops.size) (hok : ∀ (j : Nat) (ao : zb6), aops[j]? = some ao -> ∃ o, ops[j]? = some o /\ zp6 P ops N o ao)
  {φ : Pl} {H H' : Heap} {w : World} {τ τ' : Env} {act : Act} (hF : zp7 φ N τ act) (hH : zc7 G B W Z φ H w) (h : zv3 cf aops τ H = some (τ', H')) (hK : H'.next <= Z)
  (hQ : ∀ φ' act' w', zp7 φ' N τ' act' -> act'.defers = act.defers -> zc7 G B W Z φ' H' w' -> Step φ H w φ' H' w' -> Q .normal act' w') : (Code.region id ops false).wp P Q act w := by
 refine wp_region ?_
 rw [List.range_eq_range', <- hlen]
 exact zbc4 hcf hcm aops 0 (by omega) (fun j ao hj => by simpa using hok j ao hj) φ H H' w τ τ' act hF hH h hK hQ
end Go.AI
namespace Go.AI
variable {P : Program} {G : World -> Prop}
open Region (binds)
def AOp.isCall : AOp -> Bool
 | .call .. => true
 | _ => false
def AOp.isPure (o : AOp) : Bool := !o.isRead && !o.writes && !o.isCall
inductive Anc (ops : Array Oper) : Nat -> Nat -> Prop
 | edge {j : Nat} {o : Oper} {e : Edge} (h : ops[j]? = some o) (he : e ∈ o.after) (hb : binds .any e = true) : Anc ops e.on j
 | step {i j : Nat} {o : Oper} {e : Edge} (h : ops[j]? = some o) (he : e ∈ o.after) (hb : binds .any e = true) (t : Anc ops i e.on) : Anc ops i j
def zz6 (o : Oper) (ao : zb6) : List Nat :=
 (o.op.operands.toList.filterMap fun | .tmp t => some t | _ => none) ++ (match ao.guard with | some (t, _) => [t] | none => [])
def zbv9 (aops : List zb6) (k b : Nat) : Prop :=
 ∃ ak ab n t, aops[k]? = some ak /\ aops[b]? = some ab /\ ak.op = .load n (.tmp t) /\ ak.quiet = true /\ t ∈ ab.frees /\ ∀ (m : Nat) (am : zb6), k < m -> m < b -> aops[m]? = some am -> am.dst ≠ some t
structure za52 (P : Program) (ops : Array Oper) (N : Nat) (aops : List zb6) : Prop where
 len : aops.length = ops.size
 ok : ∀ (j : Nat) (ao : zb6), aops[j]? = some ao -> ∃ o, ops[j]? = some o /\ zp6 P ops N o ao
 back : ∀ (j : Nat) (o : Oper) (e : Edge), ops[j]? = some o -> e ∈ o.after -> binds .any e = true -> e.on < j
 conf : ∀ (i j : Nat) (oi oj : Oper) (ai aj : zb6), i < j -> ops[i]? = some oi -> ops[j]? = some oj -> aops[i]? = some ai -> aops[j]? = some aj ->
  (∀ d, oi.dst = some d -> d ∈ zz6 oj aj \/ oj.dst = some d -> Anc ops i j) /\ (∀ d, oj.dst = some d -> d ∈ zz6 oi ai -> Anc ops i j)
 barr : ∀ (b : Nat) (ab : zb6), aops[b]? = some ab -> ab.quiet = false -> ab.op.isPure = false -> ∀ (k : Nat) (ak : zb6), aops[k]? = some ak -> ak.op.isPure = false -> (k < b -> Anc ops k b \/ (zbv9 aops k b /\ True)) /\ (b < k -> Anc ops b k)
 self : ∀ (k : Nat) (ok : Oper) (ak : zb6) (n : Option Nat) (t : Nat), ops[k]? = some ok -> aops[k]? = some ak -> ak.op = .load n (.tmp t) -> ak.dst = some t -> False
theorem zaj8 (cf : zj5) : ∀ (aops : List zb6) (τ τ' : Env) (H H' : Heap), zv3 cf aops τ H = some (τ', H') ->
  ∃ T : Nat -> Env × Heap, T 0 = (τ, H) /\ T aops.length = (τ', H') /\ ∀ (j : Nat) (ao : zb6), aops[j]? = some ao -> zn8 cf ao (T j).1 (T j).2 = some (T (j + 1))
 | [], τ, τ', H, H', h => by
  simp [zv3] at h; obtain ⟨rfl, rfl⟩ := h
  exact ⟨fun _ => (τ, H), rfl, rfl, fun j ao hj => by simp at hj⟩
 | ao :: rest, τ, τ', H, H', h => by
  rw [zz1] at h
  cases hs : zn8 cf ao τ H with
  | none => simp [hs] at h
  | some r =>
   simp [hs] at h
   obtain ⟨T, h0, hn, hj⟩ := zaj8 cf rest r.1 τ' r.2 H' h
   refine ⟨fun j => match j with | 0 => (τ, H) | j + 1 => T j, rfl, hn, fun j a hja => ?_⟩
   cases j with
   | zero => simp at hja; subst hja; simp only [hs, h0]
   | succ j => exact hj j a (by simpa using hja)
theorem zac5 {cf : zj5} {ao : zb6} {τ : Env} {H : Heap} {r : Env × Heap} (h : zn8 cf ao τ H = some r) : ∃ x, r.1 = putA τ ao.dst x := by
 cases hw : ze5 τ ao.guard with
 | false => rw [zk6 hw] at h; cases h; exact ⟨_, rfl⟩
 | true => obtain ⟨_, v, _, e⟩ := zi0 h hw; exact ⟨v, e⟩
theorem zaj0 {cf : zj5} (hcm : zm1 cf) {ao : zb6} {τ : Env} {H : Heap} {r : Env × Heap} (h : zn8 cf ao τ H = some r) (hq : ao.quiet = true) (o : Nat) (ho : o < H.next) : r.2.get o = H.get o := by
 cases hw : ze5 τ ao.guard with
 | false => rw [zk6 hw] at h; cases h; rfl
 | true =>
  obtain ⟨_, v, hq', _⟩ := zi0 h hw
  rcases zu6 hq' with ⟨q, _⟩ | ⟨_, H1, hq2, e⟩
  ·rw [hq] at q; cases q
  ·have m := zae1 hcm hq2 (Nat.le_refl _)
   rw [e]; exact m.low o ho
theorem zaq3 {cf : zj5} {τ : Env} {H : Heap} {ao : AOp} (hp : ao.isPure = true) : zl6 cf τ H ao = (zb9 (ev τ) ao).map fun v => (v, H) := by
 simp only [AOp.isPure, Bool.and_eq_true, Bool.not_eq_true'] at hp
 have h1 : zl6 cf τ H ao = zb2 (ev τ) H ao := by
  cases ao <;> first | rfl | (simp [AOp.isCall] at hp)
 rw [h1, zb2, hp.1.2, cond_false, zw4 _ _ _ hp.1.1]
theorem z15 {cf : zj5} {ao : zb6} {τ : Env} {H : Heap} {r : Env × Heap} (h : zn8 cf ao τ H = some r) (hp : ao.op.isPure = true) : r.2 = H /\ ∀ H', zn8 cf ao τ H' = some (r.1, H') := by
 cases hw : ze5 τ ao.guard with
 | false => rw [zk6 hw] at h; cases h; exact ⟨rfl, fun H' => zk6 hw⟩
 | true =>
  obtain ⟨hf, v, hq, e⟩ := zi0 h hw
  have key : ∀ H, zf0 ao.quiet H (fun H => zl6 cf τ H ao.op) = (zb9 (ev τ) ao.op).map fun v => (v, H) := by
   intro H
   cases hq : ao.quiet with
   | false => simp only [zf0, cond_false]; exact zaq3 hp
   | true =>
    simp only [zf0, cond_true, zaq3 hp]
    cases zb9 (ev τ) ao.op <;> rfl
  rw [key] at hq
  cases hv : zb9 (ev τ) ao.op with
  | none => simp [hv] at hq
  | some u =>
   simp [hv] at hq
   refine ⟨hq.2.symm, fun H' => ?_⟩
   unfold zn8
   rw [hw, cond_true, hf, cond_true, key, hv, e, <- hq.1]
   rfl
theorem z16 {cf : zj5} {ao : zb6} {n : Option Nat} {t : Nat} {τ : Env} {H H' : Heap} {r : Env × Heap} (h : zn8 cf ao τ H = some r) (ho : ao.op = .load n (.tmp t)) (hs : ze5 τ ao.guard = true -> ∀ o off, Env.at τ t = .ptr o off -> H'.get o = H.get o) :
  r.2 = H /\ zn8 cf ao τ H' = some (r.1, H') /\ (ze5 τ ao.guard = true -> ∃ o off x, Env.at τ t = .ptr o off /\ H.get o = some x) := by
 cases hw : ze5 τ ao.guard with
 | false => rw [zk6 hw] at h; cases h; exact ⟨rfl, zk6 hw, fun q => by cases q⟩
 | true =>
  obtain ⟨hf, v, hq, e⟩ := zi0 h hw
  have key : ∀ H, zf0 ao.quiet H (fun H => zl6 cf τ H ao.op) = (match Env.at τ t with | .ptr o off => ((H.cellsAt o).bind fun cs => ze2 cs off n).map fun v => (v, H) | _ => none) := by
   intro H
   rw [ho]
   cases ao.quiet with
   | false => rfl
   | true =>
    simp only [zf0, cond_true, zl6, zb2, AOp.writes, cond_false, ze8, ev]
    cases Env.at τ t <;> first | rfl | skip
    rename_i o off
    have : ({ H with floor := H.next } : Heap).cellsAt o = H.cellsAt o := rfl
    simp only [this]
    cases (H.cellsAt o).bind fun cs => ze2 cs off n <;> rfl
  rw [key] at hq
  split at hq
  ·rename_i o off ha
   have hg := hs hw o off ha
   cases hc : H.cellsAt o with
   | none => simp [hc] at hq
   | some cs =>
    simp [hc] at hq
    obtain ⟨a, q1, q2, q3⟩ := hq
    have hc' : H'.cellsAt o = some cs := by
     unfold Heap.cellsAt at hc ⊢; rw [hg]; exact hc
    refine ⟨q3.symm, ?_, fun _ => ⟨o, off, _, ha, zn1 hc⟩⟩
    unfold zn8
    rw [hw, cond_true, hf, cond_true, key, ha]
    simp only [hc', Option.bind_some, q1, q2, Option.map_some, e]
  ·cases hq
theorem zao1 {e : Opd -> AV} {H H' : Heap} {ao : AOp} {a : AV} (h : zd1 e H ao = some (a, H')) (p : Nat) (hp : p < H.next) (ht : ∀ q, ao.target e = some q -> p ≠ q) : H'.get p = H.get p := by
 have ws : ∀ {o off : Nat} {xs : List AV} {H2 : Heap}, H.writeSeg o off xs = some H2 -> p ≠ o -> H2.get p = H.get p := by
  intro o off xs H2 h hne
  obtain ⟨_, cs, _, _, _, rfl⟩ := zk3 h
  rw [Heap.get_set, if_neg hne]
 have push : ∀ (K : Heap) (x : zo4), K.next = H.next -> (K.push x).get p = K.get p := fun K x e => by rw [Heap.get_push, if_neg (by omega)]
 cases ao <;> first | (simp [zd1] at h; done) | skip
 case store n q x =>
  simp only [zd1] at h
  split at h
  ·rename_i o off hq
   have := ht o (by simp [AOp.target, hq])
   cases hb : Nat.beq (e x).cells.length n with
   | false => simp [hb] at h
   | true =>
    simp only [hb, cond_true] at h
    cases hw : H.writeSeg o off (e x).cells with
    | none => simp [hw] at h
    | some H2 => simp [hw] at h; rw [<- h.2]; exact ws hw this
  ·cases h
 case freeze x =>
  simp only [zd1] at h
  split at h
  ·rename_i o _ _ _ lo _ _
   cases hb : (Nat.ble H.floor o && Nat.ble 1 lo) with
   | false => simp only [hb, cond_false] at h; cases h
   | true =>
    simp only [hb, cond_true] at h
    split at h
    ·cases h; rfl
    ·cases h
  ·cases h
 case mapUpdate d m k v =>
  simp only [zd1] at h
  split at h
  ·rename_i o hq
   have := ht o (by simp [AOp.target, hq])
   cases hb : Nat.ble H.floor o with
   | false => simp [hb] at h
   | true =>
    simp only [hb, cond_true] at h
    split at h
    ·cases hpk : plainKey d (e k) with
     | false => simp [hpk] at h
     | true =>
      simp only [hpk, cond_true] at h
      split at h
      ·cases h
      ·cases h; rw [Heap.get_set, if_neg this]
      ·cases h; rw [Heap.get_set, if_neg this]
    ·cases h
  ·cases h
 case append sz by_ x y =>
  simp only [zd1] at h
  unfold zc4 at h
  split at h
  ·cases h
  rename_i n new _
  cases h1 : za5 new with
  | false => simp [h1] at h
  | true =>
  simp only [h1, cond_true] at h
  split at h
  ·cases hn : Nat.beq n 0 with
   | true => simp only [hn, cond_true] at h; cases h; rfl
   | false =>
    simp only [hn, cond_false] at h
    cases hbd : Nat.ble ((2 * n + 1024) * by_) (2 ^ 48) with
    | false => simp only [hbd, cond_false] at h; cases h
    | true => simp only [hbd, cond_true] at h; cases h; exact push H _ rfl
  ·rename_i o off len e' lo ex hq
   have hne := ht o (by simp [AOp.target, hq])
   cases hee : Nat.beq sz e' with
   | false => simp [hee] at h
   | true =>
    simp only [hee, cond_true] at h
    cases hn : Nat.beq n 0 with
    | true => simp only [hn, cond_true] at h; cases h; rfl
    | false =>
     simp only [hn, cond_false] at h
     cases hlo : Nat.ble (len + n) lo with
     | true =>
      simp only [hlo, cond_true] at h
      cases hw : H.writeSeg o (off + len * sz) new with
      | none => simp [hw] at h
      | some H2 => simp [hw] at h; rw [<- h.2]; exact ws hw hne
     | false =>
      simp only [hlo, cond_false] at h
      cases hbd : Nat.ble ((2 * (len + n) + 1024) * by_) (2 ^ 48) with
      | false => simp only [hbd, cond_false] at h; cases h
      | true =>
       simp only [hbd, cond_true] at h
       split at h
       ·cases h
       cases ex with
       | true => simp only [cond_true] at h; cases h; exact push H _ rfl
       | false =>
        simp only [cond_false] at h
        cases hfl : Nat.ble H.floor o with
        | false => simp [hfl] at h
        | true =>
         simp only [hfl, cond_true] at h; cases h
         rw [push (H.set o .dead) _ rfl, Heap.get_set, if_neg hne]
  ·cases h
 case copy sz x y =>
  simp only [zd1] at h
  unfold zaf8 at h
  split at h
  ·cases hs : srcN sz H 0 (e y) <;> simp [hs] at h
   rw [<- h.2]
  ·rename_i o off len e' lo ex hq
   have hne := ht o (by simp [AOp.target, hq])
   cases hee : Nat.beq sz e' with
   | false => simp [hee] at h
   | true =>
    simp only [hee, cond_true] at h
    split at h
    ·cases h
    rename_i n cs _
    cases hz : Nat.beq cs.length 0 with
    | true => simp only [hz, cond_true] at h; cases h; rfl
    | false =>
     simp only [hz, cond_false] at h
     cases hw : H.writeSeg o off cs with
     | none => simp [hw] at h
     | some H2 => simp [hw] at h; rw [<- h.2]; exact ws hw hne
  ·cases h
 case delete d m k =>
  simp only [zd1] at h
  split at h
  ·cases hpk : plainKey d (e k) <;> simp [hpk] at h
   rw [<- h.2]
  ·rename_i o hq
   have hne := ht o (by simp [AOp.target, hq])
   cases hb : Nat.ble H.floor o with
   | false => simp [hb] at h
   | true =>
    simp only [hb, cond_true] at h
    split at h
    ·cases hpk : plainKey d (e k) with
     | false => simp [hpk] at h
     | true =>
      simp only [hpk, cond_true] at h
      split at h
      ·cases h
      ·cases h; rw [Heap.get_set, if_neg hne]
      ·cases h; rfl
    ·cases h
  ·cases h
 case clearMap m =>
  simp only [zd1] at h
  split at h
  ·cases h; rfl
  ·rename_i o hq
   have hne := ht o (by simp [AOp.target, hq])
   cases hb : Nat.ble H.floor o with
   | false => simp [hb] at h
   | true =>
    simp only [hb, cond_true] at h
    split at h
    ·cases h; rw [Heap.get_set, if_neg hne]
    ·cases h
  ·cases h
 case clearSlice z x =>
  simp only [zd1] at h
  split at h
  ·cases h; rfl
  ·rename_i o off len sz lo ex hq
   have hne := ht o (by simp [AOp.target, hq])
   cases hb : (Nat.beq z.length sz && Nat.ble 1 sz) with
   | false => simp only [hb, cond_false] at h; cases h
   | true =>
    simp only [hb, cond_true] at h
    cases hl : Nat.beq len 0 with
    | true => simp only [hl, cond_true] at h; cases h; rfl
    | false =>
     simp only [hl, cond_false] at h
     cases hw : H.writeSeg o off ((List.replicate len z).flatten) with
     | none => simp [hw] at h
     | some H2 => simp [hw] at h; rw [<- h.2]; exact ws hw hne
  ·cases h
 case nextS it =>
  simp only [zd1] at h
  split at h
  ·rename_i o hq
   have hne := ht o (by simp [AOp.target, hq])
   cases hb : Nat.ble H.floor o with
   | false => simp [hb] at h
   | true =>
    simp only [hb, cond_true] at h
    split at h
    ·split at h
     ·cases h; rw [Heap.get_set, if_neg hne]
     ·cases h; rfl
    ·cases h
  ·cases h
theorem zau7 {cf : zj5} {ao : zb6} {τ : Env} {H : Heap} {r : Env × Heap} (h : zn8 cf ao τ H = some r) (hq : ao.quiet = false) {t p off : Nat} (ht : t ∈ ao.frees) (ha : Env.at τ t = .ptr p off) (hp : p < H.next) : r.2.get p = H.get p := by
 cases hw : ze5 τ ao.guard with
 | false => rw [zk6 hw] at h; cases h; rfl
 | true =>
  obtain ⟨hf, v, hq', _⟩ := zi0 h hw
  rcases zu6 hq' with ⟨_, hq2⟩ | ⟨q, _⟩
  ·simp only [zg1, List.all_eq_true] at hf
   have := hf t ht
   rw [ha] at this
   simp only [Bool.and_eq_true] at this
   obtain ⟨hwr, htg⟩ := this
   have hwo : zd1 (ev τ) H ao.op = some (v, r.2) := by
    have e1 : zl6 cf τ H ao.op = zb2 (ev τ) H ao.op := by
     cases hop : ao.op <;> first | rfl | (rw [hop] at hwr; cases hwr)
    rw [e1, zb2, hwr, cond_true] at hq2
    exact hq2
   refine zao1 hwo p hp fun q hqt e => ?_
   rw [hqt] at htg
   subst e
   simp at htg
  ·rw [hq] at q; cases q
def valE (T : Nat -> Env × Heap) (aops : List zb6) (listed : Array Bool) (t : Nat) : Nat -> AV
 | 0 => Env.at (T 0).1 t
 | m + 1 => if listed.getD m false = true /\ (aops[m]?).bind (·.dst) = some t then Env.at (T (m + 1)).1 t else valE T aops listed t m
section
variable {cf : zj5} {T : Nat -> Env × Heap} {aops : List zb6} {ops : Array Oper} {N : Nat} {listed : Array Bool}
theorem zy2 (hT : ∀ (j : Nat) (ao : zb6), aops[j]? = some ao -> zn8 cf ao (T j).1 (T j).2 = some (T (j + 1))) (t : Nat) : ∀ m, m <= aops.length -> (∀ i, i < m -> (aops[i]?).bind (·.dst) = some t -> listed.getD i false = true) -> valE T aops listed t m = Env.at (T m).1 t
 | 0, _, _ => rfl
 | m + 1, hm, h => by
  have ih := zy2 hT t m (by omega) fun i hi hd => h i (by omega) hd
  simp only [valE]
  split
  ·rfl
  ·rename_i hn
   rw [ih]
   have hlt : m < aops.length := by omega
   have ha : aops[m]? = some aops[m] := List.getElem?_eq_getElem hlt
   obtain ⟨x, hx⟩ := zac5 (hT m _ ha)
   rw [hx, zat4]
   rw [if_neg]
   intro hd
   exact hn ⟨h m (by omega) (by rw [ha]; exact hd), by rw [ha]; exact hd⟩
theorem zao2 (t k : Nat) : ∀ m, k <= m -> (∀ i, k <= i -> i < m -> (aops[i]?).bind (·.dst) = some t -> ¬ listed.getD i false = true) -> valE T aops listed t m = valE T aops listed t k
 | m, hm, h => by
  induction m with
  | zero => have : k = 0 := (by omega); rw [this]
  | succ m ih =>
   by_cases e : k = m + 1
   ·rw [e]
   ·simp only [valE]
    rw [if_neg (fun q => h m (by omega) (by omega) q.2 q.1)]
    exact ih (by omega) fun i h1 h2 h3 => h i h1 (by omega) h3
theorem zai8 {l l' : Array Bool} (t : Nat) : ∀ m, (∀ i, i < m -> (aops[i]?).bind (·.dst) = some t -> l.getD i false = l'.getD i false) -> valE T aops l t m = valE T aops l' t m
 | 0, _ => rfl
 | m + 1, h => by
  simp only [valE]
  rw [zai8 t m fun i hi hd => h i (by omega) hd]
  by_cases hd : (aops[m]?).bind (·.dst) = some t
  ·rw [h m (by omega) hd]
  ·simp [hd]
end
theorem zbs8 (l : Array Bool) (i j : Nat) (hi : i < l.size) : (l.setIfInBounds i true).getD j false = if i = j then true else l.getD j false := by
 simp only [Array.getD_eq_getD_getElem?, Array.getElem?_setIfInBounds]
 by_cases h : i = j
 ·subst h; simp [hi]
 ·simp [h]
theorem filter_lt {α : Type} (p q : α -> Bool) (a : α) : ∀ (l : List α), a ∈ l -> p a = true -> q a = false -> (∀ x, q x = true -> p x = true) -> (l.filter q).length < (l.filter p).length
 | [], h, _, _, _ => by simp at h
 | x :: l, h, hp, hq, hi => by
  have le : (l.filter q).length <= (l.filter p).length := by
   clear h
   induction l with
   | nil => simp
   | cons y l ih =>
    simp only [List.filter_cons]
    cases hy : q y with
    | true => rw [hi y hy]; simpa using ih
    | false => cases p y <;> simp <;> omega
  simp only [List.filter_cons]
  rcases List.mem_cons.1 h with rfl | h
  ·simp [hp, hq]; omega
  ·have := filter_lt p q a l h hp hq hi
   cases hx : q x with
   | true => rw [hi x hx]; simpa using this
   | false => cases p x <;> simp <;> omega
def Late (T : Nat -> Env × Heap) (b i : Nat) (ai : zb6) : Prop :=
 ∃ n t, ai.op = .load n (.tmp t) /\ (ze5 (T i).1 ai.guard = true -> ∀ o off, Env.at (T i).1 t = .ptr o off -> (T b).2.get o = (T i).2.get o)
theorem zbj3 {cf : zj5} (hcf : zl0 P G cf) (hcm : zm1 cf) {ops : Array Oper} {B W Z N : Nat} {Q : Exit -> Act -> World -> Prop} {aops : List zb6} (hd : za52 P ops N aops) {φ0 : Pl} {H0 Hn : Heap} {w0 : World} {τ0 τn : Env} {T : Nat -> Env × Heap} {df : List Deferred}
  (h0 : T 0 = (τ0, H0)) (hn : T aops.length = (τn, Hn)) (hT : ∀ (j : Nat) (ao : zb6), aops[j]? = some ao -> zn8 cf ao (T j).1 (T j).2 = some (T (j + 1)))
  (hH0 : zc7 G B W Z φ0 H0 w0) (hK : Hn.next <= Z)
  (hQ : ∀ φ' act' w', zp7 φ' N τn act' -> act'.defers = df -> zc7 G B W Z φ' Hn w' -> Step φ0 H0 w0 φ' Hn w' -> Q .normal act' w') :
  ∀ (fuel : Nat) (listed : Array Bool) (act : Act) (w : World), ((List.range ops.size).filter fun i => !listed.getD i true).length <= fuel ->
   listed.size = ops.size -> (∀ (j : Nat) (o : Oper), listed.getD j false = true -> ops[j]? = some o -> ∀ e ∈ o.after, binds .any e = true -> listed.getD e.on false = true) ->
   act.tmps.size = N -> act.defers = df ->
   (∃ (φ : Pl) (s b : Nat), s <= b /\ b <= aops.length /\
    (∀ (i : Nat) (ai : zb6), aops[i]? = some ai -> ai.op.isPure = false -> i < s -> listed.getD i false = true \/ Late T b i ai) /\
    (∀ (i : Nat) (ai : zb6), aops[i]? = some ai -> ai.op.isPure = false -> b <= i -> listed.getD i false = false) /\
    (∀ (i : Nat) (ai : zb6), aops[i]? = some ai -> ai.op.isPure = false -> s <= i -> i < b -> ai.quiet = true) /\
    (b = aops.length \/ ∃ ab, aops[b]? = some ab /\ ab.op.isPure = false /\ ab.quiet = false) /\
    (∀ t, zc3 φ (valE T aops listed t aops.length) (act.tmps.getD t undef)) /\
    zc7 G B W Z φ (T b).2 w /\
    (∀ o L, φ o = some L -> o < (T s).2.next \/ Z <= o \/ ∃ i ai, aops[i]? = some ai /\ ai.op.isPure = false /\ s <= i /\ i < b /\ listed.getD i false = true /\ (T i).2.next <= o /\ o < (T (i + 1)).2.next) /\
    Step φ0 H0 w0 φ (T b).2 w) ->
   wpAny P .any ops Q fuel listed act w := by
 have hlen := hd.len
 have tr : ∀ j, j <= aops.length -> zf5 H0 (T j).2 /\ (T j).2.floor <= (T j).2.next := by
  intro j
  induction j with
  | zero => intro _; rw [h0]; exact ⟨zf5.refl _, hH0.fn⟩
  | succ j ih =>
   intro hj
   obtain ⟨m, hf⟩ := ih (by omega)
   have := zl3 hcm (hT j _ (List.getElem?_eq_getElem (by omega : j < aops.length))) hf
   exact ⟨m.trans this, by rw [this.floor]; exact Nat.le_trans hf this.next⟩
 have trm : ∀ i j, i <= j -> j <= aops.length -> zf5 (T i).2 (T j).2 := by
  intro i j hij
  induction j with
  | zero => intro _; have : i = 0 := (by omega); rw [this]; exact zf5.refl _
  | succ j ih =>
   intro hj
   by_cases e : i = j + 1
   ·rw [e]; exact zf5.refl _
   ·exact (ih (by omega) (by omega)).trans (zl3 hcm (hT j _ (List.getElem?_eq_getElem (by omega : j < aops.length))) (tr j (by omega)).2)
 have trf : ∀ j, j <= aops.length -> ∀ o, (T j).2.next <= o -> (T j).2.get o = none := fun j hj => (tr j hj).1.fresh hH0.fresh
 have trs : ∀ s b, (∀ (i : Nat) (ai : zb6), aops[i]? = some ai -> ai.op.isPure = false -> s <= i -> i < b -> ai.quiet = true) -> b <= aops.length -> ∀ i, s <= i -> ∀ j, i <= j -> j <= b -> ∀ o, o < (T i).2.next -> (T j).2.get o = (T i).2.get o := by
  intro s b hq hb i hsi j hij
  induction j with
  | zero => intro _ o _; have : i = 0 := (by omega); rw [this]
  | succ j ih =>
   intro hj o ho
   by_cases e : i = j + 1
   ·rw [e]
   ·have hja : aops[j]? = some aops[j] := List.getElem?_eq_getElem (by omega : j < aops.length)
    have hst := hT j _ hja
    have ih' := ih (by omega) (by omega) o ho
    cases hp : (aops[j]).op.isPure with
    | true => rw [(z15 hst hp).1]; exact ih'
    | false =>
     rw [zaj0 hcm hst (hq j _ hja hp (by omega) (by omega)) o (Nat.lt_of_lt_of_le ho (trm i j (by omega) (by omega)).next)]
     exact ih'
 have hZ : ∀ j, j <= aops.length -> (T j).2.next <= Z := fun j hj => Nat.le_trans (trm j aops.length hj (Nat.le_refl _)).next (by rw [hn]; exact hK)
 have ancIn : ∀ (listed : Array Bool), (∀ (j : Nat) (o : Oper), listed.getD j false = true -> ops[j]? = some o -> ∀ e ∈ o.after, binds .any e = true -> listed.getD e.on false = true) ->
   ∀ i j, Anc ops i j -> (∀ o, ops[j]? = some o -> ∀ e ∈ o.after, binds .any e = true -> listed.getD e.on false = true) -> listed.getD i false = true := by
  intro listed hcl i j h
  induction h with
  | edge h he hb => intro hr; exact hr _ h _ he hb
  | step h he hb t ih => intro hr; exact ih fun o ho => hcl _ o (hr _ h _ he hb) ho
 intro fuel
 induction fuel with
 | zero =>
  intro listed act w hcnt hls hcl hts hdf ⟨φ, s, b, hsb, hbn, f1, f2, f3, f4, f5, f6, f7, f8⟩
  have hall : ∀ i, i < ops.size -> listed.getD i false = true := by
   intro i hi
   have : (List.range ops.size).filter (fun i => !listed.getD i true) = [] := List.length_eq_zero_iff.1 (by omega)
   have := List.filter_eq_nil_iff.1 this i (by simpa using hi)
   simp only [Array.getD_eq_getD_getElem?] at this ⊢
   have hi' : i < listed.size := by omega
   simp [hi'] at this ⊢; exact this
  have hb : b = aops.length := by
   rcases f4 with q | ⟨ab, q1, q2, q3⟩
   ·exact q
   ·have : b < aops.length := by
     rcases Nat.lt_or_ge b aops.length with r | r
     ·exact r
     ·rw [List.getElem?_eq_none r] at q1; cases q1
    have h1 := f2 b ab q1 q2 (Nat.le_refl _)
    rw [hall b (by omega)] at h1; cases h1
  subst hb
  rw [hn] at f6 f8
  refine ⟨?_, hQ φ act w ⟨hts, fun t => ?_⟩ hdf f6 f8⟩
  ·unfold Region.ready
   rw [List.filter_eq_nil_iff]
   intro i hi
   have hi' : i < ops.size := by simpa using hi
   have := hall i hi'
   have hi2 : i < listed.size := by omega
   simp only [Array.getD_eq_getD_getElem?] at this ⊢
   simp [hi2] at this ⊢
   simp [this]
  ·have := f5 t
   rw [zy2 hT t aops.length (Nat.le_refl _) (fun i hi _ => hall i (by omega)), hn] at this
   exact this
 | succ fuel ih =>
  intro listed act w hcnt hls hcl hts hdf ⟨φ, s, b, hsb, hbn, f1, f2, f3, f4, f5, f6, f7, f8⟩
  constructor
  ·
   intro hr
   have hall : ∀ i, i < ops.size -> listed.getD i false = true := by
    intro i
    induction i using Nat.strongRecOn with
    | _ i ihi =>
     intro hi
     cases hli : listed.getD i false with
     | true => rfl
     | false =>
      exfalso
      have : i ∈ Region.ready .any ops listed := by
       unfold Region.ready
       rw [List.mem_filter]
       refine ⟨by simpa using hi, ?_⟩
       have hi2 : i < listed.size := by omega
       simp only [Array.getD_eq_getD_getElem?] at hli ⊢
       simp [hi2] at hli
       have ho : ops[i]? = some ops[i] := Array.getElem?_eq_getElem hi
       simp only [hi2, Array.getElem?_eq_getElem, Option.getD_some, hli, Bool.not_false, Bool.true_and, ho, Option.map_some]
       rw [Array.all_eq_true']
       intro e he
       cases hb : binds .any e with
       | false => simp
       | true =>
        have hlt := hd.back i _ e ho he hb
        have := ihi e.on hlt (by omega)
        simp only [Array.getD_eq_getD_getElem?] at this
        simp [this]
      rw [hr] at this; cases this
   have hb : b = aops.length := by
    rcases f4 with q | ⟨ab, q1, q2, q3⟩
    ·exact q
    ·have : b < aops.length := by
      rcases Nat.lt_or_ge b aops.length with r | r
      ·exact r
      ·rw [List.getElem?_eq_none r] at q1; cases q1
     have h1 := f2 b ab q1 q2 (Nat.le_refl _)
     rw [hall b (by omega)] at h1; cases h1
   subst hb
   rw [hn] at f6 f8
   refine hQ φ act w ⟨hts, fun t => ?_⟩ hdf f6 f8
   have := f5 t
   rw [zy2 hT t aops.length (Nat.le_refl _) (fun i hi _ => hall i (by omega)), hn] at this
   exact this
  ·intro i hi
   unfold Region.ready at hi
   rw [List.mem_filter] at hi
   obtain ⟨hi1, hi2⟩ := hi
   have hin : i < ops.size := by simpa using hi1
   have hil : i < listed.size := by omega
   have ho : ops[i]? = some ops[i] := Array.getElem?_eq_getElem hin
   have hia : aops[i]? = some (aops[i]'(by omega)) := List.getElem?_eq_getElem (by omega)
   generalize hao : aops[i]'(by omega) = ao at hia
   obtain ⟨o, ho', hok⟩ := hd.ok i ao hia
   have hli : listed.getD i false = false := by
    simp only [Bool.and_eq_true] at hi2
    have := hi2.1
    simp only [Array.getD_eq_getD_getElem?] at this ⊢
    simp [hil] at this ⊢; exact this
   have hready : ∀ o', ops[i]? = some o' -> ∀ e ∈ o'.after, binds .any e = true -> listed.getD e.on false = true := by
    intro o' ho2 e he hb
    simp only [Bool.and_eq_true, ho2, Option.map_some, Option.getD_some] at hi2
    have := (Array.all_eq_true'.1 hi2.2) e he
    simpa [hb] using this
   have hanc : ∀ k, Anc ops k i -> listed.getD k false = true := fun k hk => ancIn listed hcl k i hk hready
   have hdesc : ∀ k, Anc ops i k -> listed.getD k false = false := by
    intro k hk
    cases hlk : listed.getD k false with
    | false => rfl
    | true =>
     have := ancIn listed hcl i k hk (fun o2 ho2 => hcl k o2 hlk ho2)
     rw [hli] at this; cases this
   have hst := hT i ao hia
   have hset : ∀ j, (listed.setIfInBounds i true).getD j false = if i = j then true else listed.getD j false := fun j => zbs8 listed i j hil
   have hlook : ∀ t, t ∈ zz6 o ao -> valE T aops listed t aops.length = Env.at (T i).1 t := by
    intro t ht
    have h1 : valE T aops listed t aops.length = valE T aops listed t i := by
     refine zao2 t i aops.length (by omega) fun k hk1 hk2 hkd => ?_
     by_cases hki : k = i
     ·subst hki; rw [hli]; simp
     ·have hka : aops[k]? = some aops[k] := List.getElem?_eq_getElem hk2
      obtain ⟨ok, hok1, hok2⟩ := hd.ok k _ hka
      rw [hka] at hkd
      have hkd' : ok.dst = some t := by rw [<- hok2.dst]; exact hkd
      have := (hd.conf i k o ok ao _ (by omega) ho' hok1 hia hka).2 t hkd' ht
      rw [hdesc k this]; simp
    rw [h1]
    refine zy2 hT t i (by omega) fun k hk hkd => ?_
    have hka : aops[k]? = some (aops[k]'(by omega)) := List.getElem?_eq_getElem (by omega)
    obtain ⟨ok, hok1, hok2⟩ := hd.ok k _ hka
    rw [hka] at hkd
    have hkd' : ok.dst = some t := by rw [<- hok2.dst]; exact hkd
    exact hanc k ((hd.conf k i ok o _ ao hk hok1 ho' hka hia).1 t hkd' (.inl ht))
   have hx : XRel φ (ev (T i).1) act.eval o.op.operands.toList := by
    intro x hx y hy
    cases x with
    | tmp t =>
     simp [zk0] at hy; subst hy
     have := f5 t
     rw [hlook t (by simp only [zz6, List.mem_append, List.mem_filterMap]; exact .inl ⟨_, hx, rfl⟩)] at this
     exact this
    | const v =>
     cases hc : cval v <;> simp [zk0, hc] at hy
     subst hy; exact zan3 hc
    | global g => simp [zk0] at hy
    | func f => simp [zk0] at hy; subst hy; exact .fn f [] [] _ _ .nil .nil
   have hg : ∀ t c, ao.guard = some (t, c) -> zc3 φ (Env.at (T i).1 t) (act.tmps.getD t undef) := by
    intro t c hgc
    have := f5 t
    rw [hlook t (by simp only [zz6, List.mem_append, hgc]; exact .inr (by simp))] at this
    exact this
   have hafter : ∀ (φ' : Pl) (x : AV) (v : Value), φ.le φ' -> (T (i + 1)).1 = putA (T i).1 ao.dst x -> zc3 φ' x v -> ∀ t, zc3 φ' (valE T aops (listed.setIfInBounds i true) t aops.length) ((act.put o.dst v).tmps.getD t undef) := by
    intro φ' x v hle hput hv t
    rw [za25 act o.dst v t (by rw [hts]; exact hok.dlt)]
    by_cases hdt : o.dst = some t
    ·rw [if_pos hdt]
     have hia2 : i < aops.length := by omega
     have h1 : valE T aops (listed.setIfInBounds i true) t aops.length = valE T aops (listed.setIfInBounds i true) t (i + 1) := by
      refine zao2 t (i + 1) aops.length (by omega) fun k hk1 hk2 hkd => ?_
      have hka : aops[k]? = some aops[k] := List.getElem?_eq_getElem hk2
      obtain ⟨ok, hok1, hok2⟩ := hd.ok k _ hka
      rw [hka] at hkd
      have hkd' : ok.dst = some t := by rw [<- hok2.dst]; exact hkd
      have := (hd.conf i k o ok ao _ (by omega) ho' hok1 hia hka).1 t hdt (.inr hkd')
      rw [hset, if_neg (by omega), hdesc k this]; simp
     rw [h1]
     simp only [valE]
     rw [if_pos ⟨by rw [hset, if_pos rfl], by rw [hia]; simp only [Option.bind_some]; rw [hok.dst]; exact hdt⟩, hput, zat4, if_pos (by rw [hok.dst]; exact hdt)]
     exact hv
    ·rw [if_neg hdt]
     have : valE T aops (listed.setIfInBounds i true) t aops.length = valE T aops listed t aops.length := by
      refine zai8 t aops.length fun k hk hkd => ?_
      rw [hset]
      by_cases hki : i = k
      ·subst hki
       rw [hia] at hkd
       exact absurd (by rw [<- hok.dst]; exact hkd) hdt
      ·rw [if_neg hki]
     rw [this]; exact (f5 t).mono hle
   have hcnt' : ((List.range ops.size).filter fun j => !(listed.setIfInBounds i true).getD j true).length <= fuel := by
    have := filter_lt (fun j => !listed.getD j true) (fun j => !(listed.setIfInBounds i true).getD j true) i (List.range ops.size) (by simpa using hin)
     (by simp only [Array.getD_eq_getD_getElem?] at hli ⊢; simp [hil] at hli ⊢; exact hli)
     (by simp [Array.getD_eq_getD_getElem?, hil])
     (fun j hj => by
      by_cases hij : i = j
      ·subst hij; simp [Array.getD_eq_getD_getElem?, hil] at hj
      ·simpa [Array.getD_eq_getD_getElem?, Array.getElem?_setIfInBounds, hij] using hj)
    omega
   have hcl' : ∀ (j : Nat) (o : Oper), (listed.setIfInBounds i true).getD j false = true -> ops[j]? = some o -> ∀ e ∈ o.after, binds .any e = true -> (listed.setIfInBounds i true).getD e.on false = true := by
    intro j o2 hj ho2 e he hb
    rw [hset] at hj ⊢
    by_cases hie : i = e.on
    ·rw [if_pos hie]
    ·rw [if_neg hie]
     by_cases hij : i = j
     ·subst hij; exact hready o2 ho2 e he hb
     ·rw [if_neg hij] at hj; exact hcl j o2 hj ho2 e he hb
   have hbfloor : B <= (T b).2.floor := by rw [(tr b hbn).1.floor]; exact hH0.fl
   cases hp : ao.op.isPure with
   | true =>
    have hst2 := (z15 hst hp).2 (T b).2
    refine z14 hcf ho' hok hts hx hg f6 hst2 (hZ b hbn) fun φ' x v w' e1 h1 h2 h3 _ => ?_
    refine ih _ _ _ hcnt' (by simp [hls]) hcl' (by rw [zy8]; cases o.dst <;> simp [hts]) (by rw [put_defers]; exact hdf)
     ⟨φ', s, b, hsb, hbn, fun k ak q1 q2 q3 => ?_, fun k ak q1 q2 q3 => ?_, f3, f4, hafter φ' x v h3.ext e1 h1, h2, fun p L e => ?_, f8.trans h3⟩
    ·rw [hset]; split
     ·exact .inl rfl
     ·exact f1 k ak q1 q2 q3
    ·rw [hset]
     by_cases hik : i = k
     ·subst hik; rw [hia] at q1; cases q1; rw [hp] at q2; cases q2
     ·rw [if_neg hik]; exact f2 k ak q1 q2 q3
    ·cases hφ : φ p with
     | none => have := h3.new p L e hφ; omega
     | some L' =>
      rcases f7 p L' hφ with q | q | ⟨k, ak, q1, q2, q3, q4, q5, q6, q7⟩
      ·exact .inl q
      ·exact .inr (.inl q)
      ·exact .inr (.inr ⟨k, ak, q1, q2, q3, q4, by rw [hset]; split; rfl; exact q5, q6, q7⟩)
   | false =>
    by_cases hsi' : i < s
    case pos =>
     rcases f1 i ao hia hp hsi' with q | ⟨n, t, hop, hsame⟩
     ·rw [hli] at q; cases q
     obtain ⟨hsT, hst2, _⟩ := z16 (H' := (T b).2) hst hop hsame
     refine z14 hcf ho' hok hts hx hg f6 hst2 (hZ b hbn) fun φ' x v w' e1 h1 h2 h3 _ => ?_
     refine ih _ _ _ hcnt' (by simp [hls]) hcl' (by rw [zy8]; cases o.dst <;> simp [hts]) (by rw [put_defers]; exact hdf)
      ⟨φ', s, b, hsb, hbn, fun k ak q1 q2 q3 => ?_, fun k ak q1 q2 q3 => ?_, f3, f4, hafter φ' x v h3.ext e1 h1, h2, fun p L e => ?_, f8.trans h3⟩
     ·rw [hset]; split
      ·exact .inl rfl
      ·exact f1 k ak q1 q2 q3
     ·rw [hset, if_neg (by omega)]; exact f2 k ak q1 q2 q3
     ·cases hφ : φ p with
      | none => have := h3.new p L e hφ; omega
      | some L' =>
       rcases f7 p L' hφ with q | q | ⟨k, ak, q1, q2, q3, q4, q5, q6, q7⟩
       ·exact .inl q
       ·exact .inr (.inl q)
       ·exact .inr (.inr ⟨k, ak, q1, q2, q3, q4, by rw [hset]; split; rfl; exact q5, q6, q7⟩)
    have hsi : s <= i := by omega
    clear hsi'
    cases hq : ao.quiet with
    | true =>
     have hib : i < b := by
      rcases Nat.lt_or_ge i b with q | q
      ·exact q
      ·exfalso
       rcases f4 with r | ⟨ab, r1, r2, r3⟩
       ·omega
       ·by_cases e : b = i
        ·subst e; rw [hia] at r1; cases r1; rw [hq] at r3; cases r3
        ·have := (hd.barr b ab r1 r3 r2 i ao hia hp).2 (by omega)
         have := hanc b this
         rw [f2 b ab r1 r2 (Nat.le_refl _)] at this; cases this
     have hTi := tr i (by omega)
     have hTi1 := trm i (i + 1) (by omega) (by omega)
     have hTb := trm (i + 1) b (by omega) hbn
     have same : ∀ p, p < (T i).2.next -> (T b).2.get p = (T i).2.get p := trs s b f3 hbn i hsi b (by omega) (Nat.le_refl _)
     have same1 : ∀ p, p < (T (i + 1)).2.next -> (T b).2.get p = (T (i + 1)).2.get p := trs s b f3 hbn (i + 1) (by omega) b (by omega) (Nat.le_refl _)
     have hfl : (T b).2.floor = (T i).2.floor := by rw [(tr b hbn).1.floor, hTi.1.floor]
     have liveb : ∀ p, live (T i).2 p -> live (T b).2 p := fun p ⟨y, hy, hyd⟩ => by
      have : p < (T i).2.next := by
       rcases Nat.lt_or_ge p (T i).2.next with r | r
       ·exact r
       ·rw [trf i (by omega) p r] at hy; cases hy
      exact ⟨y, by rw [same p this]; exact hy, hyd⟩
     have hHi : zc7 G B W (T (i + 1)).2.next φ (T i).2 w :=
      {fl := by rw [hTi.1.floor]; exact hH0.fl
       fn := hTi.2
       wsz := f6.wsz
       dom := fun p L e => by
        rcases f7 p L e with r | r | ⟨k, ak, r1, r2, r3, r4, r5, r6, r7⟩
        ·exact .inl (Nat.lt_of_lt_of_le r (trm s i hsi (by omega)).next)
        ·exact .inr (Nat.le_trans (hZ (i + 1) (by omega)) r)
        ·by_cases hki : k < i
         ·exact .inl (Nat.lt_of_lt_of_le r7 (trm (k + 1) i (by omega) (by omega)).next)
         ·by_cases hke : k = i
          ·subst hke; rw [hli] at r5; cases r5
          ·exact .inr (Nat.le_trans (trm (i + 1) k (by omega) (by omega)).next r6)
       fresh := trf i (by omega)
       obj := fun p L y e hy => by
        have : p < (T i).2.next := by
         rcases Nat.lt_or_ge p (T i).2.next with r | r
         ·exact r
         ·rw [trf i (by omega) p r] at hy; cases hy
        exact f6.obj p L y e (by rw [same p this]; exact hy)
       low := f6.low
       high := fun p L e hp hl => f6.high p L e hp (liveb p hl)
       inj := fun p p' L L' e e' hp hp' hl hl' => f6.inj p p' L L' e e' hp hp' (liveb p hl) (liveb p' hl')
       good := f6.good }
     refine z14 hcf ho' hok hts hx hg hHi hst (Nat.le_refl _) fun φ' x v w' e1 h1 h2 h3 h4 => ?_
     obtain ⟨hkept, hmade⟩ := h4 hq
     have isnew : ∀ p L, φ' p = some L -> φ p = none -> (T i).2.next <= p /\ p < (T (i + 1)).2.next := h3.new
     have isold : ∀ p L L', φ' p = some L -> φ p = some L' -> L' = L := fun p L L' e e' => by
      have := h3.ext p L' e'; rw [e] at this; exact (Option.some.inj this).symm
     have live1 : ∀ p, p < (T (i + 1)).2.next -> (live (T b).2 p ↔ live (T (i + 1)).2 p) := fun p hp => by unfold live; rw [same1 p hp]
     have hBi : B <= (T i).2.next := Nat.le_trans hHi.fl hTi.2
     have hHb : zc7 G B W Z φ' (T b).2 w' :=
      {fl := f6.fl
       fn := f6.fn
       wsz := Nat.le_trans f6.wsz h3.size
       dom := fun p L e => by
        cases hφ : φ p with
        | none => exact .inl (Nat.lt_of_lt_of_le (isnew p L e hφ).2 hTb.next)
        | some L' => exact f6.dom p L' hφ
       fresh := f6.fresh
       obj := fun p L y e hy => by
        by_cases hp1 : p < (T (i + 1)).2.next
        ·exact h2.obj p L y e (by rw [<- same1 p hp1]; exact hy)
        ·cases hφ : φ p with
         | none => exact absurd (isnew p L e hφ).2 hp1
         | some L' =>
          have := isold p L L' e hφ; subst this
          by_cases hyd : y = .dead
          ·subst hyd; trivial
          ·have hpB : B <= p := by have := hTi1.next; omega
           have := f6.live_in hφ ⟨y, hy, hyd⟩ hpB
           exact (f6.obj p L' y hφ hy).keep h3.ext (hkept _ this)
       low := fun p L e hp => by
        cases hφ : φ p with
        | none => have := (isnew p L e hφ).1; omega
        | some L' => have := isold p L L' e hφ; subst this; exact f6.low p L' hφ hp
       high := fun p L e hp hl => by
        cases hφ : φ p with
        | none => exact h2.high p L e hp ((live1 p (isnew p L e hφ).2).1 hl)
        | some L' => have := isold p L L' e hφ; subst this; exact f6.high p L' hφ hp hl
       good := h2.good
       inj := fun p p' L L' e e' hp hp' hl hl' hbb => by
        cases hφ : φ p with
        | none =>
         have n1 := isnew p L e hφ
         have l1 := (live1 p n1.2).1 hl
         have m1 := hmade p L e hφ l1
         cases hφ' : φ p' with
         | none => exact h2.inj p p' L L' e e' hp hp' l1 ((live1 p' (isnew p' L' e' hφ').2).1 hl') hbb
         | some K =>
          have := isold p' L' K e' hφ'; subst this
          have := f6.live_in hφ' hl' hp'
          omega
        | some K =>
         have := isold p L K e hφ; subst this
         cases hφ' : φ p' with
         | none =>
          have m1 := hmade p' L' e' hφ' ((live1 p' (isnew p' L' e' hφ').2).1 hl')
          have := f6.live_in hφ hl hp
          omega
         | some K' =>
          have := isold p' L' K' e' hφ'; subst this
          exact f6.inj p p' K K' hφ hφ' hp hp' hl hl' hbb }
     have hSb : Step φ0 H0 w0 φ' (T b).2 w' :=
      {ext := Pl.le_trans f8.ext h3.ext
       new := fun p L e e0 => by
        cases hφ : φ p with
        | none =>
         have := isnew p L e hφ
         have h5 := hTi.1.next
         have h6 := hTb.next
         omega
        | some L' => exact f8.new p L' hφ e0
       next := f8.next
       floor := f8.floor
       os := h3.os.trans f8.os
       tape := h3.tape.trans f8.tape
       output := h3.output.trans f8.output
       drawn := Nat.le_trans f8.drawn h3.drawn
       size := Nat.le_trans f8.size h3.size
       kept := fun c hc hnn => (hkept c (Nat.lt_of_lt_of_le hc f8.size)).trans (f8.kept c hc hnn)
       made := fun p L hp e hl => by
        cases hφ : φ p with
        | none =>
         have n1 := isnew p L e hφ
         exact .inl (Nat.le_trans f8.size (hmade p L e hφ ((live1 p n1.2).1 hl)))
        | some L' => have := isold p L L' e hφ; subst this; exact f8.made p L' hp hφ hl
       low := f8.low }
     refine ih _ _ _ hcnt' (by simp [hls]) hcl' (by rw [zy8]; cases o.dst <;> simp [hts]) (by rw [put_defers]; exact hdf)
      ⟨φ', s, b, hsb, hbn, fun k ak q1 q2 q3 => ?_, fun k ak q1 q2 q3 => ?_, f3, f4, hafter φ' x v h3.ext e1 h1, hHb, fun p L e => ?_, hSb⟩
     ·rw [hset]; split
      ·exact .inl rfl
      ·exact f1 k ak q1 q2 q3
     ·rw [hset, if_neg (by omega)]; exact f2 k ak q1 q2 q3
     ·cases hφ : φ p with
      | none =>
       have n1 := isnew p L e hφ
       exact .inr (.inr ⟨i, ao, hia, hp, hsi, hib, by rw [hset, if_pos rfl], n1.1, n1.2⟩)
      | some L' =>
       rcases f7 p L' hφ with q | q | ⟨k, ak, q1, q2, q3, q4, q5, q6, q7⟩
       ·exact .inl q
       ·exact .inr (.inl q)
       ·exact .inr (.inr ⟨k, ak, q1, q2, q3, q4, by rw [hset]; split; rfl; exact q5, q6, q7⟩)
    | false =>
     have hib : i = b := by
      rcases Nat.lt_trichotomy i b with q | q | q
      ·have := f3 i ao hia hp hsi q; rw [hq] at this; cases this
      ·exact q
      ·exfalso
       rcases f4 with r | ⟨ab, r1, r2, r3⟩
       ·omega
       ·have := hanc b ((hd.barr b ab r1 r3 r2 i ao hia hp).2 q)
        rw [f2 b ab r1 r2 (Nat.le_refl _)] at this; cases this
     subst hib
     have hi1 : i + 1 <= aops.length := by omega
     have before : ∀ (k : Nat) (ak : zb6), aops[k]? = some ak -> ak.op.isPure = false -> k < i -> listed.getD k false = true \/ Late T (i + 1) k ak := by
      intro k ak q1 q2 q3
      cases hlk : listed.getD k false with
      | true => exact .inl rfl
      | false =>
       right
       rcases (hd.barr i ao hia hq hp k ak q1 q2).1 q3 with q | ⟨⟨ak', ab', n, t, r1, r2, r3, r4, r5, r6⟩, _⟩
       ·rw [hanc k q] at hlk; cases hlk
       ·rw [q1] at r1; cases r1
        rw [hia] at r2; cases r2
        have hstk := hT k ak q1
        have slot : ∀ m, k < m -> m <= i -> Env.at (T m).1 t = Env.at (T (k + 1)).1 t := by
         intro m
         induction m with
         | zero => intro h; omega
         | succ m ihm =>
          intro h1 h2
          by_cases hmk : m = k
          ·subst hmk; rfl
          ·have hma : aops[m]? = some (aops[m]'(by omega)) := List.getElem?_eq_getElem (by omega)
           obtain ⟨x, hx⟩ := zac5 (hT m _ hma)
           rw [hx, zat4, if_neg (r6 m _ (by omega) (by omega) hma)]
           exact ihm (by omega) (by omega)
        refine ⟨n, t, r3, fun hw p off ha => ?_⟩
        have upto : (T i).2.get p = (T k).2.get p /\ p < (T k).2.next := by
         have hnx : p < (T k).2.next := by
          obtain ⟨_, _, h5⟩ := z16 (H' := (T k).2) hstk r3 (fun _ _ _ _ => rfl)
          obtain ⟨p', off', x, h6, h7⟩ := h5 hw
          rw [ha] at h6; cases h6
          rcases Nat.lt_or_ge p (T k).2.next with r | r
          ·exact r
          ·rw [trf k (by omega) p r] at h7; cases h7
         refine ⟨?_, hnx⟩
         by_cases hks : k < s
         ·rcases f1 k ak q1 q2 hks with h6 | ⟨n', t', h6, h7⟩
          ·rw [hlk] at h6; cases h6
          ·rw [r3] at h6; cases h6
           exact h7 hw p off ha
         ·exact trs s i f3 hbn k (by omega) i (by omega) (Nat.le_refl _) p hnx
        have hslot : Env.at (T (k + 1)).1 t = Env.at (T k).1 t \/ ak.dst = some t := by
         obtain ⟨x, hx⟩ := zac5 hstk
         rw [hx, zat4]
         by_cases h8 : ak.dst = some t
         ·exact .inr h8
         ·left; rw [if_neg h8]
        rcases hslot with h8 | h8
        ·have h9 : Env.at (T i).1 t = .ptr p off := by rw [slot i q3 (Nat.le_refl _), h8, ha]
         rw [zau7 hst hq r5 h9 (Nat.lt_of_lt_of_le upto.2 (trm k i (by omega) (by omega)).next)]
         exact upto.1
        ·exact absurd h8 (by
          intro h8
          obtain ⟨ok2, h10, h11⟩ := hd.ok k ak q1
          exact hd.self k ok2 ak n t h10 q1 r3 h8)
     have behind : ∀ (k : Nat) (ak : zb6), aops[k]? = some ak -> ak.op.isPure = false -> i < k -> listed.getD k false = false := fun k ak q1 q2 q3 => hdesc k ((hd.barr i ao hia hq hp k ak q1 q2).2 q3)
     refine z14 hcf ho' hok hts hx hg f6 hst (hZ (i + 1) hi1) fun φ' x v w' e1 h1 h2 h3 _ => ?_
     have nb : ∃ b', i + 1 <= b' /\ b' <= aops.length /\ (∀ (k : Nat) (ak : zb6), aops[k]? = some ak -> ak.op.isPure = false -> i + 1 <= k -> k < b' -> ak.quiet = true) /\ (b' = aops.length \/ ∃ ab, aops[b']? = some ab /\ ab.op.isPure = false /\ ab.quiet = false) := by
      have : ∀ n k, n = aops.length - k -> i + 1 <= k -> k <= aops.length -> (∀ (m : Nat) (am : zb6), aops[m]? = some am -> am.op.isPure = false -> i + 1 <= m -> m < k -> am.quiet = true) ->
        ∃ b', i + 1 <= b' /\ b' <= aops.length /\ (∀ (k : Nat) (ak : zb6), aops[k]? = some ak -> ak.op.isPure = false -> i + 1 <= k -> k < b' -> ak.quiet = true) /\ (b' = aops.length \/ ∃ ab, aops[b']? = some ab /\ ab.op.isPure = false /\ ab.quiet = false) := by
       intro n
       induction n with
       | zero => intro k h1 h2 h3 h4; exact ⟨k, h2, h3, h4, .inl (by omega)⟩
       | succ n ihn =>
        intro k h1 h2 h3 h4
        have hk : k < aops.length := by omega
        have hka : aops[k]? = some aops[k] := List.getElem?_eq_getElem hk
        by_cases hc : aops[k].op.isPure = false /\ aops[k].quiet = false
        ·exact ⟨k, h2, h3, h4, .inr ⟨_, hka, hc.1, hc.2⟩⟩
        ·refine ihn (k + 1) (by omega) (by omega) (by omega) fun m am q1 q2 q3 q4 => ?_
         by_cases e : m = k
         ·subst e; rw [hka] at q1; cases q1
          cases hqq : aops[m].quiet with
          | true => rfl
          | false => exact absurd ⟨q2, hqq⟩ hc
         ·exact h4 m am q1 q2 q3 (by omega)
      exact this _ (i + 1) rfl (Nat.le_refl _) hi1 fun m am _ _ q3 q4 => by omega
     obtain ⟨b', g1, g2, g3, g4⟩ := nb
     have hdom' : ∀ p L, φ' p = some L -> p < (T (i + 1)).2.next \/ Z <= p := h2.dom
     have same1 : ∀ p, p < (T (i + 1)).2.next -> (T b').2.get p = (T (i + 1)).2.get p := trs (i + 1) b' g3 g2 (i + 1) (Nat.le_refl _) b' g1 (Nat.le_refl _)
     have hm' := trm (i + 1) b' g1 g2
     have getb : ∀ p L y, φ' p = some L -> (T b').2.get p = some y -> (T (i + 1)).2.get p = some y := fun p L y e hy => by
      rcases hdom' p L e with r | r
      ·rw [<- same1 p r]; exact hy
      ·rw [trf b' g2 p (Nat.le_trans (hZ b' g2) r)] at hy; cases hy
     have lb : ∀ p L, φ' p = some L -> live (T b').2 p -> live (T (i + 1)).2 p := fun p L e ⟨y, hy, hyd⟩ => ⟨y, getb p L y e hy, hyd⟩
     have hHb : zc7 G B W Z φ' (T b').2 w' :=
      {fl := by rw [hm'.floor]; exact h2.fl
       fn := (tr b' g2).2
       wsz := h2.wsz
       dom := fun p L e => (hdom' p L e).imp (fun r => Nat.lt_of_lt_of_le r hm'.next) id
       fresh := trf b' g2
       obj := fun p L y e hy => h2.obj p L y e (getb p L y e hy)
       low := h2.low
       high := fun p L e hp hl => h2.high p L e hp (lb p L e hl)
       inj := fun p p' L L' e e' hp hp' hl hl' => h2.inj p p' L L' e e' hp hp' (lb p L e hl) (lb p' L' e' hl')
       good := h2.good }
     have hS := f8.trans h3
     have hSb : Step φ0 H0 w0 φ' (T b').2 w' :=
      {ext := hS.ext
       new := fun p L e e0 => by have := hS.new p L e e0; have := hm'.next; omega
       next := Nat.le_trans hS.next hm'.next
       floor := hm'.floor.trans hS.floor
       os := hS.os, tape := hS.tape, drawn := hS.drawn, output := hS.output, size := hS.size, kept := hS.kept
       made := fun p L hp e hl => hS.made p L hp e (lb p L e hl)
       low := fun p hp => by
        have h5 := hS.low p hp
        have h6 := hH0.fn
        have h7 := hS.next
        rw [same1 p (by omega)]; exact h5 }
     refine ih _ _ _ hcnt' (by simp [hls]) hcl' (by rw [zy8]; cases o.dst <;> simp [hts]) (by rw [put_defers]; exact hdf)
      ⟨φ', i + 1, b', g1, g2, fun k ak q1 q2 q3 => ?_, fun k ak q1 q2 q3 => ?_, g3, g4, hafter φ' x v h3.ext e1 h1, hHb, fun p L e => ?_, hSb⟩
     ·rw [hset]; split
      ·exact .inl rfl
      ·rcases before k ak q1 q2 (by omega) with h5 | ⟨n, t, h5, h6⟩
       ·exact .inl h5
       ·refine .inr ⟨n, t, h5, fun hw p off ha => ?_⟩
        rw [<- h6 hw p off ha]
        have hnx : p < (T k).2.next := by
         obtain ⟨_, _, h7⟩ := z16 (H' := (T k).2) (hT k ak q1) h5 (fun _ _ _ _ => rfl)
         obtain ⟨p', off', x, h8, h9⟩ := h7 hw
         rw [ha] at h8; cases h8
         rcases Nat.lt_or_ge p (T k).2.next with r | r
         ·exact r
         ·rw [trf k (by omega) p r] at h9; cases h9
        exact same1 p (Nat.lt_of_lt_of_le hnx (trm k (i + 1) (by omega) (by omega)).next)
     ·rw [hset, if_neg (by omega)]; exact behind k ak q1 q2 (by omega)
     ·rcases hdom' p L e with r | r
      ·exact .inl r
      ·exact .inr (.inl r)
end Go.AI
namespace Go.AI
variable {P : Program} {G : World -> Prop}
theorem zav4 {cf : zj5} (hcf : zl0 P G cf) (hcm : zm1 cf) (hmix : P.follows .mixedOrders = true) {id : Nat} {ops : Array Oper} {B W Z N : Nat} {Q : Exit -> Act -> World -> Prop} {aops : List zb6} (hd : za52 P ops N aops)
  {φ : Pl} {H H' : Heap} {w : World} {τ τ' : Env} {act : Act} (hF : zp7 φ N τ act) (hH : zc7 G B W Z φ H w) (h : zv3 cf aops τ H = some (τ', H')) (hK : H'.next <= Z)
  (hQ : ∀ φ' act' w', zp7 φ' N τ' act' -> act'.defers = act.defers -> zc7 G B W Z φ' H' w' -> Step φ H w φ' H' w' -> Q .normal act' w') : (Code.region id ops true).wp P Q act w := by
 refine wp_region_any hmix ?_
 obtain ⟨T, h0, hn, hT⟩ := zaj8 cf aops τ τ' H H' h
 let w1 : World := { w with drawn := w.drawn + 1 }
 have hH1 : zc7 G B W Z φ H w1 := hH.congr rfl
 have hS1 : Step φ H w φ H w1 := Step.congr rfl rfl rfl rfl
 have nb : ∃ b', 0 <= b' /\ b' <= aops.length /\ (∀ (k : Nat) (ak : zb6), aops[k]? = some ak -> ak.op.isPure = false -> 0 <= k -> k < b' -> ak.quiet = true) /\ (b' = aops.length \/ ∃ ab, aops[b']? = some ab /\ ab.op.isPure = false /\ ab.quiet = false) := by
  have : ∀ n k, n = aops.length - k -> k <= aops.length -> (∀ (m : Nat) (am : zb6), aops[m]? = some am -> am.op.isPure = false -> m < k -> am.quiet = true) ->
    ∃ b', 0 <= b' /\ b' <= aops.length /\ (∀ (k : Nat) (ak : zb6), aops[k]? = some ak -> ak.op.isPure = false -> 0 <= k -> k < b' -> ak.quiet = true) /\ (b' = aops.length \/ ∃ ab, aops[b']? = some ab /\ ab.op.isPure = false /\ ab.quiet = false) := by
   intro n
   induction n with
   | zero => intro k h1 h3 h4; exact ⟨k, Nat.zero_le _, h3, fun m am q1 q2 _ q4 => h4 m am q1 q2 q4, .inl (by omega)⟩
   | succ n ihn =>
    intro k h1 h3 h4
    have hk : k < aops.length := by omega
    have hka : aops[k]? = some aops[k] := List.getElem?_eq_getElem hk
    by_cases hc : aops[k].op.isPure = false /\ aops[k].quiet = false
    ·exact ⟨k, Nat.zero_le _, h3, fun m am q1 q2 _ q4 => h4 m am q1 q2 q4, .inr ⟨_, hka, hc.1, hc.2⟩⟩
    ·refine ihn (k + 1) (by omega) (by omega) fun m am q1 q2 q4 => ?_
     by_cases e : m = k
     ·subst e; rw [hka] at q1; cases q1
      cases hqq : aops[m].quiet with
      | true => rfl
      | false => exact absurd ⟨q2, hqq⟩ hc
     ·exact h4 m am q1 q2 (by omega)
  exact this _ 0 rfl (Nat.zero_le _) fun m am _ _ q4 => by omega
 obtain ⟨b', _, g2, g3, g4⟩ := nb
 have tr : ∀ j, j <= aops.length -> zf5 H (T j).2 /\ (T j).2.floor <= (T j).2.next := by
  intro j
  induction j with
  | zero => intro _; rw [h0]; exact ⟨zf5.refl _, hH.fn⟩
  | succ j ih =>
   intro hj
   obtain ⟨m, hf⟩ := ih (by omega)
   have := zl3 hcm (hT j _ (List.getElem?_eq_getElem (by omega : j < aops.length))) hf
   exact ⟨m.trans this, by rw [this.floor]; exact Nat.le_trans hf this.next⟩
 have same : ∀ j, j <= b' -> ∀ o, o < H.next -> (T j).2.get o = H.get o := by
  intro j
  induction j with
  | zero => intro _ o _; rw [h0]
  | succ j ih =>
   intro hj o ho
   have hja : aops[j]? = some aops[j] := List.getElem?_eq_getElem (by omega : j < aops.length)
   have hst := hT j _ hja
   have ih' := ih (by omega) o ho
   cases hp : (aops[j]).op.isPure with
   | true => rw [(z15 hst hp).1]; exact ih'
   | false =>
    rw [zaj0 hcm hst (g3 j _ hja hp (Nat.zero_le _) (by omega)) o (Nat.lt_of_lt_of_le ho (tr j (by omega)).1.next)]
    exact ih'
 have hmb := (tr b' g2).1
 have hfr := hmb.fresh hH.fresh
 have hnn : ∀ j, j <= aops.length -> (T j).2.next <= (T aops.length).2.next := by
  intro j hj
  have : ∀ n, j + n <= aops.length -> (T j).2.next <= (T (j + n)).2.next := by
   intro n
   induction n with
   | zero => intro _; exact Nat.le_refl _
   | succ n ih => intro hn'; exact Nat.le_trans (ih (by omega)) (zl3 hcm (hT (j + n) _ (List.getElem?_eq_getElem (by omega : j + n < aops.length))) (tr (j + n) (by omega)).2).next
  have := this (aops.length - j) (by omega)
  rwa [Nat.add_sub_cancel' hj] at this
 have hZb : (T b').2.next <= Z := Nat.le_trans (hnn b' g2) (by rw [hn]; exact hK)
 have getb : ∀ p L y, φ p = some L -> (T b').2.get p = some y -> H.get p = some y := fun p L y e hy => by
  rcases hH.dom p L e with r | r
  ·rw [<- same b' (Nat.le_refl _) p r]; exact hy
  ·rw [hfr p (Nat.le_trans hZb r)] at hy; cases hy
 have lb : ∀ p L, φ p = some L -> live (T b').2 p -> live H p := fun p L e ⟨y, hy, hyd⟩ => ⟨y, getb p L y e hy, hyd⟩
 have hHb : zc7 G B W Z φ (T b').2 w1 :=
  {fl := by rw [hmb.floor]; exact hH.fl
   fn := (tr b' g2).2
   wsz := hH1.wsz
   dom := fun p L e => (hH.dom p L e).imp (fun r => Nat.lt_of_lt_of_le r hmb.next) (fun r => r)
   fresh := hfr
   obj := fun p L y e hy => hH1.obj p L y e (getb p L y e hy)
   low := hH1.low
   high := fun p L e hp hl => hH1.high p L e hp (lb p L e hl)
   inj := fun p p' L L' e e' hp hp' hl hl' => hH1.inj p p' L L' e e' hp hp' (lb p L e hl) (lb p' L' e' hl')
   good := hH1.good }
 have hSb : Step φ H w φ (T b').2 w1 :=
  {ext := hS1.ext
   new := fun p L e e0 => by rw [e] at e0; cases e0
   next := hmb.next
   floor := hmb.floor
   os := hS1.os, tape := hS1.tape, drawn := hS1.drawn, output := hS1.output, size := hS1.size, kept := hS1.kept
   made := fun p L hp e hl => hS1.made p L hp e (lb p L e hl)
   low := fun p hp => same b' (Nat.le_refl _) p (Nat.lt_of_lt_of_le hp hH.fn) }
 refine zbj3 hcf hcm hd h0 hn hT hH hK hQ ops.size _ act w1 (Nat.le_trans (List.length_filter_le _ _) (by simp)) (by simp) (fun j o hj => ?_) hF.size rfl
  ⟨φ, 0, b', Nat.zero_le _, g2, fun i ai _ _ h => by omega, fun i ai q1 _ _ => ?_, g3, g4, fun t => ?_, hHb, fun p L e => ?_, hSb⟩
 ·simp [Array.getD_eq_getD_getElem?, Array.getElem?_replicate] at hj
  split at hj <;> simp at hj
 ·simp only [Array.getD_eq_getD_getElem?, Array.getElem?_replicate]
  split <;> rfl
 ·have : ∀ m, valE T aops (Array.replicate ops.size false) t m = Env.at (T 0).1 t := by
   intro m
   induction m with
   | zero => rfl
   | succ m ih =>
    simp only [valE]
    rw [if_neg, ih]
    intro q
    have := q.1
    simp [Array.getD_eq_getD_getElem?, Array.getElem?_replicate] at this
    split at this <;> simp at this
  rw [this, h0]
  exact hF.at_ t
 ·rw [h0]
  exact (hH.dom p L e).imp (fun r => r) .inl
inductive zf4 (P : Program) (N : Nat) : Code -> za0 -> Prop
 | bad (c : Code) : zf4 P N c .bad
 | skip : zf4 P N .skip .skip
 | ret : zf4 P N .ret .ret
 | exit (id : Nat) : zf4 P N (.exit id) (.exit id)
 | label (l : Nat) : zf4 P N (.label l) .skip
 | scope {a : Code} {x : za0} (h : zf4 P N a x) : zf4 P N (.scope a) (.seq x .skip)
 | seq {a b : Code} {x y : za0} (h : zf4 P N a x) (k : zf4 P N b y) : zf4 P N (.seq a b) (.seq x y)
 | cond {c : Operand} {d : Opd} {a b : Code} {x y : za0} (hc : zk0 c = some d) (h : zf4 P N a x) (k : zf4 P N b y) : zf4 P N (.cond c a b) (.cond d x y)
 | block {id : Nat} {a : Code} {x : za0} (h : zf4 P N a x) : zf4 P N (.block id a) (.block id x)
 | loop {a : Code} {x : za0} (h : zf4 P N a x) : zf4 P N (.loop a) (.loop x)
 | region {id : Nat} {ops : Array Oper} {aops : List zb6} (hl : aops.length = ops.size) (h : ∀ (j : Nat) (ao : zb6), aops[j]? = some ao -> ∃ o, ops[j]? = some o /\ zp6 P ops N o ao) : zf4 P N (.region id ops false) (.region aops)
 | drawn {id : Nat} {ops : Array Oper} {aops : List zb6} (hmix : P.follows .mixedOrders = true) (h : za52 P ops N aops) : zf4 P N (.region id ops true) (.region aops)
def zbv7 (P : Program) : ResultVar -> zf7 -> Prop
 | .tmp t, .tmp t' => t = t'
 | .cell t ty, .cell t' n => t = t' /\ zh9 P ty = some n
 | _, _ => False
structure zb4 (P : Program) (f : Nat) (af : zc2) : Prop where
 ex : ∃ fn c, P.funcs[f]? = some fn /\ (fn.name == "runtime.NumGoroutine") = false /\ fn.body = some c /\ fn.ntmps = af.ntmps /\ zf4 P af.ntmps c af.body /\
  fn.results.toList.length = af.results.length /\ ∀ (i : Nat) (r : ResultVar) (ar : zf7), fn.results.toList[i]? = some r -> af.results[i]? = some ar -> zbv7 P r ar
def zcj3 (P : Program) (G : World -> Prop) (f : Nat) (g : List AV -> Heap -> Option (AV × Heap)) : Prop :=
 (∀ (args : List AV) (H : Heap) (v : AV) (H' : Heap), g args H = some (v, H') -> H.floor <= H.next -> zf5 H H') /\
 ∀ (B W Z : Nat) (args : List AV) (H : Heap) (v : AV) (H' : Heap) (φ : Pl) (w : World) (avs : List Value), g args H = some (v, H') -> zg4 φ args avs -> zc7 G B W Z φ H w -> H'.next <= Z ->
  FnOk P f /\ Calls P f avs.toArray w (Ret G B W Z φ H w v H')
def zg3 (P : Program) (G : World -> Prop) (FT : Nat -> Option FnD) : Prop := ∀ f, (∀ af, FT f = some (.code af) -> zb4 P f af) /\ (∀ g, FT f = some (.ext g) -> zcj3 P G f g)
def zk7 : Sig -> Exit
 | .next => .normal
 | .exit id => .exit id
 | .ret => .ret
theorem zg5 {FT : Nat -> Option FnD} (hFT : zg3 P G FT) : ∀ (n : Nat), (∀ (c : za0) (τ : Env) (H : Heap) (s : Sig) (τ' : Env) (H' : Heap), run FT n c τ H = some (s, τ', H') -> H.floor <= H.next -> zf5 H H') /\ zm1 (zo3 FT n)
 | 0 => by
  have h1 : ∀ (c : za0) (τ : Env) (H : Heap) (s : Sig) (τ' : Env) (H' : Heap), run FT 0 c τ H = some (s, τ', H') -> H.floor <= H.next -> zf5 H H' := fun c τ H s τ' H' h => by simp [run] at h
  refine ⟨h1, fun f args H v H' h hf => ?_⟩
  unfold zo3 at h
  split at h
  ·rename_i af _
   cases hb : Nat.ble args.length af.ntmps with
   | false => simp [hb] at h
   | true => simp [hb, run, zq6] at h
  ·rename_i g hg; exact ((hFT f).2 g hg).1 args H v H' h hf
  ·cases h
 | n + 1 => by
  obtain ⟨ih, ihc⟩ := zg5 hFT n
  have main : ∀ (c : za0) (τ : Env) (H : Heap) (s : Sig) (τ' : Env) (H' : Heap), run FT (n + 1) c τ H = some (s, τ', H') -> H.floor <= H.next -> zf5 H H' := by
   intro c τ H s τ' H' h hf
   cases c <;> simp only [run] at h
   ·cases h; exact zf5.refl _
   ·rename_i ops
    split at h
    ·rename_i τ2 H2 hops
     cases h
     exact zj3 ihc ops τ H _ _ hops hf
    ·cases h
   ·rename_i a b
    split at h
    ·rename_i τ1 H1 h1
     have m := ih a τ H _ _ _ h1 hf
     exact m.trans (ih b _ _ _ _ _ h (by rw [m.floor]; exact Nat.le_trans hf m.next))
    ·exact ih a τ H _ _ _ h hf
   ·split at h
    ·exact ih _ _ _ _ _ _ h hf
    ·exact ih _ _ _ _ _ _ h hf
    ·cases h
   ·rename_i id b
    split at h
    ·rename_i id' τ1 H1 h1
     have m := ih b τ H _ _ _ h1 hf
     cases hb : Nat.beq id' id <;> simp [hb] at h <;> (rw [<- h.2.2]; exact m)
    ·exact ih b τ H _ _ _ h hf
   ·rename_i b
    split at h
    ·rename_i τ1 H1 h1
     have m := ih b τ H _ _ _ h1 hf
     exact m.trans (ih _ _ _ _ _ _ h (by rw [m.floor]; exact Nat.le_trans hf m.next))
    ·exact ih b τ H _ _ _ h hf
   ·cases h; exact zf5.refl _
   ·cases h; exact zf5.refl _
   ·cases h
  refine ⟨main, fun f args H v H' h hf => ?_⟩
  unfold zo3 at h
  split at h
  ·rename_i af _
   cases hb : Nat.ble args.length af.ntmps with
   | false => simp [hb] at h
   | true =>
    simp only [hb, cond_true] at h
    cases hr : run FT (n + 1) af.body (zf9 0 args .leaf) H with
    | none => simp [hr, zq6] at h
    | some r =>
     obtain ⟨s, τ1, H1⟩ := r
     have m := main _ _ _ _ _ _ hr hf
     rw [hr] at h
     cases s <;> simp only [zq6] at h
     ·cases hq : zb5 τ1 H1 af.results <;> simp [hq] at h; rw [<- h.2]; exact m
     ·cases h
     ·cases hq : zb5 τ1 H1 af.results <;> simp [hq] at h; rw [<- h.2]; exact m
  ·rename_i g hg; exact ((hFT f).2 g hg).1 args H v H' h hf
  ·cases h
theorem za49 : ∀ (xs : List AV) (i t : Nat) (τ : Env), Env.at (zf9 i xs τ) t = if i <= t /\ t < i + xs.length then (xs[t - i]?).getD zb8 else Env.at τ t
 | [], i, t, τ => by simp only [zf9, List.length_nil]; rw [if_neg (by omega)]
 | x :: xs, i, t, τ => by
  simp only [zf9, List.length_cons]
  rw [za49 xs (i + 1) t]
  have hs : Env.at (Tr.set τ i x) t = if t = i then x else Env.at τ t := by
   simp only [Env.at, Tr.get_set]
   split <;> simp
  by_cases h1 : t = i
  ·subst h1
   rw [if_neg (by omega), hs, if_pos rfl, if_pos (by omega)]; simp
  ·by_cases h2 : i + 1 <= t /\ t < i + 1 + xs.length
   ·rw [if_pos h2, if_pos (by omega)]
    have : t - i = (t - (i + 1)) + 1 := by omega
    rw [this]; simp
   ·rw [if_neg h2, hs, if_neg h1, if_neg (by omega)]
theorem zas3 {φ : Pl} {args : List AV} {avs : List Value} (h : zg4 φ args avs) (N : Nat) (hN : args.length <= N) : zp7 φ N (zf9 0 args .leaf) { tmps := avs.toArray ++ Array.replicate (N - avs.toArray.size) undef, defers := [] } := by
 have hlen := h.len
 refine ⟨by simp; omega, fun t => ?_⟩
 rw [za49]
 simp only [Array.getD_eq_getD_getElem?]
 by_cases ht : t < args.length
 ·rw [if_pos (by omega)]
  have ha : args[t]? = some args[t] := List.getElem?_eq_getElem ht
  obtain ⟨v, hv, hr⟩ := h.getE ha
  have : (avs.toArray ++ Array.replicate (N - avs.toArray.size) undef)[t]? = some v := by
   rw [Array.getElem?_append_left (by simp; omega)]; simpa using hv
  rw [this]
  simp only [Nat.sub_zero, ha, Option.getD_some]; exact hr
 ·rw [if_neg (by omega)]
  have e1 : Env.at (.leaf : Env) t = zb8 := rfl
  rw [e1]
  have : ((avs.toArray ++ Array.replicate (N - avs.toArray.size) undef)[t]?).getD undef = undef := by
   rw [Array.getElem?_append_right (by simp; omega), Array.getElem?_replicate]
   split <;> rfl
  rw [this]; exact zc3.undef _
def za07 (tmps : Array Value) : ResultVar -> Sem Value
 | .tmp t => pure (tmps.getD t undef)
 | .cell a t => do loadVar t (<- asAddr (tmps.getD a undef))
theorem zaj4 (fn : Func) (tmps : Array Value) : results fn tmps = (do let vs <- fn.results.mapM (za07 tmps); pure (if h : vs.size = 1 then vs[0] else .tuple vs)) := by
 unfold results
 congr 1
theorem zt6 {B W Z N : Nat} {φ : Pl} {H : Heap} {w : World} {τ : Env} {a : Act} (hF : zp7 φ N τ a) (hH : zc7 G B W Z φ H w) : ∀ (rs : List ResultVar) (ars : List zf7) (vs : List AV), rs.length = ars.length ->
  (∀ (i : Nat) (r : ResultVar) (ar : zf7), rs[i]? = some r -> ars[i]? = some ar -> zbv7 P r ar) -> zb5 τ H ars = some vs ->
  ∃ us : List Value, (rs.mapM (za07 a.tmps)).run P w = .ok us w /\ zg4 φ vs us
 | [], [], vs, _, _, h => by simp [zb5] at h; subst h; exact ⟨[], by simp, .nil⟩
 | [], _ :: _, _, h, _, _ => by simp at h
 | _ :: _, [], _, h, _, _ => by simp at h
 | r :: rs, ar :: ars, vs, hl, hok, h => by
  simp only [zb5] at h
  split at h
  ·cases h
  rename_i v hv
  cases hrs : zb5 τ H ars with
  | none => simp [hrs] at h
  | some vs' =>
   simp [hrs] at h; subst h
   obtain ⟨us, g1, g2⟩ := zt6 hF hH rs ars vs' (by simpa using hl) (fun i r ar q1 q2 => hok (i + 1) r ar (by simpa using q1) (by simpa using q2)) hrs
   have h0 := hok 0 r ar rfl rfl
   have one : ∃ u, (za07 a.tmps r).run P w = .ok u w /\ zc3 φ v u := by
    cases r with
    | tmp t =>
     cases ar with
     | tmp t' => cases h0; simp only [ze1] at hv; cases hv; exact ⟨_, rfl, hF.at_ t⟩
     | cell => exact h0.elim
    | cell x t =>
     cases ar with
     | tmp t' => exact h0.elim
     | cell x' n =>
      obtain ⟨rfl, ht⟩ := h0
      simp only [ze1] at hv
      split at hv
      ·rename_i o off hq
       have r := hF.at_ x
       rw [hq] at r
       generalize hpv : a.tmps.getD x undef = pv at r
       cases hc : H.cellsAt o with
       | none => simp [hc] at hv
       | some cs =>
        simp [hc] at hv
        cases r with
        | ptr _ _ L hL =>
         obtain ⟨u, k1, k2⟩ := zad1 (P := P) ht (hH.at_ hL hc).1 hv
         exact ⟨u, by simp only [za07, hpv, asAddr, Sem.run_bind, Sem.run_pure, Result.andThen_ok, k1], k2⟩
      ·cases hv
   obtain ⟨u, k1, k2⟩ := one
   refine ⟨u :: us, ?_, .cons k2 g2⟩
   rw [List.mapM_cons, Sem.run_bind, k1]
   simp only [Result.andThen_ok, Sem.run_bind, g1, Sem.run_pure]
theorem zaj7 {φ : Pl} {vs : List AV} {us : Array Value} (h : zg4 φ vs us.toList) : zc3 φ (zg8 vs) (if h : us.size = 1 then us[0] else .tuple us) := by
 obtain ⟨l⟩ := us
 simp only at h
 cases h with
 | nil => exact .tup [] _ .nil
 | cons x t =>
  cases t with
  | nil => simp [zg8]; exact x
  | cons y t => simp [zg8]; exact .tup _ _ (.cons x (.cons y t))
theorem zm3 {FT : Nat -> Option FnD} (hFT : zg3 P G FT) : ∀ (n : Nat),
  (∀ (c : Code) (ac : za0) (B W Z N : Nat) (φ : Pl) (τ τ' : Env) (H H' : Heap) (act : Act) (w : World) (s : Sig) (Q : Exit -> Act -> World -> Prop), zf4 P N c ac -> run FT n ac τ H = some (s, τ', H') -> zp7 φ N τ act -> zc7 G B W Z φ H w -> H'.next <= Z ->
   (∀ φ' act' w', zp7 φ' N τ' act' -> act'.defers = act.defers -> zc7 G B W Z φ' H' w' -> Step φ H w φ' H' w' -> Q (zk7 s) act' w') -> c.wp P Q act w) /\
  (∀ (a : Code) (x : za0) (B W Z N : Nat) (φ : Pl) (τ τ' : Env) (H H' : Heap) (act : Act) (w : World) (s : Sig) (Q : Exit -> Act -> World -> Prop), zf4 P N a x -> run FT n (.loop x) τ H = some (s, τ', H') -> zp7 φ N τ act -> zc7 G B W Z φ H w -> H'.next <= Z ->
   (∀ φ' act' w', zp7 φ' N τ' act' -> act'.defers = act.defers -> zc7 G B W Z φ' H' w' -> Step φ H w φ' H' w' -> Q (zk7 s) act' w') -> Code.rounds P a Q n act w) /\ zl0 P G (zo3 FT n) := by
 intro n
 have call_of : ∀ n, (∀ (c : Code) (ac : za0) (B W Z N : Nat) (φ : Pl) (τ τ' : Env) (H H' : Heap) (act : Act) (w : World) (s : Sig) (Q : Exit -> Act -> World -> Prop), zf4 P N c ac -> run FT n ac τ H = some (s, τ', H') -> zp7 φ N τ act -> zc7 G B W Z φ H w -> H'.next <= Z ->
   (∀ φ' act' w', zp7 φ' N τ' act' -> act'.defers = act.defers -> zc7 G B W Z φ' H' w' -> Step φ H w φ' H' w' -> Q (zk7 s) act' w') -> c.wp P Q act w) -> zl0 P G (zo3 FT n) := by
  intro n main B W Z f args H v H' φ w avs h hl hH hK
  unfold zo3 at h
  split at h
  ·rename_i af haf
   obtain ⟨fn, c, k1, k2, k3, k4, k5, k6, k7⟩ := ((hFT f).1 af haf).ex
   refine ⟨⟨fn, k1, k2, by rw [k3]; rfl⟩, ?_⟩
   cases hb : Nat.ble args.length af.ntmps with
   | false => simp [hb] at h
   | true =>
    have hb' := Nat.le_of_ble_eq_true hb
    simp only [hb, cond_true] at h
    cases hr : run FT n af.body (zf9 0 args .leaf) H with
    | none => simp [hr, zq6] at h
    | some r =>
     obtain ⟨s, τ1, H1⟩ := r
     rw [hr] at h
     have hres : (s = .next \/ s = .ret) /\ ∃ vs, zb5 τ1 H1 af.results = some vs /\ v = zg8 vs /\ H' = H1 := by
      cases s <;> simp only [zq6] at h
      ·cases hq : zb5 τ1 H1 af.results <;> simp [hq] at h; exact ⟨.inl rfl, _, rfl, h.1.symm, h.2.symm⟩
      ·cases h
      ·cases hq : zb5 τ1 H1 af.results <;> simp [hq] at h; exact ⟨.inr rfl, _, rfl, h.1.symm, h.2.symm⟩
     obtain ⟨hs, vs, hvs, rfl, rfl⟩ := hres
     refine calls_of_wp k1 k3 ?_
     rw [k4]
     refine main c af.body B W Z af.ntmps φ _ τ1 H H' _ w s _ k5 hr (zas3 hl af.ntmps hb') hH hK fun φ' act' w' g1 g2 g3 g4 => ?_
     obtain ⟨us, q1, q2⟩ := zt6 (P := P) g1 g3 fn.results.toList af.results vs k6 k7 hvs
     have hret : act'.defers = [] /\ ∃ v, (results fn act'.tmps).run P w' = .ok v w' /\ Ret G B W Z φ H w (zg8 vs) H' (.returned v) w' := by
      refine ⟨g2, _, ?_, φ', _, rfl, zaj7 (us := us.toArray) (by simpa using q2), g3, g4⟩
      rw [zaj4]
      simp only [Array.mapM_eq_mapM_toList, Sem.run_bind, Sem.run_map, q1, Result.andThen_ok, Sem.run_pure]
     rcases hs with rfl | rfl
     ·exact hret
     ·exact hret
  ·rename_i g hg
   exact ((hFT f).2 g hg).2 B W Z args H v H' φ w avs h hl hH hK
  ·cases h
 induction n with
 | zero =>
  have h1 : ∀ (c : Code) (ac : za0) (B W Z N : Nat) (φ : Pl) (τ τ' : Env) (H H' : Heap) (act : Act) (w : World) (s : Sig) (Q : Exit -> Act -> World -> Prop), zf4 P N c ac -> run FT 0 ac τ H = some (s, τ', H') -> zp7 φ N τ act -> zc7 G B W Z φ H w -> H'.next <= Z ->
   (∀ φ' act' w', zp7 φ' N τ' act' -> act'.defers = act.defers -> zc7 G B W Z φ' H' w' -> Step φ H w φ' H' w' -> Q (zk7 s) act' w') -> c.wp P Q act w := by
   intro c ac B W Z N φ τ τ' H H' act w s Q _ h; simp [run] at h
  exact ⟨h1, fun a x B W Z N φ τ τ' H H' act w s Q _ h => by simp [run] at h, call_of 0 h1⟩
 | succ n ih =>
  obtain ⟨ihr, ihl, ihc⟩ := ih
  have hmono := zg5 hFT n
  have loops : ∀ (a : Code) (x : za0) (B W Z N : Nat) (φ : Pl) (τ τ' : Env) (H H' : Heap) (act : Act) (w : World) (s : Sig) (Q : Exit -> Act -> World -> Prop), zf4 P N a x -> run FT (n + 1) (.loop x) τ H = some (s, τ', H') -> zp7 φ N τ act -> zc7 G B W Z φ H w -> H'.next <= Z ->
   (∀ φ' act' w', zp7 φ' N τ' act' -> act'.defers = act.defers -> zc7 G B W Z φ' H' w' -> Step φ H w φ' H' w' -> Q (zk7 s) act' w') -> Code.rounds P a Q (n + 1) act w := by
   intro a x B W Z N φ τ τ' H H' act w s Q ha h hF hH hK hQ
   rw [rounds_succ]
   simp only [run] at h
   split at h
   ·rename_i τ1 H1 h1
    have m2 : H1.next <= H'.next := ((hmono.1 _ τ1 H1 s τ' H' h) (by have m := hmono.1 x τ H _ _ _ h1 hH.fn; rw [m.floor]; exact Nat.le_trans hH.fn m.next)).next
    refine ihr a x B W Z N φ τ τ1 H H1 act w .next _ ha h1 hF hH (Nat.le_trans m2 hK) fun φ1 act1 w1 g1 g2 g3 g4 => ?_
    exact ihl a x B W Z N φ1 τ1 τ' H1 H' act1 w1 s Q ha h g1 g3 hK fun φ2 act2 w2 k1 k2 k3 k4 => hQ φ2 act2 w2 k1 (k2.trans g2) k3 (g4.trans k4)
   ·rename_i hne
    refine ihr a x B W Z N φ τ τ' H H' act w s _ ha h hF hH hK fun φ1 act1 w1 g1 g2 g3 g4 => ?_
    have := hQ φ1 act1 w1 g1 g2 g3 g4
    cases s with
    | next => exact absurd h (hne τ' H')
    | exit id => exact this
    | ret => exact this
  have main : ∀ (c : Code) (ac : za0) (B W Z N : Nat) (φ : Pl) (τ τ' : Env) (H H' : Heap) (act : Act) (w : World) (s : Sig) (Q : Exit -> Act -> World -> Prop), zf4 P N c ac -> run FT (n + 1) ac τ H = some (s, τ', H') -> zp7 φ N τ act -> zc7 G B W Z φ H w -> H'.next <= Z ->
   (∀ φ' act' w', zp7 φ' N τ' act' -> act'.defers = act.defers -> zc7 G B W Z φ' H' w' -> Step φ H w φ' H' w' -> Q (zk7 s) act' w') -> c.wp P Q act w := by
   intro c ac B W Z N φ τ τ' H H' act w s Q hok h hF hH hK hQ
   cases hok with
   | bad c => simp [run] at h
   | skip => simp only [run] at h; cases h; exact wp_skip (hQ φ act w hF rfl hH (Step.refl _ _ _))
   | ret => simp only [run] at h; cases h; exact wp_ret (hQ φ act w hF rfl hH (Step.refl _ _ _))
   | exit id => simp only [run] at h; cases h; exact wp_exit (hQ φ act w hF rfl hH (Step.refl _ _ _))
   | label l => simp only [run] at h; cases h; exact wp_label (hQ φ act w hF rfl hH (Step.refl _ _ _))
   | @scope a x ha =>
    simp only [run] at h
    refine wp_scope_straight ?_
    split at h
    ·rename_i τ1 H1 h1
     have he : s = .next /\ τ' = τ1 /\ H' = H1 := by
      cases n with
      | zero => simp [run] at h
      | succ m => simp only [run] at h; cases h; exact ⟨rfl, rfl, rfl⟩
     obtain ⟨rfl, rfl, rfl⟩ := he
     exact ihr a x B W Z N φ τ τ' H H' act w .next _ ha h1 hF hH hK fun φ1 act1 w1 g1 g2 g3 g4 => hQ φ1 act1 w1 g1 g2 g3 g4
    ·rename_i hne
     refine ihr a x B W Z N φ τ τ' H H' act w s _ ha h hF hH hK fun φ1 act1 w1 g1 g2 g3 g4 => ?_
     have := hQ φ1 act1 w1 g1 g2 g3 g4
     cases s with
     | next => exact absurd h (hne τ' H')
     | exit id => exact this
     | ret => exact this
   | @seq a b x y ha hb =>
    simp only [run] at h
    refine wp_seq ?_
    split at h
    ·rename_i τ1 H1 h1
     have m2 : H1.next <= H'.next := ((hmono.1 y τ1 H1 s τ' H' h) (by have m := hmono.1 x τ H _ _ _ h1 hH.fn; rw [m.floor]; exact Nat.le_trans hH.fn m.next)).next
     refine ihr a x B W Z N φ τ τ1 H H1 act w .next _ ha h1 hF hH (Nat.le_trans m2 hK) fun φ1 act1 w1 g1 g2 g3 g4 => ?_
     exact ihr b y B W Z N φ1 τ1 τ' H1 H' act1 w1 s Q hb h g1 g3 hK fun φ2 act2 w2 k1 k2 k3 k4 => hQ φ2 act2 w2 k1 (k2.trans g2) k3 (g4.trans k4)
    ·rename_i hne
     refine ihr a x B W Z N φ τ τ' H H' act w s _ ha h hF hH hK fun φ1 act1 w1 g1 g2 g3 g4 => ?_
     have := hQ φ1 act1 w1 g1 g2 g3 g4
     cases s with
     | next => exact absurd h (hne τ' H')
     | exit id => exact this
     | ret => exact this
   | @cond c d a b x y hc ha hb =>
    simp only [run] at h
    have hv := hF.ev [c] c (by simp) d hc
    split at h
    ·rename_i hd
     rw [hd] at hv
     generalize hcv : act.eval c = cv at hv
     cases hv
     exact wp_cond hcv (by simpa using ihr a x B W Z N φ τ τ' H H' act w s Q ha h hF hH hK hQ)
    ·rename_i hd
     rw [hd] at hv
     generalize hcv : act.eval c = cv at hv
     cases hv
     exact wp_cond hcv (by simpa using ihr b y B W Z N φ τ τ' H H' act w s Q hb h hF hH hK hQ)
    ·cases h
   | @block id a x ha =>
    simp only [run] at h
    refine wp_block ?_
    split at h
    ·rename_i id' τ1 H1 h1
     cases hb : Nat.beq id' id with
     | true =>
      have hid := Nat.eq_of_beq_eq_true hb
      simp only [hb, cond_true] at h; cases h
      refine ihr a x B W Z N φ τ τ' H H' act w (.exit id') _ ha h1 hF hH hK fun φ1 act1 w1 g1 g2 g3 g4 => ?_
      simp only [zk7, Exit.inBlock, hid, if_true]
      exact hQ φ1 act1 w1 g1 g2 g3 g4
     | false =>
      simp only [hb, cond_false] at h; cases h
      refine ihr a x B W Z N φ τ τ' H H' act w (.exit id') _ ha h1 hF hH hK fun φ1 act1 w1 g1 g2 g3 g4 => ?_
      have hid : id' ≠ id := fun q => by subst q; simp at hb
      simp only [zk7, Exit.inBlock, if_neg hid]
      exact hQ φ1 act1 w1 g1 g2 g3 g4
    ·rename_i hne
     refine ihr a x B W Z N φ τ τ' H H' act w s _ ha h hF hH hK fun φ1 act1 w1 g1 g2 g3 g4 => ?_
     have := hQ φ1 act1 w1 g1 g2 g3 g4
     cases s with
     | next => exact this
     | exit id' => exact absurd h (hne id' τ' H')
     | ret => exact this
   | @loop a x ha =>
    exact wp_loop_rounds (n + 1) (loops a x B W Z N φ τ τ' H H' act w s Q ha h hF hH hK hQ)
   | @region id ops aops hl hops =>
    simp only [run] at h
    split at h
    ·rename_i τ1 H1 hops'
     cases h
     exact zbd9 ihc hmono.2 hl hops hF hH hops' hK hQ
    ·cases h
   | @drawn id ops aops hmix hd =>
    simp only [run] at h
    split at h
    ·rename_i τ1 H1 hops'
     cases h
     exact zav4 ihc hmono.2 hmix hd hF hH hops' hK hQ
    ·cases h
  exact ⟨main, loops, call_of (n + 1) main⟩
end Go.AI
namespace Go.AI
variable {P : Program} {G : World -> Prop}
open Region (binds)
def zcq9 (N : Nat) : Option Tmp -> Bool
 | none => true
 | some d => Nat.blt d N
def zb65 (P : Program) (N : Nat) (ops : Array Oper) (q : Bool × List Nat) (o : Oper) : Option zb6 :=
 if zcq9 N o.dst = true then
  match o.guard with
  | none => some ⟨o.dst, (cop P o.op).getD .bad, none, q.1, q.2⟩
  | some (j, b) =>
   match (ops[j]?).bind (·.dst) with
   | some t => if Nat.blt t N = true then some ⟨o.dst, (cop P o.op).getD .bad, some (t, b), q.1, q.2⟩ else none
   | none => none
 else none
theorem zbl2 {a b : Nat} (h : Nat.blt a b = true) : a < b := by
 exact Nat.le_of_ble_eq_true h
theorem zbt8 {N : Nat} {ops : Array Oper} {q : Bool × List Nat} {o : Oper} {a : zb6} (h : zb65 P N ops q o = some a) : zp6 P ops N o a /\ a.quiet = q.1 := by
 have hop : cop P o.op = some ((cop P o.op).getD .bad) \/ (cop P o.op).getD .bad = .bad := by
  cases cop P o.op with
  | none => exact .inr rfl
  | some x => exact .inl rfl
 unfold zb65 at h
 split at h
 ·rename_i hd
  have hdl : ∀ d, o.dst = some d -> d < N := by
   intro d e; rw [e] at hd; exact zbl2 hd
  split at h
  ·rename_i hg; cases h; exact ⟨⟨hop, rfl, hdl, by rw [hg]; trivial⟩, rfl⟩
  ·rename_i j b hg
   split at h
   ·rename_i t ht
    split at h
    ·rename_i hb; cases h; exact ⟨⟨hop, rfl, hdl, by rw [hg]; exact ⟨rfl, zbl2 hb, ht⟩⟩, rfl⟩
    ·cases h
   ·cases h
 ·cases h
def zt2 (P : Program) (N : Nat) (ops : Array Oper) : List Oper -> List (Bool × List Nat) -> Option (List zb6)
 | [], _ => some []
 | o :: r, qs =>
  match zb65 P N ops (qs.headD (false, [])) o with
  | none => none
  | some a => (zt2 P N ops r qs.tail).map (a :: ·)
theorem zu0 {N : Nat} {ops : Array Oper} : ∀ {l : List Oper} {qs : List (Bool × List Nat)} {as : List zb6}, zt2 P N ops l qs = some as ->
  as.length = l.length /\ ∀ (j : Nat) (a : zb6), as[j]? = some a -> ∃ o, l[j]? = some o /\ zp6 P ops N o a
 | [], qs, as, h => by simp [zt2] at h; subst h; exact ⟨rfl, fun j a h => by simp at h⟩
 | o :: r, qs, as, h => by
  simp only [zt2] at h
  split at h
  ·cases h
  ·rename_i a ha
   cases hr : zt2 P N ops r qs.tail with
   | none => simp [hr] at h
   | some l =>
    simp [hr] at h; subst h
    obtain ⟨h1, h2⟩ := zu0 hr
    refine ⟨by simp [h1], fun j b hb => ?_⟩
    cases j with
    | zero => simp at hb; subst hb; exact ⟨o, rfl, (zbt8 ha).1⟩
    | succ j => simp at hb; obtain ⟨o', q1, q2⟩ := h2 j b hb; exact ⟨o', by simpa using q1, q2⟩
def za85 : List Oper -> List Nat -> List Nat
 | [], acc => acc
 | o :: rest, acc => za85 rest (acc ++ [o.after.toList.foldl (fun m e => if binds .any e = true then m ||| 2 ^ e.on ||| acc.getD e.on 0 else m) 0])
theorem zag9 {ops : Array Oper} : ∀ (rest pre : List Oper) (acc : List Nat), ops.toList = pre ++ rest -> acc.length = pre.length -> (∀ j i, (acc.getD j 0).testBit i = true -> Anc ops i j) -> ∀ j i, ((za85 rest acc).getD j 0).testBit i = true -> Anc ops i j
 | [], pre, acc, _, _, h => by simpa [za85] using h
 | o :: rest, pre, acc, hp, hl, h => by
  simp only [za85]
  refine zag9 rest (pre ++ [o]) _ (by simp [hp]) (by simp [hl]) fun j i hb => ?_
  by_cases hj : j < acc.length
  ·rw [List.getD_eq_getElem?_getD, List.getElem?_append_left hj, <- List.getD_eq_getElem?_getD] at hb
   exact h j i hb
  ·by_cases hje : j = acc.length
   ·subst hje
    rw [List.getD_eq_getElem?_getD, List.getElem?_append_right (Nat.le_refl _)] at hb
    simp only [Nat.sub_self, List.getElem?_cons_zero, Option.getD_some] at hb
    have ho : ops[acc.length]? = some o := by
     rw [<- Array.getElem?_toList, hp, hl, List.getElem?_append_right (Nat.le_refl _)]; simp
    have key : ∀ (l : List Edge) (m : Nat), (∀ e ∈ l, e ∈ o.after) -> (m.testBit i = true -> Anc ops i acc.length) -> (l.foldl (fun m e => if binds .any e = true then m ||| 2 ^ e.on ||| acc.getD e.on 0 else m) m).testBit i = true -> Anc ops i acc.length := by
     intro l
     induction l with
     | nil => intro m _ hm hb; exact hm hb
     | cons e l ih =>
      intro m he hm hb
      refine ih _ (fun x hx => he x (by simp [hx])) (fun hb2 => ?_) hb
      dsimp only at hb2
      split at hb2
      ·rename_i hbi
       simp only [Nat.testBit_or, Bool.or_eq_true] at hb2
       rcases hb2 with (hb2 | hb2) | hb2
       ·exact hm hb2
       ·rw [Nat.testBit_two_pow] at hb2
        have : e.on = i := by simpa using hb2
        rw [<- this]; exact .edge ho (he e (by simp)) hbi
       ·exact .step ho (he e (by simp)) hbi (h _ _ hb2)
      ·exact hm hb2
    exact key o.after.toList 0 (fun e he => by simpa using he) (fun q => by simp at q) hb
   ·rw [List.getD_eq_getElem?_getD, List.getElem?_eq_none (by simp; omega)] at hb
    simp at hb
def zz8 (a : zb6) : Option Nat :=
 match a.op with
 | .load _ (.tmp t) => if a.quiet = true then some t else none
 | _ => none
def zaq1 (i : Nat) (m : Nat) (x y : Oper × zb6) : Bool :=
 let conf := (match x.1.dst with | some d => (zz6 y.1 y.2).contains d || y.1.dst == some d | none => false) || (match y.1.dst with | some d => (zz6 x.1 x.2).contains d | none => false)
 let loud := !x.2.op.isPure && !y.2.op.isPure
 (!conf || m.testBit i) && (!(loud && !x.2.quiet) || m.testBit i) && (!(loud && !y.2.quiet) || m.testBit i || (match zz8 x.2 with | some t => y.2.frees.contains t | none => false)) &&
  (match zz8 x.2 with | some t => !(y.2.dst == some t) | none => true)
def zbx0 (a : zb6) : Bool := match a.op with | .load _ (.tmp t) => !(a.dst == some t) | _ => true
def zbu7 : List (Oper × zb6) -> List Nat -> Nat -> List (Nat × Oper × zb6) -> Bool
 | [], _, _, _ => true
 | y :: rest, ms, j, earlier => earlier.all (fun ix => zaq1 ix.1 (ms.headD 0) ix.2 y) && zbu7 rest ms.tail (j + 1) ((j, y) :: earlier)
theorem zag4 : ∀ (l : List (Oper × zb6)) (ms : List Nat) (j : Nat) (earlier : List (Nat × Oper × zb6)), zbu7 l ms j earlier = true ->
  ∀ (k : Nat) (y : Oper × zb6), l[k]? = some y -> (∀ ix ∈ earlier, zaq1 ix.1 (ms.getD k 0) ix.2 y = true) /\ ∀ (i : Nat) (x : Oper × zb6), i < k -> l[i]? = some x -> zaq1 (j + i) (ms.getD k 0) x y = true
 | [], _, _, _, _, k, y, h => by simp at h
 | z :: rest, ms, j, earlier, h, k, y, hk => by
  simp only [zbu7, Bool.and_eq_true, List.all_eq_true] at h
  have hms : ∀ n, ms.tail.getD n 0 = ms.getD (n + 1) 0 := fun n => by cases ms <;> simp
  cases k with
  | zero =>
   simp at hk; subst hk
   refine ⟨fun ix hix => ?_, fun i x hi _ => by omega⟩
   have := h.1 ix hix
   cases ms <;> simpa using this
  | succ k =>
   simp at hk
   obtain ⟨h1, h2⟩ := zag4 rest ms.tail (j + 1) _ h.2 k y hk
   rw [hms] at h1 h2
   refine ⟨fun ix hix => h1 ix (by simp [hix]), fun i x hi hx => ?_⟩
   cases i with
   | zero => simp at hx; subst hx; exact h1 (j, z) (by simp)
   | succ i =>
    have := h2 i x (by omega) (by simpa using hx)
    have e : j + 1 + i = j + (i + 1) := by omega
    rwa [e] at this
def za48 : List Oper -> Nat -> Bool
 | [], _ => true
 | o :: rest, j => o.after.toList.all (fun e => !binds .any e || Nat.blt e.on j) && za48 rest (j + 1)
theorem zaa6 : ∀ (l : List Oper) (j : Nat), za48 l j = true -> ∀ (k : Nat) (o : Oper) (e : Edge), l[k]? = some o -> e ∈ o.after -> binds .any e = true -> e.on < j + k
 | [], _, _, k, o, e, h => by simp at h
 | x :: rest, j, h, k, o, e, hk => by
  simp only [za48, Bool.and_eq_true, List.all_eq_true] at h
  cases k with
  | zero =>
   simp at hk; subst hk
   intro he hb
   have := h.1 e (by simpa using he)
   rw [hb] at this
   have := zbl2 (by simpa using this : Nat.blt e.on j = true)
   omega
  | succ k =>
   simp at hk
   intro he hb
   have := zaa6 rest (j + 1) h.2 k o e hk he hb
   omega
def za60 (aops : List zb6) (ms : List Nat) : List (Bool × List Nat) :=
 let xs := (aops.zip ms).zipIdx
 xs.map fun (am, j) =>
  if am.1.op.isPure then (false, []) else
  let ordered (k : Nat) (m : Nat) : Bool := if k < j then am.2.testBit k else m.testBit j
  if am.1.op.isCall then (!(xs.all fun (bm, k) => bm.1.op.isPure || k == j || ordered k bm.2), [])
  else if am.1.op.writes then
   (!(xs.all fun (bm, k) => bm.1.op.isPure || k == j || ordered k bm.2 || (k < j && (match bm.1.op with | .load _ (.tmp _) => true | _ => false))),
    xs.filterMap fun (bm, k) => if k < j && !am.2.testBit k then (match bm.1.op with | .load _ (.tmp t) => some t | _ => none) else none)
  else (true, [])
def za46 (P : Program) (N : Nat) (ops : Array Oper) : Option (List zb6) :=
 match zt2 P N ops ops.toList [] with
 | none => none
 | some l0 =>
  let ms := za85 ops.toList []
  match zt2 P N ops ops.toList (za60 l0 ms) with
  | none => none
  | some l => if (za48 ops.toList 0 && zbu7 (ops.toList.zip l) ms 0 [] && l.all zbx0) = true then some l else none
theorem zbk4 {N : Nat} {ops : Array Oper} {l : List zb6} (h : za46 P N ops = some l) : za52 P ops N l := by
 unfold za46 at h
 split at h
 ·cases h
 ·rename_i l0 h0
  dsimp only at h
  split at h
  ·cases h
  ·rename_i l1 h1
   split at h
   ·rename_i hc
    cases h
    simp only [Bool.and_eq_true] at hc
    obtain ⟨⟨hb, hch⟩, hself⟩ := hc
    obtain ⟨hl, hok⟩ := zu0 h1
    have hanc := zag9 (ops := ops) ops.toList [] [] (by simp) rfl (fun j i hb => by simp at hb)
    have hpair := zag4 _ _ _ _ hch
    have zip : ∀ (j : Nat) (o : Oper) (a : zb6), ops[j]? = some o -> l[j]? = some a -> (ops.toList.zip l)[j]? = some (o, a) := by
     intro j o a h1 h2
     rw [List.getElem?_zip_eq_some]
     exact ⟨by simpa using h1, h2⟩
    have pair : ∀ (i j : Nat) (oi oj : Oper) (ai aj : zb6), i < j -> ops[i]? = some oi -> ops[j]? = some oj -> l[i]? = some ai -> l[j]? = some aj -> zaq1 i ((za85 ops.toList []).getD j 0) (oi, ai) (oj, aj) = true := by
     intro i j oi oj ai aj hij h1 h2 h3 h4
     have := (hpair j (oj, aj) (zip j oj aj h2 h4)).2 i (oi, ai) hij (zip i oi ai h1 h3)
     simpa using this
    have bits : ∀ (i j : Nat) (oi oj : Oper) (ai aj : zb6), i < j -> ops[i]? = some oi -> ops[j]? = some oj -> l[i]? = some ai -> l[j]? = some aj ->
      ((((match oi.dst with | some d => (zz6 oj aj).contains d || oj.dst == some d | none => false) || (match oj.dst with | some d => (zz6 oi ai).contains d | none => false)) = true -> Anc ops i j) /\
       (ai.op.isPure = false -> aj.op.isPure = false -> ai.quiet = false -> Anc ops i j) /\
       (ai.op.isPure = false -> aj.op.isPure = false -> aj.quiet = false -> Anc ops i j \/ ∃ t, zz8 ai = some t /\ t ∈ aj.frees) /\
       (∀ t, zz8 ai = some t -> aj.dst ≠ some t)) := by
     intro i j oi oj ai aj hij h1 h2 h3 h4
     have := pair i j oi oj ai aj hij h1 h2 h3 h4
     simp only [zaq1, Bool.and_eq_true] at this
     obtain ⟨⟨⟨p1, p2⟩, p3⟩, p4⟩ := this
     refine ⟨fun hn => ?_, fun q1 q2 q3 => ?_, fun q1 q2 q3 => ?_, fun t ht => ?_⟩
     ·rw [hn] at p1; exact hanc j i (by simpa using p1)
     ·simp [q1, q2, q3] at p2; exact hanc j i (by simpa using p2)
     ·simp only [q1, q2, q3, Bool.not_false, Bool.and_self, Bool.not_true, Bool.false_or, Bool.or_eq_true] at p3
      rcases p3 with p3 | p3
      ·exact .inl (hanc j i p3)
      ·right
       split at p3
       ·rename_i t ht; exact ⟨t, ht, by simpa using p3⟩
       ·cases p3
     ·rw [ht] at p4
      simpa using p4
    refine ⟨by simpa using hl, fun j a hj => ?_, fun j o e h1 h2 h3 => ?_, fun i j oi oj ai aj hij h1 h2 h3 h4 => ⟨fun d hd hq => ?_, fun d hd hq => ?_⟩, fun b ab hb1 hb2 hb3 k ak hk1 hk2 => ⟨fun hlt => ?_, fun hlt => ?_⟩, fun k ok ak n t q1 q2 q3 q4 => ?_⟩
    ·obtain ⟨o, q1, q2⟩ := hok j a hj; exact ⟨o, by simpa using q1, q2⟩
    ·have := zaa6 ops.toList 0 hb j o e (by simpa using h1) h2 h3
     omega
    ·refine (bits i j oi oj ai aj hij h1 h2 h3 h4).1 ?_
     rw [hd]
     rcases hq with hq | hq
     ·simp [hq]
     ·simp [hq]
    ·refine (bits i j oi oj ai aj hij h1 h2 h3 h4).1 ?_
     rw [hd]; simp [hq]
    ·obtain ⟨ob, q1, _⟩ := hok b ab hb1
     obtain ⟨ok, q2, _⟩ := hok k ak hk1
     rcases (bits k b ok ob ak ab hlt (by simpa using q2) (by simpa using q1) hk1 hb1).2.2.1 hk2 hb3 hb2 with r | ⟨t, r1, r2⟩
     ·exact .inl r
     ·refine .inr ⟨?_, trivial⟩
      have hls := r1
      unfold zz8 at r1
      split at r1
      ·rename_i n t' hop
       split at r1
       ·rename_i hq; cases r1
        refine ⟨ak, ab, n, t, hk1, hb1, hop, hq, r2, fun m am h1 h2 h3 => ?_⟩
        obtain ⟨om, q3, _⟩ := hok m am h3
        exact (bits k m ok om ak am h1 (by simpa using q2) (by simpa using q3) hk1 h3).2.2.2 t hls
       ·cases r1
      ·cases r1
    ·obtain ⟨ob, q1, _⟩ := hok b ab hb1
     obtain ⟨ok, q2, _⟩ := hok k ak hk1
     exact (bits b k ob ok ab ak hlt (by simpa using q1) (by simpa using q2) hb1 hk1).2.1 hb3 hk2 hb2
    ·rw [List.all_eq_true] at hself
     have := hself ak (List.mem_of_getElem? q2)
     simp only [zbx0, q3] at this
     simp [q4] at this
   ·cases h
def zj0 (P : Program) (N : Nat) : Code -> Option za0
 | .skip => some .skip
 | .ret => some .ret
 | .exit id => some (.exit id)
 | .label _ => some .skip
 | .scope a => (zj0 P N a).map (.seq · .skip)
 | .seq a b => match zj0 P N a with | none => none | some x => (zj0 P N b).map (.seq x ·)
 | .cond c a b => match zk0 c with | none => none | some d => match zj0 P N a with | none => none | some x => (zj0 P N b).map (.cond d x ·)
 | .block id a => (zj0 P N a).map (.block id ·)
 | .loop a => (zj0 P N a).map .loop
 | .region _ ops false => (zt2 P N ops ops.toList []).map .region
 | .region _ ops true => if P.follows .mixedOrders = true then some (match za46 P N ops with | some l => .region l | none => .bad) else none
 | _ => some .bad
theorem ze6 {N : Nat} : ∀ {c : Code} {a : za0}, zj0 P N c = some a -> zf4 P N c a
 | .skip, a, h => by simp [zj0] at h; subst h; exact .skip
 | .ret, a, h => by simp [zj0] at h; subst h; exact .ret
 | .exit id, a, h => by simp [zj0] at h; subst h; exact .exit id
 | .seq x y, a, h => by
  simp only [zj0] at h
  split at h
  ·cases h
  ·rename_i x' hx
   cases hy : zj0 P N y with
   | none => simp [hy] at h
   | some y' => simp [hy] at h; subst h; exact .seq (ze6 hx) (ze6 hy)
 | .cond c x y, a, h => by
  simp only [zj0] at h
  split at h
  ·cases h
  ·rename_i d hd
   split at h
   ·cases h
   ·rename_i x' hx
    cases hy : zj0 P N y with
    | none => simp [hy] at h
    | some y' => simp [hy] at h; subst h; exact .cond hd (ze6 hx) (ze6 hy)
 | .block id x, a, h => by
  simp only [zj0] at h
  cases hx : zj0 P N x with
  | none => simp [hx] at h
  | some x' => simp [hx] at h; subst h; exact .block (ze6 hx)
 | .loop x, a, h => by
  simp only [zj0] at h
  cases hx : zj0 P N x with
  | none => simp [hx] at h
  | some x' => simp [hx] at h; subst h; exact .loop (ze6 hx)
 | .region id ops false, a, h => by
  simp only [zj0] at h
  cases hx : zt2 P N ops ops.toList [] with
  | none => simp [hx] at h
  | some l =>
   simp [hx] at h; subst h
   obtain ⟨h1, h2⟩ := zu0 hx
   exact .region (by simpa using h1) fun j ao hj => by obtain ⟨o, q1, q2⟩ := h2 j ao hj; exact ⟨o, by simpa using q1, q2⟩
 | .region id ops true, a, h => by
  simp only [zj0] at h
  split at h
  ·rename_i hm
   cases hx : za46 P N ops with
   | none => simp [hx] at h; subst h; exact .bad _
   | some l => simp [hx] at h; subst h; exact .drawn hm (zbk4 hx)
  ·cases h
 | .rangeFunc .., a, h => by simp [zj0] at h; subst h; exact .bad _
 | .scope x, a, h => by
  simp only [zj0] at h
  cases hx : zj0 P N x with
  | none => simp [hx] at h
  | some x' => simp [hx] at h; subst h; exact .scope (ze6 hx)
 | .label _, a, h => by simp [zj0] at h; subst h; exact .label _
 | .goto _, a, h => by simp [zj0] at h; subst h; exact .bad _
 | .refuse _, a, h => by simp [zj0] at h; subst h; exact .bad _
def cres (P : Program) : List ResultVar -> Option (List zf7)
 | [] => some []
 | .tmp t :: r => (cres P r).map (.tmp t :: ·)
 | .cell t ty :: r => match zh9 P ty with | none => none | some n => (cres P r).map (.cell t n :: ·)
theorem zan5 : ∀ {l : List ResultVar} {as : List zf7}, cres P l = some as -> l.length = as.length /\ ∀ (i : Nat) (r : ResultVar) (ar : zf7), l[i]? = some r -> as[i]? = some ar -> zbv7 P r ar
 | [], as, h => by simp [cres] at h; subst h; exact ⟨rfl, fun i r ar h => by simp at h⟩
 | .tmp t :: l, as, h => by
  simp only [cres] at h
  cases hr : cres P l with
  | none => simp [hr] at h
  | some as' =>
   simp [hr] at h; subst h
   obtain ⟨h1, h2⟩ := zan5 hr
   refine ⟨by simp [h1], fun i r ar q1 q2 => ?_⟩
   cases i with
   | zero => simp at q1 q2; subst q1; subst q2; rfl
   | succ i => exact h2 i r ar (by simpa using q1) (by simpa using q2)
 | .cell t ty :: l, as, h => by
  simp only [cres] at h
  split at h
  ·cases h
  ·rename_i n hn
   cases hr : cres P l with
   | none => simp [hr] at h
   | some as' =>
    simp [hr] at h; subst h
    obtain ⟨h1, h2⟩ := zan5 hr
    refine ⟨by simp [h1], fun i r ar q1 q2 => ?_⟩
    cases i with
    | zero => simp at q1 q2; subst q1; subst q2; exact ⟨rfl, hn⟩
    | succ i => exact h2 i r ar (by simpa using q1) (by simpa using q2)
def zch6 (P : Program) (fn : Func) : Option zc2 :=
 if (fn.name == "runtime.NumGoroutine") = true then none else
 match fn.body with
 | none => none
 | some c =>
  match zj0 P fn.ntmps c with
  | none => none
  | some a => (cres P fn.results.toList).map fun r => ⟨fn.ntmps, r, a⟩
theorem za8 {f : Nat} {fn : Func} {af : zc2} (hf : P.funcs[f]? = some fn) (h : zch6 P fn = some af) : zb4 P f af := by
 unfold zch6 at h
 split at h
 ·cases h
 ·rename_i hn
  split at h
  ·cases h
  ·rename_i c hc
   split at h
   ·cases h
   ·rename_i a ha
    cases hr : cres P fn.results.toList with
    | none => simp [hr] at h
    | some r =>
     simp [hr] at h; subst h
     obtain ⟨h1, h2⟩ := zan5 hr
     exact ⟨fn, c, hf, by simpa using hn, hc, rfl, ze6 ha, h1, h2⟩
end Go.AI
