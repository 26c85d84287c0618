/- Operations in a frame: calls, and the growth of abstract memory. No claim by itself. -/
import Derived.Test.YtjhhicmlflelhaaE15
namespace Go.AI
variable {P : Program}
/-! ### Abstract memory only grows -/
structure Mono (H H' : Heap) : Prop where
  next : H.next ≤ H'.next
  floor : H'.floor = H.floor
  low : ∀ o, o < H.floor → H'.get o = H.get o
  fresh : (∀ o, H.next ≤ o → H.get o = none) → ∀ o, H'.next ≤ o → H'.get o = none
theorem Mono.refl (H : Heap) : Mono H H := ⟨Nat.le_refl _, rfl, fun _ _ => rfl, fun h => h⟩
theorem Mono.trans {a b c : Heap} (h : Mono a b) (k : Mono b c) : Mono a c :=
  ⟨Nat.le_trans h.next k.next, k.floor.trans h.floor, fun o ho => (k.low o (by rw [h.floor]; exact ho)).trans (h.low o ho), fun f => k.fresh (h.fresh f)⟩
theorem Mono.push {H : Heap} (x : AObj) (h : H.floor ≤ H.next) : Mono H (H.push x) :=
  ⟨Nat.le_succ _, rfl, fun o ho => by rw [Heap.get_push, if_neg (by omega)], fun f o ho => by
    have : o ≠ H.next := by intro q; subst q; exact absurd ho (Nat.not_succ_le_self _)
    rw [Heap.get_push, if_neg this]; exact f o (Nat.le_of_succ_le ho)⟩
theorem Mono.set {H : Heap} {o : Nat} {x0 : AObj} (x : AObj) (h : H.floor ≤ o) (hx : H.get o = some x0) : Mono H (H.set o x) :=
  ⟨Nat.le_refl _, rfl, fun p hp => by rw [Heap.get_set, if_neg (by omega)], fun f p hp => by
    have : p ≠ o := by intro q; subst q; rw [f p hp] at hx; cases hx
    rw [Heap.get_set, if_neg this]; exact f p hp⟩
theorem Mono.write {H H' : Heap} {o off : Nat} {xs : List AV} (h : H.writeSeg o off xs = some H') : Mono H H' := by
  obtain ⟨hf, cs, hc, _, _, rfl⟩ := writeSeg_some h
  exact Mono.set _ hf (cellsAt_some hc)
theorem read_mono {e : Opd → AV} {H H' : Heap} {ao : AOp} {a : AV} (h : readOp e H ao = some (a, H')) (hf : H.floor ≤ H.next) : Mono H H' := by
  by_cases hr : ao.isRead = true
  case neg =>
    rw [readOp_pure e H ao (by simpa using hr)] at h
    cases hp : pureOp e ao <;> simp [hp] at h
    rw [← h.2]; exact Mono.refl _
  cases ao <;> first | (cases hr; done) | skip
  case alloc z =>
    simp only [readOp] at h
    cases h1 : allOne z <;> simp [h1] at h
    rw [← h.2]; exact Mono.push _ hf
  case box x =>
    simp only [readOp] at h
    cases h1 : allOne (e x).cells <;> simp [h1] at h
    rw [← h.2]; exact Mono.push _ hf
  case buildSlice sz len z ps =>
    simp only [readOp] at h
    cases hb : Nat.beq z.length (len * sz) with
    | false => simp only [hb, cond_false] at h; cases h
    | true =>
      simp only [hb, cond_true] at h
      cases hq : fillA e z ps <;> simp [hq] at h
      rw [← h.2]; exact Mono.push _ hf
  case load n x =>
    simp only [readOp] at h
    split at h
    · rename_i o off _
      cases hc : H.cellsAt o with
      | none => simp [hc] at h
      | some cs => cases hp : partA cs off n <;> simp [hc, hp] at h; rw [← h.2]; exact Mono.refl _
    · cases h
  case convert c x =>
    cases c <;> first | (cases hr; done) | skip
    · simp only [readOp] at h
      split at h
      · cases h; exact Mono.refl _
      · rename_i o off len _ _ _
        cases hc : H.readSeg o off len with
        | none => simp [hc] at h
        | some cs => cases hp : bytesOf cs <;> simp [hc, hp] at h; rw [← h.2]; exact Mono.refl _
      · cases h
    · simp only [readOp] at h
      split at h
      · cases h; exact Mono.push _ hf
      · cases h
  case makeMap hint =>
    simp only [readOp] at h
    split at h
    · cases h; exact Mono.push _ hf
    · split at h
      · cases h; exact Mono.push _ hf
      · cases h
  case makeSlice sz by_ z l c =>
    simp only [readOp] at h
    split at h
    · split at h
      · cases hb : (Nat.beq z.length sz && allOne z) with
        | false => simp only [hb, cond_false] at h; cases h
        | true => simp only [hb, cond_true] at h; cases h; exact Mono.push _ hf
      · cases h
    · cases h
  case sliceA n sz x lo hi =>
    simp only [readOp] at h
    split at h
    · split at h
      · rename_i cs _
        rename_i o off _ _ _
        cases hb : Nat.ble (off + n * sz) cs.length with
        | false => simp only [hb, cond_false] at h; cases h
        | true =>
          simp only [hb, cond_true] at h
          cases hq : boundsA n n true (lo.map e) (hi.map e) none <;> simp [hq] at h
          rw [← h.2]; exact Mono.refl _
      · cases h
    · cases h
  case lookup d z ok m k =>
    simp only [readOp] at h
    cases hl : lookA H d (e m) (e k) <;> simp [hl] at h
    rw [← h.2]; exact Mono.refl _
  case len d x =>
    cases d <;> first | (cases hr; done) | skip
    simp only [readOp] at h
    split at h
    · cases h; exact Mono.refl _
    · split at h
      · cases h; exact Mono.refl _
      · cases h
    · cases h
  case rangeS x =>
    simp only [readOp] at h
    split at h
    · cases h; exact Mono.push _ hf
    · cases h
theorem append_mono {e by_ : Nat} {H H' : Heap} {x y a : AV} (h : appendA e by_ H x y = some (a, H')) (hf : H.floor ≤ H.next) : Mono H H' := by
  unfold appendA at h
  split at h
  · cases h
  rename_i n new _
  cases h1 : allOne new with
  | false => simp [h1] at h
  | true =>
  simp only [h1, cond_true] at h
  split at h
  · cases hn : Nat.beq n 0 with
    | true => simp only [hn, cond_true] at h; cases h; exact Mono.refl _
    | false =>
      simp only [hn, cond_false] at h
      cases hbd : Nat.ble ((2 * n + 1024) * by_) (2 ^ 48) with
      | false => simp only [hbd, cond_false] at h; cases h
      | true => simp only [hbd, cond_true] at h; cases h; exact Mono.push _ hf
  · rename_i o off len e' lo ex
    cases hee : Nat.beq e e' with
    | false => simp [hee] at h
    | true =>
      simp only [hee, cond_true] at h
      cases hn : Nat.beq n 0 with
      | true => simp only [hn, cond_true] at h; cases h; exact Mono.refl _
      | false =>
        simp only [hn, cond_false] at h
        cases hlo : Nat.ble (len + n) lo with
        | true =>
          simp only [hlo, cond_true] at h
          cases hw : H.writeSeg o (off + len * e) new with
          | none => simp [hw] at h
          | some H2 => simp [hw] at h; rw [← h.2]; exact Mono.write hw
        | false =>
          simp only [hlo, cond_false] at h
          cases hbd : Nat.ble ((2 * (len + n) + 1024) * by_) (2 ^ 48) with
          | false => simp only [hbd, cond_false] at h; cases h
          | true =>
            simp only [hbd, cond_true] at h
            split at h
            · cases h
            rename_i old hrs
            obtain ⟨cs, hcs, _⟩ := readSeg_some hrs
            cases ex with
            | true => simp only [cond_true] at h; cases h; exact Mono.push _ hf
            | false =>
              simp only [cond_false] at h
              cases hfl : Nat.ble H.floor o with
              | false => simp [hfl] at h
              | true =>
                simp only [hfl, cond_true] at h; cases h
                exact (Mono.set .dead (Nat.le_of_ble_eq_true hfl) (cellsAt_some hcs)).trans (Mono.push _ hf)
  · cases h
theorem write_mono {e : Opd → AV} {H H' : Heap} {ao : AOp} {a : AV} (h : writeOp e H ao = some (a, H')) (hf : H.floor ≤ H.next) : Mono H H' := by
  cases ao <;> first | (simp [writeOp] at h; done) | skip
  case store n p x =>
    simp only [writeOp] at h
    split at h
    · rename_i o off _
      cases hb : Nat.beq (e x).cells.length n with
      | false => simp [hb] at h
      | true =>
        simp only [hb, cond_true] at h
        cases hw : H.writeSeg o off (e x).cells with
        | none => simp [hw] at h
        | some H2 => simp [hw] at h; rw [← h.2]; exact Mono.write hw
    · cases h
  case mapUpdate d m k v =>
    simp only [writeOp] at h
    split at h
    · rename_i o _
      cases hb : Nat.ble H.floor o with
      | false => simp [hb] at h
      | true =>
        simp only [hb, cond_true] at h
        split at h
        · rename_i es he
          cases hp : plainKey d (e k) with
          | false => simp [hp] at h
          | true =>
            simp only [hp, cond_true] at h
            split at h
            · cases h
            · cases h; exact Mono.set _ (Nat.le_of_ble_eq_true hb) he
            · cases h; exact Mono.set _ (Nat.le_of_ble_eq_true hb) he
        · cases h
    · cases h
  case append sz by_ x y => exact append_mono h hf
  case copy sz x y =>
    simp only [writeOp] at h
    unfold copyA at h
    split at h
    · cases hs : srcN sz H 0 (e y) <;> simp [hs] at h
      rw [← h.2]; exact Mono.refl _
    · rename_i o off len e' lo ex _
      cases hee : Nat.beq sz e' with
      | false => simp [hee] at h
      | true =>
        simp only [hee, cond_true] at h
        split at h
        · cases h
        rename_i n cs _
        cases hz : Nat.beq cs.length 0 with
        | true => simp only [hz, cond_true] at h; cases h; exact Mono.refl _
        | false =>
          simp only [hz, cond_false] at h
          cases hw : H.writeSeg o off cs with
          | none => simp [hw] at h
          | some H2 => simp [hw] at h; rw [← h.2]; exact Mono.write hw
    · cases h
  case delete d m k =>
    simp only [writeOp] at h
    split at h
    · cases hp : plainKey d (e k) <;> simp [hp] at h
      rw [← h.2]; exact Mono.refl _
    · rename_i o _
      cases hb : Nat.ble H.floor o with
      | false => simp [hb] at h
      | true =>
        simp only [hb, cond_true] at h
        split at h
        · rename_i es he
          cases hp : plainKey d (e k) with
          | false => simp [hp] at h
          | true =>
            simp only [hp, cond_true] at h
            split at h
            · cases h
            · cases h; exact Mono.set _ (Nat.le_of_ble_eq_true hb) he
            · cases h; exact Mono.refl _
        · cases h
    · cases h
  case clearMap m =>
    simp only [writeOp] at h
    split at h
    · cases h; exact Mono.refl _
    · rename_i o _
      cases hb : Nat.ble H.floor o with
      | false => simp [hb] at h
      | true =>
        simp only [hb, cond_true] at h
        split at h
        · rename_i es he; cases h; exact Mono.set _ (Nat.le_of_ble_eq_true hb) he
        · cases h
    · cases h
  case clearSlice z x =>
    simp only [writeOp] at h
    split at h
    · cases h; exact Mono.refl _
    · rename_i o off len sz lo ex _
      cases hb : (Nat.beq z.length sz && Nat.ble 1 sz) with
      | false => simp only [hb, cond_false] at h; cases h
      | true =>
        simp only [hb, cond_true] at h
        cases hl : Nat.beq len 0 with
        | true => simp only [hl, cond_true] at h; cases h; exact Mono.refl _
        | false =>
          simp only [hl, cond_false] at h
          cases hw : H.writeSeg o off ((List.replicate len z).flatten) with
          | none => simp [hw] at h
          | some H2 => simp [hw] at h; rw [← h.2]; exact Mono.write hw
    · cases h
  case nextS it =>
    simp only [writeOp] at h
    split at h
    · rename_i o _
      cases hb : Nat.ble H.floor o with
      | false => simp [hb] at h
      | true =>
        simp only [hb, cond_true] at h
        split at h
        · rename_i s pos he
          split at h
          · cases h; exact Mono.set _ (Nat.le_of_ble_eq_true hb) he
          · cases h; exact Mono.refl _
        · cases h
    · cases h
theorem plain_mono {e : Opd → AV} {H H' : Heap} {ao : AOp} {a : AV} (h : plainOp e H ao = some (a, H')) (hf : H.floor ≤ H.next) : Mono H H' := by
  unfold plainOp at h
  cases hw : ao.writes with
  | true => rw [hw] at h; exact write_mono h hf
  | false => rw [hw] at h; exact read_mono h hf
def CallMono (cf : CallF) : Prop := ∀ f args H v H', cf f args H = some (v, H') → H.floor ≤ H.next → Mono H H'
theorem oper_mono {cf : CallF} (hcf : CallMono cf) {τ : Env} {H H' : Heap} {ao : AOp} {a : AV} (h : operA cf τ H ao = some (a, H')) (hf : H.floor ≤ H.next) : Mono H H' := by
  unfold operA at h
  split at h
  · split at h
    · exact hcf _ _ _ _ _ h hf
    · cases h
  · exact plain_mono h hf
/-! ### Calls -/
def FnOk (P : Program) (f : Nat) : Prop := ∃ fn, P.funcs[f]? = some fn ∧ (fn.name == "runtime.NumGoroutine") = false ∧ fn.body.isNone = false
/-- What a call says. -/
def Ret (B W Z : Nat) (φ : Pl) (H : Heap) (w : World) (v : AV) (H' : Heap) (e : Ending) (w' : World) : Prop :=
  ∃ φ' r, e = .returned r ∧ VRel φ' v r ∧ HRel B W Z φ' H' w' ∧ Step φ H w φ' H' w'
def CallSound (P : Program) (cf : CallF) : Prop :=
  ∀ (B W Z : Nat) (f : Nat) (args : List AV) (H : Heap) (v : AV) (H' : Heap) (φ : Pl) (w : World) (avs : List Value), cf f args H = some (v, H') → LRel φ args avs → HRel B W Z φ H w → H'.next ≤ Z →
    FnOk P f ∧ Calls P f avs.toArray w (Ret B W Z φ H w v H')
theorem oper_wp {cf : CallF} (hcf : CallSound P cf) {B W Z : Nat} {φ : Pl} {H H' : Heap} {w : World} {τ : Env} {act : Act} {o : Oper} {ao : AOp} {a : AV} {next : Act → World → Prop} {Q : Exit → Act → World → Prop}
    (hc : cop P o.op = some ao) (hx : XRel φ (ev τ) act.eval o.op.operands.toList) (hH : HRel B W Z φ H w) (h : operA cf τ H ao = some (a, H')) (hK : H'.next ≤ Z)
    (hnext : ∀ φ' v w', VRel φ' a v → HRel B W Z φ' H' w' → Step φ H w φ' H' w' → next (act.put o.dst v) w') : o.wp P act w next Q := by
  unfold operA at h
  split at h
  · rename_i f args
    have hcall : ∃ f0 as ts, o.op = .call ⟨.value f0, as, ts⟩ ∧ copd f0 = some f ∧ copds as.toList = some args := by
      generalize o.op = op at hc
      cases op <;> simp only [cop] at hc
      case call c =>
        obtain ⟨callee, as, ts⟩ := c
        cases callee with
        | value f0 =>
          simp only at hc
          cases h1 : copd f0 <;> cases h2 : copds as.toList <;> simp [h1, h2] at hc
          obtain ⟨rfl, rfl⟩ := hc
          exact ⟨f0, as, ts, rfl, h1, h2⟩
        | invoke r m => simp at hc
        | builtin b =>
          simp only at hc
          unfold cbuiltin at hc
          split at hc
          · split at hc
            · rename_i el _ _ _
              cases hn : tySize P el <;> cases hb : tyBytes P el <;> cases hz : tyZero P el <;> simp [hn, hb, hz] at hc
              obtain ⟨_, hc⟩ := hc
              obtain ⟨_, _, _, _, q⟩ := c2_some hc; cases q
            · rename_i el _ _
              cases hn : tySize P el <;> cases hb : tyBytes P el <;> cases hz : tyZero P el <;> simp [hn, hb, hz] at hc
              obtain ⟨_, hc⟩ := hc
              obtain ⟨_, _, _, _, q⟩ := c2_some hc; cases q
            · cases hc
          · split at hc <;> first | (cases hc; done) | (obtain ⟨_, _, q⟩ := c1_some hc; cases q)
          · split at hc <;> first | (cases hc; done) | (obtain ⟨_, _, q⟩ := c1_some hc; cases q)
          · split at hc
            · rename_i el _
              cases hn : tySize P el <;> simp [hn] at hc
              obtain ⟨_, _, _, _, q⟩ := c2_some hc; cases q
            · cases hc
          · split at hc <;> first | (cases hc; done) | (obtain ⟨_, _, _, _, q⟩ := c2_some hc; cases q)
          · split at hc
            · obtain ⟨_, _, q⟩ := c1_some hc; cases q
            · rename_i el _
              cases hz : tyZero P el <;> simp [hz] at hc
              obtain ⟨_, _, q⟩ := c1_some hc; cases q
            · cases hc
          · cases hq : copds as.toList <;> simp [hq] at hc
          · cases hq : copds as.toList <;> simp [hq] at hc
          · cases hc
      all_goals first
        | (obtain ⟨_, _, q⟩ := c1_some hc; cases q; done)
        | (obtain ⟨_, _, _, _, q⟩ := c2_some hc; cases q; done)
        | (obtain ⟨_, _, _, _, _, _, q⟩ := c3_some hc; cases q; done)
        | (cases hc; done)
        | skip
      case alloc t => cases hz : tyZero P t <;> simp [hz] at hc
      case build t parts =>
        split at hc
        · rename_i fs _
          cases hz : tyZero P t <;> cases hp : placesOf P fs.toList <;> simp [hz, hp] at hc
        · rename_i el _
          cases hz : tyZero P t <;> cases hp : tySize P el <;> simp [hz, hp] at hc
        · cases hc
      case buildSlice t len parts =>
        split at hc
        · rename_i el ht
          cases hn : tySize P el <;> cases hz : tyZero P el <;> simp [hn, hz] at hc
        · cases hc
      case insert t m k x => split at hc <;> first | (cases hc; done) | (obtain ⟨_, _, _, _, _, _, q⟩ := c3_some hc; cases q)
      case load t x =>
        cases ht : tyAgg P t <;> simp [ht] at hc
        obtain ⟨_, _, q⟩ := c1_some hc; cases q
      case store t x y =>
        cases ht : tySize P t <;> simp [ht] at hc
        obtain ⟨_, _, _, _, q⟩ := c2_some hc; cases q
      case convert s d x =>
        split at hc
        · obtain ⟨_, _, q⟩ := c1_some hc; cases q
        · obtain ⟨_, _, q⟩ := c1_some hc; cases q
        · split at hc <;> first | (cases hc; done) | (obtain ⟨_, _, q⟩ := c1_some hc; cases q)
        · split at hc <;> first | (cases hc; done) | (obtain ⟨_, _, q⟩ := c1_some hc; cases q)
        · cases hc
      case sliceToArrayPointer t x => split at hc <;> first | (cases hc; done) | (obtain ⟨_, _, q⟩ := c1_some hc; cases q)
      case makeFunc fn first captured =>
        cases fn <;> simp only [cop] at hc <;> first | (cases hc; done) | skip
        cases h1 : copds first.toList <;> cases h2 : copds captured.toList <;> simp [h1, h2] at hc
      case makeMap t r =>
        split at hc
        · cases hq : copt r <;> simp [hq] at hc
        · cases hc
      case makeSlice t l c =>
        split at hc
        · rename_i el ht
          cases hn : tySize P el <;> cases hb : tyBytes P el <;> cases hz : tyZero P el <;> simp [hn, hb, hz] at hc
          obtain ⟨_, _, _, _, q⟩ := c2_some hc; cases q
        · cases hc
      case slice t x lo hi mx =>
        split at hc
        · split at hc
          · cases hc
          · cases h1 : copd x <;> cases h2 : copt lo <;> cases h3 : copt hi <;> simp [h1, h2, h3] at hc
        · rename_i el ht
          cases hn : tySize P el <;> cases h1 : copd x <;> cases h2 : copt lo <;> cases h3 : copt hi <;> cases h4 : copt mx <;> simp [hn, h1, h2, h3, h4] at hc
        · split at hc
          · cases hc
          · rename_i k el ht hmx
            cases hn : tySize P el <;> cases h1 : copd x <;> cases h2 : copt lo <;> cases h3 : copt hi <;> simp [hn, h1, h2, h3] at hc
        · cases hc
      case fieldAddr s x f =>
        split at hc
        · split at hc
          · split at hc
            · cases hc
            · obtain ⟨_, _, q⟩ := c1_some hc; cases q
            · cases hc
          · cases hc
        · cases hc
      case field s x f =>
        split at hc
        · split at hc
          · rename_i fd hfd
            cases hn : tyAgg P fd.type <;> simp [hn] at hc
            obtain ⟨_, _, q⟩ := c1_some hc; cases q
          · cases hc
        · cases hc
      case indexAddr t x i =>
        split at hc
        · rename_i el ht
          cases hn : tySize P el <;> simp [hn] at hc
          obtain ⟨_, _, _, _, q⟩ := c2_some hc; cases q
        · rename_i k el ht
          cases hn : tySize P el <;> simp [hn] at hc
          obtain ⟨_, _, _, _, q⟩ := c2_some hc; cases q
        · cases hc
      case index t x i =>
        split at hc
        · rename_i k el ht
          cases hn : tySize P el <;> cases ha : tyAgg P el <;> simp [hn, ha] at hc
          obtain ⟨_, _, _, _, q⟩ := c2_some hc; cases q
        · obtain ⟨_, _, _, _, q⟩ := c2_some hc; cases q
        · cases hc
      case lookup t x i ok =>
        split at hc
        · rename_i k el ht
          cases hz : tyZero P el <;> simp [hz] at hc
          obtain ⟨_, _, _, _, q⟩ := c2_some hc; cases q
        · cases hc
      case mapUpdate t m k x => split at hc <;> first | (cases hc; done) | (obtain ⟨_, _, _, _, _, _, q⟩ := c3_some hc; cases q)
      case range t x => split at hc <;> first | (cases hc; done) | (obtain ⟨_, _, q⟩ := c1_some hc; cases q)
      case next it s => cases s <;> simp only [cop] at hc <;> first | (cases hc; done) | (obtain ⟨_, _, q⟩ := c1_some hc; cases q)
    obtain ⟨f0, as, ts, hop, hf0, has⟩ := hcall
    split at h
    · rename_i g first captured hg
      have r1 := hx f0 (by simp [hop, Op.operands, Call.operands]) f hf0
      have r2 := XRel.list has (fun x hx' => hx x (by simp [hop, Op.operands, Call.operands]; exact .inr (by simpa using hx')))
      rw [hg] at r1
      generalize hv : act.eval f0 = fv at r1
      cases r1 with
      | fn _ _ _ fs cs q1 q2 =>
        have hargs : LRel φ (first ++ args.map (ev τ) ++ captured) (fs.toList ++ as.toList.map act.eval ++ cs.toList) := (q1.append r2).append q2
        obtain ⟨⟨fn, k1, k2, k3⟩, hcalls⟩ := hcf B W Z g _ H a H' φ w _ h hargs hH hK
        have hrun : (execOp act.eval o).run P w = .ok (.enter g (fs.toList ++ as.toList.map act.eval ++ cs.toList).toArray) w := by
          have e1 : execOp act.eval o = (do let d ← resolve act.eval ⟨.value f0, as, ts⟩ o.type; invoke d.target d.args) := by
            obtain ⟨dst, op, type, pos, after, guard⟩ := o
            simp only at hop; subst hop; rfl
          have e2 : (fs ++ as.map act.eval ++ cs) = (fs.toList ++ as.toList.map act.eval ++ cs.toList).toArray := by
            apply Array.toList_inj.1; simp
          rw [e1]
          simp only [resolve, Sem.run_bind, hv, Deferred.ofValue, Sem.run_pure, Result.andThen_ok, invoke, callFunc, run_program, k1]
          simp [k2, k3, e2]
        unfold Oper.wp
        rw [hrun]
        simp only [Oper.upon]
        refine hcalls.mono ?_
        rintro e w' ⟨φ', r, rfl, hv', hH', hs⟩
        exact hnext φ' r w' hv' hH' hs
    · cases h
  · obtain ⟨v, φ', w', hr, hv, hH', hs⟩ := plain_sound hc hx hH h hK
    unfold Oper.wp
    rcases hr with hr | ⟨hr, rfl⟩
    · rw [hr]; exact hnext φ' v w' hv hH' hs
    · rw [hr]; exact hnext φ' undef w' hv hH' hs
end Go.AI
