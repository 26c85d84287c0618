/- Each operation that takes no memory does what its abstract one does. No claim by itself. -/
import Derived.Test.YtjhhicmlflelhaaE6
namespace Go.AI
variable {P : Program}
theorem c1_some {x : Operand} {f : Opd → AOp} {ao : AOp} (h : c1 x f = some ao) : ∃ y, copd x = some y ∧ ao = f y := by
  unfold c1 at h; cases hx : copd x <;> simp [hx] at h; exact ⟨_, rfl, h.symm⟩
theorem c2_some {x y : Operand} {f : Opd → Opd → AOp} {ao : AOp} (h : c2 x y f = some ao) : ∃ a b, copd x = some a ∧ copd y = some b ∧ ao = f a b := by
  unfold c2 at h; cases hx : copd x <;> cases hy : copd y <;> simp [hx, hy] at h; exact ⟨_, _, rfl, rfl, h.symm⟩
theorem c3_some {x y z : Operand} {f : Opd → Opd → Opd → AOp} {ao : AOp} (h : c3 x y z f = some ao) : ∃ a b c, copd x = some a ∧ copd y = some b ∧ copd z = some c ∧ ao = f a b c := by
  unfold c3 at h; cases hx : copd x <;> cases hy : copd y <;> cases hz : copd z <;> simp [hx, hy, hz] at h; exact ⟨_, _, _, rfl, rfl, rfl, h.symm⟩
theorem copt_some {φ : Pl} {e : Opd → AV} {ρ : Operand → Value} {x : Option Operand} {y : Option Opd} (h : copt x = some y) (hx : XRel φ e ρ x.toArray.toList) : ORelO φ (y.map e) (x.map ρ) := by
  cases x with
  | none => simp [copt] at h; subst h; trivial
  | some x =>
    simp only [copt] at h
    cases hc : copd x <;> simp [hc] at h
    subst h
    exact hx x (by simp) _ hc
theorem max_sound {φ : Pl} (mx : Bool) : ∀ (xs : List AV) (x : AV) (v : Value) (vs : List Value) (r : AV) (w : World), VRel φ x v → LRel φ xs vs → maxA mx x xs = some r →
    ∃ z, (vs.foldlM (if mx then Builtin.max2 else Builtin.min2) v).run P w = .ok z w ∧ VRel φ r z
  | [], x, v, vs, r, w, hx, hl, h => by
    cases hl
    simp only [maxA] at h
    split at h
    · cases h; exact ⟨v, by simp, hx⟩
    · cases h
  | y :: xs, x, v, vs, r, w, hx, hl, h => by
    cases hl with
    | cons hy ht =>
      unfold maxA at h
      split at h
      · rename_i e; cases e
      · rename_i k a k' b r' e
        obtain ⟨rfl, rfl⟩ := by simpa using e
        split at h
        · rename_i hk; subst hk
          cases hx; cases hy
          obtain ⟨z, h1, h2⟩ := max_sound mx xs _ _ _ r w (.int _ _) ht h
          refine ⟨z, ?_, h2⟩
          cases mx <;> simpa [Builtin.max2, Builtin.min2] using h1
        · cases h
      · cases h
theorem run_v {s : Sem Value} {w w' : World} {v : Value} (h : s.run P w = .ok v w') : (do pure (.value (← s)) : Sem Next).run P w = .ok (.value v) w' := by
  simp [h]
theorem pure_builtin {φ : Pl} {e : Opd → AV} {ρ : Operand → Value} {b : Builtin} {ts : Array TypeId} {xs : Array Operand} {dst : Option Tmp} {ty : TypeId} {pos : String} {after : Array Edge} {guard : Option (Nat × Bool)} {ao : AOp} {a : AV}
    (hc : cbuiltin P b ts xs = some ao) (hm : XRel φ e ρ xs.toList) (h : pureOp e ao = some a) (w : World) :
    ∃ v, (execOp ρ ⟨dst, .call ⟨.builtin b, xs, ts⟩, ty, pos, after, guard⟩).run P w = .ok (.value v) w ∧ VRel φ a v := by
  have hrun : ∀ {s : Sem Value} {v : Value}, (∀ cs, builtin b ts ty cs (xs.map ρ) = (do pure (.value (← s)))) → s.run P w = .ok v w → VRel φ a v →
      ∃ v, (execOp ρ ⟨dst, .call ⟨.builtin b, xs, ts⟩, ty, pos, after, guard⟩).run P w = .ok (.value v) w ∧ VRel φ a v := by
    intro s v e1 e2 e3
    refine ⟨v, ?_, e3⟩
    simp only [execOp, resolve, Sem.run_bind, Sem.run_pure, Result.andThen_ok, invoke]
    rw [e1]; simp [e2]
  unfold cbuiltin at hc
  split at hc
  · split at hc
    · rename_i el _ _ _
      cases hn : tySize P el <;> cases hb : tyBytes P el <;> cases hz : tyZero P el <;> simp [hn, hb, hz] at hc
      obtain ⟨_, hc⟩ := hc
      obtain ⟨_, _, _, _, rfl⟩ := c2_some hc; simp [pureOp] at h
    · rename_i el _ _
      cases hn : tySize P el <;> cases hb : tyBytes P el <;> cases hz : tyZero P el <;> simp [hn, hb, hz] at hc
      obtain ⟨_, hc⟩ := hc
      obtain ⟨_, _, _, _, rfl⟩ := c2_some hc; simp [pureOp] at h
    · cases hc
  · rename_i t x e1 e2
    obtain ⟨rfl⟩ : ts = #[t] := by apply Array.toList_inj.1; simpa using e1
    obtain ⟨rfl⟩ : xs = #[x] := by apply Array.toList_inj.1; simpa using e2
    split at hc
    · rename_i ht
      obtain ⟨y, hy, rfl⟩ := c1_some hc
      have r := hm x (by simp) y hy
      simp only [pureOp] at h
      generalize hv : ρ x = v at r
      split at h <;> first | (cases h; done) | skip
      rename_i hq; rw [hq] at r; cases h; cases r
      exact hrun (fun _ => rfl) (by simp only [Builtin.len_, List.map_toArray, List.map_cons, List.map_nil, hv]; simp [ht]; rfl) (by rw [natsOf_len]; exact .int _ _)
    · rename_i ht
      obtain ⟨y, hy, rfl⟩ := c1_some hc
      have r := hm x (by simp) y hy
      simp only [pureOp] at h
      generalize hv : ρ x = v at r
      split at h <;> first | (cases h; done) | skip
      · rename_i hq; rw [hq] at r; cases h; cases r
        exact hrun (fun _ => rfl) (by simp only [Builtin.len_, List.map_toArray, List.map_cons, List.map_nil, hv]; simp [ht]; rfl) (.int _ _)
      · rename_i hq; rw [hq] at r; cases h; cases r
        · exact hrun (fun _ => rfl) (by simp only [Builtin.len_, List.map_toArray, List.map_cons, List.map_nil, hv]; simp [ht]; rfl) (.int _ _)
        · exact hrun (fun _ => rfl) (by simp only [Builtin.len_, List.map_toArray, List.map_cons, List.map_nil, hv]; simp [ht]; rfl) (.int _ _)
    · obtain ⟨_, _, rfl⟩ := c1_some hc; simp [pureOp] at h
    · rename_i ht
      obtain ⟨y, hy, rfl⟩ := c1_some hc
      simp only [pureOp] at h; cases h
      exact hrun (fun _ => rfl) (by simp only [Builtin.len_, List.map_toArray, List.map_cons, List.map_nil]; simp [ht]; rfl) (.int _ _)
    · cases hc
  · rename_i t x e1 e2
    obtain ⟨rfl⟩ : ts = #[t] := by apply Array.toList_inj.1; simpa using e1
    obtain ⟨rfl⟩ : xs = #[x] := by apply Array.toList_inj.1; simpa using e2
    split at hc
    · rename_i ht
      obtain ⟨y, hy, rfl⟩ := c1_some hc
      have r := hm x (by simp) y hy
      simp only [pureOp] at h
      generalize hv : ρ x = v at r
      split at h <;> first | (cases h; done) | skip
      · rename_i hq; rw [hq] at r; cases h; cases r
        exact hrun (fun _ => rfl) (by simp only [Builtin.cap_, List.map_toArray, List.map_cons, List.map_nil, hv]; simp [ht]; rfl) (.int _ _)
      · rename_i hq; rw [hq] at r; cases h
        cases r with
        | slc _ _ _ _ _ _ L cap hL q1 q2 q3 q4 =>
          have := q3 rfl; subst this
          exact hrun (fun _ => rfl) (by simp only [Builtin.cap_, List.map_toArray, List.map_cons, List.map_nil, hv]; simp [ht]; rfl) (.int _ _)
        | slc0 => exact hrun (fun _ => rfl) (by simp only [Builtin.cap_, List.map_toArray, List.map_cons, List.map_nil, hv]; simp [ht]; rfl) (.int _ _)
    · cases hc
  · split at hc
    · rename_i el _
      cases hn : tySize P el <;> simp [hn] at hc
      obtain ⟨_, _, _, _, rfl⟩ := c2_some hc; simp [pureOp] at h
    · cases hc
  · split at hc
    · obtain ⟨_, _, _, _, rfl⟩ := c2_some hc; simp [pureOp] at h
    · cases hc
  · split at hc
    · obtain ⟨_, _, rfl⟩ := c1_some hc; simp [pureOp] at h
    · rename_i el _
      cases hz : tyZero P el <;> simp [hz] at hc
      obtain ⟨_, _, rfl⟩ := c1_some hc; simp [pureOp] at h
    · cases hc
  · cases hq : copds xs.toList <;> simp [hq] at hc
    subst hc
    rename_i ys
    have r := XRel.list hq hm
    simp only [pureOp] at h
    split at h
    · cases h
    · rename_i x xr hxs
      rw [hxs] at r
      cases hv : xs.toList.map ρ with
      | nil => rw [hv] at r; cases r
      | cons v vs =>
        rw [hv] at r
        cases r with
        | cons r1 r2 =>
          obtain ⟨z, g1, g2⟩ := max_sound (P := P) true _ _ _ _ _ w r1 r2 h
          exact hrun (s := Builtin.max_ ts ty (xs.map ρ)) (fun _ => rfl) (by simp only [Builtin.max_, Array.toList_map, hv]; exact g1) g2
  · cases hq : copds xs.toList <;> simp [hq] at hc
    subst hc
    rename_i ys
    have r := XRel.list hq hm
    simp only [pureOp] at h
    split at h
    · cases h
    · rename_i x xr hxs
      rw [hxs] at r
      cases hv : xs.toList.map ρ with
      | nil => rw [hv] at r; cases r
      | cons v vs =>
        rw [hv] at r
        cases r with
        | cons r1 r2 =>
          obtain ⟨z, g1, g2⟩ := max_sound (P := P) false _ _ _ _ _ w r1 r2 h
          exact hrun (s := Builtin.min_ ts ty (xs.map ρ)) (fun _ => rfl) (by simp only [Builtin.min_, Array.toList_map, hv]; exact g1) g2
  · cases hc
theorem pure_sound {φ : Pl} {e : Opd → AV} {ρ : Operand → Value} {o : Oper} {ao : AOp} {a : AV} (hc : cop P o.op = some ao) (hx : XRel φ e ρ o.op.operands.toList) (h : pureOp e ao = some a) (w : World) :
    ∃ v, (execOp ρ o).run P w = .ok (.value v) w ∧ VRel φ a v := by
  obtain ⟨dst, op, type, pos, after, guard⟩ := o
  simp only at hc hx
  have hm : ∀ x, x ∈ op.operands.toList → ∀ y, copd x = some y → VRel φ (e y) (ρ x) := hx
  cases op <;> simp only [cop] at hc
  case move x =>
    obtain ⟨y, hy, rfl⟩ := c1_some hc
    simp only [pureOp] at h; cases h
    exact ⟨_, rfl, hm x (by simp [Op.operands]) y hy⟩
  case assign x =>
    obtain ⟨y, hy, rfl⟩ := c1_some hc
    simp only [pureOp] at h; cases h
    exact ⟨_, rfl, hm x (by simp [Op.operands]) y hy⟩
  case pick c x y =>
    obtain ⟨c', x', y', h1, h2, h3, rfl⟩ := c3_some hc
    simp only [pureOp] at h
    have r1 := hm c (by simp [Op.operands]) c' h1
    have r2 := hm x (by simp [Op.operands]) x' h2
    have r3 := hm y (by simp [Op.operands]) y' h3
    split at h
    · rename_i t ht; rw [ht] at r1
      generalize hcv : ρ c = cv at r1
      cases r1
      cases h
      cases t
      · exact ⟨ρ y, by simp [execOp, hcv, asBool], by simpa using r3⟩
      · exact ⟨ρ x, by simp [execOp, hcv, asBool], by simpa using r2⟩
    · cases h
  case alloc t => cases hz : tyZero P t <;> simp [hz] at hc; subst hc; simp [pureOp] at h
  case box t x => obtain ⟨y, hy, rfl⟩ := c1_some hc; simp [pureOp] at h
  case build t parts =>
    split at hc
    · rename_i fs ht
      cases hz : tyZero P t with
      | none => simp [hz] at hc
      | some z =>
        simp only [hz, Option.bind_some] at hc
        split at hc
        · rename_i hz1
          cases hp : placesOf P fs.toList with
          | none => simp [hp] at hc
          | some pl =>
            simp only [hp, Option.bind_some] at hc
            cases hq : cparts (fun i => pl[i]?) parts.toList with
            | none => simp [hq] at hc
            | some ps =>
              simp [hq] at hc; subst hc
              simp only [pureOp] at h
              cases hf : fillA e z.cells ps with
              | none => simp [hf] at h
              | some r =>
                simp [hf] at h; subst h
                obtain ⟨v, h1, h2⟩ := build_struct ht hz hz1 hp hq (fun x hx => hm x (by simpa [Op.operands] using hx)) hf w
                exact ⟨v, run_v h1, h2⟩
        · cases hc
    · rename_i k el ht
      cases hz : tyZero P t with
      | none => simp [hz] at hc
      | some z =>
        simp only [hz, Option.bind_some] at hc
        split at hc
        · rename_i hz1
          cases hp : tySize P el with
          | none => simp [hp] at hc
          | some n =>
            simp only [hp, Option.bind_some] at hc
            cases hq : cparts (fun i => some (i * n, n)) parts.toList with
            | none => simp [hq] at hc
            | some ps =>
              simp [hq] at hc; subst hc
              simp only [pureOp] at h
              cases hf : fillA e z.cells ps with
              | none => simp [hf] at h
              | some r =>
                simp [hf] at h; subst h
                obtain ⟨v, h1, h2⟩ := build_array ht hz hz1 hp hq (fun x hx => hm x (by simpa [Op.operands] using hx)) hf w
                exact ⟨v, run_v h1, h2⟩
        · cases hc
    · cases hc
  case buildSlice t len parts =>
    split at hc
    · rename_i el ht
      cases hn : tySize P el <;> cases hz : tyZero P el <;> simp [hn, hz] at hc
      obtain ⟨_, ps, _, rfl⟩ := hc
      simp [pureOp] at h
    · cases hc
  case insert t m k x =>
    split at hc
    · obtain ⟨_, _, _, _, _, _, rfl⟩ := c3_some hc; simp [pureOp] at h
    · cases hc
  case load t a =>
    cases ht : tyAgg P t <;> simp [ht] at hc
    obtain ⟨_, _, rfl⟩ := c1_some hc; simp [pureOp] at h
  case store t a x =>
    cases ht : tySize P t <;> simp [ht] at hc
    obtain ⟨_, _, _, _, rfl⟩ := c2_some hc; simp [pureOp] at h
  case ready => cases hc
  case waits => cases hc
  case nilCheck x =>
    obtain ⟨y, hy, rfl⟩ := c1_some hc
    have r := hm x (by simp [Op.operands]) y hy
    simp only [pureOp] at h
    generalize hv : ρ x = v at r
    split at h <;> first | (cases h; done) | skip
    · rename_i hq; rw [hq] at r; cases h; cases r with | ptr _ _ L hL => exact ⟨_, by simp only [execOp, hv]; rfl, .ptr _ _ L hL⟩
    · rename_i hq; rw [hq] at r; cases h; cases r with | fn _ _ _ _ _ r1 r2 => exact ⟨_, by simp only [execOp, hv]; rfl, .fn _ _ _ _ _ r1 r2⟩
  case binOp op t x y u =>
    obtain ⟨a', b', h1, h2, rfl⟩ := c2_some hc
    simp only [pureOp] at h
    obtain ⟨z, g1, g2⟩ := bin_sound (hm x (by simp [Op.operands]) a' h1) (hm y (by simp [Op.operands]) b' h2) x y h w
    exact ⟨z, run_v g1, g2⟩
  case unOp op t x =>
    obtain ⟨a', h1, rfl⟩ := c1_some hc
    simp only [pureOp] at h
    obtain ⟨z, g1, g2⟩ := un_sound (P := P) (hm x (by simp [Op.operands]) a' h1) h w
    exact ⟨z, run_v g1, g2⟩
  case convert src dst x =>
    split at hc
    · rename_i hs hd
      obtain ⟨a', h1, rfl⟩ := c1_some hc
      have r := hm x (by simp [Op.operands]) a' h1
      simp only [pureOp] at h
      split at h <;> first | (cases h; done) | skip
      rename_i hq; rw [hq] at r; cases h
      generalize hv : ρ x = v at r
      cases r
      exact ⟨_, run_v (by simp only [convert, Sem.run_bind, run_underlying, hs, hd, Result.andThen_ok, hv, Conv.intToInt]; rfl), .int _ _⟩
    · rename_i hs hd
      obtain ⟨a', h1, rfl⟩ := c1_some hc
      have r := hm x (by simp [Op.operands]) a' h1
      simp only [pureOp] at h
      split at h <;> first | (cases h; done) | skip
      rename_i hq; rw [hq] at r; cases h
      generalize hv : ρ x = v at r
      cases r
      exact ⟨_, run_v (by simp only [convert, Sem.run_bind, run_underlying, hs, hd, Result.andThen_ok, hv]; rfl), .str _⟩
    · split at hc
      · obtain ⟨a', h1, rfl⟩ := c1_some hc; simp [pureOp] at h
      · cases hc
    · split at hc
      · obtain ⟨a', h1, rfl⟩ := c1_some hc; simp [pureOp] at h
      · cases hc
    · cases hc
  case sliceToArrayPointer t x =>
    split at hc
    · rename_i n el ht
      obtain ⟨a', h1, rfl⟩ := c1_some hc
      have r := hm x (by simp [Op.operands]) a' h1
      simp only [pureOp] at h
      split at h
      · rename_i o off len sz lo ex hq
        rw [hq] at r
        generalize hv : ρ x = v at r
        cases hb : (Nat.ble n len && Nat.ble 1 n) with
        | false => simp [hb] at h
        | true =>
          simp [hb] at h; subst h
          simp only [Bool.and_eq_true, Nat.ble_eq] at hb
          cases r with
          | slc _ _ _ _ _ _ L cap hL q1 q2 q3 q4 =>
            refine ⟨_, run_v (v := .pointer (some ⟨L.blk, L.base + off, none⟩)) ?_, .ptr _ _ L hL⟩
            have : ¬ len < n := by omega
            simp [Instr.arrayAt, ht, hv, this]
          | slc0 => omega
      · cases h
    · cases hc
  case makeInterface => cases hc
  case makeFunc fn first captured =>
    cases fn <;> simp only [cop] at hc <;> first | (cases hc; done) | skip
    rename_i f
    cases h1 : copds first.toList with
    | none => simp [h1] at hc
    | some fs =>
      cases h2 : copds captured.toList with
      | none => simp [h1, h2] at hc
      | some cs =>
        simp [h1, h2] at hc; subst hc
        simp only [pureOp] at h
        cases hb : allOne (cs.map e) with
        | false => simp [hb] at h
        | true =>
          simp [hb] at h; subst h
          refine ⟨_, rfl, .fn _ _ _ _ _ ?_ ?_⟩
          · simpa using XRel.list h1 (fun x hx => hm x (by simp [Op.operands] at hx ⊢; exact .inl hx))
          · simpa using XRel.list h2 (fun x hx => hm x (by simp [Op.operands] at hx ⊢; exact .inr hx))
  case makeMap t r =>
    split at hc
    · cases hr : copt r <;> simp [hr] at hc; subst hc; simp [pureOp] at h
    · cases hc
  case makeChan => cases hc
  case makeSlice t l c =>
    split at hc
    · rename_i el ht
      cases hn : tySize P el <;> cases hb : tyBytes P el <;> cases hz : tyZero P el <;> simp [hn, hb, hz] at hc
      obtain ⟨_, _, _, _, rfl⟩ := c2_some hc; simp [pureOp] at h
    · cases hc
  case slice t x lo hi mx =>
    split at hc
    · rename_i ht
      split at hc
      · cases hc
      · rename_i hmx
        have hmx' : mx = none := by simpa using hmx
        subst hmx'
        cases h1 : copd x <;> cases h2 : copt lo <;> cases h3 : copt hi <;> simp [h1, h2, h3] at hc
        subst hc
        rename_i x' lo' hi'
        have r := hm x (by simp [Op.operands]) x' h1
        have r2 := copt_some (e := e) (ρ := ρ) h2 (fun z hz => hm z (by simp [Op.operands] at hz ⊢; exact .inr (.inl hz)))
        have r3 := copt_some (e := e) (ρ := ρ) h3 (fun z hz => hm z (by simp [Op.operands] at hz ⊢; exact .inr (.inr hz)))
        simp only [pureOp] at h
        split at h
        · rename_i s hq
          rw [hq] at r
          generalize hv : ρ x = v at r
          cases r with
          | str b =>
            cases hb : boundsA (natsOf b).length (natsOf b).length true (lo'.map e) (hi'.map e) none with
            | none => simp [hb] at h
            | some q =>
              obtain ⟨l, hh, m, ex⟩ := q
              simp [hb] at h; subst h
              rw [natsOf_len] at hb
              obtain ⟨M, g1, g2, g3, g4, g5, g6⟩ := bounds_sound (P := P) (vm := none) (max := none) r2 r3 trivial (Nat.le_refl _) (Nat.le_refl _) (fun _ => rfl) hb false w
              rw [← natsOf_extract]
              exact ⟨_, run_v (by simp only [Instr.sliceAt, Sem.run_bind, run_underlying, ht, Result.andThen_ok, Instr.slice, hv, Option.map_none, Option.isSome_none, Bool.false_eq_true, if_false, g1]; rfl), .str _⟩
        · cases h
    · rename_i el ht
      cases hn : tySize P el <;> cases h1 : copd x <;> cases h2 : copt lo <;> cases h3 : copt hi <;> cases h4 : copt mx <;> simp [hn, h1, h2, h3, h4] at hc
      subst hc
      rename_i n x' lo' hi' mx'
      have r := hm x (by simp [Op.operands]) x' h1
      have r2 := copt_some (e := e) (ρ := ρ) h2 (fun z hz => hm z (by simp [Op.operands] at hz ⊢; exact .inr (.inl hz)))
      have r3 := copt_some (e := e) (ρ := ρ) h3 (fun z hz => hm z (by simp [Op.operands] at hz ⊢; exact .inr (.inr (.inl hz))))
      have r4 := copt_some (e := e) (ρ := ρ) h4 (fun z hz => hm z (by simp [Op.operands] at hz ⊢; exact .inr (.inr (.inr hz))))
      simp only [pureOp] at h
      split at h
      · rename_i hq; rw [hq] at r
        cases hb : boundsA 0 0 true (lo'.map e) (hi'.map e) (mx'.map e) with
        | none => simp [hb] at h
        | some q =>
          simp [hb] at h; subst h
          obtain ⟨v, g1, g2⟩ := slice_nil (P := P) ht hn r r2 r3 r4 hb w
          exact ⟨v, run_v g1, g2⟩
      · rename_i o off len sz' cap ex hq; rw [hq] at r
        cases hbe : Nat.beq n sz' with
        | false => simp [hbe] at h
        | true =>
          have := Nat.eq_of_beq_eq_true hbe; subst this
          simp only [hbe, cond_true] at h
          cases hb : boundsA len cap ex (lo'.map e) (hi'.map e) (mx'.map e) with
          | none => simp [hb] at h
          | some q =>
            obtain ⟨l, hh, m, ex'⟩ := q
            simp [hb] at h; subst h
            obtain ⟨v, g1, g2⟩ := slice_at (P := P) ht hn r r2 r3 r4 hb w
            exact ⟨v, run_v g1, g2⟩
      · cases h
    · split at hc
      · cases hc
      · rename_i k el ht _
        cases hn : tySize P el <;> cases h1 : copd x <;> cases h2 : copt lo <;> cases h3 : copt hi <;> simp [hn, h1, h2, h3] at hc
        subst hc; simp [pureOp] at h
    · cases hc
  case fieldAddr s x f =>
    split at hc
    · rename_i fs ht
      split at hc
      · rename_i fd hfd
        split at hc
        · cases hc
        · rename_i n hn hs
          obtain ⟨a', h1, rfl⟩ := c1_some hc
          have r := hm x (by simp [Op.operands]) a' h1
          simp only [pureOp] at h
          split at h
          · rename_i o off hq; rw [hq] at r; cases h
            generalize hv : ρ x = v at r
            cases r with
            | ptr _ _ L hL =>
              refine ⟨.pointer (some ⟨L.blk, L.base + (off + fd.offset), none⟩), run_v ?_, .ptr _ _ L hL⟩
              have hn0 : ¬ n = 0 := fun q => hn q
              simp [Instr.fieldAt, ht, hfd, hv, Instr.sureAddr, fieldPlace, run_sizeOf hs, hn0, add_mk, Nat.add_assoc]
          · cases h
        · cases hc
      · cases hc
    · cases hc
  case field s x f =>
    split at hc
    · rename_i fs ht
      split at hc
      · rename_i fd hfd
        cases hn : tyAgg P fd.type <;> simp [hn] at hc
        rename_i n
        obtain ⟨a', h1, rfl⟩ := c1_some hc
        have r := hm x (by simp [Op.operands]) a' h1
        simp only [pureOp] at h
        split at h
        · rename_i cs hq; rw [hq] at r
          generalize hv : ρ x = v at r
          cases r with
          | agg _ vs hl =>
            obtain ⟨v, g1, g2⟩ := run_part (P := P) (w := w) hn hl h
            exact ⟨v, run_v (by simp [Instr.field, ht, hfd, hv, asAgg, g1]), g2⟩
        · cases h
      · cases hc
    · cases hc
  case indexAddr t x i =>
    split at hc
    · rename_i el ht
      cases hn : tySize P el <;> simp [hn] at hc
      rename_i n
      obtain ⟨a', b', h1, h2, rfl⟩ := c2_some hc
      have r1 := hm x (by simp [Op.operands]) a' h1
      have r2 := hm i (by simp [Op.operands]) b' h2
      simp only [pureOp] at h
      split at h
      · rename_i o off len sz lo ex k ii hq hq2
        rw [hq] at r1; rw [hq2] at r2
        split at h
        · rename_i hb; obtain ⟨b1, b2, b3⟩ := hb; subst b3; cases h
          generalize hv : ρ x = v at r1
          generalize hv2 : ρ i = iv at r2
          cases r2
          cases r1 with
          | slc _ _ _ _ _ _ L cap hL q1 q2 q3 q4 =>
            refine ⟨_, run_v (v := .pointer (some ⟨L.blk, L.base + (off + ii.toNat * n), none⟩)) ?_, .ptr _ _ L hL⟩
            simp [Instr.indexAt, asIntOf, ht, hv, hv2, b1, b2, run_sizeOf hn, add_mk, Nat.add_assoc]
          | slc0 => simp at b2; omega
        · cases h
      · cases h
    · rename_i k el ht
      cases hn : tySize P el <;> simp [hn] at hc
      rename_i n
      obtain ⟨a', b', h1, h2, rfl⟩ := c2_some hc
      have r1 := hm x (by simp [Op.operands]) a' h1
      have r2 := hm i (by simp [Op.operands]) b' h2
      simp only [pureOp] at h
      split at h
      · rename_i o off kk ii hq hq2
        rw [hq] at r1; rw [hq2] at r2
        split at h
        · rename_i hb; obtain ⟨b1, b2⟩ := hb; cases h
          generalize hv : ρ x = v at r1
          generalize hv2 : ρ i = iv at r2
          cases r2
          cases r1 with
          | ptr _ _ L hL =>
            refine ⟨_, run_v (v := .pointer (some ⟨L.blk, L.base + (off + ii.toNat * n), none⟩)) ?_, .ptr _ _ L hL⟩
            simp [Instr.indexAt, asIntOf, ht, hv, hv2, b1, b2, run_sizeOf hn, add_mk, Nat.add_assoc, Instr.sureAddr]
        · cases h
      · cases h
    · cases hc
  case index t x i =>
    split at hc
    · rename_i k el ht
      cases hn : tySize P el <;> cases ha : tyAgg P el <;> simp [hn, ha] at hc
      rename_i n m
      obtain ⟨a', b', h1, h2, rfl⟩ := c2_some hc
      have r1 := hm x (by simp [Op.operands]) a' h1
      have r2 := hm i (by simp [Op.operands]) b' h2
      simp only [pureOp] at h
      split at h
      · rename_i cs kk ii hq hq2
        rw [hq] at r1; rw [hq2] at r2
        split at h
        · rename_i hb
          generalize hv : ρ x = v at r1
          generalize hv2 : ρ i = iv at r2
          cases r2
          cases r1 with
          | agg _ vs hl =>
            obtain ⟨v, g1, g2⟩ := run_part (P := P) (w := w) ha hl h
            exact ⟨v, run_v (by simp [Instr.index, asIntOf, ht, hv, hv2, hb, run_sizeOf hn, g1]), g2⟩
        · cases h
      · cases h
    · rename_i ht
      obtain ⟨a', b', h1, h2, rfl⟩ := c2_some hc
      have r1 := hm x (by simp [Op.operands]) a' h1
      have r2 := hm i (by simp [Op.operands]) b' h2
      simp only [pureOp] at h
      split at h
      · rename_i s kk ii hq hq2
        rw [hq] at r1; rw [hq2] at r2
        split at h
        · rename_i hb
          generalize hv : ρ x = v at r1
          generalize hv2 : ρ i = iv at r2
          cases r2
          cases r1 with
          | str b =>
            rw [natsOf_get] at h
            cases hg : b[ii.toNat]? with
            | none => simp [hg] at h
            | some c =>
              simp [hg] at h; subst h
              refine ⟨.int .u8 c.toNat, run_v ?_, .int _ _⟩
              simp only [Instr.index, Sem.run_bind, hv2, asIntOf, run_underlying, ht, hv, Result.andThen_ok, Sem.run_pure, hb, if_true, hg]
        · cases h
      · cases h
    · cases hc
  case lookup t x i ok =>
    split at hc
    · rename_i k el ht
      cases hz : tyZero P el <;> simp [hz] at hc
      obtain ⟨_, _, _, _, rfl⟩ := c2_some hc; simp [pureOp] at h
    · cases hc
  case mapUpdate t m k x =>
    split at hc
    · obtain ⟨_, _, _, _, _, _, rfl⟩ := c3_some hc; simp [pureOp] at h
    · cases hc
  case mapEntry => cases hc
  case entryStore => cases hc
  case range t x =>
    split at hc
    · obtain ⟨_, _, rfl⟩ := c1_some hc; simp [pureOp] at h
    · cases hc
  case next it s =>
    cases s <;> simp only [cop] at hc
    · cases hc
    · obtain ⟨_, _, rfl⟩ := c1_some hc; simp [pureOp] at h
  case entry => cases hc
  case typeAssert => cases hc
  case extract t i =>
    obtain ⟨a', h1, rfl⟩ := c1_some hc
    have r := hm t (by simp [Op.operands]) a' h1
    simp only [pureOp] at h
    split at h
    · rename_i vs hq; rw [hq] at r
      generalize hv : ρ t = v at r
      cases r with
      | tup _ us hl =>
        obtain ⟨v, g1, g2⟩ := hl.getE h
        have : us[i]? = some v := by rw [← Array.getElem?_toList]; exact g1
        exact ⟨v, run_v (by simp [Instr.extract, hv, this]), g2⟩
    · cases h
  case call c =>
    obtain ⟨callee, args, argTypes⟩ := c
    cases callee with
    | value f =>
      simp only at hc
      cases h1 : copd f <;> cases h2 : copds args.toList <;> simp [h1, h2] at hc
      subst hc; simp [pureOp] at h
    | invoke r m => simp at hc
    | builtin b =>
      simp only at hc
      exact pure_builtin hc (fun x hx y hy => hm x (by simpa [Op.operands, Call.operands] using hx) y hy) h w
  case go => cases hc
  case defer => cases hc
  case panic => cases hc
  case send => cases hc
  case recv => cases hc
  case select => cases hc
end Go.AI
