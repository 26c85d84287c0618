/- Every operation but calls does what its abstract one does. No claim by itself. -/
import Derived.Test.YtjhhicmlflelhaaE14
namespace Go.AI
variable {P : Program}
theorem run_u {s : Sem Unit} {w w' : World} (h : s.run P w = .ok () w') : (do s; pure .skip : Sem Next).run P w = .ok .skip w' := by
  simp [h]
theorem write_sound {B W Z : Nat} {φ : Pl} {H H' : Heap} {w : World} {e : Opd → AV} {ρ : Operand → Value} {o : Oper} {ao : AOp} {a : AV} (hc : cop P o.op = some ao) (hx : XRel φ e ρ o.op.operands.toList) (hH : HRel B W Z φ H w)
    (h : writeOp e H ao = some (a, H')) (hK : H'.next ≤ Z) : Sound P B W Z φ H w (execOp ρ o) a H' := by
  have hw : ao.writes = true := by
    cases ao <;> first | rfl | (simp [writeOp] at h)
  obtain ⟨dst, op, type, pos, after, guard⟩ := o
  simp only at hc hx
  have hm : ∀ x, x ∈ op.operands.toList → ∀ y, copd x = some y → VRel φ (e y) (ρ x) := hx
  have mapw : ∀ (t kt et : TypeId) (m k x : Operand) (m' k' x' : Opd), P.underlying t = some (.map kt et) → VRel φ (e m') (ρ m) → VRel φ (e k') (ρ k) → VRel φ (e x') (ρ x) → writeOp e H (.mapUpdate (eqDOf P kt) m' k' x') = some (a, H') →
      ∃ w', (Instr.mapUpdate t (ρ m) (ρ k) (ρ x)).run P w = .ok () w' ∧ a = undefA ∧ HRel B W Z φ H' w' ∧ Step φ H w φ H' w' := by
    intro t kt et m k x m' k' x' ht r1 r2 r3 h
    simp only [writeOp] at h
    split at h
    · rename_i oo hq; rw [hq] at r1
      cases hf : Nat.ble H.floor oo with
      | false => simp [hf] at h
      | true =>
        have hf' := Nat.le_of_ble_eq_true hf
        simp only [hf, cond_true] at h
        split at h
        · rename_i es he
          cases hp : plainKey (eqDOf P kt) (e k') with
          | false => simp [hp] at h
          | true =>
            simp only [hp, cond_true] at h
            split at h
            · cases h
            · rename_i i v hfd; cases h
              obtain ⟨w', g1, g2, g3⟩ := mapUpdate_sound (P := P) ht r1 r2 r3 hH he hf' hp hfd
              exact ⟨w', g1, rfl, g2, g3⟩
            · rename_i hfd; cases h
              obtain ⟨w', g1, g2, g3⟩ := mapUpdate_sound (P := P) ht r1 r2 r3 hH he hf' hp hfd
              exact ⟨w', g1, rfl, g2, g3⟩
        · cases h
    · cases h
  cases op <;> simp only [cop] at hc
  case move x => obtain ⟨y, hy, rfl⟩ := c1_some hc; cases hw
  case assign x => obtain ⟨y, hy, rfl⟩ := c1_some hc; cases hw
  case pick c x y => obtain ⟨_, _, _, _, _, _, rfl⟩ := c3_some hc; cases hw
  case alloc t => cases hz : tyZero P t <;> simp [hz] at hc; subst hc; cases hw
  case box t x => obtain ⟨y, hy, rfl⟩ := c1_some hc; cases hw
  case build t parts =>
    split at hc
    · rename_i fs _
      cases hz : tyZero P t <;> cases hp : placesOf P fs.toList <;> simp [hz, hp] at hc
      obtain ⟨_, b, _, rfl⟩ := hc; cases hw
    · rename_i el _
      cases hz : tyZero P t <;> cases hp : tySize P el <;> simp [hz, hp] at hc
      obtain ⟨_, b, _, rfl⟩ := hc; cases hw
    · cases hc
  case buildSlice t len parts =>
    split at hc
    · rename_i el ht
      cases hn : tySize P el <;> cases hz : tyZero P el <;> simp [hn, hz] at hc
      obtain ⟨_, ps, _, rfl⟩ := hc; cases hw
    · cases hc
  case insert t m k x =>
    split at hc
    · rename_i kt et ht
      obtain ⟨m', k', x', h1, h2, h3, rfl⟩ := c3_some hc
      obtain ⟨w', g1, rfl, g2, g3⟩ := mapw t kt et m k x m' k' x' ht (hm m (by simp [Op.operands]) m' h1) (hm k (by simp [Op.operands]) k' h2) (hm x (by simp [Op.operands]) x' h3) h
      exact ⟨undef, φ, w', .inr ⟨run_u g1, rfl⟩, VRel.undef _, g2, g3⟩
    · cases hc
  case load t x =>
    cases ht : tyAgg P t <;> simp [ht] at hc
    obtain ⟨y, hy, rfl⟩ := c1_some hc; cases hw
  case store t p x =>
    cases hn : tySize P t <;> simp [hn] at hc
    obtain ⟨p', x', h1, h2, rfl⟩ := c2_some hc
    rename_i n
    have r1 := hm p (by simp [Op.operands]) p' h1
    have r2 := hm x (by simp [Op.operands]) x' h2
    simp only [writeOp] at h
    split at h
    · rename_i oo off hq; rw [hq] at r1
      cases hb : Nat.beq (e x').cells.length n with
      | false => simp [hb] at h
      | true =>
        simp only [hb, cond_true] at h
        cases hws : H.writeSeg oo off (e x').cells with
        | none => simp [hws] at h
        | some H2 =>
          simp [hws] at h; obtain ⟨rfl, rfl⟩ := h
          obtain ⟨w', g1, g2, g3⟩ := store_sound (P := P) hH r1 r2 hn (Nat.eq_of_beq_eq_true hb) hws
          exact ⟨undef, φ, w', .inr ⟨run_u g1, rfl⟩, VRel.undef _, g2, g3⟩
    · cases h
  case ready => cases hc
  case waits => cases hc
  case nilCheck x => obtain ⟨y, hy, rfl⟩ := c1_some hc; cases hw
  case binOp op t x y u => obtain ⟨_, _, _, _, rfl⟩ := c2_some hc; cases hw
  case unOp op t x => obtain ⟨_, _, rfl⟩ := c1_some hc; cases hw
  case convert src dst x =>
    split at hc
    · obtain ⟨_, _, rfl⟩ := c1_some hc; cases hw
    · obtain ⟨_, _, rfl⟩ := c1_some hc; cases hw
    · split at hc
      · obtain ⟨_, _, rfl⟩ := c1_some hc; cases hw
      · cases hc
    · split at hc
      · obtain ⟨_, _, rfl⟩ := c1_some hc; cases hw
      · cases hc
    · cases hc
  case sliceToArrayPointer t x =>
    split at hc
    · obtain ⟨_, _, rfl⟩ := c1_some hc; cases hw
    · cases hc
  case makeInterface => cases hc
  case makeFunc fn first captured =>
    cases fn <;> simp only [cop] at hc <;> first | (cases hc; done) | skip
    cases h1 : copds first.toList <;> cases h2 : copds captured.toList <;> simp [h1, h2] at hc
    subst hc; cases hw
  case makeMap t r =>
    split at hc
    · cases hq : copt r <;> simp [hq] at hc; subst hc; cases hw
    · cases hc
  case makeChan => cases hc
  case makeSlice t l c =>
    split at hc
    · rename_i el ht
      cases hn : tySize P el <;> cases hb : tyBytes P el <;> cases hz : tyZero P el <;> simp [hn, hb, hz] at hc
      obtain ⟨_, _, _, _, rfl⟩ := c2_some hc; cases hw
    · cases hc
  case slice t x lo hi mx =>
    split at hc
    · split at hc
      · cases hc
      · cases h1 : copd x <;> cases h2 : copt lo <;> cases h3 : copt hi <;> simp [h1, h2, h3] at hc
        subst hc; cases hw
    · rename_i el ht
      cases hn : tySize P el <;> cases h1 : copd x <;> cases h2 : copt lo <;> cases h3 : copt hi <;> cases h4 : copt mx <;> simp [hn, h1, h2, h3, h4] at hc
      subst hc; cases hw
    · split at hc
      · cases hc
      · rename_i k el ht hmx
        cases hn : tySize P el <;> cases h1 : copd x <;> cases h2 : copt lo <;> cases h3 : copt hi <;> simp [hn, h1, h2, h3] at hc
        subst hc; cases hw
    · cases hc
  case fieldAddr s x f =>
    split at hc
    · split at hc
      · split at hc
        · cases hc
        · obtain ⟨_, _, rfl⟩ := c1_some hc; cases hw
        · cases hc
      · cases hc
    · cases hc
  case field s x f =>
    split at hc
    · split at hc
      · rename_i fd hfd
        cases hn : tyAgg P fd.type <;> simp [hn] at hc
        obtain ⟨_, _, rfl⟩ := c1_some hc; cases hw
      · cases hc
    · cases hc
  case indexAddr t x i =>
    split at hc
    · rename_i el ht
      cases hn : tySize P el <;> simp [hn] at hc
      obtain ⟨_, _, _, _, rfl⟩ := c2_some hc; cases hw
    · rename_i k el ht
      cases hn : tySize P el <;> simp [hn] at hc
      obtain ⟨_, _, _, _, rfl⟩ := c2_some hc; cases hw
    · cases hc
  case index t x i =>
    split at hc
    · rename_i k el ht
      cases hn : tySize P el <;> cases ha : tyAgg P el <;> simp [hn, ha] at hc
      obtain ⟨_, _, _, _, rfl⟩ := c2_some hc; cases hw
    · obtain ⟨_, _, _, _, rfl⟩ := c2_some hc; cases hw
    · cases hc
  case lookup t x i ok =>
    split at hc
    · rename_i k el ht
      cases hz : tyZero P el <;> simp [hz] at hc
      obtain ⟨m', k', h1, h2, rfl⟩ := c2_some hc; cases hw
    · cases hc
  case mapUpdate t m k x =>
    split at hc
    · rename_i kt et ht
      obtain ⟨m', k', x', h1, h2, h3, rfl⟩ := c3_some hc
      obtain ⟨w', g1, rfl, g2, g3⟩ := mapw t kt et m k x m' k' x' ht (hm m (by simp [Op.operands]) m' h1) (hm k (by simp [Op.operands]) k' h2) (hm x (by simp [Op.operands]) x' h3) h
      exact ⟨undef, φ, w', .inr ⟨run_u g1, rfl⟩, VRel.undef _, g2, g3⟩
    · cases hc
  case mapEntry => cases hc
  case entryStore => cases hc
  case range t x =>
    split at hc
    · obtain ⟨y, hy, rfl⟩ := c1_some hc; cases hw
    · cases hc
  case next it s =>
    cases s <;> simp only [cop] at hc
    · cases hc
    · obtain ⟨y, hy, rfl⟩ := c1_some hc
      have r := hm it (by simp [Op.operands]) y hy
      simp only [writeOp] at h
      split at h
      · rename_i oo hq; rw [hq] at r
        cases hf : Nat.ble H.floor oo with
        | false => simp [hf] at h
        | true =>
          have hf' := Nat.le_of_ble_eq_true hf
          simp only [hf, cond_true] at h
          split at h
          · rename_i s pos he
            obtain ⟨v, w', g1, g2⟩ := next_sound (P := P) (ty := type) r hH he hf'
            split at h
            · rename_i hp; cases h
              rw [if_pos hp] at g2
              exact ⟨v, φ, w', .inl (run_v' g1), g2.1, g2.2.1, g2.2.2⟩
            · rename_i hp; cases h
              rw [if_neg hp] at g2
              obtain ⟨g3, rfl⟩ := g2
              exact ⟨v, φ, _, .inl (run_v' g1), g3, hH, Step.refl _ _ _⟩
          · cases h
      · cases h
  case entry => cases hc
  case typeAssert => cases hc
  case extract t i => obtain ⟨_, _, rfl⟩ := c1_some hc; cases hw
  case call c =>
    obtain ⟨callee, args, argTypes⟩ := c
    cases callee with
    | value f =>
      simp only at hc
      cases h1 : copd f <;> cases h2 : copds args.toList <;> simp [h1, h2] at hc
      subst hc; cases hw
    | invoke r m => simp at hc
    | builtin b =>
      simp only at hc
      have hrun : ∀ {s : Sem Value} {v : Value} {w' : World}, (∀ cs, builtin b argTypes type cs (args.map ρ) = (do pure (.value (← s)))) → s.run P w = .ok v w' →
          (execOp ρ ⟨dst, .call ⟨.builtin b, args, argTypes⟩, type, pos, after, guard⟩).run P w = .ok (.value v) w' := by
        intro s v w' e1 e2
        simp only [execOp, resolve, Sem.run_bind, Sem.run_pure, Result.andThen_ok, invoke]
        rw [e1]; simp [e2]
      unfold cbuiltin at hc
      split at hc
      · rename_i t u x y e1 e2
        obtain ⟨rfl⟩ : argTypes = #[t, u] := by apply Array.toList_inj.1; simpa using e1
        obtain ⟨rfl⟩ : args = #[x, y] := by apply Array.toList_inj.1; simpa using e2
        have main : ∀ (el : TypeId), P.underlying t = some (.slice el) → ((∃ q, P.underlying u = some (.slice q)) ∨ P.underlying u = some .string) →
            ((tySize P el).bind fun n => (tyBytes P el).bind fun by_ => (tyZero P el).bind fun z => if by_ = 0 ∨ z.cells.length ≠ n ∨ allOne z.cells = false then none else c2 x y (.append n by_)) = some ao → Sound P B W Z φ H w (execOp ρ ⟨dst, .call ⟨.builtin .append, #[x, y], #[t, u]⟩, type, pos, after, guard⟩) a H' := by
          intro el ht hu hc
          cases hn : tySize P el <;> cases hb : tyBytes P el <;> cases hz : tyZero P el <;> simp [hn, hb, hz] at hc
          rename_i n by_ z
          obtain ⟨⟨hb0, hzn, hz1⟩, hc⟩ := hc
          obtain ⟨x', y', h1, h2, rfl⟩ := c2_some hc
          simp only [writeOp] at h
          obtain ⟨v, φ', w', g1, g2, g3, g4⟩ := append_sound (P := P) (ty := type) hH ht hu hn hb hz hzn hz1 hb0 (hm x (by simp [Op.operands, Call.operands]) x' h1) (hm y (by simp [Op.operands, Call.operands]) y' h2) h hK
          exact ⟨v, φ', w', .inl (hrun (s := Builtin.append_ #[t, u] type #[ρ x, ρ y]) (fun _ => by simp [builtin]) g1), g2, g3, g4⟩
        split at hc
        · rename_i el q ht hu; exact main el ht (.inl ⟨q, hu⟩) hc
        · rename_i el ht hu; exact main el ht (.inr hu) hc
        · cases hc
      · split at hc
        · obtain ⟨_, _, rfl⟩ := c1_some hc; cases hw
        · obtain ⟨_, _, rfl⟩ := c1_some hc; cases hw
        · obtain ⟨_, _, rfl⟩ := c1_some hc; cases hw
        · obtain ⟨_, _, rfl⟩ := c1_some hc; cases hw
        · cases hc
      · split at hc
        · obtain ⟨_, _, rfl⟩ := c1_some hc; cases hw
        · cases hc
      · rename_i t u x y e1 e2
        obtain ⟨rfl⟩ : argTypes = #[t, u] := by apply Array.toList_inj.1; simpa using e1
        obtain ⟨rfl⟩ : args = #[x, y] := by apply Array.toList_inj.1; simpa using e2
        split at hc
        · rename_i el ht
          cases hn : tySize P el <;> simp [hn] at hc
          obtain ⟨x', y', h1, h2, rfl⟩ := c2_some hc
          simp only [writeOp] at h
          obtain ⟨v, w', g1, g2, g3, g4⟩ := copy_sound (P := P) (ty := type) (u := u) hH ht hn (hm x (by simp [Op.operands, Call.operands]) x' h1) (hm y (by simp [Op.operands, Call.operands]) y' h2) h
          exact ⟨v, φ, w', .inl (hrun (s := Builtin.copy_ #[t, u] type #[ρ x, ρ y]) (fun _ => by simp [builtin]) g1), g2, g3, g4⟩
        · cases hc
      · rename_i t u x y e1 e2
        obtain ⟨rfl⟩ : argTypes = #[t, u] := by apply Array.toList_inj.1; simpa using e1
        obtain ⟨rfl⟩ : args = #[x, y] := by apply Array.toList_inj.1; simpa using e2
        split at hc
        · rename_i kt et ht
          obtain ⟨m', k', h1, h2, rfl⟩ := c2_some hc
          have r1 := hm x (by simp [Op.operands, Call.operands]) m' h1
          have r2 := hm y (by simp [Op.operands, Call.operands]) k' h2
          simp only [writeOp] at h
          split at h
          · rename_i hq; rw [hq] at r1
            cases hp : plainKey (eqDOf P kt) (e k') with
            | false => simp [hp] at h
            | true =>
              simp [hp] at h; obtain ⟨rfl, rfl⟩ := h
              generalize hv : ρ x = v at r1
              cases r1
              have hck := checkKey_sound (P := P) r2 hp true w
              exact ⟨.tuple #[], φ, w, .inl (hrun (s := Builtin.delete_ #[t, u] type #[ρ x, ρ y]) (fun _ => by simp [builtin]) (by simp [Builtin.delete_, ht, hv, hck])), VRel.undef _, hH, Step.refl _ _ _⟩
          · rename_i oo hq; rw [hq] at r1
            cases hf : Nat.ble H.floor oo with
            | false => simp [hf] at h
            | true =>
              have hf' := Nat.le_of_ble_eq_true hf
              simp only [hf, cond_true] at h
              split at h
              · rename_i es he
                cases hp : plainKey (eqDOf P kt) (e k') with
                | false => simp [hp] at h
                | true =>
                  simp only [hp, cond_true] at h
                  split at h
                  · cases h
                  · rename_i i v hfd; cases h
                    obtain ⟨w', g1, g2, g3⟩ := delete_sound (P := P) (u := u) (ty := type) ht r1 r2 hH he hf' hp hfd
                    exact ⟨.tuple #[], φ, w', .inl (hrun (s := Builtin.delete_ #[t, u] type #[ρ x, ρ y]) (fun _ => by simp [builtin]) g1), VRel.undef _, g2, g3⟩
                  · rename_i hfd; cases h
                    obtain ⟨w', g1, g2, g3⟩ := delete_sound (P := P) (u := u) (ty := type) ht r1 r2 hH he hf' hp hfd
                    exact ⟨.tuple #[], φ, w', .inl (hrun (s := Builtin.delete_ #[t, u] type #[ρ x, ρ y]) (fun _ => by simp [builtin]) g1), VRel.undef _, g2, g3⟩
              · cases h
          · cases h
        · cases hc
      · rename_i t x e1 e2
        obtain ⟨rfl⟩ : argTypes = #[t] := by apply Array.toList_inj.1; simpa using e1
        obtain ⟨rfl⟩ : args = #[x] := by apply Array.toList_inj.1; simpa using e2
        split at hc
        · rename_i kt et ht
          obtain ⟨m', h1, rfl⟩ := c1_some hc
          have r1 := hm x (by simp [Op.operands, Call.operands]) m' h1
          simp only [writeOp] at h
          split at h
          · rename_i hq; rw [hq] at r1; cases h
            generalize hv : ρ x = v at r1
            cases r1
            exact ⟨.tuple #[], φ, w, .inl (hrun (s := Builtin.clear_ #[t] type #[ρ x]) (fun _ => by simp [builtin]) (by simp [Builtin.clear_, ht, hv])), VRel.undef _, hH, Step.refl _ _ _⟩
          · rename_i oo hq; rw [hq] at r1
            cases hf : Nat.ble H.floor oo with
            | false => simp [hf] at h
            | true =>
              have hf' := Nat.le_of_ble_eq_true hf
              simp only [hf, cond_true] at h
              split at h
              · rename_i es he
                cases h
                generalize hv : ρ x = v at r1
                cases r1 with
                | map _ L hL =>
                  obtain ⟨en, cl, q1, q2⟩ := hH.obj oo L _ hL he
                  have hget := getMap (P := P) (d' := w.drawn) q1
                  have := setMap (P := P) cl w.drawn hH hL he hf' q1 (es' := []) (en' := #[]) trivial
                  exact ⟨.tuple #[], φ, _, .inl (hrun (s := Builtin.clear_ #[t] type #[ρ x]) (fun _ => by simp [builtin]) (by simp [Builtin.clear_, ht, hv, hget, this.1])), VRel.undef _, this.2.1, this.2.2⟩
              · cases h
          · cases h
        · rename_i el ht
          cases hz : tyZero P el <;> simp [hz] at hc
          rename_i z
          obtain ⟨m', h1, rfl⟩ := c1_some hc
          have r1 := hm x (by simp [Op.operands, Call.operands]) m' h1
          obtain ⟨zv, rz, _, hzr⟩ := run_zeroValue hz φ
          simp only [writeOp] at h
          split at h
          · rename_i hq; rw [hq] at r1; cases h
            generalize hv : ρ x = v at r1
            cases r1
            exact ⟨.tuple #[], φ, w, .inl (hrun (s := Builtin.clear_ #[t] type #[ρ x]) (fun _ => by simp [builtin]) (by simp [Builtin.clear_, ht, hv])), VRel.undef _, hH, Step.refl _ _ _⟩
          · rename_i oo off len sz lo ex hq; rw [hq] at r1
            cases hb : (Nat.beq z.cells.length sz && Nat.ble 1 sz) with
            | false => simp only [hb, cond_false] at h; cases h
            | true =>
              simp only [hb, cond_true] at h
              simp only [Bool.and_eq_true, Tr.nbeq, decide_eq_true_eq, Nat.ble_eq] at hb
              generalize hv : ρ x = v at r1
              cases hl0 : Nat.beq len 0 with
              | true =>
                have := Nat.eq_of_beq_eq_true hl0; subst this
                simp only [hl0, cond_true] at h; cases h
                have hsl : ∃ a0 cap, v = .slice (some a0) 0 cap := by cases r1 <;> exact ⟨_, _, rfl⟩
                obtain ⟨a0, cap, rfl⟩ := hsl
                exact ⟨.tuple #[], φ, w, .inl (hrun (s := Builtin.clear_ #[t] type #[ρ x]) (fun _ => by simp [builtin]) (by simp [Builtin.clear_, ht, hv])), VRel.undef _, hH, Step.refl _ _ _⟩
              | false =>
                simp only [hl0, cond_false] at h
                cases hws : H.writeSeg oo off ((List.replicate len z.cells).flatten) with
                | none => simp [hws] at h
                | some H2 =>
                  simp [hws] at h; obtain ⟨rfl, rfl⟩ := h
                  obtain ⟨_, _, _, _, hone, _⟩ := writeSeg_some hws
                  have hlen : len ≠ 0 := fun q => by subst q; simp at hl0
                  have hz1 : allOne z.cells = true := by
                    obtain ⟨k, rfl⟩ : ∃ k, len = k + 1 := ⟨len - 1, by omega⟩
                    simp only [List.replicate_succ, List.flatten_cons, allOne, List.all_append, Bool.and_eq_true] at hone
                    exact hone.1
                  have hzv : zv.cells.size = sz := by have := (rz.cells hz1).len; simp at this; omega
                  cases r1 with
                  | slc _ _ _ _ _ _ L cap hL a1 a2 a3 a4 =>
                    have hrep := rep_zero _ _ (rz.cells hz1) len sz hb.1
                    obtain ⟨w', g1, g2, g3⟩ := writeSeg_sound (P := P) hH hL hws hrep
                    refine ⟨.tuple #[], φ, w', .inl (hrun (s := Builtin.clear_ #[t] type #[ρ x]) (fun _ => by simp [builtin]) ?_), VRel.undef _, g2, g3⟩
                    obtain ⟨k, rfl⟩ : ∃ k, len = k + 1 := ⟨len - 1, by omega⟩
                    have e1 : (Builtin.zeroCells zv.cells (k + 1)).toList = ((Array.range ((k + 1) * sz)).map (zv.cells[· % zv.cells.size]!)).toList := by
                      simp only [Builtin.zeroCells, hzv]
                    simp only [Builtin.clear_, List.map_toArray, List.map_cons, List.map_nil, hv]
                    simp only [Sem.run_bind, run_underlying, ht, hzr, Result.andThen_ok, e1, List.getElem?_toArray, List.getElem?_cons_zero]
                    rw [g1]; simp
                  | slc0 => omega
          · cases h
        · cases hc
      · cases hq : copds args.toList <;> simp [hq] at hc
        subst hc; cases hw
      · cases hq : copds args.toList <;> simp [hq] at hc
        subst hc; cases hw
      · cases hc
  case go => cases hc
  case defer => cases hc
  case panic => cases hc
  case send => cases hc
  case recv => cases hc
  case select => cases hc
theorem plain_sound {B W Z : Nat} {φ : Pl} {H H' : Heap} {w : World} {e : Opd → AV} {ρ : Operand → Value} {o : Oper} {ao : AOp} {a : AV} (hc : cop P o.op = some ao) (hx : XRel φ e ρ o.op.operands.toList) (hH : HRel B W Z φ H w)
    (h : plainOp e H ao = some (a, H')) (hK : H'.next ≤ Z) : Sound P B W Z φ H w (execOp ρ o) a H' := by
  unfold plainOp at h
  cases hw : ao.writes with
  | true => rw [hw] at h; exact write_sound hc hx hH h hK
  | false => rw [hw] at h; exact read_sound hc hx hH h hK
end Go.AI
