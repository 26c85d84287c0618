/- Every operation but calls and writes does what its abstract one does. No claim by itself. -/
import Derived.Test.YtjhhicmlflelhaaE10
namespace Go.AI
variable {P : Program}
theorem run_v' {s : Sem Value} {w w' : World} {v : Value} (h : s.run P w = .ok v w') : (do pure (.value (← s)) : Sem Next).run P w = .ok (.value v) w' := by
  simp [h]
/-- What an operation's soundness says. -/
def Sound (P : Program) (B W Z : Nat) (φ : Pl) (H : Heap) (w : World) (s : Sem Next) (a : AV) (H' : Heap) : Prop :=
  ∃ v φ' w', (s.run P w = .ok (.value v) w' ∨ (s.run P w = .ok .skip w' ∧ v = undef)) ∧ VRel φ' a v ∧ HRel B W Z φ' H' w' ∧ Step φ H w φ' H' w'
theorem read_sound {B W Z : Nat} {φ : Pl} {H H' : Heap} {w : World} {e : Opd → AV} {ρ : Operand → Value} {o : Oper} {ao : AOp} {a : AV} (hc : cop P o.op = some ao) (hx : XRel φ e ρ o.op.operands.toList) (hH : HRel B W Z φ H w)
    (h : readOp e H ao = some (a, H')) (hK : H'.next ≤ Z) : Sound P B W Z φ H w (execOp ρ o) a H' := by
  by_cases hr : ao.isRead = true
  case neg =>
    rw [readOp_pure e H ao (by simpa using hr)] at h
    cases hp : pureOp e ao with
    | none => simp [hp] at h
    | some b =>
      simp [hp] at h; obtain ⟨rfl, rfl⟩ := h
      obtain ⟨v, g1, g2⟩ := pure_sound hc hx hp w
      exact ⟨v, φ, w, .inl g1, g2, hH, Step.refl _ _ _⟩
  obtain ⟨dst, op, type, pos, after, guard⟩ := o
  simp only at hc hx
  have hm : ∀ x, x ∈ op.operands.toList → ∀ y, copd x = some y → VRel φ (e y) (ρ x) := hx
  cases op <;> simp only [cop] at hc
  case move x => obtain ⟨y, hy, rfl⟩ := c1_some hc; cases hr
  case assign x => obtain ⟨y, hy, rfl⟩ := c1_some hc; cases hr
  case pick c x y => obtain ⟨_, _, _, _, _, _, rfl⟩ := c3_some hc; cases hr
  case alloc t =>
    cases hz : tyZero P t with
    | none => simp [hz] at hc
    | some z =>
      simp [hz] at hc; subst hc
      simp only [readOp] at h
      cases h1 : allOne z.cells with
      | false => simp [h1] at h
      | true =>
        simp [h1] at h; obtain ⟨rfl, rfl⟩ := h
        obtain ⟨v, φ', w', g1, g2, g3, g4⟩ := alloc_sound hH hK hz h1
        exact ⟨v, φ', w', .inl (run_v' g1), g2, g3, g4⟩
  case box t x =>
    obtain ⟨y, hy, rfl⟩ := c1_some hc
    simp only [readOp] at h
    cases h1 : allOne (e y).cells with
    | false => simp [h1] at h
    | true =>
      simp [h1] at h; obtain ⟨rfl, rfl⟩ := h
      obtain ⟨v, φ', w', g1, g2, g3, g4⟩ := box_sound (P := P) t hH hK (hm x (by simp [Op.operands]) y hy) h1
      exact ⟨v, φ', w', .inl (run_v' g1), g2, g3, g4⟩
  case build t parts =>
    split at hc
    · rename_i fs _
      cases hz : tyZero P t <;> cases hp : placesOf P fs.toList <;> simp [hz, hp] at hc
      obtain ⟨_, b, _, rfl⟩ := hc; cases hr
    · rename_i el _
      cases hz : tyZero P t <;> cases hp : tySize P el <;> simp [hz, hp] at hc
      obtain ⟨_, b, _, rfl⟩ := hc; cases hr
    · cases hc
  case buildSlice t len parts =>
    split at hc
    · rename_i el ht
      cases hn : tySize P el <;> cases hz : tyZero P el <;> simp [hn, hz] at hc
      obtain ⟨⟨z1, z2, z3⟩, ps, hq, rfl⟩ := hc
      simp only [readOp] at h
      rename_i n z
      cases hb : Nat.beq ((List.replicate len z.cells).flatten).length (len * n) with
      | false => simp only [hb, cond_false] at h; cases h
      | true =>
        simp only [hb, cond_true] at h
        cases hf : fillA e ((List.replicate len z.cells).flatten) ps with
        | none => simp [hf] at h
        | some r =>
          simp [hf] at h; obtain ⟨rfl, rfl⟩ := h
          obtain ⟨v, φ', w', g1, g2, g3, g4⟩ := buildSlice_sound hH hK ht hn hz z1 z2 z3 hq (fun x hx => hm x (by simpa [Op.operands] using hx)) hf
          exact ⟨v, φ', w', .inl (run_v' g1), g2, g3, g4⟩
    · cases hc
  case insert t m k x =>
    split at hc
    · obtain ⟨_, _, _, _, _, _, rfl⟩ := c3_some hc; cases hr
    · cases hc
  case load t x =>
    cases ht : tyAgg P t <;> simp [ht] at hc
    rename_i n
    obtain ⟨y, hy, rfl⟩ := c1_some hc
    simp only [readOp] at h
    have r := hm x (by simp [Op.operands]) y hy
    split at h
    · rename_i oo off hq
      rw [hq] at r
      cases hcs : H.cellsAt oo with
      | none => simp [hcs] at h
      | some cs =>
        cases hp : partA cs off n with
        | none => simp [hcs, hp] at h
        | some b =>
          simp [hcs, hp] at h; obtain ⟨rfl, rfl⟩ := h
          obtain ⟨v, g1, g2⟩ := load_sound (P := P) hH r hcs ht hp
          exact ⟨v, φ, w, .inl (run_v' g1), g2, hH, Step.refl _ _ _⟩
    · cases h
  case store t a x =>
    cases ht : tySize P t <;> simp [ht] at hc
    obtain ⟨_, _, _, _, rfl⟩ := c2_some hc; cases hr
  case ready => cases hc
  case waits => cases hc
  case nilCheck x => obtain ⟨y, hy, rfl⟩ := c1_some hc; cases hr
  case binOp op t x y u => obtain ⟨_, _, _, _, rfl⟩ := c2_some hc; cases hr
  case unOp op t x => obtain ⟨_, _, rfl⟩ := c1_some hc; cases hr
  case convert src dst x =>
    split at hc
    · obtain ⟨_, _, rfl⟩ := c1_some hc; cases hr
    · obtain ⟨_, _, rfl⟩ := c1_some hc; cases hr
    · rename_i el hs hd
      split at hc
      · rename_i he
        obtain ⟨y, hy, rfl⟩ := c1_some hc
        have r := hm x (by simp [Op.operands]) y hy
        simp only [readOp] at h
        split at h
        · rename_i hq; rw [hq] at r; cases h
          generalize hv : ρ x = v at r
          cases r
          refine ⟨.string .empty, φ, w, .inl (run_v' ?_), ?_, hH, Step.refl _ _ _⟩
          · simp [convert, hs, hd, hv, he, Conv.bytesToString]
          · have : natsOf ByteArray.empty = [] := rfl
            rw [← this]; exact .str _
        · rename_i oo off len lo ex hq; rw [hq] at r
          generalize hv : ρ x = v at r
          cases hrs : H.readSeg oo off len with
          | none => simp [hrs] at h
          | some xs =>
            cases hb : bytesOf xs with
            | none => simp [hrs, hb] at h
            | some s =>
              simp [hrs, hb] at h; obtain ⟨rfl, rfl⟩ := h
              obtain ⟨u, g1, g2⟩ := bytesToString_sound (P := P) hH r hrs hb
              refine ⟨u, φ, w, .inl (run_v' ?_), g2, hH, Step.refl _ _ _⟩
              have hsl : ∃ a n c, v = .slice a n c := by cases r <;> exact ⟨_, _, _, rfl⟩
              obtain ⟨a, n, c, rfl⟩ := hsl
              simp [convert, hs, hd, hv, he, g1]
        · cases h
      · cases hc
    · rename_i el hs hd
      split at hc
      · rename_i he
        obtain ⟨y, hy, rfl⟩ := c1_some hc
        have r := hm x (by simp [Op.operands]) y hy
        simp only [readOp] at h
        split at h
        · rename_i s hq; rw [hq] at r
          generalize hv : ρ x = v at r
          cases r with
          | str b =>
            cases h
            obtain ⟨u, φ', w', g1, g2, g3, g4⟩ := stringToBytes_sound (P := P) el b hH hK
            exact ⟨u, φ', w', .inl (run_v' (by simp [convert, hs, hd, hv, he, g1])), g2, g3, g4⟩
        · cases h
      · cases hc
    · cases hc
  case sliceToArrayPointer t x =>
    split at hc
    · obtain ⟨_, _, rfl⟩ := c1_some hc; cases hr
    · cases hc
  case makeInterface => cases hc
  case makeFunc fn first captured =>
    cases fn <;> simp only [cop] at hc <;> first | (cases hc; done) | skip
    cases h1 : copds first.toList <;> cases h2 : copds captured.toList <;> simp [h1, h2] at hc
    subst hc; cases hr
  case makeMap t r =>
    split at hc
    · rename_i kt et ht
      cases hq : copt r with
      | none => simp [hq] at hc
      | some y =>
        simp [hq] at hc; subst hc
        have r2 := copt_some (e := e) (ρ := ρ) hq (fun z hz => hm z (by simpa [Op.operands] using hz))
        simp only [readOp] at h
        cases y with
        | none =>
          cases r with
          | some _ => exact r2.elim
          | none =>
            cases h
            obtain ⟨u, φ', w', g1, g2, g3, g4⟩ := makeMap_sound (P := P) t ht none (fun v q => by cases q) hH hK
            exact ⟨u, φ', w', .inl (run_v' g1), g2, g3, g4⟩
        | some y =>
          cases r with
          | none => exact r2.elim
          | some x =>
            simp only at h
            split at h
            · rename_i k n hk
              cases h
              have r3 : VRel φ (e y) (ρ x) := r2
              rw [hk] at r3
              generalize hv : ρ x = v at r3
              cases r3
              obtain ⟨u, φ', w', g1, g2, g3, g4⟩ := makeMap_sound (P := P) t ht (some (.int k n)) (fun v q => by cases q; exact ⟨_, _, rfl⟩) hH hK
              exact ⟨u, φ', w', .inl (run_v' (by simpa [hv] using g1)), g2, g3, g4⟩
            · cases h
    · cases hc
  case makeChan => cases hc
  case makeSlice t l c =>
    split at hc
    · rename_i el ht
      cases hn : tySize P el <;> cases hb : tyBytes P el <;> cases hz : tyZero P el <;> simp [hn, hb, hz] at hc
      obtain ⟨l', c', h1, h2, rfl⟩ := c2_some hc
      rename_i n by_ z
      have r1 := hm l (by simp [Op.operands]) l' h1
      have r2 := hm c (by simp [Op.operands]) c' h2
      simp only [readOp] at h
      split at h
      · rename_i k1 li k2 ci hl hcc
        rw [hl] at r1; rw [hcc] at r2
        split at h
        · rename_i hcond
          obtain ⟨q1, q2, q3, q4⟩ := hcond
          cases hz1 : (Nat.beq z.cells.length n && allOne z.cells) with
          | false => simp only [hz1, cond_false] at h; cases h
          | true =>
            simp only [hz1, cond_true] at h
            simp only [Bool.and_eq_true, Tr.nbeq, decide_eq_true_eq] at hz1
            cases h
            generalize hv1 : ρ l = v1 at r1
            generalize hv2 : ρ c = v2 at r2
            cases r1; cases r2
            obtain ⟨u, φ', w', g1, g2, g3, g4⟩ := makeSlice_sound (P := P) (k := k1) (k' := k2) ht hn hb hz hz1.1 hz1.2 q1 q2 q3 q4 hH hK
            exact ⟨u, φ', w', .inl (run_v' (by simpa [hv1, hv2] using g1)), g2, g3, g4⟩
        · cases h
      · cases h
    · cases hc
  case slice t x lo hi mx =>
    split at hc
    · split at hc
      · cases hc
      · cases h1 : copd x <;> cases h2 : copt lo <;> cases h3 : copt hi <;> simp [h1, h2, h3] at hc
        subst hc; cases hr
    · rename_i el ht
      cases hn : tySize P el <;> cases h1 : copd x <;> cases h2 : copt lo <;> cases h3 : copt hi <;> cases h4 : copt mx <;> simp [hn, h1, h2, h3, h4] at hc
      subst hc; cases hr
    · split at hc
      · cases hc
      · rename_i k el ht hmx
        have hmx' : mx = none := by simpa using hmx
        subst hmx'
        cases hn : tySize P el <;> cases h1 : copd x <;> cases h2 : copt lo <;> cases h3 : copt hi <;> simp [hn, h1, h2, h3] at hc
        subst hc
        rename_i n x' lo' hi'
        have r := hm x (by simp [Op.operands]) x' h1
        have r2 := copt_some (e := e) (ρ := ρ) h2 (fun z hz => hm z (by simp [Op.operands] at hz ⊢; exact .inr (.inl hz)))
        have r3 := copt_some (e := e) (ρ := ρ) h3 (fun z hz => hm z (by simp [Op.operands] at hz ⊢; exact .inr (.inr hz)))
        simp only [readOp] at h
        split at h
        · rename_i oo off hq; rw [hq] at r
          cases hcs : H.cellsAt oo with
          | none => simp [hcs] at h
          | some cs =>
            simp only [hcs] at h
            cases hb : Nat.ble (off + k * n) cs.length with
            | false => simp [hb] at h
            | true =>
              simp only [hb, cond_true] at h
              cases hbd : boundsA k k true (lo'.map e) (hi'.map e) none with
              | none => simp [hbd] at h
              | some q =>
                obtain ⟨l, hh, m, ex'⟩ := q
                simp [hbd] at h; obtain ⟨rfl, rfl⟩ := h
                obtain ⟨v, g1, g2⟩ := slice_arr (P := P) ht hn r (fun L hL => by
                  have := (hH.at_ hL hcs).2.1
                  have := Nat.le_of_ble_eq_true hb
                  omega) r2 r3 hbd w
                exact ⟨v, φ, w, .inl (run_v' g1), g2, hH, Step.refl _ _ _⟩
        · cases h
    · cases hc
  case fieldAddr s x f =>
    split at hc
    · split at hc
      · split at hc
        · cases hc
        · obtain ⟨_, _, rfl⟩ := c1_some hc; cases hr
        · cases hc
      · cases hc
    · cases hc
  case field s x f =>
    split at hc
    · split at hc
      · rename_i fd hfd
        cases hn : tyAgg P fd.type <;> simp [hn] at hc
        obtain ⟨_, _, rfl⟩ := c1_some hc; cases hr
      · cases hc
    · cases hc
  case indexAddr t x i =>
    split at hc
    · rename_i el ht
      cases hn : tySize P el <;> simp [hn] at hc
      obtain ⟨_, _, _, _, rfl⟩ := c2_some hc; cases hr
    · rename_i k el ht
      cases hn : tySize P el <;> simp [hn] at hc
      obtain ⟨_, _, _, _, rfl⟩ := c2_some hc; cases hr
    · cases hc
  case index t x i =>
    split at hc
    · rename_i k el ht
      cases hn : tySize P el <;> cases ha : tyAgg P el <;> simp [hn, ha] at hc
      obtain ⟨_, _, _, _, rfl⟩ := c2_some hc; cases hr
    · obtain ⟨_, _, _, _, rfl⟩ := c2_some hc; cases hr
    · cases hc
  case lookup t x i ok =>
    split at hc
    · rename_i k el ht
      cases hz : tyZero P el <;> simp [hz] at hc
      obtain ⟨m', k', h1, h2, rfl⟩ := c2_some hc
      rename_i z
      have r1 := hm x (by simp [Op.operands]) m' h1
      have r2 := hm i (by simp [Op.operands]) k' h2
      simp only [readOp] at h
      cases hl : lookA H (eqDOf P k) (e m') (e k') with
      | none => simp [hl] at h
      | some r =>
        simp [hl] at h; obtain ⟨rfl, rfl⟩ := h
        obtain ⟨v, g1, g2⟩ := lookup_sound (P := P) ok ht hz r1 r2 hH hl
        exact ⟨v, φ, w, .inl (run_v' g1), g2, hH, Step.refl _ _ _⟩
    · cases hc
  case mapUpdate t m k x =>
    split at hc
    · obtain ⟨_, _, _, _, _, _, rfl⟩ := c3_some hc; cases hr
    · cases hc
  case mapEntry => cases hc
  case entryStore => cases hc
  case range t x =>
    split at hc
    · rename_i ht
      obtain ⟨y, hy, rfl⟩ := c1_some hc
      have r := hm x (by simp [Op.operands]) y hy
      simp only [readOp] at h
      split at h
      · rename_i s hq; rw [hq] at r; cases h
        generalize hv : ρ x = v at r
        cases r with
        | str b =>
          have hp := hH.push hK (w' := { w with heap := w.heap.push (.stringIter b 0) }) (.siter (natsOf b) 0) ⟨w.heap.size, 0, 0⟩ (.stringIter b 0) rfl rfl rfl rfl rfl ⟨b, by simp, rfl, rfl⟩
          exact ⟨.pointer (some ⟨w.heap.size, 0, none⟩), _, _, .inl (run_v' (by simp [Instr.range, ht, hv])), .ptr H.next 0 _ (Pl.put_same _ _ _), hp.1, hp.2⟩
      · cases h
    · cases hc
  case next it s =>
    cases s <;> simp only [cop] at hc
    · cases hc
    · obtain ⟨_, _, rfl⟩ := c1_some hc; cases hr
  case entry => cases hc
  case typeAssert => cases hc
  case extract t i => obtain ⟨_, _, rfl⟩ := c1_some hc; cases hr
  case call c =>
    obtain ⟨callee, args, argTypes⟩ := c
    cases callee with
    | value f =>
      simp only at hc
      cases h1 : copd f <;> cases h2 : copds args.toList <;> simp [h1, h2] at hc
      subst hc; cases hr
    | invoke r m => simp at hc
    | builtin b =>
      simp only at hc
      unfold cbuiltin at hc
      split at hc
      · split at hc
        · rename_i el _ _ _
          cases hn : tySize P el <;> cases hb : tyBytes P el <;> cases hz : tyZero P el <;> simp [hn, hb, hz] at hc
          obtain ⟨_, hc⟩ := hc
          obtain ⟨_, _, _, _, rfl⟩ := c2_some hc; cases hr
        · rename_i el _ _
          cases hn : tySize P el <;> cases hb : tyBytes P el <;> cases hz : tyZero P el <;> simp [hn, hb, hz] at hc
          obtain ⟨_, hc⟩ := hc
          obtain ⟨_, _, _, _, rfl⟩ := c2_some hc; cases hr
        · cases hc
      · rename_i t x e1 e2
        obtain ⟨rfl⟩ : argTypes = #[t] := by apply Array.toList_inj.1; simpa using e1
        obtain ⟨rfl⟩ : args = #[x] := by apply Array.toList_inj.1; simpa using e2
        split at hc
        · obtain ⟨_, _, rfl⟩ := c1_some hc; cases hr
        · obtain ⟨_, _, rfl⟩ := c1_some hc; cases hr
        · rename_i kt et ht
          obtain ⟨y, hy, rfl⟩ := c1_some hc
          have r := hm x (by simp [Op.operands, Call.operands]) y hy
          simp only [readOp] at h
          generalize hv : ρ x = v at r
          split at h
          · rename_i hq; rw [hq] at r; cases h; cases r
            refine ⟨.int .i64 0, φ, w, .inl ?_, .int _ _, hH, Step.refl _ _ _⟩
            simp [execOp, resolve, invoke, builtin, Builtin.len_, ht, hv, goInt]
          · rename_i oo hq; rw [hq] at r
            split at h
            · rename_i es he
              cases h
              cases r with
              | map _ L hL =>
                obtain ⟨en, cl, q1, q2⟩ := hH.obj oo L _ hL he
                have hget : (getObj L.blk).run P w = .ok (.map en cl) w := by simp [getObj, Sem.run, q1]
                refine ⟨.int .i64 en.size, φ, w, .inl ?_, ?_, hH, Step.refl _ _ _⟩
                · simp [execOp, resolve, invoke, builtin, Builtin.len_, ht, hv, goInt, hget]
                · have := q2.len
                  simp at this
                  rw [aInt, this]; exact .int _ _
            · cases h
          · cases h
        · obtain ⟨_, _, rfl⟩ := c1_some hc; cases hr
        · cases hc
      · split at hc
        · obtain ⟨_, _, rfl⟩ := c1_some hc; cases hr
        · cases hc
      · split at hc
        · rename_i el _
          cases hn : tySize P el <;> simp [hn] at hc
          obtain ⟨_, _, _, _, rfl⟩ := c2_some hc; cases hr
        · cases hc
      · split at hc
        · obtain ⟨_, _, _, _, rfl⟩ := c2_some hc; cases hr
        · cases hc
      · split at hc
        · obtain ⟨_, _, rfl⟩ := c1_some hc; cases hr
        · rename_i el _
          cases hz : tyZero P el <;> simp [hz] at hc
          obtain ⟨_, _, rfl⟩ := c1_some hc; cases hr
        · cases hc
      · cases hq : copds args.toList <;> simp [hq] at hc
        subst hc; cases hr
      · cases hq : copds args.toList <;> simp [hq] at hc
        subst hc; cases hr
      · cases hc
  case go => cases hc
  case defer => cases hc
  case panic => cases hc
  case send => cases hc
  case recv => cases hc
  case select => cases hc
end Go.AI
