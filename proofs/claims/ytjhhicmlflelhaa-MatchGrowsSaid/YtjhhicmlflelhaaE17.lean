/- Regions of operations, in their order or in whatever order. No claim by itself. -/
import Derived.Test.YtjhhicmlflelhaaE16
namespace Go.AI
variable {P : Program}
/-- Frames are related. -/
structure FRel (φ : Pl) (N : Nat) (τ : Env) (a : Act) : Prop where
  size : a.tmps.size = N
  at_ : ∀ t, VRel φ (Env.at τ t) (a.tmps.getD t undef)
theorem FRel.mono {φ φ' : Pl} {N : Nat} {τ : Env} {a : Act} (h : FRel φ N τ a) (hφ : φ.le φ') : FRel φ' N τ a := ⟨h.size, fun t => (h.at_ t).mono hφ⟩
theorem put_tmps (a : Act) (d : Option Tmp) (v : Value) : (a.put d v).tmps = match d with | some d => a.tmps.setIfInBounds d v | none => a.tmps := by cases d <;> rfl
theorem put_defers (a : Act) (d : Option Tmp) (v : Value) : (a.put d v).defers = a.defers := by cases d <;> rfl
theorem at_put (τ : Env) (d : Option Nat) (x : AV) (t : Nat) : Env.at (putA τ d x) t = if d = some t then x else Env.at τ t := by
  cases d with
  | none => simp [putA]
  | some d =>
    simp only [putA, Env.at, Tr.get_set, Option.some.injEq]
    by_cases h : t = d
    · subst h; simp
    · simp [h, Ne.symm h]
theorem getD_put (a : Act) (d : Option Tmp) (v : Value) (t : Nat) (hd : ∀ k, d = some k → k < a.tmps.size) : (a.put d v).tmps.getD t undef = if d = some t then v else a.tmps.getD t undef := by
  cases d with
  | none => simp [Act.put]
  | some d =>
    have := hd d rfl
    simp only [Act.put, Array.getD_eq_getD_getElem?, Array.getElem?_setIfInBounds, Option.some.injEq]
    by_cases h : d = t
    · subst h; simp [this]
    · simp [h]
theorem FRel.put {φ : Pl} {N : Nat} {τ : Env} {a : Act} (h : FRel φ N τ a) (d : Option Tmp) (hd : ∀ k, d = some k → k < N) {x : AV} {v : Value} (hv : VRel φ x v) : FRel φ N (putA τ d x) (a.put d v) := by
  refine ⟨by rw [put_tmps]; cases d <;> simp [h.size], fun t => ?_⟩
  rw [at_put, getD_put a d v t (by rw [h.size]; exact hd)]
  split
  · exact hv
  · exact h.at_ t
theorem FRel.ev {φ : Pl} {N : Nat} {τ : Env} {a : Act} (h : FRel φ N τ a) (xs : List Operand) : XRel φ (ev τ) a.eval xs := by
  intro x _ y hy
  cases x with
  | tmp t => simp [copd] at hy; subst hy; exact h.at_ t
  | const v =>
    cases hc : cval v <;> simp [copd, hc] at hy
    subst hy; exact cval_rel hc
  | global g => simp [copd] at hy
  | func f => simp [copd] at hy; subst hy; exact .fn f [] [] _ _ .nil .nil
/-- An operation and its abstract one. -/
structure OperOk (P : Program) (ops : Array Oper) (N : Nat) (o : Oper) (ao : AOper) : Prop where
  op : cop P o.op = some ao.op ∨ ao.op = .bad
  dst : ao.dst = o.dst
  dlt : ∀ d, o.dst = some d → d < N
  guard : match o.guard, ao.guard with
    | none, none => True
    | some (j, b), some (t, b') => b = b' ∧ t < N ∧ (ops[j]?).bind (·.dst) = some t
    | _, _ => False
theorem wanted_eq {ops : Array Oper} {N : Nat} {o : Oper} {ao : AOper} (h : OperOk P ops N o ao) {φ : Pl} {τ : Env} {a : Act} (hs : a.tmps.size = N) (hg : ∀ t b, ao.guard = some (t, b) → VRel φ (Env.at τ t) (a.tmps.getD t undef)) :
    Region.wanted o (yielded ops a.tmps) = wantedA τ ao.guard := by
  have := h.guard
  unfold Region.wanted wantedA
  cases ho : o.guard with
  | none => cases ha : ao.guard <;> simp [ho, ha] at this ⊢
  | some jb =>
    obtain ⟨j, b⟩ := jb
    cases ha : ao.guard with
    | none => simp [ho, ha] at this
    | some tb =>
      obtain ⟨t, b'⟩ := tb
      simp [ho, ha] at this
      obtain ⟨rfl, ht, hd⟩ := this
      have hv := hg t b ha
      simp only [yielded]
      have hb : ((ops[j]?).bind (·.dst)).bind (a.tmps[·]?) = some (a.tmps.getD t undef) := by
        rw [hd]
        have ht' : t < a.tmps.size := by rw [hs]; exact ht
        simp [Array.getD_eq_getD_getElem?, ht']
      rw [hb]
      generalize a.tmps.getD t undef = u at hv
      generalize Env.at τ t = x at hv
      cases hv <;> rfl
/-- The heap with its floor raised. -/
def Heap.raise (H : Heap) : Heap := { H with floor := H.next }
theorem HRel.raise {B W Z : Nat} {φ : Pl} {H : Heap} {w : World} (h : HRel B W Z φ H w) : HRel B W Z φ H.raise w :=
  ⟨Nat.le_trans h.fl h.fn, Nat.le_refl _, h.wsz, h.dom, h.fresh, h.obj, h.low, h.high, h.inj⟩
theorem HRel.lower {B W Z : Nat} {φ : Pl} {H : Heap} {w : World} {f : Nat} (h : HRel B W Z φ H w) (h1 : B ≤ f) (h2 : f ≤ H.next) : HRel B W Z φ { H with floor := f } w :=
  ⟨h1, h2, h.wsz, h.dom, h.fresh, h.obj, h.low, h.high, h.inj⟩
/-- One operation of a region. -/
def stepA (cf : CallF) (o : AOper) (τ : Env) (H : Heap) : Option (Env × Heap) :=
  bif wantedA τ o.guard then
    bif freesOk τ o then
      match quietly o.quiet H fun H => operA cf τ H o.op with
      | some (v, H') => some (putA τ o.dst v, H')
      | none => none
    else none
  else some (putA τ o.dst undefA, H)
theorem stepA_wanted {cf : CallF} {o : AOper} {τ : Env} {H : Heap} {r : Env × Heap} (h : stepA cf o τ H = some r) (hw : wantedA τ o.guard = true) :
    freesOk τ o = true ∧ ∃ v, quietly o.quiet H (fun H => operA cf τ H o.op) = some (v, r.2) ∧ r.1 = putA τ o.dst v := by
  unfold stepA at h
  rw [hw, cond_true] at h
  cases hf : freesOk τ o with
  | false => rw [hf] at h; cases h
  | true =>
    rw [hf, cond_true] at h
    split at h
    · rename_i v H' hq
      cases h; exact ⟨rfl, v, hq, rfl⟩
    · cases h
theorem stepA_not {cf : CallF} {o : AOper} {τ : Env} {H : Heap} (hw : wantedA τ o.guard = false) : stepA cf o τ H = some (putA τ o.dst undefA, H) := by
  unfold stepA; rw [hw]; rfl
theorem opsA_cons (cf : CallF) (o : AOper) (rest : List AOper) (τ : Env) (H : Heap) : opsA cf (o :: rest) τ H = (stepA cf o τ H).bind fun r => opsA cf rest r.1 r.2 := by
  simp only [opsA, stepA]
  cases wantedA τ o.guard with
  | false => rfl
  | true =>
    simp only [cond_true]
    cases freesOk τ o with
    | false => rfl
    | true =>
      simp only [cond_true]
      cases quietly o.quiet H fun H => operA cf τ H o.op with
      | none => rfl
      | some r => rfl
theorem quiet_some {q : Bool} {H H' : Heap} {g : Heap → Option (AV × Heap)} {v : AV} (h : quietly q H g = some (v, H')) :
    (q = false ∧ g H = some (v, H')) ∨ (q = true ∧ ∃ H1, g H.raise = some (v, H1) ∧ H' = { H1 with floor := H.floor }) := by
  cases q with
  | false => exact .inl ⟨rfl, h⟩
  | true =>
    right
    simp only [quietly, cond_true] at h
    cases hg : g { H with floor := H.next } with
    | none => simp [hg] at h
    | some r =>
      obtain ⟨u, H1⟩ := r
      simp [hg] at h
      exact ⟨rfl, H1, by rw [← h.1]; exact hg, h.2.symm⟩
/-- What was made quietly. -/
theorem Step.quiet {φ φ' : Pl} {H H1 : Heap} {w w' : World} (s : Step φ H.raise w φ' H1 w') (hf : H.floor ≤ H.next) : Step φ H w φ' { H1 with floor := H.floor } w' where
  ext := s.ext
  new := s.new
  next := s.next
  floor := rfl
  os := s.os
  tape := s.tape
  output := s.output
  size := s.size
  kept := fun b hb hn => s.kept b hb fun o L ho e hl => by
    have : H.next ≤ o := ho
    exact hn o L (Nat.le_trans hf this) e hl
  made := fun o L ho e hl => by
    by_cases hq : H.next ≤ o
    · rcases s.made o L hq e hl with h | ⟨o1, L1, h1, h2, h3, h4⟩
      · exact .inl h
      · exact .inr ⟨o1, L1, Nat.le_trans hf h1, h2, h3, h4⟩
    · have hl' : live H o := by
        obtain ⟨x, hx, hd⟩ := hl
        have := s.low o (by show o < H.next; omega)
        exact ⟨x, this.symm.trans hx, hd⟩
      cases hφ : φ o with
      | none => have := s.new o L e hφ; exact absurd this.1 hq
      | some L' =>
        have := s.ext o L' hφ
        rw [e] at this; cases this
        exact .inr ⟨o, L, ho, hφ, hl', rfl⟩
  low := fun o ho => s.low o (by show o < H.next; omega)
theorem not_bad {cf : CallF} {τ : Env} {H H' : Heap} {o : AOp} {v : AV} (h : operA cf τ H o = some (v, H')) : o ≠ .bad := by
  rintro rfl
  simp [operA, plainOp, AOp.writes, readOp, pureOp] at h
/-- One operation, wherever it stands: with operands that are related. -/
theorem step_wp {cf : CallF} (hcf : CallSound P cf) {ops : Array Oper} {B W Z N : Nat} {φ : Pl} {H H' : Heap} {w : World} {τ τ' : Env} {act : Act} {o : Oper} {ao : AOper} {i : Nat} {K : Act → World → Prop} {Q : Exit → Act → World → Prop}
    (hi : ops[i]? = some o) (ho : OperOk P ops N o ao) (hs : act.tmps.size = N) (hx : XRel φ (ev τ) act.eval o.op.operands.toList) (hg : ∀ t b, ao.guard = some (t, b) → VRel φ (Env.at τ t) (act.tmps.getD t undef)) (hH : HRel B W Z φ H w)
    (h : stepA cf ao τ H = some (τ', H')) (hK : H'.next ≤ Z)
    (hnext : ∀ φ' x v w', τ' = putA τ ao.dst x → VRel φ' x v → HRel B W Z φ' H' w' → Step φ H w φ' H' w' →
      (ao.quiet = true → (∀ b, b < w.heap.size → w'.heap[b]? = w.heap[b]?) ∧ ∀ o L, φ' o = some L → φ o = none → live H' o → w.heap.size ≤ L.blk) → K (act.put o.dst v) w') : wpOp P ops Q i K act w := by
  unfold wpOp
  rw [hi]
  simp only
  rw [wanted_eq ho hs hg]
  cases hw : wantedA τ ao.guard with
  | false =>
    rw [stepA_not hw] at h
    simp only [Option.some.injEq, Prod.mk.injEq] at h
    obtain ⟨rfl, rfl⟩ := h
    simp only [Bool.false_eq_true, if_false]
    exact hnext φ undefA undef w rfl (VRel.undef _) hH (Step.refl _ _ _) fun _ => ⟨fun _ _ => rfl, fun o L h k => by rw [h] at k; cases k⟩
  | true =>
    simp only [if_true]
    refine .inl ?_
    obtain ⟨_, v, hq, e1⟩ := stepA_wanted h hw
    dsimp only at hq e1
    subst e1
    rcases quiet_some hq with ⟨hqf, hq2⟩ | ⟨_, H1, hq2, rfl⟩
    · exact oper_wp hcf (ho.op.resolve_right (not_bad hq2)) hx hH hq2 hK fun φ' u w' h1 h2 h3 => hnext φ' v u w' rfl h1 h2 h3 fun q => by rw [hqf] at q; cases q
    · refine oper_wp hcf (ho.op.resolve_right (not_bad hq2)) hx hH.raise hq2 hK fun φ' u w' h1 h2 h3 => hnext φ' v u w' rfl h1 ?_ (h3.quiet hH.fn) fun _ => ?_
      · exact h2.lower hH.fl (Nat.le_trans hH.fn h3.next)
      · have none : ∀ o, H.next ≤ o → ¬ live H o := fun o ho ⟨x, hx, _⟩ => by rw [hH.fresh o ho] at hx; cases hx
        refine ⟨fun b hb => h3.kept b hb fun o L ho _ hl => (none o ho hl).elim, fun o L e k hl => ?_⟩
        have hn := (h3.new o L e k).1
        rcases h3.made o L hn e hl with q | ⟨o1, L1, q1, _, q3, _⟩
        · exact q
        · exact (none o1 q1 q3).elim
theorem stepA_mono {cf : CallF} (hcm : CallMono cf) {ao : AOper} {τ : Env} {H : Heap} {r : Env × Heap} (h : stepA cf ao τ H = some r) (hf : H.floor ≤ H.next) : Mono H r.2 := by
  cases hw : wantedA τ ao.guard with
  | false => rw [stepA_not hw] at h; cases h; exact Mono.refl _
  | true =>
    obtain ⟨_, v, hq, _⟩ := stepA_wanted h hw
    rcases quiet_some hq with ⟨_, hq2⟩ | ⟨_, H1, hq2, e⟩
    · exact oper_mono hcm hq2 hf
    · have m := oper_mono hcm hq2 (Nat.le_refl _)
      rw [e]
      exact ⟨m.next, rfl, fun o ho => m.low o (by show o < H.next; omega), m.fresh⟩
theorem opsA_mono {cf : CallF} (hcm : CallMono cf) : ∀ (l : List AOper) (τ : Env) (H H' : Heap) (τ' : Env), opsA cf l τ H = some (τ', H') → H.floor ≤ H.next → Mono H H'
  | [], τ, H, H', τ', h, hf => by simp [opsA] at h; obtain ⟨_, rfl⟩ := h; exact Mono.refl _
  | o :: l, τ, H, H', τ', h, hf => by
    rw [opsA_cons] at h
    cases hs : stepA cf o τ H with
    | none => simp [hs] at h
    | some r =>
      simp [hs] at h
      have m := stepA_mono hcm hs hf
      exact m.trans (opsA_mono hcm l _ _ _ _ h (by rw [m.floor]; exact Nat.le_trans hf m.next))
/-- The operations of a region, one behind the other. -/
theorem seq_ops {cf : CallF} (hcf : CallSound P cf) (hcm : CallMono cf) {ops : Array Oper} {B W Z N : Nat} {Q : Exit → Act → World → Prop} (aops : List AOper) :
    ∀ (k : Nat), k + aops.length = ops.size → (∀ (j : Nat) (ao : AOper), aops[j]? = some ao → ∃ o, ops[k + j]? = some o ∧ OperOk P ops N o ao) →
    ∀ (φ : Pl) (H H' : Heap) (w : World) (τ τ' : Env) (act : Act), FRel φ N τ act → HRel B W Z φ H w → opsA cf aops τ H = some (τ', H') → H'.next ≤ Z →
    (∀ φ' act' w', FRel φ' N τ' act' → act'.defers = act.defers → HRel B W Z φ' H' w' → Step φ H w φ' H' w' → Q .normal act' w') →
    wpOps P ops Q (List.range' k aops.length) act w := by
  induction aops with
  | nil =>
    intro k hk hok φ H H' w τ τ' act hF hH h hK hQ
    simp [opsA] at h; obtain ⟨rfl, rfl⟩ := h
    simp only [List.length_nil, List.range'_zero, wpOps]
    exact hQ φ act w hF rfl hH (Step.refl _ _ _)
  | cons ao rest ih =>
    intro k hk hok φ H H' w τ τ' act hF hH h hK hQ
    rw [opsA_cons] at h
    cases hst : stepA cf ao τ H with
    | none => simp [hst] at h
    | some r =>
      obtain ⟨τ1, H1⟩ := r
      simp [hst] at h
      obtain ⟨o, ho, hoo⟩ := hok 0 ao rfl
      simp only [List.length_cons, List.range'_succ]
      rw [wpOps_cons]
      have hm0 := stepA_mono hcm hst hH.fn
      have hm1 : H1.next ≤ H'.next := (opsA_mono hcm rest τ1 H1 H' τ' h (by rw [hm0.floor]; exact Nat.le_trans hH.fn hm0.next)).next
      refine step_wp hcf (i := k) (by simpa using ho) hoo hF.size (hF.ev _) (fun t b _ => hF.at_ t) hH hst (Nat.le_trans hm1 hK) fun φ' x v w' e1 h1 h2 h3 _ => ?_
      refine ih (k + 1) (by simp at hk; omega) (fun j a hj => by
        obtain ⟨o', q1, q2⟩ := hok (j + 1) a (by simpa using hj)
        exact ⟨o', by rw [← q1]; congr 1; omega, q2⟩) φ' H1 H' w' τ1 τ' (act.put o.dst v) ?_ h2 h hK fun φ2 act2 w2 g1 g2 g3 g4 => hQ φ2 act2 w2 g1 (by rw [g2, put_defers]) g3 (h3.trans g4)
      rw [e1, hoo.dst]
      exact (hF.mono h3.ext).put _ hoo.dlt h1
theorem region_wp {cf : CallF} (hcf : CallSound P cf) (hcm : CallMono cf) {id : Nat} {ops : Array Oper} {B W Z N : Nat} {Q : Exit → Act → World → Prop} {aops : List AOper} (hlen : aops.length = ops.size) (hok : ∀ (j : Nat) (ao : AOper), aops[j]? = some ao → ∃ o, ops[j]? = some o ∧ OperOk P ops N o ao)
    {φ : Pl} {H H' : Heap} {w : World} {τ τ' : Env} {act : Act} (hF : FRel φ N τ act) (hH : HRel B W Z φ H w) (h : opsA cf aops τ H = some (τ', H')) (hK : H'.next ≤ Z)
    (hQ : ∀ φ' act' w', FRel φ' N τ' act' → act'.defers = act.defers → HRel B W Z φ' H' w' → Step φ H w φ' H' w' → Q .normal act' w') : (Code.region id ops false).wp P Q act w := by
  refine wp_region ?_
  rw [List.range_eq_range', ← hlen]
  exact seq_ops hcf hcm aops 0 (by omega) (fun j ao hj => by simpa using hok j ao hj) φ H H' w τ τ' act hF hH h hK hQ
end Go.AI
