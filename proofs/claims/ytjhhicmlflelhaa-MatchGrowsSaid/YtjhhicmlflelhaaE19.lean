/- Code and calls: the abstract run is sound. No claim by itself. -/
import Derived.Test.YtjhhicmlflelhaaE18
import Derived.LoopN
namespace Go.AI
variable {P : Program}
theorem region_draw {cf : CallF} (hcf : CallSound P cf) (hcm : CallMono cf) (hmix : P.follows .mixedOrders = true) {id : Nat} {ops : Array Oper} {B W Z N : Nat} {Q : Exit → Act → World → Prop} {aops : List AOper} (hd : DrawOk P ops N aops)
    {φ : Pl} {H H' : Heap} {w : World} {τ τ' : Env} {act : Act} (hF : FRel φ N τ act) (hH : HRel B W Z φ H w) (h : opsA cf aops τ H = some (τ', H')) (hK : H'.next ≤ Z)
    (hQ : ∀ φ' act' w', FRel φ' N τ' act' → act'.defers = act.defers → HRel B W Z φ' H' w' → Step φ H w φ' H' w' → Q .normal act' w') : (Code.region id ops true).wp P Q act w := by
  refine wp_region_any hmix ?_
  obtain ⟨T, h0, hn, hT⟩ := opsA_trace cf aops τ τ' H H' h
  let w1 : World := { w with drawn := w.drawn + 1 }
  have hH1 : HRel B W Z φ H w1 := hH.congr rfl
  have hS1 : Step φ H w φ H w1 := Step.congr rfl rfl rfl rfl
  -- the first one that must stand
  have nb : ∃ b', 0 ≤ b' ∧ b' ≤ aops.length ∧ (∀ (k : Nat) (ak : AOper), aops[k]? = some ak → ak.op.isPure = false → 0 ≤ k → k < b' → ak.quiet = true) ∧ (b' = aops.length ∨ ∃ ab, aops[b']? = some ab ∧ ab.op.isPure = false ∧ ab.quiet = false) := by
    have : ∀ n k, n = aops.length - k → k ≤ aops.length → (∀ (m : Nat) (am : AOper), aops[m]? = some am → am.op.isPure = false → m < k → am.quiet = true) →
        ∃ b', 0 ≤ b' ∧ b' ≤ aops.length ∧ (∀ (k : Nat) (ak : AOper), aops[k]? = some ak → ak.op.isPure = false → 0 ≤ k → k < b' → ak.quiet = true) ∧ (b' = aops.length ∨ ∃ ab, aops[b']? = some ab ∧ ab.op.isPure = false ∧ ab.quiet = false) := by
      intro n
      induction n with
      | zero => intro k h1 h3 h4; exact ⟨k, Nat.zero_le _, h3, fun m am q1 q2 _ q4 => h4 m am q1 q2 q4, .inl (by omega)⟩
      | succ n ihn =>
        intro k h1 h3 h4
        have hk : k < aops.length := by omega
        have hka : aops[k]? = some aops[k] := List.getElem?_eq_getElem hk
        by_cases hc : aops[k].op.isPure = false ∧ aops[k].quiet = false
        · exact ⟨k, Nat.zero_le _, h3, fun m am q1 q2 _ q4 => h4 m am q1 q2 q4, .inr ⟨_, hka, hc.1, hc.2⟩⟩
        · refine ihn (k + 1) (by omega) (by omega) fun m am q1 q2 q4 => ?_
          by_cases e : m = k
          · subst e; rw [hka] at q1; cases q1
            cases hqq : aops[m].quiet with
            | true => rfl
            | false => exact absurd ⟨q2, hqq⟩ hc
          · exact h4 m am q1 q2 (by omega)
    exact this _ 0 rfl (Nat.zero_le _) fun m am _ _ q4 => by omega
  obtain ⟨b', _, g2, g3, g4⟩ := nb
  have tr : ∀ j, j ≤ aops.length → Mono H (T j).2 ∧ (T j).2.floor ≤ (T j).2.next := by
    intro j
    induction j with
    | zero => intro _; rw [h0]; exact ⟨Mono.refl _, hH.fn⟩
    | succ j ih =>
      intro hj
      obtain ⟨m, hf⟩ := ih (by omega)
      have := stepA_mono hcm (hT j _ (List.getElem?_eq_getElem (by omega : j < aops.length))) hf
      exact ⟨m.trans this, by rw [this.floor]; exact Nat.le_trans hf this.next⟩
  have same : ∀ j, j ≤ b' → ∀ o, o < H.next → (T j).2.get o = H.get o := by
    intro j
    induction j with
    | zero => intro _ o _; rw [h0]
    | succ j ih =>
      intro hj o ho
      have hja : aops[j]? = some aops[j] := List.getElem?_eq_getElem (by omega : j < aops.length)
      have hst := hT j _ hja
      have ih' := ih (by omega) o ho
      cases hp : (aops[j]).op.isPure with
      | true => rw [(stepA_pure hst hp).1]; exact ih'
      | false =>
        rw [stepA_same hcm hst (g3 j _ hja hp (Nat.zero_le _) (by omega)) o (Nat.lt_of_lt_of_le ho (tr j (by omega)).1.next)]
        exact ih'
  have hmb := (tr b' g2).1
  have hfr := hmb.fresh hH.fresh
  have hnn : ∀ j, j ≤ aops.length → (T j).2.next ≤ (T aops.length).2.next := by
    intro j hj
    have : ∀ n, j + n ≤ aops.length → (T j).2.next ≤ (T (j + n)).2.next := by
      intro n
      induction n with
      | zero => intro _; exact Nat.le_refl _
      | succ n ih => intro hn'; exact Nat.le_trans (ih (by omega)) (stepA_mono hcm (hT (j + n) _ (List.getElem?_eq_getElem (by omega : j + n < aops.length))) (tr (j + n) (by omega)).2).next
    have := this (aops.length - j) (by omega)
    rwa [Nat.add_sub_cancel' hj] at this
  have hZb : (T b').2.next ≤ Z := Nat.le_trans (hnn b' g2) (by rw [hn]; exact hK)
  have getb : ∀ p L y, φ p = some L → (T b').2.get p = some y → H.get p = some y := fun p L y e hy => by
    rcases hH.dom p L e with r | r
    · rw [← same b' (Nat.le_refl _) p r]; exact hy
    · rw [hfr p (Nat.le_trans hZb r)] at hy; cases hy
  have lb : ∀ p L, φ p = some L → live (T b').2 p → live H p := fun p L e ⟨y, hy, hyd⟩ => ⟨y, getb p L y e hy, hyd⟩
  have hHb : HRel B W Z φ (T b').2 w1 :=
    { fl := by rw [hmb.floor]; exact hH.fl
      fn := (tr b' g2).2
      wsz := hH1.wsz
      dom := fun p L e => (hH.dom p L e).imp (fun r => Nat.lt_of_lt_of_le r hmb.next) (fun r => r)
      fresh := hfr
      obj := fun p L y e hy => hH1.obj p L y e (getb p L y e hy)
      low := hH1.low
      high := fun p L e hp hl => hH1.high p L e hp (lb p L e hl)
      inj := fun p p' L L' e e' hp hp' hl hl' => hH1.inj p p' L L' e e' hp hp' (lb p L e hl) (lb p' L' e' hl') }
  have hSb : Step φ H w φ (T b').2 w1 :=
    { ext := hS1.ext
      new := fun p L e e0 => by rw [e] at e0; cases e0
      next := hmb.next
      floor := hmb.floor
      os := hS1.os, tape := hS1.tape, output := hS1.output, size := hS1.size, kept := hS1.kept
      made := fun p L hp e hl => hS1.made p L hp e (lb p L e hl)
      low := fun p hp => same b' (Nat.le_refl _) p (Nat.lt_of_lt_of_le hp hH.fn) }
  refine drawn_any hcf hcm hd h0 hn hT hH hK hQ ops.size _ act w1 (Nat.le_trans (List.length_filter_le _ _) (by simp)) (by simp) (fun j o hj => ?_) hF.size rfl
    ⟨φ, 0, b', Nat.zero_le _, g2, fun i ai _ _ h => by omega, fun i ai q1 _ _ => ?_, g3, g4, fun t => ?_, hHb, fun p L e => ?_, hSb⟩
  · simp [Array.getD_eq_getD_getElem?, Array.getElem?_replicate] at hj
    split at hj <;> simp at hj
  · simp only [Array.getD_eq_getD_getElem?, Array.getElem?_replicate]
    split <;> rfl
  · have : ∀ m, valE T aops (Array.replicate ops.size false) t m = Env.at (T 0).1 t := by
      intro m
      induction m with
      | zero => rfl
      | succ m ih =>
        simp only [valE]
        rw [if_neg, ih]
        intro q
        have := q.1
        simp [Array.getD_eq_getD_getElem?, Array.getElem?_replicate] at this
        split at this <;> simp at this
    rw [this, h0]
    exact hF.at_ t
  · rw [h0]
    exact (hH.dom p L e).imp (fun r => r) .inl
/-! ### Code -/
/-- Code and its abstract form. -/
inductive CodeOk (P : Program) (N : Nat) : Code → ACode → Prop
  | bad (c : Code) : CodeOk P N c .bad
  | skip : CodeOk P N .skip .skip
  | ret : CodeOk P N .ret .ret
  | exit (id : Nat) : CodeOk P N (.exit id) (.exit id)
  | seq {a b : Code} {x y : ACode} (h : CodeOk P N a x) (k : CodeOk P N b y) : CodeOk P N (.seq a b) (.seq x y)
  | cond {c : Operand} {d : Opd} {a b : Code} {x y : ACode} (hc : copd c = some d) (h : CodeOk P N a x) (k : CodeOk P N b y) : CodeOk P N (.cond c a b) (.cond d x y)
  | block {id : Nat} {a : Code} {x : ACode} (h : CodeOk P N a x) : CodeOk P N (.block id a) (.block id x)
  | loop {a : Code} {x : ACode} (h : CodeOk P N a x) : CodeOk P N (.loop a) (.loop x)
  | region {id : Nat} {ops : Array Oper} {aops : List AOper} (hl : aops.length = ops.size) (h : ∀ (j : Nat) (ao : AOper), aops[j]? = some ao → ∃ o, ops[j]? = some o ∧ OperOk P ops N o ao) : CodeOk P N (.region id ops false) (.region aops)
  | drawn {id : Nat} {ops : Array Oper} {aops : List AOper} (hmix : P.follows .mixedOrders = true) (h : DrawOk P ops N aops) : CodeOk P N (.region id ops true) (.region aops)
/-- Results. -/
def ResOk (P : Program) : ResultVar → AResult → Prop
  | .tmp t, .tmp t' => t = t'
  | .cell t ty, .cell t' n => t = t' ∧ tyAgg P ty = some n
  | _, _ => False
structure FuncOk (P : Program) (f : Nat) (af : AFunc) : Prop where
  ex : ∃ fn c, P.funcs[f]? = some fn ∧ (fn.name == "runtime.NumGoroutine") = false ∧ fn.body = some c ∧ fn.ntmps = af.ntmps ∧ CodeOk P af.ntmps c af.body ∧
    fn.results.toList.length = af.results.length ∧ ∀ (i : Nat) (r : ResultVar) (ar : AResult), fn.results.toList[i]? = some r → af.results[i]? = some ar → ResOk P r ar
/-- What a told function must hold. -/
def ExtOk (P : Program) (f : Nat) (g : List AV → Heap → Option (AV × Heap)) : Prop :=
  (∀ (args : List AV) (H : Heap) (v : AV) (H' : Heap), g args H = some (v, H') → H.floor ≤ H.next → Mono H H') ∧
  ∀ (B W Z : Nat) (args : List AV) (H : Heap) (v : AV) (H' : Heap) (φ : Pl) (w : World) (avs : List Value), g args H = some (v, H') → LRel φ args avs → HRel B W Z φ H w → H'.next ≤ Z →
    FnOk P f ∧ Calls P f avs.toArray w (Ret B W Z φ H w v H')
def TableOk (P : Program) (FT : Nat → Option FnD) : Prop := ∀ f, (∀ af, FT f = some (.code af) → FuncOk P f af) ∧ (∀ g, FT f = some (.ext g) → ExtOk P f g)
def sigExit : Sig → Exit
  | .next => .normal
  | .exit id => .exit id
  | .ret => .ret
theorem run_mono {FT : Nat → Option FnD} (hFT : TableOk P FT) : ∀ (n : Nat), (∀ (c : ACode) (τ : Env) (H : Heap) (s : Sig) (τ' : Env) (H' : Heap), run FT n c τ H = some (s, τ', H') → H.floor ≤ H.next → Mono H H') ∧ CallMono (callA FT n)
  | 0 => by
    have h1 : ∀ (c : ACode) (τ : Env) (H : Heap) (s : Sig) (τ' : Env) (H' : Heap), run FT 0 c τ H = some (s, τ', H') → H.floor ≤ H.next → Mono H H' := fun c τ H s τ' H' h => by simp [run] at h
    refine ⟨h1, fun f args H v H' h hf => ?_⟩
    unfold callA at h
    split at h
    · rename_i af _
      cases hb : Nat.ble args.length af.ntmps with
      | false => simp [hb] at h
      | true => simp [hb, run, finishA] at h
    · rename_i g hg; exact ((hFT f).2 g hg).1 args H v H' h hf
    · cases h
  | n + 1 => by
    obtain ⟨ih, ihc⟩ := run_mono hFT n
    have main : ∀ (c : ACode) (τ : Env) (H : Heap) (s : Sig) (τ' : Env) (H' : Heap), run FT (n + 1) c τ H = some (s, τ', H') → H.floor ≤ H.next → Mono H H' := by
      intro c τ H s τ' H' h hf
      cases c <;> simp only [run] at h
      · cases h; exact Mono.refl _
      · rename_i ops
        split at h
        · rename_i τ2 H2 hops
          cases h
          exact opsA_mono ihc ops τ H _ _ hops hf
        · cases h
      · rename_i a b
        split at h
        · rename_i τ1 H1 h1
          have m := ih a τ H _ _ _ h1 hf
          exact m.trans (ih b _ _ _ _ _ h (by rw [m.floor]; exact Nat.le_trans hf m.next))
        · exact ih a τ H _ _ _ h hf
      · split at h
        · exact ih _ _ _ _ _ _ h hf
        · exact ih _ _ _ _ _ _ h hf
        · cases h
      · rename_i id b
        split at h
        · rename_i id' τ1 H1 h1
          have m := ih b τ H _ _ _ h1 hf
          cases hb : Nat.beq id' id <;> simp [hb] at h <;> (rw [← h.2.2]; exact m)
        · exact ih b τ H _ _ _ h hf
      · rename_i b
        split at h
        · rename_i τ1 H1 h1
          have m := ih b τ H _ _ _ h1 hf
          exact m.trans (ih _ _ _ _ _ _ h (by rw [m.floor]; exact Nat.le_trans hf m.next))
        · exact ih b τ H _ _ _ h hf
      · cases h; exact Mono.refl _
      · cases h; exact Mono.refl _
      · cases h
    refine ⟨main, fun f args H v H' h hf => ?_⟩
    unfold callA at h
    split at h
    · rename_i af _
      cases hb : Nat.ble args.length af.ntmps with
      | false => simp [hb] at h
      | true =>
        simp only [hb, cond_true] at h
        cases hr : run FT (n + 1) af.body (enterEnv 0 args .leaf) H with
        | none => simp [hr, finishA] at h
        | some r =>
          obtain ⟨s, τ1, H1⟩ := r
          have m := main _ _ _ _ _ _ hr hf
          rw [hr] at h
          cases s <;> simp only [finishA] at h
          · cases hq : resultsA τ1 H1 af.results <;> simp [hq] at h; rw [← h.2]; exact m
          · cases h
          · cases hq : resultsA τ1 H1 af.results <;> simp [hq] at h; rw [← h.2]; exact m
    · rename_i g hg; exact ((hFT f).2 g hg).1 args H v H' h hf
    · cases h
theorem at_enter : ∀ (xs : List AV) (i t : Nat) (τ : Env), Env.at (enterEnv i xs τ) t = if i ≤ t ∧ t < i + xs.length then (xs[t - i]?).getD undefA else Env.at τ t
  | [], i, t, τ => by simp only [enterEnv, List.length_nil]; rw [if_neg (by omega)]
  | x :: xs, i, t, τ => by
    simp only [enterEnv, List.length_cons]
    rw [at_enter xs (i + 1) t]
    have hs : Env.at (Tr.set τ i x) t = if t = i then x else Env.at τ t := by
      simp only [Env.at, Tr.get_set]
      split <;> simp
    by_cases h1 : t = i
    · subst h1
      rw [if_neg (by omega), hs, if_pos rfl, if_pos (by omega)]; simp
    · by_cases h2 : i + 1 ≤ t ∧ t < i + 1 + xs.length
      · rw [if_pos h2, if_pos (by omega)]
        have : t - i = (t - (i + 1)) + 1 := by omega
        rw [this]; simp
      · rw [if_neg h2, hs, if_neg h1, if_neg (by omega)]
theorem enter_rel {φ : Pl} {args : List AV} {avs : List Value} (h : LRel φ args avs) (N : Nat) (hN : args.length ≤ N) : FRel φ N (enterEnv 0 args .leaf) { tmps := avs.toArray ++ Array.replicate (N - avs.toArray.size) undef, defers := [] } := by
  have hlen := h.len
  refine ⟨by simp; omega, fun t => ?_⟩
  rw [at_enter]
  simp only [Array.getD_eq_getD_getElem?]
  by_cases ht : t < args.length
  · rw [if_pos (by omega)]
    have ha : args[t]? = some args[t] := List.getElem?_eq_getElem ht
    obtain ⟨v, hv, hr⟩ := h.getE ha
    have : (avs.toArray ++ Array.replicate (N - avs.toArray.size) undef)[t]? = some v := by
      rw [Array.getElem?_append_left (by simp; omega)]; simpa using hv
    rw [this]
    simp only [Nat.sub_zero, ha, Option.getD_some]; exact hr
  · rw [if_neg (by omega)]
    have e1 : Env.at (.leaf : Env) t = undefA := rfl
    rw [e1]
    have : ((avs.toArray ++ Array.replicate (N - avs.toArray.size) undef)[t]?).getD undef = undef := by
      rw [Array.getElem?_append_right (by simp; omega), Array.getElem?_replicate]
      split <;> rfl
    rw [this]; exact VRel.undef _
def resSem (tmps : Array Value) : ResultVar → Sem Value
  | .tmp t => pure (tmps.getD t undef)
  | .cell a t => do loadVar t (← asAddr (tmps.getD a undef))
theorem results_eq (fn : Func) (tmps : Array Value) : results fn tmps = (do let vs ← fn.results.mapM (resSem tmps); pure (if h : vs.size = 1 then vs[0] else .tuple vs)) := by
  unfold results
  congr 1
theorem result_sound {B W Z N : Nat} {φ : Pl} {H : Heap} {w : World} {τ : Env} {a : Act} (hF : FRel φ N τ a) (hH : HRel B W Z φ H w) : ∀ (rs : List ResultVar) (ars : List AResult) (vs : List AV), rs.length = ars.length →
    (∀ (i : Nat) (r : ResultVar) (ar : AResult), rs[i]? = some r → ars[i]? = some ar → ResOk P r ar) → resultsA τ H ars = some vs →
    ∃ us : List Value, (rs.mapM (resSem a.tmps)).run P w = .ok us w ∧ LRel φ vs us
  | [], [], vs, _, _, h => by simp [resultsA] at h; subst h; exact ⟨[], by simp, .nil⟩
  | [], _ :: _, _, h, _, _ => by simp at h
  | _ :: _, [], _, h, _, _ => by simp at h
  | r :: rs, ar :: ars, vs, hl, hok, h => by
    simp only [resultsA] at h
    split at h
    · cases h
    rename_i v hv
    cases hrs : resultsA τ H ars with
    | none => simp [hrs] at h
    | some vs' =>
      simp [hrs] at h; subst h
      obtain ⟨us, g1, g2⟩ := result_sound hF hH rs ars vs' (by simpa using hl) (fun i r ar q1 q2 => hok (i + 1) r ar (by simpa using q1) (by simpa using q2)) hrs
      have h0 := hok 0 r ar rfl rfl
      have one : ∃ u, (resSem a.tmps r).run P w = .ok u w ∧ VRel φ v u := by
        cases r with
        | tmp t =>
          cases ar with
          | tmp t' => cases h0; simp only [resultA] at hv; cases hv; exact ⟨_, rfl, hF.at_ t⟩
          | cell => exact h0.elim
        | cell x t =>
          cases ar with
          | tmp t' => exact h0.elim
          | cell x' n =>
            obtain ⟨rfl, ht⟩ := h0
            simp only [resultA] at hv
            split at hv
            · rename_i o off hq
              have r := hF.at_ x
              rw [hq] at r
              generalize hpv : a.tmps.getD x undef = pv at r
              cases hc : H.cellsAt o with
              | none => simp [hc] at hv
              | some cs =>
                simp [hc] at hv
                cases r with
                | ptr _ _ L hL =>
                  obtain ⟨u, k1, k2⟩ := run_loadVar (P := P) ht (hH.at_ hL hc).1 hv
                  exact ⟨u, by simp only [resSem, hpv, asAddr, Sem.run_bind, Sem.run_pure, Result.andThen_ok, k1], k2⟩
            · cases hv
      obtain ⟨u, k1, k2⟩ := one
      refine ⟨u :: us, ?_, .cons k2 g2⟩
      rw [List.mapM_cons, Sem.run_bind, k1]
      simp only [Result.andThen_ok, Sem.run_bind, g1, Sem.run_pure]
theorem pack_sound {φ : Pl} {vs : List AV} {us : Array Value} (h : LRel φ vs us.toList) : VRel φ (packA vs) (if h : us.size = 1 then us[0] else .tuple us) := by
  obtain ⟨l⟩ := us
  simp only at h
  cases h with
  | nil => exact .tup [] _ .nil
  | cons x t =>
    cases t with
    | nil => simp [packA]; exact x
    | cons y t => simp [packA]; exact .tup _ _ (.cons x (.cons y t))
theorem run_sound {FT : Nat → Option FnD} (hFT : TableOk P FT) : ∀ (n : Nat),
    (∀ (c : Code) (ac : ACode) (B W Z N : Nat) (φ : Pl) (τ τ' : Env) (H H' : Heap) (act : Act) (w : World) (s : Sig) (Q : Exit → Act → World → Prop), CodeOk P N c ac → run FT n ac τ H = some (s, τ', H') → FRel φ N τ act → HRel B W Z φ H w → H'.next ≤ Z →
      (∀ φ' act' w', FRel φ' N τ' act' → act'.defers = act.defers → HRel B W Z φ' H' w' → Step φ H w φ' H' w' → Q (sigExit s) act' w') → c.wp P Q act w) ∧
    (∀ (a : Code) (x : ACode) (B W Z N : Nat) (φ : Pl) (τ τ' : Env) (H H' : Heap) (act : Act) (w : World) (s : Sig) (Q : Exit → Act → World → Prop), CodeOk P N a x → run FT n (.loop x) τ H = some (s, τ', H') → FRel φ N τ act → HRel B W Z φ H w → H'.next ≤ Z →
      (∀ φ' act' w', FRel φ' N τ' act' → act'.defers = act.defers → HRel B W Z φ' H' w' → Step φ H w φ' H' w' → Q (sigExit s) act' w') → Code.rounds P a Q n act w) ∧ CallSound P (callA FT n) := by
  intro n
  -- a call out of the runs
  have call_of : ∀ n, (∀ (c : Code) (ac : ACode) (B W Z N : Nat) (φ : Pl) (τ τ' : Env) (H H' : Heap) (act : Act) (w : World) (s : Sig) (Q : Exit → Act → World → Prop), CodeOk P N c ac → run FT n ac τ H = some (s, τ', H') → FRel φ N τ act → HRel B W Z φ H w → H'.next ≤ Z →
      (∀ φ' act' w', FRel φ' N τ' act' → act'.defers = act.defers → HRel B W Z φ' H' w' → Step φ H w φ' H' w' → Q (sigExit s) act' w') → c.wp P Q act w) → CallSound P (callA FT n) := by
    intro n main B W Z f args H v H' φ w avs h hl hH hK
    unfold callA at h
    split at h
    · rename_i af haf
      obtain ⟨fn, c, k1, k2, k3, k4, k5, k6, k7⟩ := ((hFT f).1 af haf).ex
      refine ⟨⟨fn, k1, k2, by rw [k3]; rfl⟩, ?_⟩
      cases hb : Nat.ble args.length af.ntmps with
      | false => simp [hb] at h
      | true =>
        have hb' := Nat.le_of_ble_eq_true hb
        simp only [hb, cond_true] at h
        cases hr : run FT n af.body (enterEnv 0 args .leaf) H with
        | none => simp [hr, finishA] at h
        | some r =>
          obtain ⟨s, τ1, H1⟩ := r
          rw [hr] at h
          have hres : (s = .next ∨ s = .ret) ∧ ∃ vs, resultsA τ1 H1 af.results = some vs ∧ v = packA vs ∧ H' = H1 := by
            cases s <;> simp only [finishA] at h
            · cases hq : resultsA τ1 H1 af.results <;> simp [hq] at h; exact ⟨.inl rfl, _, rfl, h.1.symm, h.2.symm⟩
            · cases h
            · cases hq : resultsA τ1 H1 af.results <;> simp [hq] at h; exact ⟨.inr rfl, _, rfl, h.1.symm, h.2.symm⟩
          obtain ⟨hs, vs, hvs, rfl, rfl⟩ := hres
          refine calls_of_wp k1 k3 ?_
          rw [k4]
          refine main c af.body B W Z af.ntmps φ _ τ1 H H' _ w s _ k5 hr (enter_rel hl af.ntmps hb') hH hK fun φ' act' w' g1 g2 g3 g4 => ?_
          obtain ⟨us, q1, q2⟩ := result_sound (P := P) g1 g3 fn.results.toList af.results vs k6 k7 hvs
          have hret : act'.defers = [] ∧ ∃ v, (results fn act'.tmps).run P w' = .ok v w' ∧ Ret B W Z φ H w (packA vs) H' (.returned v) w' := by
            refine ⟨g2, _, ?_, φ', _, rfl, pack_sound (us := us.toArray) (by simpa using q2), g3, g4⟩
            rw [results_eq]
            simp only [Array.mapM_eq_mapM_toList, Sem.run_bind, Sem.run_map, q1, Result.andThen_ok, Sem.run_pure]
          rcases hs with rfl | rfl
          · exact hret
          · exact hret
    · rename_i g hg
      exact ((hFT f).2 g hg).2 B W Z args H v H' φ w avs h hl hH hK
    · cases h
  induction n with
  | zero =>
    have h1 : ∀ (c : Code) (ac : ACode) (B W Z N : Nat) (φ : Pl) (τ τ' : Env) (H H' : Heap) (act : Act) (w : World) (s : Sig) (Q : Exit → Act → World → Prop), CodeOk P N c ac → run FT 0 ac τ H = some (s, τ', H') → FRel φ N τ act → HRel B W Z φ H w → H'.next ≤ Z →
      (∀ φ' act' w', FRel φ' N τ' act' → act'.defers = act.defers → HRel B W Z φ' H' w' → Step φ H w φ' H' w' → Q (sigExit s) act' w') → c.wp P Q act w := by
      intro c ac B W Z N φ τ τ' H H' act w s Q _ h; simp [run] at h
    exact ⟨h1, fun a x B W Z N φ τ τ' H H' act w s Q _ h => by simp [run] at h, call_of 0 h1⟩
  | succ n ih =>
    obtain ⟨ihr, ihl, ihc⟩ := ih
    have hmono := run_mono hFT n
    have loops : ∀ (a : Code) (x : ACode) (B W Z N : Nat) (φ : Pl) (τ τ' : Env) (H H' : Heap) (act : Act) (w : World) (s : Sig) (Q : Exit → Act → World → Prop), CodeOk P N a x → run FT (n + 1) (.loop x) τ H = some (s, τ', H') → FRel φ N τ act → HRel B W Z φ H w → H'.next ≤ Z →
      (∀ φ' act' w', FRel φ' N τ' act' → act'.defers = act.defers → HRel B W Z φ' H' w' → Step φ H w φ' H' w' → Q (sigExit s) act' w') → Code.rounds P a Q (n + 1) act w := by
      intro a x B W Z N φ τ τ' H H' act w s Q ha h hF hH hK hQ
      rw [rounds_succ]
      simp only [run] at h
      split at h
      · rename_i τ1 H1 h1
        have m2 : H1.next ≤ H'.next := ((hmono.1 _ τ1 H1 s τ' H' h) (by have m := hmono.1 x τ H _ _ _ h1 hH.fn; rw [m.floor]; exact Nat.le_trans hH.fn m.next)).next
        refine ihr a x B W Z N φ τ τ1 H H1 act w .next _ ha h1 hF hH (Nat.le_trans m2 hK) fun φ1 act1 w1 g1 g2 g3 g4 => ?_
        exact ihl a x B W Z N φ1 τ1 τ' H1 H' act1 w1 s Q ha h g1 g3 hK fun φ2 act2 w2 k1 k2 k3 k4 => hQ φ2 act2 w2 k1 (k2.trans g2) k3 (g4.trans k4)
      · rename_i hne
        refine ihr a x B W Z N φ τ τ' H H' act w s _ ha h hF hH hK fun φ1 act1 w1 g1 g2 g3 g4 => ?_
        have := hQ φ1 act1 w1 g1 g2 g3 g4
        cases s with
        | next => exact absurd h (hne τ' H')
        | exit id => exact this
        | ret => exact this
    have main : ∀ (c : Code) (ac : ACode) (B W Z N : Nat) (φ : Pl) (τ τ' : Env) (H H' : Heap) (act : Act) (w : World) (s : Sig) (Q : Exit → Act → World → Prop), CodeOk P N c ac → run FT (n + 1) ac τ H = some (s, τ', H') → FRel φ N τ act → HRel B W Z φ H w → H'.next ≤ Z →
      (∀ φ' act' w', FRel φ' N τ' act' → act'.defers = act.defers → HRel B W Z φ' H' w' → Step φ H w φ' H' w' → Q (sigExit s) act' w') → c.wp P Q act w := by
      intro c ac B W Z N φ τ τ' H H' act w s Q hok h hF hH hK hQ
      cases hok with
      | bad c => simp [run] at h
      | skip => simp only [run] at h; cases h; exact wp_skip (hQ φ act w hF rfl hH (Step.refl _ _ _))
      | ret => simp only [run] at h; cases h; exact wp_ret (hQ φ act w hF rfl hH (Step.refl _ _ _))
      | exit id => simp only [run] at h; cases h; exact wp_exit (hQ φ act w hF rfl hH (Step.refl _ _ _))
      | @seq a b x y ha hb =>
        simp only [run] at h
        refine wp_seq ?_
        split at h
        · rename_i τ1 H1 h1
          have m2 : H1.next ≤ H'.next := ((hmono.1 y τ1 H1 s τ' H' h) (by have m := hmono.1 x τ H _ _ _ h1 hH.fn; rw [m.floor]; exact Nat.le_trans hH.fn m.next)).next
          refine ihr a x B W Z N φ τ τ1 H H1 act w .next _ ha h1 hF hH (Nat.le_trans m2 hK) fun φ1 act1 w1 g1 g2 g3 g4 => ?_
          exact ihr b y B W Z N φ1 τ1 τ' H1 H' act1 w1 s Q hb h g1 g3 hK fun φ2 act2 w2 k1 k2 k3 k4 => hQ φ2 act2 w2 k1 (k2.trans g2) k3 (g4.trans k4)
        · rename_i hne
          refine ihr a x B W Z N φ τ τ' H H' act w s _ ha h hF hH hK fun φ1 act1 w1 g1 g2 g3 g4 => ?_
          have := hQ φ1 act1 w1 g1 g2 g3 g4
          cases s with
          | next => exact absurd h (hne τ' H')
          | exit id => exact this
          | ret => exact this
      | @cond c d a b x y hc ha hb =>
        simp only [run] at h
        have hv := hF.ev [c] c (by simp) d hc
        split at h
        · rename_i hd
          rw [hd] at hv
          generalize hcv : act.eval c = cv at hv
          cases hv
          exact wp_cond hcv (by simpa using ihr a x B W Z N φ τ τ' H H' act w s Q ha h hF hH hK hQ)
        · rename_i hd
          rw [hd] at hv
          generalize hcv : act.eval c = cv at hv
          cases hv
          exact wp_cond hcv (by simpa using ihr b y B W Z N φ τ τ' H H' act w s Q hb h hF hH hK hQ)
        · cases h
      | @block id a x ha =>
        simp only [run] at h
        refine wp_block ?_
        split at h
        · rename_i id' τ1 H1 h1
          cases hb : Nat.beq id' id with
          | true =>
            have hid := Nat.eq_of_beq_eq_true hb
            simp only [hb, cond_true] at h; cases h
            refine ihr a x B W Z N φ τ τ' H H' act w (.exit id') _ ha h1 hF hH hK fun φ1 act1 w1 g1 g2 g3 g4 => ?_
            simp only [sigExit, Exit.inBlock, hid, if_true]
            exact hQ φ1 act1 w1 g1 g2 g3 g4
          | false =>
            simp only [hb, cond_false] at h; cases h
            refine ihr a x B W Z N φ τ τ' H H' act w (.exit id') _ ha h1 hF hH hK fun φ1 act1 w1 g1 g2 g3 g4 => ?_
            have hid : id' ≠ id := fun q => by subst q; simp at hb
            simp only [sigExit, Exit.inBlock, if_neg hid]
            exact hQ φ1 act1 w1 g1 g2 g3 g4
        · rename_i hne
          refine ihr a x B W Z N φ τ τ' H H' act w s _ ha h hF hH hK fun φ1 act1 w1 g1 g2 g3 g4 => ?_
          have := hQ φ1 act1 w1 g1 g2 g3 g4
          cases s with
          | next => exact this
          | exit id' => exact absurd h (hne id' τ' H')
          | ret => exact this
      | @loop a x ha =>
        exact wp_loop_rounds (n + 1) (loops a x B W Z N φ τ τ' H H' act w s Q ha h hF hH hK hQ)
      | @region id ops aops hl hops =>
        simp only [run] at h
        split at h
        · rename_i τ1 H1 hops'
          cases h
          exact region_wp ihc hmono.2 hl hops hF hH hops' hK hQ
        · cases h
      | @drawn id ops aops hmix hd =>
        simp only [run] at h
        split at h
        · rename_i τ1 H1 hops'
          cases h
          exact region_draw ihc hmono.2 hmix hd hF hH hops' hK hQ
        · cases h
    exact ⟨main, loops, call_of (n + 1) main⟩
end Go.AI
