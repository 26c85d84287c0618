/- Operations that take no memory do what their abstract ones do, continued. No claim by itself. -/
import Derived.Test.YtjhhicmlflelhaaE4
namespace Go.AI
variable {P : Program}
theorem eqGuard_ok {φ : Pl} {a b : AV} {v u : Value} (hx : VRel φ a v) (hy : VRel φ b u) (op : BinOp) (t : TypeId) (x y : Operand)
    (hg : ∀ cs ds, a = .agg cs → b = .agg ds → (op = .eql ∨ op = .neq) → P.eqGuardType P.depth t = false) (w : World) : (eqGuard op t x y v u).run P w = .ok () w := by
  have key : (op = .eql ∨ op = .neq) → (eqGuard op t x y v u).run P w = .ok () w := by
    intro ho
    by_cases hb : ∃ cs ds, a = .agg cs ∧ b = .agg ds
    · obtain ⟨cs, ds, rfl, rfl⟩ := hb
      have := hg _ _ rfl rfl ho
      cases hx; cases hy
      rcases ho with rfl | rfl <;> simp [eqGuard, this]
    · have e : ∀ {v u : Value}, VRel φ a v → VRel φ b u → ((∃ cs ds, v = .agg cs ∧ u = .agg ds) → False) ∧ (v ≠ .nilIface) := by
        intro v u hx hy
        refine ⟨fun ⟨cs, ds, e1, e2⟩ => ?_, fun e => ?_⟩
        · subst e1; subst e2; cases hx; cases hy; exact hb ⟨_, _, rfl, rfl⟩
        · subst e; cases hx
      obtain ⟨e1, e2⟩ := e hx hy
      rcases ho with rfl | rfl
      · unfold eqGuard; simp only [Bool.not_true, Bool.false_eq_true, if_false]
        split
        · exact absurd rfl e2
        · exact (e1 ⟨_, _, rfl, rfl⟩).elim
        · rfl
      · unfold eqGuard; simp only [Bool.not_true, Bool.false_eq_true, if_false]
        split
        · exact absurd rfl e2
        · exact (e1 ⟨_, _, rfl, rfl⟩).elim
        · rfl
  by_cases h1 : op = .eql
  · exact key (.inl h1)
  · by_cases h2 : op = .neq
    · exact key (.inr h2)
    · cases op <;> first | (exact absurd rfl h1) | (exact absurd rfl h2) | rfl
theorem eqA_none {a b : AV} {r : Bool} (h : eqA .none a b = some r) : False := by
  unfold eqA at h; split at h <;> simp_all
theorem eqA_flat {φ : Pl} {a b : AV} {v u : Value} {t : TypeId} {r : Bool} {ks : List CK} (hf : flatOf P 20 t = some ks) (hag : tyAgg P t = some (some ks.length)) (hx : VRel φ a v) (hy : VRel φ b u) (h : eqA (.flat ks) a b = some r) (d : Nat) (hd : 20 ≤ d) (w : World) :
    (Op.equalIn d t v u).run P w = .ok r w := by
  unfold eqA at h
  split at h <;> first | (cases h; done) | skip
  all_goals first | (rename_i e; cases e; done) | skip
  rename_i ks' xs ys e
  cases e
  cases hl : (Nat.beq xs.length ks.length && Nat.beq ys.length ks.length) with
  | false => rw [hl] at h; cases h
  | true =>
    rw [hl] at h
    simp only [Tr.nbeq, Bool.and_eq_true, decide_eq_true_eq] at hl
    simp only [cond_true] at h
    cases hx with | agg _ vs rx => ?_
    cases hy with | agg _ us ry => ?_
    have hs := flatOf_sound 20 t ks hf
    have e1 : vs.toList.length = ks.length := by rw [← rx.len]; exact hl.1
    have e2 : us.toList.length = ks.length := by rw [← ry.len]; exact hl.2
    obtain ⟨v, u, p1, p2, p3⟩ := hs.2 φ d hd vs us 0 xs ys r w (by rw [← e1, List.drop_zero, List.take_length]; exact rx) (by rw [← e2, List.drop_zero, List.take_length]; exact ry) hl.1 hl.2 h
    have ha := run_isAgg_some hag w
    have q1 : v = .agg vs := by
      have := p1
      simp [part, ha.1, run_sizeOf hs.1] at this
      rw [← this]
      have : ks.length = vs.size := by simpa using e1.symm
      simp [this]
    have q2 : u = .agg us := by
      have := p2
      simp [part, ha.1, run_sizeOf hs.1] at this
      rw [← this]
      have : ks.length = us.size := by simpa using e2.symm
      simp [this]
    rw [← q1, ← q2]; exact p3
theorem flat_agg {t : TypeId} {ks : List CK} {d : Nat} (hf : flatOf P d t = some ks) (ht : (∃ fs, P.underlying t = some (.struct fs)) ∨ ∃ n e, P.underlying t = some (.array n e)) : tyAgg P t = some (some ks.length) := by
  have hs := (flatOf_sound d t ks hf).1
  unfold tySize at hs; unfold tyAgg
  cases hi : P.info? t <;> simp [hi] at hs
  rcases ht with ⟨fs, e⟩ | ⟨n, e', e⟩ <;> simp [e, hs]
theorem eqA_sound {φ : Pl} {a b : AV} {v u : Value} {t : TypeId} {r : Bool} (hx : VRel φ a v) (hy : VRel φ b u) (h : eqA (eqDOf P t) a b = some r) (d : Nat) (hd : 20 ≤ d) (w : World) :
    (Op.equalIn (d + 1) t v u).run P w = .ok r w ∧ (∀ cs ds, a = .agg cs → b = .agg ds → P.eqGuardType P.depth t = false) := by
  unfold eqDOf at h
  split at h
  · rename_i hu; refine ⟨cellEq_sound (k := .bool) (by simp [ckOf, hu]) hx hy h d w, fun cs ds e1 e2 => ?_⟩
    subst e1; simp [eqA, cellEq] at h
  · rename_i hu; refine ⟨cellEq_sound (k := .int) (by simp [ckOf, hu]) hx hy h d w, fun cs ds e1 e2 => ?_⟩
    subst e1; simp [eqA, cellEq] at h
  · rename_i hu; refine ⟨cellEq_sound (k := .str) (by simp [ckOf, hu]) hx hy h d w, fun cs ds e1 e2 => ?_⟩
    subst e1; simp [eqA, cellEq] at h
  · rename_i hu
    unfold eqA at h; split at h <;> first | (cases h; done) | skip
    all_goals first | (rename_i e; cases e; done) | skip
    all_goals (cases h; cases hx; cases hy; exact ⟨by simp [Op.equalIn, hu], fun _ _ e => by cases e⟩)
  · rename_i hu
    unfold eqA at h; split at h <;> first | (cases h; done) | skip
    all_goals first | (rename_i e; cases e; done) | skip
    all_goals (cases h; cases hx <;> cases hy <;> exact ⟨by simp [Op.equalIn, hu], fun _ _ e => by cases e⟩)
  · rename_i hu
    unfold eqA at h; split at h <;> first | (cases h; done) | skip
    all_goals first | (rename_i e; cases e; done) | skip
    all_goals (cases h; cases hx; cases hy; exact ⟨by simp [Op.equalIn, hu], fun _ _ e => by cases e⟩)
  · rename_i hu
    unfold eqA at h; split at h <;> first | (cases h; done) | skip
    all_goals first | (rename_i e; cases e; done) | skip
    all_goals (cases h; cases hx; cases hy; exact ⟨by simp [Op.equalIn, hu], fun _ _ e => by cases e⟩)
  · rename_i fs hu
    split at h
    · exact (eqA_none h).elim
    · rename_i hg
      split at h
      · rename_i ks hf
        exact ⟨eqA_flat hf (flat_agg hf (.inl ⟨_, hu⟩)) hx hy h _ (by omega) w, fun _ _ _ _ => by simpa using hg⟩
      · exact (eqA_none h).elim
  · rename_i n e hu
    split at h
    · exact (eqA_none h).elim
    · rename_i hg
      split at h
      · rename_i ks hf
        exact ⟨eqA_flat hf (flat_agg hf (.inr ⟨_, _, hu⟩)) hx hy h _ (by omega) w, fun _ _ _ _ => by simpa using hg⟩
      · exact (eqA_none h).elim
  · exact (eqA_none h).elim
theorem equal_sound {φ : Pl} {a b : AV} {v u : Value} {t : TypeId} {r : Bool} (hx : VRel φ a v) (hy : VRel φ b u) (h : eqA (eqDOf P t) a b = some r) (w : World) : (Op.equal t v u).run P w = .ok r w :=
  (eqA_sound hx hy h 9999 (by omega) w).1
end Go.AI
