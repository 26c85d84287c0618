/- Operations that read memory, or make some, do what their abstract ones do, continued. No claim by itself. -/
import Derived.Test.YtjhhicmlflelhaaE8
namespace Go.AI
variable {P : Program}
/-! ### Keys of maps -/
theorem checkKey_prim {t : TypeId} {k : CK} (hk : ckOf P t = some k) (em : Bool) (d : Nat) (v : Value) (w : World) : (Instr.checkKey em (d + 1) t v).run P w = .ok () w := by
  unfold ckOf at hk
  split at hk <;> first | (cases hk; done) | skip
  all_goals (rename_i hu; simp [Instr.checkKey, hu])
def ChkAt (P : Program) (t : TypeId) (ks : List CK) (d : Nat) : Prop :=
  tySize P t = some ks.length ∧
  ∀ (D : Nat) (em : Bool), d ≤ D → ∀ (vs : Array Value) (off : Nat) (w : World), off + ks.length ≤ vs.size → ∃ v, (part t vs off).run P w = .ok v w ∧ (Instr.checkKey em D t v).run P w = .ok () w
theorem chk_fields {d D : Nat} {em : Bool} (hD : d ≤ D) (sub : TypeId → Option (List CK)) (hsub : ∀ t ks, sub t = some ks → ChkAt P t ks d) (vs : Array Value) (w : World) : ∀ (fs : List Field) (off : Nat) (ks : List CK), fieldsOf sub fs off = some ks → off + ks.length ≤ vs.size →
    (forIn fs () (fun f _ => (do
      if f.name ≠ "_" then do Instr.checkKey em D f.type (← part f.type vs f.offset); pure (ForInStep.yield ())
      else pure (ForInStep.yield ()) : Sem (ForInStep Unit))) : Sem Unit).run P w = .ok () w
  | [], off, ks, _, _ => by simp
  | f :: fs, off, ks, h, hl => by
    simp only [fieldsOf] at h
    split at h
    · rename_i hn
      obtain ⟨hn1, rfl⟩ := hn
      split at h
      · cases h
      · rename_i k1 hk1
        cases hr : fieldsOf sub fs (f.offset + k1.length) with
        | none => simp [hr] at h
        | some k2 =>
          simp [hr] at h; subst h
          simp only [List.length_append] at hl
          obtain ⟨v, g1, g2⟩ := (hsub _ _ hk1).2 D em hD vs f.offset w (by omega)
          have := chk_fields (em := em) hD sub hsub vs w fs _ k2 hr (by omega)
          simp only [List.forIn_cons, ne_eq, hn1, not_false_eq_true, if_true, Sem.run_bind, g1, g2, Sem.run_pure, Result.andThen_ok]
          exact this
    · cases h
theorem flat_chk : ∀ (d : Nat) (t : TypeId) (ks : List CK), flatOf P d t = some ks → ChkAt P t ks d
  | 0, t, ks, h => by simp [flatOf] at h
  | d + 1, t, ks, h0 => by
    have hsz := (flatOf_sound (d + 1) t ks h0).1
    refine ⟨hsz, ?_⟩
    have h := h0
    intro D em hD vs off w hl
    obtain ⟨D, rfl⟩ : ∃ n, D = n + 1 := ⟨D - 1, by omega⟩
    simp only [flatOf] at h
    split at h
    · rename_i fs hu
      have ha := run_isAgg_some (flat_agg h0 (.inl ⟨_, hu⟩)) w
      refine ⟨.agg (vs.extract off (off + ks.length)), by simp [part, ha.1, run_sizeOf hsz], ?_⟩
      split at h
      · cases h
      · split at h
        · rename_i k1 hf
          split at h
          · cases h
            have := chk_fields (d := d) (D := D) (em := em) (by omega) (flatOf P d) (fun t ks h => flat_chk d t ks h) (vs.extract off (off + ks.length)) w fs.toList 0 ks hf (by simp; omega)
            simp only [Instr.checkKey, Sem.run_bind, run_underlying, hu, Result.andThen_ok]
            rw [← Array.forIn_toList]
            have e2 : ∀ r : Result Unit, r = .ok () w → (r.andThen fun a w' => Sem.run P (pure () : Sem Unit) w') = .ok () w := by rintro r rfl; rfl
            exact e2 _ this
          · cases h
        · cases h
    · rename_i n e hu
      have ha := run_isAgg_some (flat_agg h0 (.inr ⟨_, _, hu⟩)) w
      refine ⟨.agg (vs.extract off (off + ks.length)), by simp [part, ha.1, run_sizeOf hsz], ?_⟩
      split at h
      · rename_i k1 hf
        split at h
        · rename_i hs2
          cases h
          have hle : ((List.replicate n k1).flatten).length = n * k1.length := by simp
          have ih := flat_chk d e k1 hf
          simp only [Instr.checkKey, Sem.run_bind, run_underlying, hu, Result.andThen_ok, Std.Legacy.Range.forIn_eq_forIn_range', Std.Legacy.Range.size, Nat.sub_zero, Nat.add_sub_cancel, Nat.div_one]
          have key : ∀ (m i : Nat), i + m ≤ n →
              (forIn (List.range' i m 1) () (fun i _ => (do Instr.checkKey em D e (← part e (vs.extract off (off + ((List.replicate n k1).flatten).length)) (i * (← sizeOf e))); pure (ForInStep.yield ()) : Sem (ForInStep Unit))) : Sem Unit).run P w = .ok () w := by
            intro m
            induction m with
            | zero => intro i _; simp
            | succ m ihm =>
              intro i hi
              have hle2 : i * k1.length + k1.length ≤ n * k1.length := by
                rw [← Nat.succ_mul]; exact Nat.mul_le_mul_right _ (by omega)
              obtain ⟨v, g1, g2⟩ := ih.2 D em (by omega) (vs.extract off (off + ((List.replicate n k1).flatten).length)) (i * k1.length) w (by simp at hl ⊢; omega)
              have := ihm (i + 1) (by omega)
              simp only [List.range'_succ, List.forIn_cons, Sem.run_bind, run_sizeOf hs2.1, g1, g2, Sem.run_pure, Result.andThen_ok]
              simpa [run_sizeOf hs2.1] using this
          have := key n 0 (by omega)
          have e2 : ∀ r : Result Unit, r = .ok () w → (r.andThen fun a w' => Sem.run P (pure () : Sem Unit) w') = .ok () w := by rintro r rfl; rfl
          exact e2 _ this
        · cases h
      · cases h
    · split at h
      · rename_i k hk
        split at h
        · cases h
          have hag : tyAgg P t = some none := by
            unfold ckOf at hk; unfold tyAgg
            split at hk <;> simp_all
          simp at hl
          have : vs[off]? = some vs[off] := Array.getElem?_eq_getElem (by omega)
          exact ⟨vs[off], by simp [part, run_isAgg_none hag, this], checkKey_prim hk em D _ w⟩
        · cases h
      · cases h
theorem checkKey_sound {φ : Pl} {kt : TypeId} {k : AV} {kv : Value} (hk : VRel φ k kv) (hp : plainKey (eqDOf P kt) k = true) (em : Bool) (w : World) : (Instr.checkKey em 10000 kt kv).run P w = .ok () w := by
  have gen : ∀ d, 20 ≤ d → (Instr.checkKey em (d + 1) kt kv).run P w = .ok () w := by
    intro d hd
    have hno : ∀ c, eqDOf P kt = c → (∀ q, c ≠ .prim q) → (∀ ks, c ≠ .flat ks) → False := by
      intro c hc h1 h2
      rw [hc] at hp
      cases c <;> simp_all [plainKey]
    unfold eqDOf at hno hp
    split at hp
    · rename_i hu; exact checkKey_prim (k := .bool) (by simp [ckOf, hu]) em d kv w
    · rename_i hu; exact checkKey_prim (k := .int) (by simp [ckOf, hu]) em d kv w
    · rename_i hu; exact checkKey_prim (k := .str) (by simp [ckOf, hu]) em d kv w
    · simp [plainKey] at hp
    · simp [plainKey] at hp
    · simp [plainKey] at hp
    · simp [plainKey] at hp
    · rename_i fs hu
      split at hp
      · simp [plainKey] at hp
      · split at hp
        · rename_i ks hf
          unfold plainKey at hp
          split at hp <;> first | (cases hp; done) | skip
          all_goals first | (rename_i e; cases e; done) | skip
          rename_i ks' cs e
          cases e
          cases hk with | agg _ vs hl => ?_
          have hlen : cs.length = ks.length := by
            have : ∀ (ks : List CK) (cs : List AV), (cellsEq ks cs cs).isSome = true → (∀ k c, cellEq k c c ≠ some false) → cs.length = ks.length := by
              intro ks
              induction ks with
              | nil => intro cs h _; cases cs <;> simp_all [cellsEq]
              | cons k ks ih =>
                intro cs h h2
                cases cs with
                | nil => simp [cellsEq] at h
                | cons c cs =>
                  simp only [cellsEq] at h
                  cases hc : cellEq k c c with
                  | none => simp [hc] at h
                  | some b => cases b with
                    | false => exact absurd hc (h2 k c)
                    | true => simp only [hc] at h; simp [ih cs h h2]
            refine this ks cs hp fun k c => ?_
            unfold cellEq; split <;> simp_all
          have hf2 := flat_chk 20 kt ks hf
          have e1 : vs.size = ks.length := by have := hl.len; simp at this; omega
          obtain ⟨v, g1, g2⟩ := hf2.2 (d + 1) em (by omega) vs 0 w (by omega)
          have ha := run_isAgg_some (flat_agg hf (.inl ⟨_, hu⟩)) w
          have : v = .agg vs := by
            simp [part, ha.1, run_sizeOf hf2.1] at g1
            rw [← g1, ← e1]; simp
          rw [← this]; exact g2
        · simp [plainKey] at hp
    · rename_i n e hu
      split at hp
      · simp [plainKey] at hp
      · split at hp
        · rename_i ks hf
          unfold plainKey at hp
          split at hp <;> first | (cases hp; done) | skip
          all_goals first | (rename_i e; cases e; done) | skip
          rename_i ks' cs e
          cases e
          cases hk with | agg _ vs hl => ?_
          have hlen : cs.length = ks.length := by
            have : ∀ (ks : List CK) (cs : List AV), (cellsEq ks cs cs).isSome = true → (∀ k c, cellEq k c c ≠ some false) → cs.length = ks.length := by
              intro ks
              induction ks with
              | nil => intro cs h _; cases cs <;> simp_all [cellsEq]
              | cons k ks ih =>
                intro cs h h2
                cases cs with
                | nil => simp [cellsEq] at h
                | cons c cs =>
                  simp only [cellsEq] at h
                  cases hc : cellEq k c c with
                  | none => simp [hc] at h
                  | some b => cases b with
                    | false => exact absurd hc (h2 k c)
                    | true => simp only [hc] at h; simp [ih cs h h2]
            refine this ks cs hp fun k c => ?_
            unfold cellEq; split <;> simp_all
          have hf2 := flat_chk 20 kt ks hf
          have e1 : vs.size = ks.length := by have := hl.len; simp at this; omega
          obtain ⟨v, g1, g2⟩ := hf2.2 (d + 1) em (by omega) vs 0 w (by omega)
          have ha := run_isAgg_some (flat_agg hf (.inr ⟨_, _, hu⟩)) w
          have : v = .agg vs := by
            simp [part, ha.1, run_sizeOf hf2.1] at g1
            rw [← g1, ← e1]; simp
          rw [← this]; exact g2
        · simp [plainKey] at hp
    · simp [plainKey] at hp
  exact gen 9999 (by omega)
def FindRel (φ : Pl) : Option (Nat × AV) → Option (Nat × Value) → Prop
  | none, none => True
  | some (i, a), some (j, v) => i = j ∧ VRel φ a v
  | _, _ => False
theorem findAsking_sound {φ : Pl} {kt : TypeId} {k : AV} {kv : Value} (hk : VRel φ k kv) (w : World) : ∀ (es : List (AV × AV)) (fs : List MapEntry) (i : Nat) (r : Option (Nat × AV)), ERel φ es fs → findA (eqDOf P kt) k es i = some r →
    ∃ r', (Instr.findAsking kt kv fs i).run P w = .ok r' w ∧ FindRel φ r r'
  | [], [], i, r, _, h => by simp [findA] at h; subst h; exact ⟨none, by simp [Instr.findAsking], trivial⟩
  | [], _ :: _, i, r, h, _ => by simp [ERel] at h
  | (_, _) :: _, [], i, r, h, _ => by simp [ERel] at h
  | (x, v) :: es, f :: fs, i, r, hr, h => by
    obtain ⟨h1, h2, h3⟩ := hr
    simp only [findA] at h
    cases he : eqA (eqDOf P kt) k x with
    | none => simp [he] at h
    | some b =>
      have g := equal_sound (P := P) hk h1 he w
      cases b with
      | true => simp [he] at h; subst h; exact ⟨some (i, f.val), by simp [Instr.findAsking, g], rfl, h2⟩
      | false =>
        simp only [he] at h
        obtain ⟨r', g1, g2⟩ := findAsking_sound hk w es fs (i + 1) r h3 h
        exact ⟨r', by simp [Instr.findAsking, g, g1], g2⟩
theorem findNow_sound {φ : Pl} {kind : TypeDesc} {c : CK} {k : AV} {kv : Value} (hk : VRel φ k kv) (hkind : (kind = .bool ∧ c = .bool) ∨ ((∃ q, kind = .int q) ∧ c = .int) ∨ (kind = .string ∧ c = .str)) :
    ∀ (es : List (AV × AV)) (fs : List MapEntry) (i : Nat) (r : Option (Nat × AV)), ERel φ es fs → findA (.prim c) k es i = some r →
    ∃ r', Instr.findNow kind kv fs i = some r' ∧ FindRel φ r r'
  | [], [], i, r, _, h => by simp [findA] at h; subst h; exact ⟨none, by simp [Instr.findNow], trivial⟩
  | [], _ :: _, i, r, h, _ => by simp [ERel] at h
  | (_, _) :: _, [], i, r, h, _ => by simp [ERel] at h
  | (x, v) :: es, f :: fs, i, r, hr, h => by
    obtain ⟨h1, h2, h3⟩ := hr
    simp only [findA] at h
    cases he : eqA (.prim c) k x with
    | none => simp [he] at h
    | some b =>
      have g : Instr.sameNow kind kv f.key = some b := by
        simp only [eqA] at he
        unfold cellEq at he
        generalize f.key = fk at h1
        split at he <;> first | (cases he; done) | skip
        · split at he
          · rename_i hkk; subst hkk; cases he; cases hk; cases h1
            rcases hkind with ⟨_, e⟩ | ⟨⟨q, rfl⟩, _⟩ | ⟨_, e⟩ <;> first | (cases e; done) | simp [Instr.sameNow]
          · cases he
        · cases he; cases hk; cases h1
          rcases hkind with ⟨rfl, e⟩ | ⟨⟨q, rfl⟩, e⟩ | ⟨_, e⟩ <;> first | (cases e; done) | simp [Instr.sameNow]
        · cases he; cases hk; cases h1
          rcases hkind with ⟨_, e⟩ | ⟨⟨q, rfl⟩, e⟩ | ⟨rfl, e⟩ <;> first | (cases e; done) | simp [Instr.sameNow, natsOf_beq, beq_toListBytes]
      cases b with
      | true => simp [he] at h; subst h; exact ⟨some (i, f.val), by simp [Instr.findNow, g], rfl, h2⟩
      | false =>
        simp only [he] at h
        obtain ⟨r', g1, g2⟩ := findNow_sound hk hkind es fs (i + 1) r h3 h
        exact ⟨r', by simp [Instr.findNow, g, g1], g2⟩
theorem findKey_sound {φ : Pl} {kt : TypeId} {k : AV} {kv : Value} (hk : VRel φ k kv) (hp : plainKey (eqDOf P kt) k = true) (w : World) (es : List (AV × AV)) (fs : List MapEntry) (r : Option (Nat × AV)) (hr : ERel φ es fs) (h : findA (eqDOf P kt) k es 0 = some r) :
    ∃ r', (Instr.findKey kt kv fs).run P w = .ok r' w ∧ FindRel φ r r' := by
  have ask : ∀ d, P.underlying kt = some d → Instr.findNow d kv fs 0 = none → ∃ r', (Instr.findKey kt kv fs).run P w = .ok r' w ∧ FindRel φ r r' := by
    intro d hd hn
    obtain ⟨r', g1, g2⟩ := findAsking_sound (P := P) hk w es fs 0 r hr h
    exact ⟨r', by simp [Instr.findKey, hd, hn, g1], g2⟩
  have now : ∀ d c, P.underlying kt = some d → eqDOf P kt = .prim c → ((d = .bool ∧ c = .bool) ∨ ((∃ q, d = .int q) ∧ c = .int) ∨ (d = .string ∧ c = .str)) → ∃ r', (Instr.findKey kt kv fs).run P w = .ok r' w ∧ FindRel φ r r' := by
    intro d c hd he hc
    rw [he] at h
    obtain ⟨r', g1, g2⟩ := findNow_sound hk hc es fs 0 r hr h
    exact ⟨r', by simp [Instr.findKey, hd, g1], g2⟩
  have nil : ∀ d, P.underlying kt = some d → fs = [] → ∃ r', (Instr.findKey kt kv fs).run P w = .ok r' w ∧ FindRel φ r r' := by
    intro d hd hf
    subst hf
    cases es with
    | nil => simp [findA] at h; subst h; exact ⟨none, by simp [Instr.findKey, hd, Instr.findNow], trivial⟩
    | cons e es => obtain ⟨a, b⟩ := e; simp [ERel] at hr
  cases hu : P.underlying kt with
  | none => simp [eqDOf, hu, plainKey] at hp
  | some d =>
    have hd : eqDOf P kt = eqDOf P kt := rfl
    cases d <;> first | (simp [eqDOf, hu, plainKey] at hp; done) | skip
    · exact now _ .bool hu (by simp [eqDOf, hu]) (.inl ⟨rfl, rfl⟩)
    · exact now _ .int hu (by simp [eqDOf, hu]) (.inr (.inl ⟨⟨_, rfl⟩, rfl⟩))
    · exact now _ .str hu (by simp [eqDOf, hu]) (.inr (.inr ⟨rfl, rfl⟩))
    · cases fs with
      | nil => exact nil _ hu rfl
      | cons f fs => exact ask _ hu (by simp [Instr.findNow, Instr.sameNow])
    · cases fs with
      | nil => exact nil _ hu rfl
      | cons f fs => exact ask _ hu (by simp [Instr.findNow, Instr.sameNow])
theorem ERel.len {φ : Pl} : ∀ {es : List (AV × AV)} {fs : List MapEntry}, ERel φ es fs → es.length = fs.length
  | [], [], _ => rfl
  | [], _ :: _, h => by simp [ERel] at h
  | (_, _) :: _, [], h => by simp [ERel] at h
  | (_, _) :: es, _ :: fs, h => by simp [ERel.len h.2.2]
end Go.AI
