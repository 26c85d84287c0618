/- Operations that take no memory do what their abstract ones do. No claim by itself. -/
import Derived.Test.YtjhhicmlflelhaaE3
import Derived.Laws.StructEq
namespace Go.AI
variable {P : Program}
/-! ### Strings -/
theorem natsOf_inj {a b : ByteArray} : natsOf a = natsOf b ↔ a.toList = b.toList := by
  rw [ByteArray.toList_eq, ByteArray.toList_eq]
  unfold natsOf
  constructor
  · intro h
    exact List.map_inj_right (fun x y e => UInt8.toNat_inj.1 e) |>.1 h
  · intro h; rw [h]
theorem natsOf_beq (a b : ByteArray) : (natsOf a == natsOf b) = (a.toList == b.toList) := by
  rw [Bool.eq_iff_iff]; simp [natsOf_inj]
theorem natsOf_len (a : ByteArray) : (natsOf a).length = a.size := by simp [natsOf]
theorem natsOf_append (a b : ByteArray) : natsOf (a ++ b) = natsOf a ++ natsOf b := by simp [natsOf]
theorem natsOf_extract (a : ByteArray) (l h : Nat) : natsOf (a.extract l h) = ((natsOf a).drop l).take (h - l) := by
  simp [natsOf, List.map_drop, List.map_take]
theorem bytesLess_eq : ∀ (a b : List UInt8), bytesLess (a.map UInt8.toNat) (b.map UInt8.toNat) = Op.bytesLess a b
  | [], [] => rfl
  | _ :: _, [] => rfl
  | [], _ :: _ => rfl
  | x :: a, y :: b => by
    simp only [List.map_cons, bytesLess, Op.bytesLess, bytesLess_eq a b]
    have e1 : Nat.blt x.toNat y.toNat = decide (x < y) := by
      rw [Bool.eq_iff_iff]; simp [Nat.blt, UInt8.lt_iff_toNat_lt]; omega
    have e2 : Nat.beq x.toNat y.toNat = (x == y) := by
      rw [Tr.nbeq, Bool.eq_iff_iff]; simp [UInt8.toNat_inj]
    rw [e1, e2]
theorem natsOf_less (a b : ByteArray) : bytesLess (natsOf a) (natsOf b) = Op.bytesLess a.toList b.toList := by
  rw [ByteArray.toList_eq, ByteArray.toList_eq]; exact bytesLess_eq _ _
theorem natsOf_get (a : ByteArray) (i : Nat) : (natsOf a)[i]? = (a[i]?).map UInt8.toNat := by
  show _ = (a.data[i]?).map _
  simp [natsOf]
/-! ### Equality -/
theorem cellEq_sound {φ : Pl} {k : CK} {x y : AV} {v u : Value} {b : Bool} {t : TypeId} (hk : ckOf P t = some k) (hx : VRel φ x v) (hy : VRel φ y u) (h : cellEq k x y = some b) (d : Nat) (w : World) :
    (Op.equalIn (d + 1) t v u).run P w = .ok b w := by
  unfold ckOf at hk
  split at hk <;> first | (cases hk; done) | skip
  · rename_i hu; cases hk
    unfold cellEq at h; split at h <;> simp_all
    subst h; cases hx; cases hy; simp [Op.equalIn, hu]
  · rename_i hu; cases hk
    unfold cellEq at h; split at h <;> simp_all
    obtain ⟨rfl, rfl⟩ := h; cases hx; cases hy; simp [Op.equalIn, hu]
  · rename_i hu; cases hk
    unfold cellEq at h; split at h <;> simp_all
    subst h; cases hx; cases hy; simp [Op.equalIn, hu, natsOf_beq, beq_toListBytes]
theorem cellsEq_len : ∀ {ks : List CK} {xs ys : List AV} {b : Bool}, cellsEq ks xs ys = some b → xs.length = ys.length → True := fun _ _ => trivial
theorem cellsEq_append {ks js : List CK} {xs ys xs' ys' : List AV} (hx : xs.length = ks.length) (hy : ys.length = ks.length) :
    cellsEq (ks ++ js) (xs ++ xs') (ys ++ ys') = match cellsEq ks xs ys with | some true => cellsEq js xs' ys' | r => r := by
  induction ks generalizing xs ys with
  | nil => cases xs <;> cases ys <;> simp_all [cellsEq]
  | cons k ks ih =>
    cases xs with
    | nil => simp at hx
    | cons x xs =>
      cases ys with
      | nil => simp at hy
      | cons y ys =>
        simp only [List.cons_append, cellsEq]
        cases cellEq k x y with
        | none => rfl
        | some b => cases b with
          | false => rfl
          | true => exact ih (by simpa using hx) (by simpa using hy)
/-- The cells of a value of type t, from 'off' on. -/
def EqAt (P : Program) (t : TypeId) (ks : List CK) (d : Nat) : Prop :=
  tySize P t = some ks.length ∧
  ∀ (φ : Pl) (D : Nat), d ≤ D → ∀ (vs us : Array Value) (off : Nat) (xs ys : List AV) (b : Bool) (w : World), LRel φ xs ((vs.toList.drop off).take ks.length) → LRel φ ys ((us.toList.drop off).take ks.length) →
    xs.length = ks.length → ys.length = ks.length → cellsEq ks xs ys = some b →
    ∃ v u, (part t vs off).run P w = .ok v w ∧ (part t us off).run P w = .ok u w ∧ (Op.equalIn D t v u).run P w = .ok b w
theorem eqAt_scalar {t : TypeId} {k : CK} (hk : ckOf P t = some k) (hs : tySize P t = some 1) (d : Nat) : EqAt P t [k] (d + 1) := by
  refine ⟨hs, fun φ D hD vs us off xs ys b w hx hy hxl hyl h => ?_⟩
  obtain ⟨D, rfl⟩ : ∃ n, D = n + 1 := ⟨D - 1, by omega⟩
  match xs, ys, hxl, hyl with
  | [x], [y], _, _ =>
    have hag : tyAgg P t = some none := by
      unfold ckOf at hk; unfold tyAgg
      split at hk <;> simp_all
    have gx : ∃ v, vs[off]? = some v ∧ VRel φ x v := by
      obtain ⟨v, h1, h2⟩ := hx.getE (i := 0) rfl
      simp at h1; exact ⟨v, h1, h2⟩
    have gy : ∃ v, us[off]? = some v ∧ VRel φ y v := by
      obtain ⟨v, h1, h2⟩ := hy.getE (i := 0) rfl
      simp at h1; exact ⟨v, h1, h2⟩
    obtain ⟨v, hv, rv⟩ := gx
    obtain ⟨u, hu, ru⟩ := gy
    have hb : cellEq k x y = some b := by
      simp only [cellsEq] at h
      cases hc : cellEq k x y with
      | none => simp [hc] at h
      | some c => cases c <;> simp_all
    exact ⟨v, u, by simp [part, run_isAgg_none hag, hv], by simp [part, run_isAgg_none hag, hu], cellEq_sound hk rv ru hb D w⟩
theorem fieldsOf_sound {d : Nat} (sub : TypeId → Option (List CK)) (hsub : ∀ t ks, sub t = some ks → EqAt P t ks d) : ∀ (fs : List Field) (off : Nat) (ks : List CK), fieldsOf sub fs off = some ks →
    ∀ (φ : Pl) (D : Nat), d ≤ D → ∀ (vs us : Array Value) (xs ys : List AV) (b : Bool) (w : World), LRel φ xs ((vs.toList.drop off).take ks.length) → LRel φ ys ((us.toList.drop off).take ks.length) →
      xs.length = ks.length → ys.length = ks.length → cellsEq ks xs ys = some b → (Op.eqFields D vs us fs).run P w = .ok b w
  | [], off, ks, h, φ, D, _, vs, us, xs, ys, b, w, _, _, hx, hy, he => by
    simp [fieldsOf] at h; subst h
    match xs, ys, hx, hy with
    | [], [], _, _ => simp [cellsEq] at he; subst he; simp [Op.eqFields]
  | f :: fs, off, ks, h, φ, D, hD, vs, us, xs, ys, b, w, rx, ry, hx, hy, he => by
    simp only [fieldsOf] at h
    split at h
    · rename_i hn
      obtain ⟨hn1, rfl⟩ := hn
      split at h
      · cases h
      · rename_i k1 hk1
        cases hr : fieldsOf sub fs (f.offset + k1.length) with
        | none => simp [hr] at h
        | some k2 =>
          simp [hr] at h; subst h
          have hd := hsub _ _ hk1
          have ex : xs = xs.take k1.length ++ xs.drop k1.length := (List.take_append_drop _ _).symm
          have ey : ys = ys.take k1.length ++ ys.drop k1.length := (List.take_append_drop _ _).symm
          have lx : (xs.take k1.length).length = k1.length := by simp at hx ⊢; omega
          have ly : (ys.take k1.length).length = k1.length := by simp at hy ⊢; omega
          have r1 : LRel φ (xs.take k1.length) ((vs.toList.drop f.offset).take k1.length) := by
            have := rx.take k1.length
            rwa [List.take_take, Nat.min_eq_left (by simp)] at this
          have r2 : LRel φ (ys.take k1.length) ((us.toList.drop f.offset).take k1.length) := by
            have := ry.take k1.length
            rwa [List.take_take, Nat.min_eq_left (by simp)] at this
          have r3 : LRel φ (xs.drop k1.length) ((vs.toList.drop (f.offset + k1.length)).take k2.length) := by
            have := rx.drop k1.length
            rwa [List.drop_take, List.drop_drop, List.length_append, Nat.add_sub_cancel_left] at this
          have r4 : LRel φ (ys.drop k1.length) ((us.toList.drop (f.offset + k1.length)).take k2.length) := by
            have := ry.drop k1.length
            rwa [List.drop_take, List.drop_drop, List.length_append, Nat.add_sub_cancel_left] at this
          rw [ex, ey, cellsEq_append lx ly] at he
          cases hc : cellsEq k1 (xs.take k1.length) (ys.take k1.length) with
          | none => simp [hc] at he
          | some c =>
            obtain ⟨v, u, p1, p2, p3⟩ := hd.2 φ D hD vs us f.offset _ _ c w r1 r2 lx ly hc
            simp only [Op.eqFields, hn1, ne_eq, not_false_eq_true, if_true, Sem.run_bind, p1, p2, p3, Result.andThen_ok]
            cases c with
            | false => simp [hc] at he; subst he; simp
            | true =>
              simp only [hc] at he
              simp only [Bool.not_true, Bool.false_eq_true, if_false]
              exact fieldsOf_sound sub hsub fs (f.offset + k1.length) k2 hr φ D hD vs us _ _ b w r3 r4 (by simp at hx ⊢; omega) (by simp at hy ⊢; omega) he
    · cases h
theorem flatOf_sound : ∀ (d : Nat) (t : TypeId) (ks : List CK), flatOf P d t = some ks → EqAt P t ks d
  | 0, t, ks, h => by simp [flatOf] at h
  | d + 1, t, ks, h => by
    simp only [flatOf] at h
    split at h
    · rename_i fs hu
      split at h
      · cases h
      · rename_i hst
        split at h
        · rename_i k1 hf
          split at h
          · rename_i hsz
            cases h
            refine ⟨hsz, fun φ D hD vs us off xs ys b w rx ry hx hy he => ?_⟩
            obtain ⟨D, rfl⟩ : ∃ n, D = n + 1 := ⟨D - 1, by omega⟩
            have hag : tyAgg P t = some (some ks.length) := by
              unfold tySize at hsz; unfold tyAgg
              rw [hu]; cases hi : P.info? t <;> simp_all
            have ha := run_isAgg_some hag
            refine ⟨.agg (vs.extract off (off + ks.length)), .agg (us.extract off (off + ks.length)), by simp [part, (ha w).1, run_sizeOf hsz], by simp [part, (ha w).1, run_sizeOf hsz], ?_⟩
            have hst' : P.stoodInHeld t = false := by simpa using hst
            have hfs : P.fieldsOf t = fs := by simp [Program.fieldsOf, hu]
            rw [run_equalIn_struct w D t _ _ (by rw [hfs]; exact hu) hst', hfs]
            refine fieldsOf_sound (flatOf P d) (fun t ks h => flatOf_sound d t ks h) fs.toList 0 ks hf φ D (by omega) _ _ xs ys b w ?_ ?_ hx hy he
            · simpa [List.take_take] using rx
            · simpa [List.take_take] using ry
          · cases h
        · cases h
    · rename_i n e hu
      split at h
      · rename_i k1 hf
        split at h
        · rename_i hsz
          cases h
          have hle : ((List.replicate n k1).flatten).length = n * k1.length := by simp
          refine ⟨by rw [hle]; exact hsz.2, fun φ D hD vs us off xs ys b w rx ry hx hy he => ?_⟩
          obtain ⟨D, rfl⟩ : ∃ n, D = n + 1 := ⟨D - 1, by omega⟩
          have hsz2 : tySize P t = some ((List.replicate n k1).flatten).length := by rw [hle]; exact hsz.2
          have hag : tyAgg P t = some (some ((List.replicate n k1).flatten).length) := by
            unfold tySize at hsz2; unfold tyAgg
            rw [hu]; cases hi : P.info? t <;> simp_all
          have ha := run_isAgg_some hag
          refine ⟨.agg (vs.extract off (off + ((List.replicate n k1).flatten).length)), .agg (us.extract off (off + ((List.replicate n k1).flatten).length)), by simp [part, (ha w).1, run_sizeOf hsz2], by simp [part, (ha w).1, run_sizeOf hsz2], ?_⟩
          simp only [Op.equalIn, Sem.run_bind, run_underlying, hu, Result.andThen_ok, run_sizeOf hsz.1, Std.Legacy.Range.forIn_eq_forIn_range', Std.Legacy.Range.size, Nat.sub_zero, Nat.add_sub_cancel, Nat.div_one]
          have ih := flatOf_sound d e k1 hf
          have key : ∀ (m i : Nat) (xs ys : List AV) (b : Bool) (VS US : Array Value), LRel φ xs ((VS.toList.drop (i * k1.length)).take (m * k1.length)) → LRel φ ys ((US.toList.drop (i * k1.length)).take (m * k1.length)) →
              xs.length = m * k1.length → ys.length = m * k1.length → cellsEq (List.replicate m k1).flatten xs ys = some b →
              ∀ (Z : Option Bool × Unit → Sem Bool), Z (none, ()) = pure true → Z (some false, ()) = pure false →
              ((forIn (List.range' i m 1) ((none, ()) : Option Bool × Unit) (fun i r => (do
                let __do_lift ← part e VS (i * k1.length)
                let __do_lift_1 ← part e US (i * k1.length)
                let __do_lift ← Op.equalIn D e __do_lift __do_lift_1
                if (!__do_lift) = true then pure (ForInStep.done (some false, ())) else
                    pure (ForInStep.yield (none, ())) : Sem (ForInStep (Option Bool × Unit)))) : Sem (Option Bool × Unit)).run P w).andThen (fun a w' => (Z a).run P w') = .ok b w := by
            intro m
            induction m with
            | zero =>
              intro i xs ys b VS US _ _ hx hy he Z z1 _
              simp at hx hy; subst hx; subst hy
              simp [cellsEq] at he; subst he
              simp [z1]
            | succ m ihm =>
              intro i xs ys b VS US rx ry hx hy he Z z1 z2
              have hmul : (m + 1) * k1.length = k1.length + m * k1.length := by rw [Nat.add_mul]; omega
              rw [hmul] at rx ry hx hy
              have ex : xs = xs.take k1.length ++ xs.drop k1.length := (List.take_append_drop _ _).symm
              have ey : ys = ys.take k1.length ++ ys.drop k1.length := (List.take_append_drop _ _).symm
              have lx : (xs.take k1.length).length = k1.length := by simp; omega
              have ly : (ys.take k1.length).length = k1.length := by simp; omega
              have r1 : LRel φ (xs.take k1.length) ((VS.toList.drop (i * k1.length)).take k1.length) := by
                have := rx.take k1.length
                rwa [List.take_take, Nat.min_eq_left (by omega)] at this
              have r2 : LRel φ (ys.take k1.length) ((US.toList.drop (i * k1.length)).take k1.length) := by
                have := ry.take k1.length
                rwa [List.take_take, Nat.min_eq_left (by omega)] at this
              have hi1 : (i + 1) * k1.length = i * k1.length + k1.length := by rw [Nat.add_mul]; omega
              have r3 : LRel φ (xs.drop k1.length) ((VS.toList.drop ((i + 1) * k1.length)).take (m * k1.length)) := by
                have := rx.drop k1.length
                rwa [List.drop_take, List.drop_drop, Nat.add_sub_cancel_left, ← hi1] at this
              have r4 : LRel φ (ys.drop k1.length) ((US.toList.drop ((i + 1) * k1.length)).take (m * k1.length)) := by
                have := ry.drop k1.length
                rwa [List.drop_take, List.drop_drop, Nat.add_sub_cancel_left, ← hi1] at this
              rw [List.replicate_succ, List.flatten_cons, ex, ey, cellsEq_append lx ly] at he
              cases hc : cellsEq k1 (xs.take k1.length) (ys.take k1.length) with
              | none => simp [hc] at he
              | some c =>
                obtain ⟨v, u, p1, p2, p3⟩ := ih.2 φ D (by omega) VS US _ _ _ c w r1 r2 lx ly hc
                simp only [List.range'_succ, List.forIn_cons, Sem.run_bind, p1, p2, p3, Result.andThen_ok]
                cases c with
                | false => simp [hc] at he; subst he; simp [z2]
                | true =>
                  simp only [hc] at he
                  have := ihm (i + 1) _ _ b VS US r3 r4 (by simp; omega) (by simp; omega) he Z z1 z2
                  simpa using this
          have := key n 0 xs ys b (vs.extract off (off + ((List.replicate n k1).flatten).length)) (us.extract off (off + ((List.replicate n k1).flatten).length)) (by
              have e : n * k1.length = ((List.replicate n k1).flatten).length := hle.symm
              rw [e]; simpa [List.take_take] using rx) (by
              have e : n * k1.length = ((List.replicate n k1).flatten).length := hle.symm
              rw [e]; simpa [List.take_take] using ry) (by rw [hx, hle]) (by rw [hy, hle]) he
          refine Eq.trans ?_ (this (fun r => match r.fst with | none => pure true | some a => pure a) rfl rfl)
          congr 1
          funext a w'
          rcases a with ⟨_ | _, _⟩ <;> rfl
        · cases h
      · cases h
    · split at h
      · rename_i k hk
        split at h
        · rename_i hs; cases h; exact eqAt_scalar hk hs d
        · cases h
      · cases h
end Go.AI
