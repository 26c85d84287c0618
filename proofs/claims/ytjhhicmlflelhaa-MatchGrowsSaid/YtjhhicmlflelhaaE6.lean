/- Operations that take no memory do what their abstract ones do, continued. No claim by itself. -/
import Derived.Test.YtjhhicmlflelhaaE5
namespace Go.AI
variable {P : Program}
theorem bin_int {φ : Pl} {op : BinOp} {k k' : IntKind} {n m : Int} {d : EqD} {r : AV} (t : TypeId) (h : binA op d (.int k n) (.int k' m) = some r) (w : World) :
    ∃ z, (binOp op t (.int k n) (.int k' m)).run P w = .ok z w ∧ VRel φ r z := by
  cases op
  case shl =>
    simp only [binA] at h; split at h
    · cases h
    · rename_i hn; cases h; exact ⟨_, by simp only [binOp, Op.shift, if_neg hn]; rfl, .int _ _⟩
  case shr =>
    simp only [binA] at h; split at h
    · cases h
    · rename_i hn; cases h; exact ⟨_, by simp only [binOp, Op.shift, if_neg hn]; rfl, .int _ _⟩
  case quo =>
    simp only [binA] at h
    split at h
    · rename_i hk; subst hk
      split at h
      · cases h
      · rename_i hn; cases h; exact ⟨_, by simp only [binOp, ne_eq, not_true_eq_false, if_false, Op.intDiv, if_neg hn]; rfl, .int _ _⟩
    · cases h
  case rem =>
    simp only [binA] at h
    split at h
    · rename_i hk; subst hk
      split at h
      · cases h
      · rename_i hn; cases h; exact ⟨_, by simp only [binOp, ne_eq, not_true_eq_false, if_false, Op.intDiv, if_neg hn]; rfl, .int _ _⟩
    · cases h
  all_goals
    simp only [binA] at h
    split at h
    · rename_i hk; subst hk
      cases h; exact ⟨_, by simp only [binOp, ne_eq, not_true_eq_false, if_false, Op.intArith, Op.intBits, Op.intCmp]; rfl, by constructor⟩
    · cases h
theorem bin_str {φ : Pl} {op : BinOp} {s s' : ByteArray} {d : EqD} {r : AV} (t : TypeId) (h : binA op d (.str (natsOf s)) (.str (natsOf s')) = some r) (w : World) :
    ∃ z, (binOp op t (.string s) (.string s')).run P w = .ok z w ∧ VRel φ r z := by
  cases op <;> simp only [binA, natsOf_beq, natsOf_less, natsOf_len] at h <;> first | (cases h; done) | skip
  case add =>
    split at h
    · cases h
    · rename_i hn; cases h
      rw [← natsOf_append]
      exact ⟨_, by simp only [binOp, Op.stringOp, if_neg hn]; rfl, .str _⟩
  all_goals (cases h; exact ⟨_, by simp only [binOp, Op.stringOp]; rfl, by constructor⟩)
theorem bin_sound {φ : Pl} {a b : AV} {v u : Value} {op : BinOp} {t : TypeId} {r : AV} (hx : VRel φ a v) (hy : VRel φ b u) (x y : Operand) (h : binA op (eqDOf P t) a b = some r) (w : World) :
    ∃ z, ((do eqGuard op t x y v u; binOp op t v u) : Sem Value).run P w = .ok z w ∧ VRel φ r z := by
  have hg : ∀ cs ds, a = .agg cs → b = .agg ds → (op = .eql ∨ op = .neq) → P.eqGuardType P.depth t = false := by
    intro cs ds e1 e2 ho
    subst e1; subst e2
    rcases ho with rfl | rfl <;> simp only [binA] at h
    · cases he : eqA (eqDOf P t) (.agg cs) (.agg ds) with
      | none => simp [he] at h
      | some q => exact (eqA_sound hx hy he 9999 (by omega) w).2 cs ds rfl rfl
    · cases he : eqA (eqDOf P t) (.agg cs) (.agg ds) with
      | none => simp [he] at h
      | some q => exact (eqA_sound hx hy he 9999 (by omega) w).2 cs ds rfl rfl
  simp only [Sem.run_bind, eqGuard_ok hx hy op t x y hg w, Result.andThen_ok]
  by_cases hi : ∃ k n k' n', a = .int k n ∧ b = .int k' n'
  · obtain ⟨k, n, k', n', rfl, rfl⟩ := hi
    cases hx; cases hy; exact bin_int t h w
  · by_cases hs : ∃ s s', a = .str s ∧ b = .str s'
    · obtain ⟨s, s', rfl, rfl⟩ := hs
      cases hx; cases hy; exact bin_str t h w
    · have h1 : binA op (eqDOf P t) a b = (match op with | .eql => (eqA (eqDOf P t) a b).map .bool | .neq => (eqA (eqDOf P t) a b).map fun b => .bool !b | _ => none) := by
        unfold binA
        split
        · exact absurd ⟨_, _, _, _, rfl, rfl⟩ hi
        · exact absurd ⟨_, _, _, _, rfl, rfl⟩ hi
        · exact absurd ⟨_, _, _, _, rfl, rfl⟩ hi
        · exact absurd ⟨_, _, rfl, rfl⟩ hs
        · rfl
        · rfl
        · cases op <;> first | rfl | exact (‹BinOp.eql = BinOp.eql → False› rfl).elim | exact (‹BinOp.neq = BinOp.neq → False› rfl).elim
      rw [h1] at h
      have h2 : (op = .eql → binOp op t v u = (do pure (.bool (← Op.equal t v u)))) ∧ (op = .neq → binOp op t v u = (do pure (.bool (!(← Op.equal t v u))))) := by
        constructor
        · rintro rfl
          cases hx <;> cases hy <;> first | rfl | exact absurd ⟨_, _, _, _, rfl, rfl⟩ hi | exact absurd ⟨_, _, rfl, rfl⟩ hs
        · rintro rfl
          cases hx <;> cases hy <;> first | rfl | exact absurd ⟨_, _, _, _, rfl, rfl⟩ hi | exact absurd ⟨_, _, rfl, rfl⟩ hs
      cases op <;> simp only at h <;> first | (cases h; done) | skip
      · cases he : eqA (eqDOf P t) a b with
        | none => simp [he] at h
        | some q =>
          simp [he] at h; subst h
          exact ⟨_, by rw [h2.1 rfl]; simp only [Sem.run_bind, equal_sound hx hy he w, Result.andThen_ok]; rfl, .bool _⟩
      · cases he : eqA (eqDOf P t) a b with
        | none => simp [he] at h
        | some q =>
          simp [he] at h; subst h
          exact ⟨_, by rw [h2.2 rfl]; simp only [Sem.run_bind, equal_sound hx hy he w, Result.andThen_ok]; rfl, .bool _⟩
theorem un_sound {φ : Pl} {a : AV} {v : Value} {op : UnOp} {r : AV} (hx : VRel φ a v) (h : unA op a = some r) (w : World) : ∃ z, (Op.unary op v).run P w = .ok z w ∧ VRel φ r z := by
  unfold unA at h
  split at h
  · cases hx; cases h; exact ⟨_, rfl, .int _ _⟩
  · cases hx; cases h; exact ⟨_, rfl, .int _ _⟩
  · cases hx; cases h; exact ⟨_, rfl, .bool _⟩
  · cases h
/-! ### Build -/
theorem foldl_set {n : Nat} : ∀ (vs : List Value) (cs : Array Value) (off i : Nat), off + i + vs.length ≤ cs.size → i = n →
    ((vs.zipIdx i).foldl (fun cs (c, j) => cs.setIfInBounds (off + j) c) cs).toList = cs.toList.take (off + i) ++ vs ++ cs.toList.drop (off + i + vs.length)
  | [], cs, off, i, _, _ => by simp
  | v :: vs, cs, off, i, h, _ => by
    simp only [List.length_cons] at h
    have hlt : off + i < cs.toList.length := by simp; omega
    rw [List.zipIdx_cons, List.foldl_cons, foldl_set (n := i + 1) vs _ off (i + 1) (by simp; omega) rfl]
    have e : off + (i + 1) = off + i + 1 := by omega
    rw [e, Array.toList_setIfInBounds, take_set_succ _ _ _ hlt, List.drop_set_of_lt (by omega)]
    simp [Nat.add_assoc, Nat.add_comm 1]
theorem fill_sound {φ : Pl} {e : Opd → AV} {ρ : Operand → Value} {place : Nat → Option (Nat × Nat)} : ∀ (parts : List (Nat × Operand)) (ps : List (Nat × Nat × Opd)) (cs : List AV) (vs : Array Value) (r : List AV),
    cparts place parts = some ps → XRel φ e ρ (parts.map (·.2)) → LRel φ cs vs.toList → fillA e cs ps = some r →
    ∃ us, Instr.fill place vs (parts.map fun (i, x) => (i, ρ x)) = some us ∧ LRel φ r us.toList
  | [], ps, cs, vs, r, h, _, hl, hf => by
    simp [cparts] at h; subst h; simp [fillA] at hf; subst hf
    exact ⟨vs, by simp [Instr.fill], hl⟩
  | (i, x) :: parts, ps, cs, vs, r, h, hx, hl, hf => by
    simp only [cparts] at h
    split at h
    · rename_i off size y hp hy
      cases hc : cparts place parts with
      | none => simp [hc] at h
      | some qs =>
        simp [hc] at h; subst h
        simp only [fillA] at hf
        cases hb : (Nat.beq (e y).cells.length size && Nat.ble (off + size) cs.length && allOne (e y).cells) with
        | false => simp [hb] at hf
        | true =>
          simp only [hb, cond_true] at hf
          simp only [Bool.and_eq_true, Tr.nbeq, decide_eq_true_eq, Nat.ble_eq] at hb
          obtain ⟨⟨b1, b2⟩, b3⟩ := hb
          have hr := (hx x (by simp) y hy).cells b3
          have hlen : (ρ x).cells.size = size := by rw [← b1, hr.len]; simp
          have hsz : off + size ≤ vs.size := by have := hl.len; simp at this; omega
          have hfold : ((ρ x).cells.zipIdx.foldl (fun cs (c, j) => cs.setIfInBounds (off + j) c) vs).toList = vs.toList.take off ++ (ρ x).cells.toList ++ vs.toList.drop (off + (ρ x).cells.toList.length) := by
            have := foldl_set (n := 0) (ρ x).cells.toList vs off 0 (by simp [hlen]; omega) rfl
            rw [← Array.foldl_toList]
            simpa [Array.toList_zipIdx] using this
          have hset : LRel φ (setSeg cs off (e y).cells) ((ρ x).cells.zipIdx.foldl (fun cs (c, j) => cs.setIfInBounds (off + j) c) vs).toList := by
            rw [hfold]; exact hl.setSeg hr off
          obtain ⟨us, g1, g2⟩ := fill_sound parts qs _ _ r hc (fun z hz => hx z (by simp at hz ⊢; exact .inr hz)) hset hf
          refine ⟨us, ?_, g2⟩
          simp only [List.map_cons, Instr.fill, hp]
          rw [if_neg (by simp [hlen]; omega)]
          exact g1
    · cases h
theorem placesOf_run (w : World) : ∀ (fs : List Field) (pl : List (Nat × Nat)), placesOf P fs = some pl →
    (fs.mapM (fun f => do pure (f.offset, ← sizeOf f.type) : Field → Sem (Nat × Nat))).run P w = .ok pl w
  | [], pl, h => by simp [placesOf] at h; subst h; simp
  | f :: fs, pl, h => by
    simp only [placesOf] at h
    split at h
    · cases h
    · rename_i n hn
      cases hp : placesOf P fs with
      | none => simp [hp] at h
      | some l =>
        simp [hp] at h; subst h
        have := placesOf_run w fs l hp
        simp [List.mapM_cons, run_sizeOf hn] at this ⊢
        simp [this]
theorem build_struct {φ : Pl} {e : Opd → AV} {ρ : Operand → Value} {t : TypeId} {fs : Array Field} {z : AV} {pl : List (Nat × Nat)} {parts : Array (Nat × Operand)} {ps : List (Nat × Nat × Opd)} {r : List AV}
    (ht : P.underlying t = some (.struct fs)) (hz : tyZero P t = some z) (hz1 : allOne z.cells = true) (hp : placesOf P fs.toList = some pl) (hc : cparts (fun i => pl[i]?) parts.toList = some ps) (hx : XRel φ e ρ (parts.toList.map (·.2)))
    (hf : fillA e z.cells ps = some r) (w : World) : ∃ v, (Instr.build t (parts.map fun (i, x) => (i, ρ x))).run P w = .ok v w ∧ VRel φ (.agg r) v := by
  obtain ⟨zv, rz, _, hzr⟩ := run_zeroValue hz φ
  obtain ⟨us, g1, g2⟩ := fill_sound parts.toList ps z.cells zv.cells r hc hx (rz.cells hz1) hf
  refine ⟨.agg us, ?_, .agg _ _ g2⟩
  have hm := placesOf_run w fs.toList pl hp
  have hfun : (fun x : Nat => pl.toArray[x]?) = fun i => pl[i]? := by funext i; simp
  simp only [Instr.build, Sem.run_bind, hzr, Result.andThen_ok, run_underlying, ht, Array.mapM_eq_mapM_toList, Sem.run_map, hm, Array.toList_map]
  rw [hfun, g1]
  rfl
theorem build_array {φ : Pl} {e : Opd → AV} {ρ : Operand → Value} {t el : TypeId} {k n : Nat} {z : AV} {parts : Array (Nat × Operand)} {ps : List (Nat × Nat × Opd)} {r : List AV}
    (ht : P.underlying t = some (.array k el)) (hz : tyZero P t = some z) (hz1 : allOne z.cells = true) (hn : tySize P el = some n) (hc : cparts (fun i => some (i * n, n)) parts.toList = some ps) (hx : XRel φ e ρ (parts.toList.map (·.2)))
    (hf : fillA e z.cells ps = some r) (w : World) : ∃ v, (Instr.build t (parts.map fun (i, x) => (i, ρ x))).run P w = .ok v w ∧ VRel φ (.agg r) v := by
  obtain ⟨zv, rz, _, hzr⟩ := run_zeroValue hz φ
  obtain ⟨us, g1, g2⟩ := fill_sound parts.toList ps z.cells zv.cells r hc hx (rz.cells hz1) hf
  refine ⟨.agg us, ?_, .agg _ _ g2⟩
  simp only [Instr.build, Sem.run_bind, hzr, Result.andThen_ok, run_underlying, ht, run_sizeOf hn, Array.toList_map]
  rw [g1]
  rfl
end Go.AI
