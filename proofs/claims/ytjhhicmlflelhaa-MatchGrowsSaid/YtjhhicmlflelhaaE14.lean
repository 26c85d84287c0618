/- Operations that write do what their abstract ones do, concluded. No claim by itself. -/
import Derived.Test.YtjhhicmlflelhaaE13
namespace Go.AI
variable {P : Program}
theorem srcN_sound {B W Z : Nat} {φ : Pl} {H : Heap} {w : World} {e m n : Nat} {y : AV} {v : Value} {cs : List AV} (hH : HRel B W Z φ H w) (hy : VRel φ y v) (h : srcN e H m y = some (n, cs)) :
    ∃ k, (Builtin.lenOf v).run P w = .ok k w ∧ n = Nat.min k m ∧ ∃ vs : List Value, (Builtin.firstCells e n v).run P w = .ok vs.toArray w ∧ LRel φ cs vs := by
  unfold srcN at h
  split at h
  · cases h; cases hy; exact ⟨0, by simp [Builtin.lenOf], by simp [Nat.min_def], [], by simp [Builtin.firstCells], .nil⟩
  · rename_i o off len e' lo ex
    cases hb : Nat.beq e e' with
    | false => simp [hb] at h
    | true =>
      have := Nat.eq_of_beq_eq_true hb; subst this
      simp only [hb, cond_true] at h
      cases hr : H.readSeg o off (Nat.min len m * e) with
      | none => simp [hr] at h
      | some xs =>
        simp [hr] at h; obtain ⟨rfl, rfl⟩ := h
        obtain ⟨a, cap, vs, rfl, g1, g2⟩ := slice_cells (P := P) hH hy (Nat.mul_le_mul_right _ (Nat.min_le_left _ _)) hr
        exact ⟨len, by simp [Builtin.lenOf], rfl, vs, by simp only [Builtin.firstCells]; exact g1, g2⟩
  · cases hb : Nat.beq e 1 with
    | false => simp [hb] at h
    | true =>
      have := Nat.eq_of_beq_eq_true hb; subst this
      simp only [hb, cond_true] at h; cases h
      cases hy with
      | str b =>
        refine ⟨b.size, by simp [Builtin.lenOf], by rw [natsOf_len], ((b.extract 0 (Nat.min (natsOf b).length m)).data.map fun b => .int .u8 b.toNat).toList, by simp only [Builtin.firstCells, Sem.run_pure, Array.toArray_toList], ?_⟩
        have e1 := natsOf_extract b 0 (Nat.min (natsOf b).length m)
        simp only [List.drop_zero, Nat.sub_zero] at e1
        rw [← e1]
        simp only [natsOf, List.map_map, Array.toList_map]
        exact LRel.mapL _ _ _ fun x _ => .int _ _
  · cases h
theorem copy_sound {B W Z : Nat} {φ : Pl} {H H' : Heap} {w : World} {t u el ty : TypeId} {e : Nat} {x y a : AV} {xv yv : Value}
    (hH : HRel B W Z φ H w) (ht : P.underlying t = some (.slice el)) (he : tySize P el = some e) (hx : VRel φ x xv) (hy : VRel φ y yv) (h : copyA e H x y = some (a, H')) :
    ∃ v w', (Builtin.copy_ #[t, u] ty #[xv, yv]).run P w = .ok v w' ∧ VRel φ a v ∧ HRel B W Z φ H' w' ∧ Step φ H w φ H' w' := by
  have e0 : (#[t, u] : Array TypeId)[0]? = some t := rfl
  have e2 : ∀ v : Value, (#[v, yv] : Array Value)[0]? = some v := fun _ => rfl
  have e3 : ∀ v : Value, (#[v, yv] : Array Value)[1]? = some yv := fun _ => rfl
  unfold copyA at h
  split at h
  · cases hs : srcN e H 0 y with
    | none => simp [hs] at h
    | some q =>
      obtain ⟨n, cs⟩ := q
      simp [hs] at h; obtain ⟨rfl, rfl⟩ := h
      obtain ⟨k, g1, g2, vs, g3, g4⟩ := srcN_sound (P := P) hH hy hs
      cases hx
      have hn : n = 0 := by rw [g2]; simp [Nat.min_def]
      refine ⟨.int .i64 0, w, ?_, .int _ _, hH, Step.refl _ _ _⟩
      have g2' : Nat.min k 0 = n := g2.symm
      rw [hn] at g2' g3
      simp only [Builtin.copy_, e0, e2, e3, Sem.run_bind, run_underlying, ht, Result.andThen_ok, g1, run_sizeOf he, Sem.run_pure, g2', g3, goInt]
      rfl
  · rename_i o off len e' lo ex
    cases hee : Nat.beq e e' with
    | false => simp [hee] at h
    | true =>
      have := Nat.eq_of_beq_eq_true hee; subst this
      simp only [hee, cond_true] at h
      split at h
      · cases h
      rename_i n cs hs
      obtain ⟨k, g1, g2, vs, g3, g4⟩ := srcN_sound (P := P) hH hy hs
      have run : ∀ (a0 : Addr) (cap : Nat) (w' : World), (storeCells a0 vs).run P w = .ok () w' → (Builtin.copy_ #[t, u] ty #[.slice (some a0) len cap, yv]).run P w = .ok (.int .i64 n) w' := by
        intro a0 cap w' hst
        have g2' : Nat.min k len = n := g2.symm
        simp only [Builtin.copy_, e0, e2, e3, Sem.run_bind, run_underlying, ht, Result.andThen_ok, g1, run_sizeOf he, Sem.run_pure, g2', g3, goInt, hst]
      cases hz : Nat.beq cs.length 0 with
      | true =>
        simp only [hz, cond_true] at h; cases h
        have : cs = [] := List.length_eq_zero_iff.1 (Nat.eq_of_beq_eq_true hz)
        subst this
        cases g4
        have hsl : ∃ a0 cap, xv = .slice (some a0) len cap := by cases hx <;> exact ⟨_, _, rfl⟩
        obtain ⟨a0, cap, rfl⟩ := hsl
        exact ⟨_, w, run a0 cap w (by simp [storeCells]), .int _ _, hH, Step.refl _ _ _⟩
      | false =>
        simp only [hz, cond_false] at h
        cases hw : H.writeSeg o off cs with
        | none => simp [hw] at h
        | some H2 =>
          simp [hw] at h; obtain ⟨rfl, rfl⟩ := h
          cases hx with
          | slc _ _ _ _ _ _ L cap hL a1 a2 a3 a4 =>
            obtain ⟨w', k1, k2, k3⟩ := writeSeg_sound (P := P) hH hL hw g4
            exact ⟨_, w', run _ cap w' k1, .int _ _, k2, k3⟩
          | slc0 _ _ _ _ a0 =>
            exfalso
            have hn0 : n = 0 := by rw [g2]; simp [Nat.min_def]
            subst hn0
            have : vs = [] := by
              have hk : ∀ v, (Builtin.firstCells e 0 v).run P w = .ok vs.toArray w → vs = [] := by
                intro v hv
                cases v <;> simp [Builtin.firstCells] at hv
                · exact hv
                · rename_i a b c
                  cases a <;> simp [Builtin.firstCells, loadCells, loadCellsFrom] at hv
                  · exact hv
                  · exact hv
              exact hk _ g3
            subst this
            cases g4
            simp at hz
  · cases h
/-! ### Maps -/
theorem eqA_same {d : EqD} {k x : AV} (hp : plainKey d k = true) (h : eqA d k x = some true) : k = x := by
  have cell : ∀ (c : CK) (a b : AV), cellEq c a b = some true → a = b := by
    intro c a b h
    unfold cellEq at h
    split at h <;> first | (cases h; done) | skip
    · split at h
      · rename_i hk; subst hk; simp at h; rw [h]
      · cases h
    · simp at h; rw [h]
    · simp at h; rw [h]
  have cells : ∀ (ks : List CK) (a b : List AV), cellsEq ks a b = some true → a = b := by
    intro ks
    induction ks with
    | nil => intro a b h; cases a <;> cases b <;> simp_all [cellsEq]
    | cons c ks ih =>
      intro a b h
      cases a <;> cases b <;> simp only [cellsEq] at h <;> first | (cases h; done) | skip
      rename_i x xs y ys
      cases hc : cellEq c x y with
      | none => simp [hc] at h
      | some q => cases q with
        | false => simp [hc] at h
        | true => simp only [hc] at h; rw [cell c x y hc, ih xs ys h]
  cases d <;> first | (cases k <;> simp_all [plainKey]; done) | skip
  · rename_i c; simp only [eqA] at h; exact cell c k x h
  · rename_i ks
    unfold eqA at h
    split at h <;> first | (cases h; done) | skip
    all_goals first | (rename_i e; cases e; done) | skip
    rename_i ks' xs ys e; cases e
    cases hb : (Nat.beq xs.length ks.length && Nat.beq ys.length ks.length) with
    | false => rw [hb] at h; cases h
    | true => rw [hb] at h; rw [cells ks xs ys h]
theorem findA_some {d : EqD} {k : AV} (hp : plainKey d k = true) : ∀ (es : List (AV × AV)) (i j : Nat) (v : AV), findA d k es i = some (some (j, v)) → i ≤ j ∧ es[j - i]? = some (k, v)
  | [], i, j, v, h => by simp [findA] at h
  | (x, u) :: es, i, j, v, h => by
    simp only [findA] at h
    cases he : eqA d k x with
    | none => simp [he] at h
    | some b =>
      cases b with
      | true => simp [he] at h; obtain ⟨rfl, rfl⟩ := h; rw [eqA_same hp he]; simp
      | false =>
        simp only [he] at h
        obtain ⟨q1, q2⟩ := findA_some hp es (i + 1) j v h
        refine ⟨by omega, ?_⟩
        have : j - i = (j - (i + 1)) + 1 := by omega
        rw [this]; simpa using q2
theorem ERel.get {φ : Pl} : ∀ {es : List (AV × AV)} {fs : List MapEntry}, ERel φ es fs → ∀ {i : Nat} {k v : AV}, es[i]? = some (k, v) → ∃ f, fs[i]? = some f ∧ VRel φ k f.key ∧ VRel φ v f.val
  | [], [], _, i, k, v, h => by simp at h
  | [], _ :: _, h, _, _, _, _ => by simp [ERel] at h
  | (_, _) :: _, [], h, _, _, _, _ => by simp [ERel] at h
  | (a, b) :: es, f :: fs, h, 0, k, v, e => by simp at e; obtain ⟨rfl, rfl⟩ := e; exact ⟨f, rfl, h.1, h.2.1⟩
  | (a, b) :: es, f :: fs, h, i + 1, k, v, e => by simp at e; obtain ⟨g, g1, g2⟩ := h.2.2.get e; exact ⟨g, by simpa using g1, g2⟩
theorem ERel.set {φ : Pl} {k v : AV} {g : MapEntry} (hk : VRel φ k g.key) (hv : VRel φ v g.val) : ∀ {es : List (AV × AV)} {fs : List MapEntry}, ERel φ es fs → ∀ (i : Nat), ERel φ (es.set i (k, v)) (fs.set i g)
  | [], [], _, i => by simp [ERel]
  | [], _ :: _, h, _ => by simp [ERel] at h
  | (_, _) :: _, [], h, _ => by simp [ERel] at h
  | (a, b) :: es, f :: fs, h, 0 => by simp only [List.set_cons_zero, ERel]; exact ⟨hk, hv, h.2.2⟩
  | (a, b) :: es, f :: fs, h, i + 1 => by simp only [List.set_cons_succ, ERel]; exact ⟨h.1, h.2.1, ERel.set hk hv h.2.2 i⟩
theorem ERel.snoc {φ : Pl} {k v : AV} {g : MapEntry} (hk : VRel φ k g.key) (hv : VRel φ v g.val) : ∀ {es : List (AV × AV)} {fs : List MapEntry}, ERel φ es fs → ERel φ (es ++ [(k, v)]) (fs ++ [g])
  | [], [], _ => by simp only [List.nil_append, ERel]; exact ⟨hk, hv, trivial⟩
  | [], _ :: _, h => by simp [ERel] at h
  | (_, _) :: _, [], h => by simp [ERel] at h
  | (a, b) :: es, f :: fs, h => by simp only [List.cons_append, ERel]; exact ⟨h.1, h.2.1, ERel.snoc hk hv h.2.2⟩
theorem ERel.erase {φ : Pl} : ∀ {es : List (AV × AV)} {fs : List MapEntry}, ERel φ es fs → ∀ (i : Nat), ERel φ (es.eraseIdx i) (fs.eraseIdx i)
  | [], [], _, i => by simp [ERel]
  | [], _ :: _, h, _ => by simp [ERel] at h
  | (_, _) :: _, [], h, _ => by simp [ERel] at h
  | (a, b) :: es, f :: fs, h, 0 => by simpa using h.2.2
  | (a, b) :: es, f :: fs, h, i + 1 => by simp only [List.eraseIdx_cons_succ, ERel]; exact ⟨h.1, h.2.1, ERel.erase h.2.2 i⟩
/-- A map of one's own turns. -/
theorem setMap {B W Z : Nat} {φ : Pl} {H : Heap} {w : World} {o : Nat} {L : Loc} {es es' : List (AV × AV)} {en en' : Array MapEntry} {cl : Nat} (cl' d' : Nat) (hH : HRel B W Z φ H w) (hL : φ o = some L) (he : H.get o = some (.map es)) (hf : H.floor ≤ o) (hb : w.heap[L.blk]? = some (.map en cl)) (hr : ERel φ es' en'.toList) :
    (setObj L.blk (.map en' cl')).run P { w with drawn := d' } = .ok () { w with drawn := d', heap := w.heap.setIfInBounds L.blk (.map en' cl') } ∧
    HRel B W Z φ (H.set o (.map es')) { w with drawn := d', heap := w.heap.setIfInBounds L.blk (.map en' cl') } ∧ Step φ H w φ (H.set o (.map es')) { w with drawn := d', heap := w.heap.setIfInBounds L.blk (.map en' cl') } := by
  have hlt : L.blk < w.heap.size := by
    rcases Nat.lt_or_ge L.blk w.heap.size with q | q
    · exact q
    · simp [Array.getElem?_eq_none q] at hb
  have := hH.set (w' := { w with drawn := d', heap := w.heap.setIfInBounds L.blk (.map en' cl') }) (.map es') hL he (by simp) hf rfl rfl rfl (by simp) (fun k hk => by simp [Array.getElem?_setIfInBounds, Ne.symm hk]) ⟨en', cl', by simp [hlt], hr⟩
  exact ⟨by simp [setObj, Sem.run, hb], this.1, this.2⟩
theorem getMap {w : World} {r cl d' : Nat} {en : Array MapEntry} (hb : w.heap[r]? = some (.map en cl)) : (getObj r).run P { w with drawn := d' } = .ok (.map en cl) { w with drawn := d' } := by
  simp [getObj, Sem.run, hb]
theorem keyStays (old new : Value) (w : World) : ∃ k d', (Instr.keyThatStays old new).run P w = .ok k { w with drawn := d' } ∧ (k = old ∨ k = new) := by
  unfold Instr.keyThatStays
  by_cases h : Instr.sameBits 10000 old new = true
  · exact ⟨new, w.drawn, by simp [h], .inr rfl⟩
  · simp only [h]
    by_cases h2 : Question.cut (.extern "map.whichKeyStays" 2) (w.tape w.drawn (.extern "map.whichKeyStays" 2)) = 0
    · exact ⟨new, w.drawn + 1, by simp [Question.forced, h2], .inr rfl⟩
    · exact ⟨old, w.drawn + 1, by simp [Question.forced, h2], .inl rfl⟩
theorem mapUpdate_sound {B W Z : Nat} {φ : Pl} {H : Heap} {w : World} {t kt et : TypeId} {o : Nat} {k v : AV} {mv kv vv : Value} {es : List (AV × AV)} {r : Option (Nat × AV)} (ht : P.underlying t = some (.map kt et)) (hm : VRel φ (.map o) mv) (hk : VRel φ k kv) (hv : VRel φ v vv)
    (hH : HRel B W Z φ H w) (he : H.get o = some (.map es)) (hf : H.floor ≤ o) (hp : plainKey (eqDOf P kt) k = true) (hr : findA (eqDOf P kt) k es 0 = some r) :
    ∃ w', (Instr.mapUpdate t mv kv vv).run P w = .ok () w' ∧
      HRel B W Z φ (H.set o (.map (match r with | some (i, _) => es.set i (k, v) | none => es ++ [(k, v)]))) w' ∧ Step φ H w φ (H.set o (.map (match r with | some (i, _) => es.set i (k, v) | none => es ++ [(k, v)]))) w' := by
  cases hm with
  | map _ L hL =>
    obtain ⟨en, cl, q1, q2⟩ := hH.obj o L _ hL he
    have hget := getMap (P := P) (d' := w.drawn) q1
    have hc := checkKey_sound (P := P) hk hp false w
    obtain ⟨r', g1, g2⟩ := findKey_sound (P := P) hk hp w es en.toList r q2 hr
    cases r with
    | none =>
      cases r' with
      | some q => exact g2.elim
      | none =>
        have := setMap (P := P) (cl + 1) w.drawn hH hL he hf q1 (es' := es ++ [(k, v)]) (en' := en.push { key := kv, val := vv, born := cl }) (by rw [Array.toList_push]; exact ERel.snoc hk hv q2)
        refine ⟨_, ?_, this.2.1, this.2.2⟩
        simp only [Instr.mapUpdate, Sem.run_bind, run_underlying, ht, Result.andThen_ok, hget, hc, g1]
        exact this.1
    | some ja =>
      obtain ⟨j, a⟩ := ja
      cases r' with
      | none => exact g2.elim
      | some q =>
        obtain ⟨j', v'⟩ := q
        obtain ⟨rfl, _⟩ := g2
        obtain ⟨_, hes⟩ := findA_some hp es 0 j a hr
        obtain ⟨f, hfs, hk2, _⟩ := q2.get hes
        simp only [Nat.sub_zero] at hfs
        obtain ⟨kk, d', ks1, ks2⟩ := keyStays (P := P) (((en[j]?).map (·.key)).getD kv) kv w
        have hkk : VRel φ k kk := by
          rcases ks2 with rfl | rfl
          · have : en[j]? = some f := by rw [← Array.getElem?_toList]; exact hfs
            rw [this]; exact hk2
          · exact hk
        have hmod : (en.modify j fun e => { e with key := kk, val := vv }).toList = en.toList.set j { f with key := kk, val := vv } := by
          rw [Array.toList_modify]
          have hj : j < en.toList.length := by
            rcases Nat.lt_or_ge j en.toList.length with q | q
            · exact q
            · rw [List.getElem?_eq_none q] at hfs; cases hfs
          apply List.ext_getElem?
          intro i
          rw [List.getElem?_modify, List.getElem?_set]
          by_cases hi : j = i
          · subst hi; simp [hfs]; simpa using hj
          · simp [hi]
        have := setMap (P := P) cl d' hH hL he hf q1 (es' := es.set j (k, v)) (en' := en.modify j fun e => { e with key := kk, val := vv }) (by rw [hmod]; exact ERel.set (g := { f with key := kk, val := vv }) hkk hv q2 j)
        refine ⟨_, ?_, this.2.1, this.2.2⟩
        simp only [Instr.mapUpdate, Sem.run_bind, run_underlying, ht, Result.andThen_ok, hget, hc, g1, ks1]
        exact this.1
theorem setSame {w : World} {r : Nat} {ob : Obj} (h : w.heap[r]? = some ob) : w.heap.setIfInBounds r ob = w.heap := by
  apply Array.ext
  · simp
  · intro i h1 h2
    simp only [Array.getElem_setIfInBounds h2]
    split
    · rename_i q; subst q
      rw [Array.getElem?_eq_getElem h2] at h; exact (Option.some.inj h).symm
    · rfl
theorem delete_sound {B W Z : Nat} {φ : Pl} {H : Heap} {w : World} {t u kt et ty : TypeId} {o : Nat} {k : AV} {mv kv : Value} {es : List (AV × AV)} {r : Option (Nat × AV)} (ht : P.underlying t = some (.map kt et)) (hm : VRel φ (.map o) mv) (hk : VRel φ k kv)
    (hH : HRel B W Z φ H w) (he : H.get o = some (.map es)) (hf : H.floor ≤ o) (hp : plainKey (eqDOf P kt) k = true) (hr : findA (eqDOf P kt) k es 0 = some r) :
    ∃ w', (Builtin.delete_ #[t, u] ty #[mv, kv]).run P w = .ok (.tuple #[]) w' ∧
      HRel B W Z φ (match r with | some (i, _) => H.set o (.map (es.eraseIdx i)) | none => H) w' ∧ Step φ H w φ (match r with | some (i, _) => H.set o (.map (es.eraseIdx i)) | none => H) w' := by
  have e0 : (#[t, u] : Array TypeId)[0]? = some t := rfl
  have e2 : ∀ v : Value, (#[v, kv] : Array Value)[0]? = some v := fun _ => rfl
  have e3 : ∀ v : Value, (#[v, kv] : Array Value)[1]? = some kv := fun _ => rfl
  cases hm with
  | map _ L hL =>
    obtain ⟨en, cl, q1, q2⟩ := hH.obj o L _ hL he
    have hget := getMap (P := P) (d' := w.drawn) q1
    have hc := checkKey_sound (P := P) hk hp en.isEmpty w
    obtain ⟨r', g1, g2⟩ := findKey_sound (P := P) hk hp w es en.toList r q2 hr
    cases r with
    | none =>
      cases r' with
      | some q => exact g2.elim
      | none =>
        refine ⟨{ w with heap := w.heap.setIfInBounds L.blk (.map en cl) }, ?_, ?_, ?_⟩
        · simp [Builtin.delete_, ht, hget, hc, g1, setObj, Sem.run, q1]
        · exact hH.congr (setSame q1)
        · exact Step.congr (setSame q1) rfl rfl rfl
    | some ja =>
      obtain ⟨j, a⟩ := ja
      cases r' with
      | none => exact g2.elim
      | some q =>
        obtain ⟨j', v'⟩ := q
        obtain ⟨rfl, _⟩ := g2
        have hj : j < en.size := by
          obtain ⟨_, hes⟩ := findA_some hp es 0 j a hr
          obtain ⟨f, hfs, _⟩ := q2.get hes
          rcases Nat.lt_or_ge j en.size with q | q
          · exact q
          · simp [List.getElem?_eq_none, q] at hfs
        have := setMap (P := P) cl w.drawn hH hL he hf q1 (es' := es.eraseIdx j) (en' := en.eraseIdxIfInBounds j) (by
          have : (en.eraseIdxIfInBounds j).toList = en.toList.eraseIdx j := by simp
          rw [this]; exact ERel.erase q2 j)
        refine ⟨_, ?_, this.2.1, this.2.2⟩
        simp only [Builtin.delete_, e0, e2, e3, Sem.run_bind, run_underlying, ht, Result.andThen_ok, hget, hc, g1, this.1, Sem.run_pure]
theorem next_sound {B W Z : Nat} {φ : Pl} {H : Heap} {w : World} {ty : TypeId} {o pos : Nat} {s : List Nat} {iv : Value} (hi : VRel φ (.ptr o 0) iv) (hH : HRel B W Z φ H w) (he : H.get o = some (.siter s pos)) (hf : H.floor ≤ o) :
    ∃ v w', (Instr.next iv true ty).run P w = .ok v w' ∧
      (if pos < s.length then VRel φ (.tup [.bool true, aInt pos, .int .i32 (decodeA s pos).1]) v ∧ HRel B W Z φ (H.set o (.siter s (pos + (decodeA s pos).2))) w' ∧ Step φ H w φ (H.set o (.siter s (pos + (decodeA s pos).2))) w'
       else VRel φ (.tup [.bool false]) v ∧ w' = w) := by
  cases hi with
  | ptr _ _ L hL =>
    obtain ⟨b, q1, q2, q3⟩ := hH.obj o L _ hL he
    subst q2
    have hget : (getObj L.blk).run P w = .ok (.stringIter b pos) w := by simp [getObj, Sem.run, q1]
    have hdec : decodeA (natsOf b) pos = Utf8.decode b pos := by
      unfold decodeA
      have : (⟨((natsOf b).map UInt8.ofNat).toArray⟩ : ByteArray) = b := by
        apply ByteArray.ext
        apply Array.toList_inj.1
        simp only [natsOf, List.map_map]
        have e : UInt8.ofNat ∘ UInt8.toNat = id := by funext x; simp
        rw [e]; simp
      rw [this]
    rw [natsOf_len, hdec]
    have hz : L.base + 0 = 0 := by omega
    by_cases hp : pos < b.size
    · simp only [if_pos hp]
      have hlt : L.blk < w.heap.size := by
        rcases Nat.lt_or_ge L.blk w.heap.size with q | q
        · exact q
        · simp [Array.getElem?_eq_none q] at q1
      have := hH.set (w' := { w with heap := w.heap.setIfInBounds L.blk (.stringIter b (pos + (Utf8.decode b pos).2)) }) (.siter (natsOf b) (pos + (Utf8.decode b pos).2)) hL he (by simp) hf rfl rfl rfl (by simp) (fun k hk => by simp [Array.getElem?_setIfInBounds, Ne.symm hk]) ⟨b, by simp [hlt], rfl, q3⟩
      refine ⟨.tuple #[.bool true, .int .i64 pos, .int .i32 (Utf8.decode b pos).1], _, ?_, .tup _ _ (.cons (.bool _) (.cons (.int _ _) (.cons (.int _ _) .nil))), this.1, this.2⟩
      simp only [Instr.next, hz, Sem.run_bind, hget, Result.andThen_ok, hp, if_true]
      simp [setObj, Sem.run, q1, goInt]
    · simp only [if_neg hp]
      refine ⟨.tuple #[.bool false], w, ?_, .tup _ _ (.cons (.bool _) .nil), rfl⟩
      simp only [Instr.next, hz, Sem.run_bind, hget, Result.andThen_ok, hp, if_false, Sem.run_pure]
end Go.AI
