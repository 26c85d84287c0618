/- Loops unrolled; frames: all that was there is kept but some objects; lists that this run owns. No claim by itself. -/
import Derived.Test.YtacfhbhfgbjleaaDoorE32
namespace Go.AI
section
variable {FT : Nat → Option FnD} {τ : Env} {H : Heap} {Q : Post}
theorem Wp_unroll {b : ACode} (h : Wp FT b τ H (seqQ FT (.loop b) Q)) : Wp FT (.loop b) τ H Q := by
  obtain ⟨n, s, τ', H', e, q⟩ := h
  cases s with
  | next =>
    obtain ⟨m, s2, τ2, H2, e2, q2⟩ := q
    refine ⟨max n m + 1, s2, τ2, H2, ?_, q2⟩
    rw [run_loop, run_up (Nat.le_max_left n m) e]
    exact run_up (Nat.le_max_right n m) e2
  | exit id => exact ⟨n + 1, _, _, _, by rw [run_loop, e], q⟩
  | ret => exact ⟨n + 1, _, _, _, by rw [run_loop, e], q⟩
end
section
variable {e : Opd → AV} {cs : List AV} {off : Nat} {r : List (Nat × Nat × Opd)}
@[simp] theorem fillV_ptr {o b : Nat} : fillV e cs off 1 (.ptr o b) r = if off + 1 ≤ cs.length then fillA e (setSeg cs off [.ptr o b]) r else none := fillV_val rfl rfl
@[simp] theorem fillV_bool {b : Bool} : fillV e cs off 1 (.bool b) r = if off + 1 ≤ cs.length then fillA e (setSeg cs off [.bool b]) r else none := fillV_val rfl rfl
@[simp] theorem fillV_slc {o a b c d : Nat} {ex : Bool} : fillV e cs off 1 (.slc o a b c d ex) r = if off + 1 ≤ cs.length then fillA e (setSeg cs off [.slc o a b c d ex]) r else none := fillV_val rfl rfl
@[simp] theorem fillV_map {o : Nat} : fillV e cs off 1 (.map o) r = if off + 1 ≤ cs.length then fillA e (setSeg cs off [.map o]) r else none := fillV_val rfl rfl
end
/-! ### Stores beside loads that need not be done yet -/
def frP (p x : AV) : Bool := match p with | .ptr p _ => (match x with | .ptr q _ => !Nat.beq p q | _ => true) | _ => false
@[simp] theorem frP_ptr {p i q j : Nat} : frP (.ptr p i) (.ptr q j) = !Nat.beq p q := rfl
theorem frees_store {τ : Env} {d : Option Nat} {n : Nat} {a x : Opd} {g : Option (Nat × Bool)} {q : Bool} {fr : List Nat} : freesOk τ ⟨d, .store n a x, g, q, fr⟩ = fr.all fun t => frP (Env.at τ t) (ev τ a) := by
  unfold freesOk
  congr 1
  funext t
  cases Env.at τ t with
  | ptr p o =>
    show (true && match (match ev τ a with | .ptr o _ => some o | _ => none) with | some q => !(Nat.beq p q) | none => true) = frP (.ptr p o) (ev τ a)
    cases ev τ a <;> rfl
  | _ => rfl
@[simp] theorem Wo_frstore {FT : Nat → Option FnD} {τ : Env} {H : Heap} {Q : Post} {dst : Option Nat} {n : Nat} {a x : Opd} {t : Nat} {fr : List Nat} {rest : List AOper} :
    Wo FT (⟨dst, .store n a x, none, false, t :: fr⟩ :: rest) τ H Q ↔ ((t :: fr).all fun t => frP (Env.at τ t) (ev τ a)) = true ∧ opK FT dst rest τ Q (storeA H n (ev τ a) (ev τ x)) := by
  by_cases h : ((t :: fr).all fun t => frP (Env.at τ t) (ev τ a)) = true
  · rw [Wo_op (by intros; simp) (by rw [frees_store]; exact h)]
    simp only [h, true_and]
    rfl
  · constructor
    · rintro ⟨n', τ', H', e, q⟩
      have hf : freesOk τ ⟨dst, .store n a x, none, false, t :: fr⟩ = false := by
        rw [frees_store]; simpa using h
      simp only [opsA, wantedA, cond_true, hf, cond_false] at e
      cases e
    · exact fun q => (h q.1).elim
/-! ### Code cut in two -/
def tailN : Nat → ACode → ACode
  | n + 1, .seq _ b => tailN n b
  | _, c => c
def headsN : Nat → ACode → ACode → ACode
  | n + 1, .seq a b, r => .seq a (headsN n b r)
  | _, _, r => r
/-- The code at a place, and the code with another one there. -/
def subAt : List Nat → ACode → ACode
  | [], c => c
  | 0 :: p, .seq a _ => subAt p a
  | _ :: p, .seq _ b => subAt p b
  | 0 :: p, .cond _ a _ => subAt p a
  | _ :: p, .cond _ _ b => subAt p b
  | _ :: p, .block _ b => subAt p b
  | _ :: p, .loop b => subAt p b
  | _, c => c
def putAt : List Nat → ACode → ACode → ACode
  | [], _, x => x
  | 0 :: p, .seq a b, x => .seq (putAt p a x) b
  | _ :: p, .seq a b, x => .seq a (putAt p b x)
  | 0 :: p, .cond c a b, x => .cond c (putAt p a x) b
  | _ :: p, .cond c a b, x => .cond c a (putAt p b x)
  | _ :: p, .block id b, x => .block id (putAt p b x)
  | _ :: p, .loop b, x => .loop (putAt p b x)
  | _, c, _ => c
theorem fillV_2 {e : Opd → AV} {cs : List AV} {off : Nat} {a b : AV} {r : List (Nat × Nat × Opd)} (ha : a.one = true) (hb : b.one = true) : fillV e cs off 2 (.agg [a, b]) r = if off + 2 ≤ cs.length then fillA e (setSeg cs off [a, b]) r else none := by
  simp [fillV, allOne, ha, hb]
@[simp] theorem fillV_intstr {e : Opd → AV} {cs : List AV} {off : Nat} {k : IntKind} {n : Int} {s : List Nat} {r : List (Nat × Nat × Opd)} : fillV e cs off 2 (.agg [.int k n, .str s]) r = if off + 2 ≤ cs.length then fillA e (setSeg cs off [.int k n, .str s]) r else none := fillV_2 rfl rfl
theorem finQ_mono {rs : List AResult} {K L : AV → Heap → Prop} {s : Sig} {τ : Env} {H : Heap} (h : finQ rs K s τ H) (k : ∀ v H', K v H' → L v H') : finQ rs L s τ H := by
  cases s with
  | exit id => exact h
  | next => simp only [finQ_next] at h ⊢; split at h <;> first | exact k _ _ h | exact h.elim
  | ret => simp only [finQ_ret] at h ⊢; split at h <;> first | exact k _ _ h | exact h.elim
theorem Wp.fin {FT : Nat → Option FnD} {rs : List AResult} {K L : AV → Heap → Prop} {c : ACode} {τ : Env} {H : Heap} (h : Wp FT c τ H (finQ rs K)) (k : ∀ v H', K v H' → L v H') : Wp FT c τ H (finQ rs L) := h.mono fun _ _ _ q => finQ_mono q k
/-- All that was there is kept but these objects. -/
structure Fr (S : List Nat) (H H' : Heap) : Prop where
  floor : H'.floor = H.floor
  next : H.next ≤ H'.next
  keep : ∀ o x, o ∉ S → H.get o = some x → H'.get o = some x
  wf : H'.Wf
theorem Fr.refl {S : List Nat} {H : Heap} (h : H.Wf) : Fr S H H := ⟨rfl, Nat.le_refl _, fun _ _ _ e => e, h⟩
theorem Fr.trans {S T : List Nat} {a b c : Heap} (hw : a.Wf) (h : Fr S a b) (k : Fr T b c) (hs : ∀ o, o ∈ T → o ∈ S ∨ a.next ≤ o) : Fr S a c :=
  ⟨k.floor.trans h.floor, Nat.le_trans h.next k.next, fun o x n e => k.keep o x (fun q => by
    rcases hs o q with r | r
    · exact n r
    · have := hw.lt e; omega) (h.keep o x n e), k.wf⟩
theorem Fr.mono {S T : List Nat} {a b : Heap} (h : Fr S a b) (hs : ∀ o, o ∈ S → o ∈ T) : Fr T a b := ⟨h.floor, h.next, fun o x n e => h.keep o x (fun q => n (hs o q)) e, h.wf⟩
theorem Ext.fr {S : List Nat} {a b : Heap} (h : Ext a b) : Fr S a b := ⟨h.floor, h.next, fun o x _ e => h.keep o x e, h.wf⟩
theorem Fr.ext {a b : Heap} (h : Fr [] a b) : Ext a b := ⟨h.floor, h.next, fun o x e => h.keep o x (by simp) e, h.wf⟩
theorem Fr.thenE {S : List Nat} {a b c : Heap} (hw : a.Wf) (h : Fr S a b) (k : Ext b c) : Fr S a c := h.trans hw (k.fr (S := [])) (fun o q => by cases q)
theorem Fr.set {H : Heap} (hw : H.Wf) {o : Nat} (ho : o < H.next) (x : AObj) : Fr [o] H (H.set o x) := ⟨rfl, Nat.le_refl _, fun p y n e => by
  rw [get_setH, if_neg (fun q => n (by simp [q]))]; exact e, Wf.set hw ho⟩
theorem Sl.fr {α : Type} {e : Nat} {enc : α → List AV} {S : List Nat} {H H' : Heap} {v : AV} {xs : List α} (h : Sl e enc H v xs) (k : Fr S H H') (hn : ∀ o, rowObj v = some o → o ∉ S) : Sl e enc H' v xs := by
  rcases h with h | ⟨q, off, lo, ex, cs, rfl, b, c⟩
  · exact .inl h
  · exact .inr ⟨q, off, lo, ex, cs, rfl, cellsAt_get (k.keep _ _ (hn _ rfl) (get_cellsAt b)), c⟩
theorem Sl.rowLt {α : Type} {e : Nat} {enc : α → List AV} {H : Heap} {v : AV} {xs : List α} (h : Sl e enc H v xs) (hw : H.Wf) {o : Nat} (ho : rowObj v = some o) : o < H.next := by
  rcases h with ⟨rfl, _⟩ | ⟨q, off, lo, ex, cs, rfl, b, c⟩
  · cases ho
  · cases ho; exact hw.lt (get_cellsAt b)
/-- A list that this run built since the memory was H0. -/
structure Mine {α : Type} (e : Nat) (enc : α → List AV) (H0 H : Heap) (v : AV) (xs : List α) : Prop where
  ow : Ow e enc H v xs
  new : ∀ p, rowObj v = some p → H0.next ≤ p
section
variable {α : Type} {e : Nat} {enc : α → List AV} {H H' H0 : Heap} {v : AV} {xs ys : List α} {S : List Nat}
theorem Mine.nil : Mine e enc H0 H .nils ([] : List α) := ⟨.inl ⟨rfl, rfl⟩, fun _ q => by cases q⟩
theorem Ow.lt (h : Ow e enc H v xs) (hw : H.Wf) {p : Nat} (hp : rowObj v = some p) : p < H.next := by
  rcases h with ⟨rfl, _⟩ | ⟨o, rfl, _, h2, _⟩
  · cases hp
  · cases hp; exact hw.lt h2
theorem Mine.lt (h : Mine e enc H0 H v xs) (hw : H.Wf) {p : Nat} (hp : rowObj v = some p) : p < H.next := h.ow.lt hw hp
theorem Ow.fr (h : Ow e enc H v xs) (k : Fr S H H') (hn : ∀ p, rowObj v = some p → p ∉ S) : Ow e enc H' v xs := by
  rcases h with h | ⟨o, rfl, h1, h2, h3⟩
  · exact .inl h
  · exact .inr ⟨o, rfl, h1, k.keep _ _ (hn _ rfl) h2, by rw [k.floor]; exact h3⟩
theorem Mine.fr (h : Mine e enc H0 H v xs) (k : Fr S H H') (hn : ∀ p, rowObj v = some p → p ∉ S) : Mine e enc H0 H' v xs := ⟨h.ow.fr k hn, h.new⟩
theorem Mine.ext (h : Mine e enc H0 H v xs) (k : Ext H H') : Mine e enc H0 H' v xs := h.fr (S := []) k.fr (fun _ _ q => by cases q)
theorem Mine.sl (h : Mine e enc H0 H v xs) (hn : ∀ x, (enc x).length = e) : Sl e enc H v xs := h.ow.sl hn
/-- More items at once. -/
theorem Mine.appS (hn : ∀ x, (enc x).length = e) (he : 1 ≤ e) (h1 : ∀ x, allOne (enc x) = true) {bytes : Nat} {y : AV} (hw : H.Wf) (hx : H0.next ≤ H.next) (h : Mine e enc H0 H v xs) (hy : Sw e enc H y ys) (hb : (2 * (xs.length + ys.length) + 1024) * bytes ≤ 2 ^ 48) :
    ∃ v' H', appendA e bytes H v y = some (v', H') ∧ Mine e enc H0 H' v' (xs ++ ys) ∧ Fr (rowObj v).toList H H' ∧ ∀ p, rowObj v' = some p → rowObj v = some p ∨ H.next ≤ p := by
  obtain ⟨v', H', k1, k2, k3, k4, k5, k6, k7⟩ := h.ow.app hn he h1 (bytes := bytes) hw hy hb
  refine ⟨v', H', k1, ⟨k2, fun p q => ?_⟩, ⟨k4, k5, fun o x n e => ?_, k3⟩, fun p q => (k7 p q).imp id fun q => q.1⟩
  · rcases k7 p q with r | r
    · exact h.new p r
    · omega
  · rw [k6 o (hw.lt e) (fun q => n (by rw [q]; simp))]; exact e
/-- One more item. -/
theorem Mine.app1 (hn : ∀ x, (enc x).length = e) (he : 1 ≤ e) (h1 : ∀ x, allOne (enc x) = true) {bytes : Nat} (hw : H.Wf) (hx : H0.next ≤ H.next) (h : Mine e enc H0 H v xs) (x : α) (hb : (2 * (xs.length + 1) + 1024) * bytes ≤ 2 ^ 48) :
    ∃ v' H', appendA e bytes (H.push (.cells (enc x))) v (.slc H.next 0 1 e 1 true) = some (v', H') ∧ Mine e enc H0 H' v' (xs ++ [x]) ∧ Fr (rowObj v).toList H H' ∧ ∀ p, rowObj v' = some p → rowObj v = some p ∨ H.next ≤ p := by
  have ep := Ext.push hw (.cells (enc x))
  have hy : Sw e enc (H.push (.cells (enc x))) (.slc H.next 0 1 e 1 true) [x] := by
    refine .inr ⟨H.next, 0, 1, true, rfl, ?_⟩
    unfold Heap.readSeg
    rw [cellsAt_get (get_pushN.trans (if_pos rfl))]
    simp only [List.flatMap_cons, List.flatMap_nil, List.append_nil]
    exact seg_all (by rw [hn]; simp)
  obtain ⟨v', H', k1, k2, k3, k4⟩ := (h.ext ep).appS hn he h1 (bytes := bytes) ep.wf (by have := ep.next; omega) hy (by simpa using hb)
  exact ⟨v', H', k1, k2, (ep.fr (S := (rowObj v).toList)).trans hw k3 (fun o q => .inl q), fun p q => (k4 p q).imp id fun q => by have := ep.next; omega⟩
end
/-! ### Calls that write nothing that was there -/
def Heap.up (H : Heap) : Heap := { t := H.t, next := H.next, floor := H.next }
theorem Heap.Wf.up {H : Heap} (h : H.Wf) : H.up.Wf := ⟨Nat.le_refl _, h.2⟩
theorem Ext.back {H H' : Heap} (hw : H.Wf) (h : Ext H.up H') : Ext H { H' with floor := H.floor } :=
  ⟨rfl, h.next, h.keep, ⟨by have h1 := hw.1; have h2 : H.next ≤ H'.next := h.next; show H.floor ≤ H'.next; omega, h.wf.2⟩⟩
theorem Cp.quiet {FT : Nat → Option FnD} {f : Nat} {args : List AV} {H : Heap} {K L : AV → Heap → Prop} (h : Cp FT f args H.up L) (k : ∀ r H', L r H' → K r { H' with floor := H.floor }) :
    Cp FT f args { t := H.t, next := H.next, floor := H.next } (backK H.floor K) := h.mono fun r H' q => k r H' q
theorem Sl.up {α : Type} {e : Nat} {enc : α → List AV} {H : Heap} {v : AV} {xs : List α} (h : Sl e enc H v xs) : Sl e enc H.up v xs := h
theorem Cp.quietEq {FT : Nat → Option FnD} {f : Nat} {args : List AV} {H : Heap} {K : AV → Heap → Prop} {x : AV} (h : Cp FT f args H.up (fun r H' => r = x ∧ H' = H.up)) (k : K x H) :
    Cp FT f args { t := H.t, next := H.next, floor := H.next } (backK H.floor K) := h.mono fun r H' q => by rw [q.1, q.2]; exact k
@[simp] theorem quiet_push2 {H : Heap} {x : AObj} : ({ t := (Heap.push { t := H.t, next := H.next, floor := H.next } x).t, next := H.next + 1, floor := H.floor } : Heap) = H.push x := rfl
@[simp] theorem quiet_push {H : Heap} {v : AV} {x : AObj} : quietA H (some (v, Heap.push { t := H.t, next := H.next, floor := H.next } x)) = some (v, H.push x) := rfl
/-- A cell of an object of one's own is written. -/
theorem store_cell {H : Heap} {o off : Nat} {x : AV} {cs : List AV} (hw : H.Wf) (hf : H.floor ≤ o) (hg : H.get o = some (.cells cs)) (hl : off < cs.length) (hx : x.one = true) :
    ∃ H', storeA H 1 (.ptr o off) x = some (undefA, H') ∧ H'.get o = some (.cells (cs.set off x)) ∧ Fr [o] H H' :=
  ⟨_, store_own hf hg hl hx, get_setH.trans (if_pos rfl), Fr.set hw (hw.lt hg) _⟩
/-- An object of one's own is written whole. -/
theorem store_whole {H : Heap} {o n : Nat} {x : AV} {cs xs : List AV} (hw : H.Wf) (hx : x.cells = xs) (hn : xs.length = n) (hf : H.floor ≤ o) (hg : H.get o = some (.cells cs)) (hl : cs.length = n) (h1 : allOne xs = true) :
    ∃ H', storeA H n (.ptr o 0) x = some (undefA, H') ∧ H'.get o = some (.cells xs) ∧ Fr [o] H H' :=
  ⟨_, store_all hx hn hf hg hl h1, get_setH.trans (if_pos rfl), Fr.set hw (hw.lt hg) _⟩
theorem bytesA_ext {H H' : Heap} (k : Ext H H') {v : AV} {s : List Nat} (h : bytesA H v = some s) : bytesA H' v = some s := by
  unfold bytesA at h ⊢
  split at h
  · exact h
  · rename_i o off len lo ex
    cases hr : H.readSeg o off len with
    | none => rw [hr] at h; cases h
    | some xs =>
      rw [hr] at h
      have hr' : H'.readSeg o off len = some xs := by
        unfold Heap.readSeg at hr ⊢
        cases hc : H.cellsAt o with
        | none => rw [hc] at hr; cases hr
        | some cs => rw [k.cells hc]; rw [hc] at hr; exact hr
      simp only [hr']; exact h
  · cases h
theorem bytesOf_lt : ∀ {xs : List AV} {s : List Nat}, bytesOf xs = some s → (∀ b, b ∈ s → b < 256) ∧ s.length = xs.length
  | [], s, h => by simp [bytesOf] at h; subst h; simp
  | x :: xs, s, h => by
    cases x with
    | int k n =>
      cases k with
      | u8 =>
        simp only [bytesOf] at h
        split at h
        · rename_i hn
          cases hb : bytesOf xs with
          | none => rw [hb] at h; cases h
          | some s' =>
            rw [hb] at h; simp at h; subst h
            obtain ⟨a, b⟩ := bytesOf_lt hb
            refine ⟨fun m hm => ?_, by simp [b]⟩
            rcases List.mem_cons.1 hm with r | r
            · subst r; omega
            · exact a m r
        · cases h
      | _ => simp [bytesOf] at h
    | _ => simp [bytesOf] at h
theorem bytesA_lt {H : Heap} {v : AV} {s : List Nat} (h : bytesA H v = some s) : ∀ b, b ∈ s → b < 256 := by
  unfold bytesA at h
  split at h
  · cases h; simp
  · rename_i o off len lo ex
    cases hr : H.readSeg o off len with
    | none => rw [hr] at h; cases h
    | some xs => rw [hr] at h; exact (bytesOf_lt h).1
  · cases h
theorem seg_length {cs xs : List AV} {off n : Nat} (h : seg cs off n = some xs) : xs.length = n := by
  unfold seg at h
  cases hb : Nat.ble (off + n) cs.length with
  | false => rw [hb] at h; cases h
  | true => rw [hb] at h; cases h; have := Nat.le_of_ble_eq_true hb; simp; omega
theorem bytesA_len {H : Heap} {v : AV} {s : List Nat} (h : bytesA H v = some s) : lenA v = some (.int .i64 s.length) := by
  unfold bytesA at h
  split at h
  · cases h; rfl
  · rename_i o off len lo ex
    cases hr : H.readSeg o off len with
    | none => rw [hr] at h; cases h
    | some xs =>
      rw [hr] at h
      have h2 := (bytesOf_lt h).2
      have : xs.length = len := by
        unfold Heap.readSeg at hr
        cases hc : H.cellsAt o with
        | none => rw [hc] at hr; cases hr
        | some cs => rw [hc] at hr; exact seg_length hr
      rw [h2, this]; rfl
  · cases h
theorem bytesOf_cut : ∀ {xs : List AV} {s : List Nat}, bytesOf xs = some s → ∀ f n, bytesOf ((xs.drop f).take n) = some ((s.drop f).take n)
  | [], s, h, f, n => by simp [bytesOf] at h; subst h; simp [bytesOf]
  | x :: xs, s, h, f, n => by
    cases x with
    | int k m =>
      cases k with
      | u8 =>
        simp only [bytesOf] at h
        split at h
        · rename_i hm
          cases hb : bytesOf xs with
          | none => rw [hb] at h; cases h
          | some s' =>
            rw [hb] at h; simp at h; subst h
            cases f with
            | zero =>
              cases n with
              | zero => rfl
              | succ n =>
                have := bytesOf_cut hb 0 n
                simp only [List.drop_zero] at this
                simp only [List.drop_zero, List.take_succ_cons, bytesOf, if_pos hm, this, Option.map_some]
            | succ f => simpa using bytesOf_cut hb f n
        · cases h
      | _ => simp [bytesOf] at h
    | _ => simp [bytesOf] at h
/-- A slice's capacity is no less than its length. -/
def capOk : AV → Bool
  | .slc _ _ len _ lo _ => decide (len ≤ lo)
  | _ => true
theorem bytes_slc {H : Heap} {v : AV} {s : List Nat} (h : bytesA H v = some s) : (v = .nils ∧ s = []) ∨ ∃ o off lo ex cs xs, v = .slc o off s.length 1 lo ex ∧ H.cellsAt o = some cs ∧ seg cs off s.length = some xs ∧ bytesOf xs = some s := by
  unfold bytesA at h
  split at h
  · cases h; exact .inl ⟨rfl, rfl⟩
  · rename_i o off len lo ex
    cases hr : H.readSeg o off len with
    | none => rw [hr] at h; cases h
    | some xs =>
      rw [hr] at h
      have h : bytesOf xs = some s := h
      have h2 := (bytesOf_lt h).2
      unfold Heap.readSeg at hr
      cases hc : H.cellsAt o with
      | none => rw [hc] at hr; cases hr
      | some cs =>
        rw [hc] at hr
        have hr : seg cs off len = some xs := hr
        have hl := seg_length hr
        have : s.length = len := by omega
        subst this
        exact .inr ⟨o, off, lo, ex, cs, xs, rfl, hc, hr, h⟩
  · cases h
theorem seg_get {cs xs : List AV} {off n i : Nat} (h : seg cs off n = some xs) (hi : i < n) : cs[off + i]? = xs[i]? := by
  unfold seg at h
  cases hb : Nat.ble (off + n) cs.length with
  | false => rw [hb] at h; cases h
  | true => rw [hb] at h; cases h; rw [List.getElem?_take, if_pos hi, List.getElem?_drop]
theorem seg_cut {cs xs : List AV} {off n : Nat} (h : seg cs off n = some xs) {f m : Nat} (hf : f + m ≤ n) : seg cs (off + f) m = some ((xs.drop f).take m) := by
  unfold seg at h ⊢
  cases hb : Nat.ble (off + n) cs.length with
  | false => rw [hb] at h; cases h
  | true =>
    rw [hb] at h; cases h
    have h1 := Nat.le_of_ble_eq_true hb
    have h2 : Nat.ble (off + f + m) cs.length = true := Nat.ble_eq_true_of_le (by omega)
    rw [h2]
    simp only [cond_true, Option.some.injEq]
    rw [List.drop_take, List.take_take, List.drop_drop, Nat.min_eq_left (by omega)]
theorem bytesOf_get : ∀ {xs : List AV} {s : List Nat} {i b : Nat}, bytesOf xs = some s → s[i]? = some b → xs[i]? = some (.int .u8 b)
  | [], s, i, b, h, k => by simp [bytesOf] at h; subst h; simp at k
  | x :: xs, s, i, b, h, k => by
    cases x with
    | int kd m =>
      cases kd with
      | u8 =>
        simp only [bytesOf] at h
        split at h
        · rename_i hm
          cases hb : bytesOf xs with
          | none => rw [hb] at h; cases h
          | some s' =>
            rw [hb] at h; simp at h; subst h
            cases i with
            | zero => simp at k; simp; omega
            | succ i => simpa using bytesOf_get hb (by simpa using k)
        · cases h
      | _ => simp [bytesOf] at h
    | _ => simp [bytesOf] at h
theorem bytesA_idx {H : Heap} {v : AV} {s : List Nat} (h : bytesA H v = some s) {i : Nat} (hi : i < s.length) {k : IntKind} : ∃ p b, s[i]? = some b ∧ indexAddrV 1 v (.int k i) = some p ∧ loadA H none p = some (.int .u8 b) := by
  rcases bytes_slc h with ⟨rfl, rfl⟩ | ⟨o, off, lo, ex, cs, xs, rfl, hc, hs, hb⟩
  · simp at hi
  · have hg : s[i]? = some s[i] := List.getElem?_eq_getElem hi
    have hx := bytesOf_get hb hg
    have h1 : (0 : Int) ≤ (i : Int) ∧ (i : Int) < ((s.length : Nat) : Int) := by omega
    refine ⟨.ptr o (off + i * 1), s[i], hg, by simp [h1.2], ?_⟩
    rw [loadA_ptr, hc]
    simp only [Option.bind_some, partA, Nat.mul_one]
    rw [seg_get hs hi, hx]
theorem bytesA_cut {H : Heap} {v : AV} {s : List Nat} (h : bytesA H v = some s) (hc : capOk v = true) {f i : Nat} (h1 : f ≤ i) (h2 : i ≤ s.length) :
    ∃ v', sliceA 1 v (some (.int .i64 f)) (some (.int .i64 i)) none = some v' ∧ bytesA H v' = some ((s.drop f).take (i - f)) ∧ capOk v' = true := by
  rcases bytes_slc h with ⟨rfl, rfl⟩ | ⟨o, off, lo, ex, cs, xs, rfl, hcs, hs, hb⟩
  · have : i = 0 := by simpa using h2
    subst this
    have : f = 0 := by omega
    subst this
    exact ⟨.nils, rfl, rfl, rfl⟩
  · have hlo : s.length ≤ lo := by simpa [capOk] using hc
    have b1 : (0 : Int) ≤ (i : Int) ∧ (i : Int) ≤ (lo : Int) := by omega
    have b2 : (0 : Int) ≤ (f : Int) ∧ (f : Int) ≤ ((i : Nat) : Int) := by omega
    refine ⟨.slc o (off + f * 1) (i - f) 1 (lo - f) ex, ?_, ?_, by simp [capOk]; omega⟩
    · simp only [sliceA, Nat.beq_refl, cond_true, boundsA, boundA, if_pos b1, if_pos b2, Option.map_some, Int.toNat_natCast]
    · unfold bytesA
      simp only [Heap.readSeg, hcs, Option.bind_some, Nat.mul_one]
      rw [seg_cut hs (by omega)]
      exact bytesOf_cut hb f (i - f)
theorem toStr_bytes {H : Heap} {v : AV} {s : List Nat} (h : bytesA H v = some s) : toStrA H v = some (.str s, H) := by
  unfold bytesA at h
  unfold toStrA
  split at h
  · cases h; rfl
  · simp only [h, Option.map_some]
  · cases h
/-- A line's end behind changes no words. -/
theorem scan_nl : ∀ (l : List Nat) (p : Nat) (st : SS Nat), scanW idN (l ++ [10]) p st = scanW idN l p st
  | [], p, .out => rfl
  | [], p, .com => rfl
  | [], p, .word f acc => rfl
  | c :: r, p, .out => by
    simp only [List.cons_append, scanW, scan_nl r]
  | c :: r, p, .com => by
    simp only [List.cons_append, scanW, scan_nl r]
  | c :: r, p, .word f acc => by
    simp only [List.cons_append, scanW, scan_nl r]
theorem scan_mem {α : Type} {val : α → Nat} (p : α → Prop) : ∀ (l : List α) (k : Nat) (s : SS α) (_ : ∀ b, b ∈ l → p b) (_ : match s with | .word _ acc => ∀ b, b ∈ acc → p b | _ => True), ∀ t, t ∈ scanW val l k s → ∀ b, b ∈ t.2 → p b
  | [], k, .out, _, _, t, ht => by simp [scanW] at ht
  | [], k, .com, _, _, t, ht => by simp [scanW] at ht
  | [], k, .word f acc, _, ha, t, ht => by
    simp only [scanW, List.mem_singleton] at ht; subst ht; intro b hb; exact ha b (by simpa using hb)
  | c :: r, k, .out, hl, _, t, ht => by
    have hr := fun b hb => hl b (List.mem_cons_of_mem _ hb)
    simp only [scanW] at ht
    cases h1 : isBl (val c) with
    | true => rw [h1] at ht; exact scan_mem p r _ .out hr trivial t ht
    | false =>
      rw [h1] at ht; simp only [cond_false] at ht
      cases h2 : Nat.beq (val c) 35 with
      | true => rw [h2] at ht; exact scan_mem p r _ .com hr trivial t ht
      | false => rw [h2] at ht; exact scan_mem p r _ (.word k [c]) hr (by intro b hb; simp at hb; subst hb; exact hl _ (by simp)) t ht
  | c :: r, k, .com, hl, _, t, ht => by
    have hr := fun b hb => hl b (List.mem_cons_of_mem _ hb)
    simp only [scanW] at ht
    cases h2 : Nat.beq (val c) 10 with
    | true => rw [h2] at ht; exact scan_mem p r _ .out hr trivial t ht
    | false => rw [h2] at ht; exact scan_mem p r _ .com hr trivial t ht
  | c :: r, k, .word f acc, hl, ha, t, ht => by
    have hr := fun b hb => hl b (List.mem_cons_of_mem _ hb)
    simp only [scanW] at ht
    cases h1 : isBl (val c) with
    | true =>
      rw [h1] at ht; simp only [cond_true] at ht
      rcases List.mem_cons.1 ht with q | q
      · subst q; intro b hb; exact ha b (by simpa using hb)
      · exact scan_mem p r _ .out hr trivial t q
    | false => rw [h1] at ht; exact scan_mem p r _ (.word f (c :: acc)) hr (by
        intro b hb
        rcases List.mem_cons.1 hb with q | q
        · subst q; exact hl _ (by simp)
        · exact ha b q) t ht
theorem scan_wlen {α : Type} {val : α → Nat} : ∀ (l : List α) (k : Nat) (s : SS α), ∀ t, t ∈ scanW val l k s → t.2.length ≤ l.length + (match s with | .word _ acc => acc.length | _ => 0)
  | [], k, .out, t, ht => by simp [scanW] at ht
  | [], k, .com, t, ht => by simp [scanW] at ht
  | [], k, .word f acc, t, ht => by simp [scanW] at ht; subst ht; simp
  | c :: r, k, .out, t, ht => by
    simp only [scanW] at ht
    cases h1 : isBl (val c) with
    | true => rw [h1] at ht; have := scan_wlen r _ .out t ht; simp at this ⊢; omega
    | false =>
      rw [h1] at ht; simp only [cond_false] at ht
      cases h2 : Nat.beq (val c) 35 with
      | true => rw [h2] at ht; have := scan_wlen r _ .com t ht; simp at this ⊢; omega
      | false => rw [h2] at ht; have := scan_wlen r _ (.word k [c]) t ht; simp at this ⊢; omega
  | c :: r, k, .com, t, ht => by
    simp only [scanW] at ht
    cases h2 : Nat.beq (val c) 10 with
    | true => rw [h2] at ht; have := scan_wlen r _ .out t ht; simp at this ⊢; omega
    | false => rw [h2] at ht; have := scan_wlen r _ .com t ht; simp at this ⊢; omega
  | c :: r, k, .word f acc, t, ht => by
    simp only [scanW] at ht
    cases h1 : isBl (val c) with
    | true =>
      rw [h1] at ht; simp only [cond_true] at ht
      rcases List.mem_cons.1 ht with q | q
      · subst q; simp
      · have := scan_wlen r _ .out t q; simp at this ⊢; omega
    | false => rw [h1] at ht; have := scan_wlen r _ (.word f (c :: acc)) t ht; simp at this ⊢; omega
/-- The cutting into words. -/
theorem all_words {H : Heap} (hw : H.Wf) {v : AV} {s : List Nat} (h : bytesA H v = some s) :
    (1048576 < s.length ∧ allG [v] H = some (.tup [.nils, .int .i64 3], H)) ∨
    (s.length ≤ 1048576 ∧ ∃ tv H', allG [v] H = some (.tup [tv, .int .i64 0], H') ∧ Ext H H' ∧ Sl 2 tokA H' tv (wordsN s) ∧ ∀ p, rowObj tv = some p → H.next ≤ p ∧ p < H'.next) := by
  unfold allG
  simp only [h]
  cases hb : Nat.ble s.length 1048576 with
  | false =>
    have : ¬ s.length ≤ 1048576 := fun q => by rw [Nat.ble_eq_true_of_le q] at hb; cases hb
    exact .inl ⟨by omega, rfl⟩
  | true =>
    refine .inr ⟨Nat.le_of_ble_eq_true hb, ?_⟩
    simp only [cond_true]
    cases hq : wordsN s with
    | nil => exact ⟨.nils, H, rfl, Ext.refl hw, .inl ⟨rfl, rfl⟩, fun p q => by cases q⟩
    | cons t ws =>
      refine ⟨_, _, rfl, Ext.push hw _, Sl.ofCells (enc := tokA) (e := 2) (xs := t :: ws) (fun _ => rfl) (get_pushN.trans (if_pos rfl)), fun p q => ?_⟩
      cases q; exact ⟨Nat.le_refl _, Nat.lt_succ_self _⟩
/-- A new object: where it is, and that all else is kept. -/
theorem push_new {H : Heap} (hw : H.Wf) (x : AObj) : (H.push x).get H.next = some x ∧ Ext H (H.push x) := ⟨get_pushN.trans (if_pos rfl), Ext.push hw x⟩
end Go.AI
