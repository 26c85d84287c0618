/- A region whose order is drawn comes to what its operations come to one behind the other. No claim by itself. -/
import Derived.Test.YtjhhicmlflelhaaE17
namespace Go.AI
variable {P : Program}
open Region (binds)
def AOp.isCall : AOp → Bool
  | .call .. => true
  | _ => false
def AOp.isPure (o : AOp) : Bool := !o.isRead && !o.writes && !o.isCall
/-- What must come ahead of what. -/
inductive Anc (ops : Array Oper) : Nat → Nat → Prop
  | edge {j : Nat} {o : Oper} {e : Edge} (h : ops[j]? = some o) (he : e ∈ o.after) (hb : binds .any e = true) : Anc ops e.on j
  | step {i j : Nat} {o : Oper} {e : Edge} (h : ops[j]? = some o) (he : e ∈ o.after) (hb : binds .any e = true) (t : Anc ops i e.on) : Anc ops i j
def looksA (o : Oper) (ao : AOper) : List Nat :=
  (o.op.operands.toList.filterMap fun | .tmp t => some t | _ => none) ++ (match ao.guard with | some (t, _) => [t] | none => [])
/-- A load that need not be done ahead of operation b: what b tells of it. -/
def FreeLoad (aops : List AOper) (k b : Nat) : Prop :=
  ∃ ak ab n t, aops[k]? = some ak ∧ aops[b]? = some ab ∧ ak.op = .load n (.tmp t) ∧ ak.quiet = true ∧ t ∈ ab.frees ∧ ∀ (m : Nat) (am : AOper), k < m → m < b → aops[m]? = some am → am.dst ≠ some t
structure DrawOk (P : Program) (ops : Array Oper) (N : Nat) (aops : List AOper) : Prop where
  len : aops.length = ops.size
  ok : ∀ (j : Nat) (ao : AOper), aops[j]? = some ao → ∃ o, ops[j]? = some o ∧ OperOk P ops N o ao
  back : ∀ (j : Nat) (o : Oper) (e : Edge), ops[j]? = some o → e ∈ o.after → binds .any e = true → e.on < j
  conf : ∀ (i j : Nat) (oi oj : Oper) (ai aj : AOper), i < j → ops[i]? = some oi → ops[j]? = some oj → aops[i]? = some ai → aops[j]? = some aj →
    (∀ d, oi.dst = some d → d ∈ looksA oj aj ∨ oj.dst = some d → Anc ops i j) ∧ (∀ d, oj.dst = some d → d ∈ looksA oi ai → Anc ops i j)
  barr : ∀ (b : Nat) (ab : AOper), aops[b]? = some ab → ab.quiet = false → ab.op.isPure = false → ∀ (k : Nat) (ak : AOper), aops[k]? = some ak → ak.op.isPure = false → (k < b → Anc ops k b ∨ (FreeLoad aops k b ∧ True)) ∧ (b < k → Anc ops b k)
  self : ∀ (k : Nat) (ok : Oper) (ak : AOper) (n : Option Nat) (t : Nat), ops[k]? = some ok → aops[k]? = some ak → ak.op = .load n (.tmp t) → ak.dst = some t → False
theorem opsA_trace (cf : CallF) : ∀ (aops : List AOper) (τ τ' : Env) (H H' : Heap), opsA cf aops τ H = some (τ', H') →
    ∃ T : Nat → Env × Heap, T 0 = (τ, H) ∧ T aops.length = (τ', H') ∧ ∀ (j : Nat) (ao : AOper), aops[j]? = some ao → stepA cf ao (T j).1 (T j).2 = some (T (j + 1))
  | [], τ, τ', H, H', h => by
    simp [opsA] at h; obtain ⟨rfl, rfl⟩ := h
    exact ⟨fun _ => (τ, H), rfl, rfl, fun j ao hj => by simp at hj⟩
  | ao :: rest, τ, τ', H, H', h => by
    rw [opsA_cons] at h
    cases hs : stepA cf ao τ H with
    | none => simp [hs] at h
    | some r =>
      simp [hs] at h
      obtain ⟨T, h0, hn, hj⟩ := opsA_trace cf rest r.1 τ' r.2 H' h
      refine ⟨fun j => match j with | 0 => (τ, H) | j + 1 => T j, rfl, hn, fun j a hja => ?_⟩
      cases j with
      | zero => simp at hja; subst hja; simp only [hs, h0]
      | succ j => exact hj j a (by simpa using hja)
theorem stepA_put {cf : CallF} {ao : AOper} {τ : Env} {H : Heap} {r : Env × Heap} (h : stepA cf ao τ H = some r) : ∃ x, r.1 = putA τ ao.dst x := by
  cases hw : wantedA τ ao.guard with
  | false => rw [stepA_not hw] at h; cases h; exact ⟨_, rfl⟩
  | true => obtain ⟨_, v, _, e⟩ := stepA_wanted h hw; exact ⟨v, e⟩
theorem stepA_same {cf : CallF} (hcm : CallMono cf) {ao : AOper} {τ : Env} {H : Heap} {r : Env × Heap} (h : stepA cf ao τ H = some r) (hq : ao.quiet = true) (o : Nat) (ho : o < H.next) : r.2.get o = H.get o := by
  cases hw : wantedA τ ao.guard with
  | false => rw [stepA_not hw] at h; cases h; rfl
  | true =>
    obtain ⟨_, v, hq', _⟩ := stepA_wanted h hw
    rcases quiet_some hq' with ⟨q, _⟩ | ⟨_, H1, hq2, e⟩
    · rw [hq] at q; cases q
    · have m := oper_mono hcm hq2 (Nat.le_refl _)
      rw [e]; exact m.low o ho
theorem oper_pure {cf : CallF} {τ : Env} {H : Heap} {ao : AOp} (hp : ao.isPure = true) : operA cf τ H ao = (pureOp (ev τ) ao).map fun v => (v, H) := by
  simp only [AOp.isPure, Bool.and_eq_true, Bool.not_eq_true'] at hp
  have h1 : operA cf τ H ao = plainOp (ev τ) H ao := by
    cases ao <;> first | rfl | (simp [AOp.isCall] at hp)
  rw [h1, plainOp, hp.1.2, cond_false, readOp_pure _ _ _ hp.1.1]
theorem stepA_pure {cf : CallF} {ao : AOper} {τ : Env} {H : Heap} {r : Env × Heap} (h : stepA cf ao τ H = some r) (hp : ao.op.isPure = true) : r.2 = H ∧ ∀ H', stepA cf ao τ H' = some (r.1, H') := by
  cases hw : wantedA τ ao.guard with
  | false => rw [stepA_not hw] at h; cases h; exact ⟨rfl, fun H' => stepA_not hw⟩
  | true =>
    obtain ⟨hf, v, hq, e⟩ := stepA_wanted h hw
    have key : ∀ H, quietly ao.quiet H (fun H => operA cf τ H ao.op) = (pureOp (ev τ) ao.op).map fun v => (v, H) := by
      intro H
      cases hq : ao.quiet with
      | false => simp only [quietly, cond_false]; exact oper_pure hp
      | true =>
        simp only [quietly, cond_true, oper_pure hp]
        cases pureOp (ev τ) ao.op <;> rfl
    rw [key] at hq
    cases hv : pureOp (ev τ) ao.op with
    | none => simp [hv] at hq
    | some u =>
      simp [hv] at hq
      refine ⟨hq.2.symm, fun H' => ?_⟩
      unfold stepA
      rw [hw, cond_true, hf, cond_true, key, hv, e, ← hq.1]
      rfl
/-- A load is the same where its object is. -/
theorem stepA_load {cf : CallF} {ao : AOper} {n : Option Nat} {t : Nat} {τ : Env} {H H' : Heap} {r : Env × Heap} (h : stepA cf ao τ H = some r) (ho : ao.op = .load n (.tmp t)) (hs : wantedA τ ao.guard = true → ∀ o off, Env.at τ t = .ptr o off → H'.get o = H.get o) :
    r.2 = H ∧ stepA cf ao τ H' = some (r.1, H') ∧ (wantedA τ ao.guard = true → ∃ o off x, Env.at τ t = .ptr o off ∧ H.get o = some x) := by
  cases hw : wantedA τ ao.guard with
  | false => rw [stepA_not hw] at h; cases h; exact ⟨rfl, stepA_not hw, fun q => by cases q⟩
  | true =>
    obtain ⟨hf, v, hq, e⟩ := stepA_wanted h hw
    have key : ∀ H, quietly ao.quiet H (fun H => operA cf τ H ao.op) = (match Env.at τ t with | .ptr o off => ((H.cellsAt o).bind fun cs => partA cs off n).map fun v => (v, H) | _ => none) := by
      intro H
      rw [ho]
      cases ao.quiet with
      | false => rfl
      | true =>
        simp only [quietly, cond_true, operA, plainOp, AOp.writes, cond_false, readOp, ev]
        cases Env.at τ t <;> first | rfl | skip
        rename_i o off
        have : ({ H with floor := H.next } : Heap).cellsAt o = H.cellsAt o := rfl
        simp only [this]
        cases (H.cellsAt o).bind fun cs => partA cs off n <;> rfl
    rw [key] at hq
    split at hq
    · rename_i o off ha
      have hg := hs hw o off ha
      cases hc : H.cellsAt o with
      | none => simp [hc] at hq
      | some cs =>
        simp [hc] at hq
        obtain ⟨a, q1, q2, q3⟩ := hq
        have hc' : H'.cellsAt o = some cs := by
          unfold Heap.cellsAt at hc ⊢; rw [hg]; exact hc
        refine ⟨q3.symm, ?_, fun _ => ⟨o, off, _, ha, cellsAt_some hc⟩⟩
        unfold stepA
        rw [hw, cond_true, hf, cond_true, key, ha]
        simp only [hc', Option.bind_some, q1, q2, Option.map_some, e]
    · cases hq
/-- What is written is the target. -/
theorem write_target {e : Opd → AV} {H H' : Heap} {ao : AOp} {a : AV} (h : writeOp e H ao = some (a, H')) (p : Nat) (hp : p < H.next) (ht : ∀ q, ao.target e = some q → p ≠ q) : H'.get p = H.get p := by
  have ws : ∀ {o off : Nat} {xs : List AV} {H2 : Heap}, H.writeSeg o off xs = some H2 → p ≠ o → H2.get p = H.get p := by
    intro o off xs H2 h hne
    obtain ⟨_, cs, _, _, _, rfl⟩ := writeSeg_some h
    rw [Heap.get_set, if_neg hne]
  have push : ∀ (K : Heap) (x : AObj), K.next = H.next → (K.push x).get p = K.get p := fun K x e => by rw [Heap.get_push, if_neg (by omega)]
  cases ao <;> first | (simp [writeOp] at h; done) | skip
  case store n q x =>
    simp only [writeOp] at h
    split at h
    · rename_i o off hq
      have := ht o (by simp [AOp.target, hq])
      cases hb : Nat.beq (e x).cells.length n with
      | false => simp [hb] at h
      | true =>
        simp only [hb, cond_true] at h
        cases hw : H.writeSeg o off (e x).cells with
        | none => simp [hw] at h
        | some H2 => simp [hw] at h; rw [← h.2]; exact ws hw this
    · cases h
  case mapUpdate d m k v =>
    simp only [writeOp] at h
    split at h
    · rename_i o hq
      have := ht o (by simp [AOp.target, hq])
      cases hb : Nat.ble H.floor o with
      | false => simp [hb] at h
      | true =>
        simp only [hb, cond_true] at h
        split at h
        · cases hpk : plainKey d (e k) with
          | false => simp [hpk] at h
          | true =>
            simp only [hpk, cond_true] at h
            split at h
            · cases h
            · cases h; rw [Heap.get_set, if_neg this]
            · cases h; rw [Heap.get_set, if_neg this]
        · cases h
    · cases h
  case append sz by_ x y =>
    simp only [writeOp] at h
    unfold appendA at h
    split at h
    · cases h
    rename_i n new _
    cases h1 : allOne new with
    | false => simp [h1] at h
    | true =>
    simp only [h1, cond_true] at h
    split at h
    · cases hn : Nat.beq n 0 with
      | true => simp only [hn, cond_true] at h; cases h; rfl
      | false =>
        simp only [hn, cond_false] at h
        cases hbd : Nat.ble ((2 * n + 1024) * by_) (2 ^ 48) with
        | false => simp only [hbd, cond_false] at h; cases h
        | true => simp only [hbd, cond_true] at h; cases h; exact push H _ rfl
    · rename_i o off len e' lo ex hq
      have hne := ht o (by simp [AOp.target, hq])
      cases hee : Nat.beq sz e' with
      | false => simp [hee] at h
      | true =>
        simp only [hee, cond_true] at h
        cases hn : Nat.beq n 0 with
        | true => simp only [hn, cond_true] at h; cases h; rfl
        | false =>
          simp only [hn, cond_false] at h
          cases hlo : Nat.ble (len + n) lo with
          | true =>
            simp only [hlo, cond_true] at h
            cases hw : H.writeSeg o (off + len * sz) new with
            | none => simp [hw] at h
            | some H2 => simp [hw] at h; rw [← h.2]; exact ws hw hne
          | false =>
            simp only [hlo, cond_false] at h
            cases hbd : Nat.ble ((2 * (len + n) + 1024) * by_) (2 ^ 48) with
            | false => simp only [hbd, cond_false] at h; cases h
            | true =>
              simp only [hbd, cond_true] at h
              split at h
              · cases h
              cases ex with
              | true => simp only [cond_true] at h; cases h; exact push H _ rfl
              | false =>
                simp only [cond_false] at h
                cases hfl : Nat.ble H.floor o with
                | false => simp [hfl] at h
                | true =>
                  simp only [hfl, cond_true] at h; cases h
                  rw [push (H.set o .dead) _ rfl, Heap.get_set, if_neg hne]
    · cases h
  case copy sz x y =>
    simp only [writeOp] at h
    unfold copyA at h
    split at h
    · cases hs : srcN sz H 0 (e y) <;> simp [hs] at h
      rw [← h.2]
    · rename_i o off len e' lo ex hq
      have hne := ht o (by simp [AOp.target, hq])
      cases hee : Nat.beq sz e' with
      | false => simp [hee] at h
      | true =>
        simp only [hee, cond_true] at h
        split at h
        · cases h
        rename_i n cs _
        cases hz : Nat.beq cs.length 0 with
        | true => simp only [hz, cond_true] at h; cases h; rfl
        | false =>
          simp only [hz, cond_false] at h
          cases hw : H.writeSeg o off cs with
          | none => simp [hw] at h
          | some H2 => simp [hw] at h; rw [← h.2]; exact ws hw hne
    · cases h
  case delete d m k =>
    simp only [writeOp] at h
    split at h
    · cases hpk : plainKey d (e k) <;> simp [hpk] at h
      rw [← h.2]
    · rename_i o hq
      have hne := ht o (by simp [AOp.target, hq])
      cases hb : Nat.ble H.floor o with
      | false => simp [hb] at h
      | true =>
        simp only [hb, cond_true] at h
        split at h
        · cases hpk : plainKey d (e k) with
          | false => simp [hpk] at h
          | true =>
            simp only [hpk, cond_true] at h
            split at h
            · cases h
            · cases h; rw [Heap.get_set, if_neg hne]
            · cases h; rfl
        · cases h
    · cases h
  case clearMap m =>
    simp only [writeOp] at h
    split at h
    · cases h; rfl
    · rename_i o hq
      have hne := ht o (by simp [AOp.target, hq])
      cases hb : Nat.ble H.floor o with
      | false => simp [hb] at h
      | true =>
        simp only [hb, cond_true] at h
        split at h
        · cases h; rw [Heap.get_set, if_neg hne]
        · cases h
    · cases h
  case clearSlice z x =>
    simp only [writeOp] at h
    split at h
    · cases h; rfl
    · rename_i o off len sz lo ex hq
      have hne := ht o (by simp [AOp.target, hq])
      cases hb : (Nat.beq z.length sz && Nat.ble 1 sz) with
      | false => simp only [hb, cond_false] at h; cases h
      | true =>
        simp only [hb, cond_true] at h
        cases hl : Nat.beq len 0 with
        | true => simp only [hl, cond_true] at h; cases h; rfl
        | false =>
          simp only [hl, cond_false] at h
          cases hw : H.writeSeg o off ((List.replicate len z).flatten) with
          | none => simp [hw] at h
          | some H2 => simp [hw] at h; rw [← h.2]; exact ws hw hne
    · cases h
  case nextS it =>
    simp only [writeOp] at h
    split at h
    · rename_i o hq
      have hne := ht o (by simp [AOp.target, hq])
      cases hb : Nat.ble H.floor o with
      | false => simp [hb] at h
      | true =>
        simp only [hb, cond_true] at h
        split at h
        · split at h
          · cases h; rw [Heap.get_set, if_neg hne]
          · cases h; rfl
        · cases h
    · cases h
/-- What a barrier leaves as it was. -/
theorem stepA_frees {cf : CallF} {ao : AOper} {τ : Env} {H : Heap} {r : Env × Heap} (h : stepA cf ao τ H = some r) (hq : ao.quiet = false) {t p off : Nat} (ht : t ∈ ao.frees) (ha : Env.at τ t = .ptr p off) (hp : p < H.next) : r.2.get p = H.get p := by
  cases hw : wantedA τ ao.guard with
  | false => rw [stepA_not hw] at h; cases h; rfl
  | true =>
    obtain ⟨hf, v, hq', _⟩ := stepA_wanted h hw
    rcases quiet_some hq' with ⟨_, hq2⟩ | ⟨q, _⟩
    · simp only [freesOk, List.all_eq_true] at hf
      have := hf t ht
      rw [ha] at this
      simp only [Bool.and_eq_true] at this
      obtain ⟨hwr, htg⟩ := this
      have hwo : writeOp (ev τ) H ao.op = some (v, r.2) := by
        have e1 : operA cf τ H ao.op = plainOp (ev τ) H ao.op := by
          cases hop : ao.op <;> first | rfl | (rw [hop] at hwr; cases hwr)
        rw [e1, plainOp, hwr, cond_true] at hq2
        exact hq2
      refine write_target hwo p hp fun q hqt e => ?_
      rw [hqt] at htg
      subst e
      simp at htg
    · rw [hq] at q; cases q
/-- The value of a slot: by the last operation that is done. -/
def valE (T : Nat → Env × Heap) (aops : List AOper) (listed : Array Bool) (t : Nat) : Nat → AV
  | 0 => Env.at (T 0).1 t
  | m + 1 => if listed.getD m false = true ∧ (aops[m]?).bind (·.dst) = some t then Env.at (T (m + 1)).1 t else valE T aops listed t m
section
variable {cf : CallF} {T : Nat → Env × Heap} {aops : List AOper} {ops : Array Oper} {N : Nat} {listed : Array Bool}
theorem valE_full (hT : ∀ (j : Nat) (ao : AOper), aops[j]? = some ao → stepA cf ao (T j).1 (T j).2 = some (T (j + 1))) (t : Nat) : ∀ m, m ≤ aops.length → (∀ i, i < m → (aops[i]?).bind (·.dst) = some t → listed.getD i false = true) → valE T aops listed t m = Env.at (T m).1 t
  | 0, _, _ => rfl
  | m + 1, hm, h => by
    have ih := valE_full hT t m (by omega) fun i hi hd => h i (by omega) hd
    simp only [valE]
    split
    · rfl
    · rename_i hn
      rw [ih]
      have hlt : m < aops.length := by omega
      have ha : aops[m]? = some aops[m] := List.getElem?_eq_getElem hlt
      obtain ⟨x, hx⟩ := stepA_put (hT m _ ha)
      rw [hx, at_put]
      rw [if_neg]
      intro hd
      exact hn ⟨h m (by omega) (by rw [ha]; exact hd), by rw [ha]; exact hd⟩
theorem valE_none (t k : Nat) : ∀ m, k ≤ m → (∀ i, k ≤ i → i < m → (aops[i]?).bind (·.dst) = some t → ¬ listed.getD i false = true) → valE T aops listed t m = valE T aops listed t k
  | m, hm, h => by
    induction m with
    | zero => have : k = 0 := by omega
              rw [this]
    | succ m ih =>
      by_cases e : k = m + 1
      · rw [e]
      · simp only [valE]
        rw [if_neg (fun q => h m (by omega) (by omega) q.2 q.1)]
        exact ih (by omega) fun i h1 h2 h3 => h i h1 (by omega) h3
theorem valE_congr {l l' : Array Bool} (t : Nat) : ∀ m, (∀ i, i < m → (aops[i]?).bind (·.dst) = some t → l.getD i false = l'.getD i false) → valE T aops l t m = valE T aops l' t m
  | 0, _ => rfl
  | m + 1, h => by
    simp only [valE]
    rw [valE_congr t m fun i hi hd => h i (by omega) hd]
    by_cases hd : (aops[m]?).bind (·.dst) = some t
    · rw [h m (by omega) hd]
    · simp [hd]
end
theorem getD_set (l : Array Bool) (i j : Nat) (hi : i < l.size) : (l.setIfInBounds i true).getD j false = if i = j then true else l.getD j false := by
  simp only [Array.getD_eq_getD_getElem?, Array.getElem?_setIfInBounds]
  by_cases h : i = j
  · subst h; simp [hi]
  · simp [h]
theorem filter_lt {α : Type} (p q : α → Bool) (a : α) : ∀ (l : List α), a ∈ l → p a = true → q a = false → (∀ x, q x = true → p x = true) → (l.filter q).length < (l.filter p).length
  | [], h, _, _, _ => by simp at h
  | x :: l, h, hp, hq, hi => by
    have le : (l.filter q).length ≤ (l.filter p).length := by
      clear h
      induction l with
      | nil => simp
      | cons y l ih =>
        simp only [List.filter_cons]
        cases hy : q y with
        | true => rw [hi y hy]; simpa using ih
        | false => cases p y <;> simp <;> omega
    simp only [List.filter_cons]
    rcases List.mem_cons.1 h with rfl | h
    · simp [hp, hq]; omega
    · have := filter_lt p q a l h hp hq hi
      cases hx : q x with
      | true => rw [hi x hx]; simpa using this
      | false => cases p x <;> simp <;> omega
/-- A load that may be done later: its object is as it was. -/
def Late (T : Nat → Env × Heap) (b i : Nat) (ai : AOper) : Prop :=
  ∃ n t, ai.op = .load n (.tmp t) ∧ (wantedA (T i).1 ai.guard = true → ∀ o off, Env.at (T i).1 t = .ptr o off → (T b).2.get o = (T i).2.get o)
theorem drawn_any {cf : CallF} (hcf : CallSound P cf) (hcm : CallMono cf) {ops : Array Oper} {B W Z N : Nat} {Q : Exit → Act → World → Prop} {aops : List AOper} (hd : DrawOk P ops N aops) {φ0 : Pl} {H0 Hn : Heap} {w0 : World} {τ0 τn : Env} {T : Nat → Env × Heap} {df : List Deferred}
    (h0 : T 0 = (τ0, H0)) (hn : T aops.length = (τn, Hn)) (hT : ∀ (j : Nat) (ao : AOper), aops[j]? = some ao → stepA cf ao (T j).1 (T j).2 = some (T (j + 1)))
    (hH0 : HRel B W Z φ0 H0 w0) (hK : Hn.next ≤ Z)
    (hQ : ∀ φ' act' w', FRel φ' N τn act' → act'.defers = df → HRel B W Z φ' Hn w' → Step φ0 H0 w0 φ' Hn w' → Q .normal act' w') :
    ∀ (fuel : Nat) (listed : Array Bool) (act : Act) (w : World), ((List.range ops.size).filter fun i => !listed.getD i true).length ≤ fuel →
      listed.size = ops.size → (∀ (j : Nat) (o : Oper), listed.getD j false = true → ops[j]? = some o → ∀ e ∈ o.after, binds .any e = true → listed.getD e.on false = true) →
      act.tmps.size = N → act.defers = df →
      (∃ (φ : Pl) (s b : Nat), s ≤ b ∧ b ≤ aops.length ∧
        (∀ (i : Nat) (ai : AOper), aops[i]? = some ai → ai.op.isPure = false → i < s → listed.getD i false = true ∨ Late T b i ai) ∧
        (∀ (i : Nat) (ai : AOper), aops[i]? = some ai → ai.op.isPure = false → b ≤ i → listed.getD i false = false) ∧
        (∀ (i : Nat) (ai : AOper), aops[i]? = some ai → ai.op.isPure = false → s ≤ i → i < b → ai.quiet = true) ∧
        (b = aops.length ∨ ∃ ab, aops[b]? = some ab ∧ ab.op.isPure = false ∧ ab.quiet = false) ∧
        (∀ t, VRel φ (valE T aops listed t aops.length) (act.tmps.getD t undef)) ∧
        HRel B W Z φ (T b).2 w ∧
        (∀ o L, φ o = some L → o < (T s).2.next ∨ Z ≤ o ∨ ∃ i ai, aops[i]? = some ai ∧ ai.op.isPure = false ∧ s ≤ i ∧ i < b ∧ listed.getD i false = true ∧ (T i).2.next ≤ o ∧ o < (T (i + 1)).2.next) ∧
        Step φ0 H0 w0 φ (T b).2 w) →
      wpAny P .any ops Q fuel listed act w := by
  -- what the trace keeps
  have hlen := hd.len
  have tr : ∀ j, j ≤ aops.length → Mono H0 (T j).2 ∧ (T j).2.floor ≤ (T j).2.next := by
    intro j
    induction j with
    | zero => intro _; rw [h0]; exact ⟨Mono.refl _, hH0.fn⟩
    | succ j ih =>
      intro hj
      obtain ⟨m, hf⟩ := ih (by omega)
      have := stepA_mono hcm (hT j _ (List.getElem?_eq_getElem (by omega : j < aops.length))) hf
      exact ⟨m.trans this, by rw [this.floor]; exact Nat.le_trans hf this.next⟩
  have trm : ∀ i j, i ≤ j → j ≤ aops.length → Mono (T i).2 (T j).2 := by
    intro i j hij
    induction j with
    | zero => intro _; have : i = 0 := by omega
              rw [this]; exact Mono.refl _
    | succ j ih =>
      intro hj
      by_cases e : i = j + 1
      · rw [e]; exact Mono.refl _
      · exact (ih (by omega) (by omega)).trans (stepA_mono hcm (hT j _ (List.getElem?_eq_getElem (by omega : j < aops.length))) (tr j (by omega)).2)
  have trf : ∀ j, j ≤ aops.length → ∀ o, (T j).2.next ≤ o → (T j).2.get o = none := fun j hj => (tr j hj).1.fresh hH0.fresh
  have trs : ∀ s b, (∀ (i : Nat) (ai : AOper), aops[i]? = some ai → ai.op.isPure = false → s ≤ i → i < b → ai.quiet = true) → b ≤ aops.length → ∀ i, s ≤ i → ∀ j, i ≤ j → j ≤ b → ∀ o, o < (T i).2.next → (T j).2.get o = (T i).2.get o := by
    intro s b hq hb i hsi j hij
    induction j with
    | zero => intro _ o _; have : i = 0 := by omega
              rw [this]
    | succ j ih =>
      intro hj o ho
      by_cases e : i = j + 1
      · rw [e]
      · have hja : aops[j]? = some aops[j] := List.getElem?_eq_getElem (by omega : j < aops.length)
        have hst := hT j _ hja
        have ih' := ih (by omega) (by omega) o ho
        cases hp : (aops[j]).op.isPure with
        | true => rw [(stepA_pure hst hp).1]; exact ih'
        | false =>
          rw [stepA_same hcm hst (hq j _ hja hp (by omega) (by omega)) o (Nat.lt_of_lt_of_le ho (trm i j (by omega) (by omega)).next)]
          exact ih'
  have hZ : ∀ j, j ≤ aops.length → (T j).2.next ≤ Z := fun j hj => Nat.le_trans (trm j aops.length hj (Nat.le_refl _)).next (by rw [hn]; exact hK)
  have ancIn : ∀ (listed : Array Bool), (∀ (j : Nat) (o : Oper), listed.getD j false = true → ops[j]? = some o → ∀ e ∈ o.after, binds .any e = true → listed.getD e.on false = true) →
      ∀ i j, Anc ops i j → (∀ o, ops[j]? = some o → ∀ e ∈ o.after, binds .any e = true → listed.getD e.on false = true) → listed.getD i false = true := by
    intro listed hcl i j h
    induction h with
    | edge h he hb => intro hr; exact hr _ h _ he hb
    | step h he hb t ih => intro hr; exact ih fun o ho => hcl _ o (hr _ h _ he hb) ho
  intro fuel
  induction fuel with
  | zero =>
    intro listed act w hcnt hls hcl hts hdf ⟨φ, s, b, hsb, hbn, f1, f2, f3, f4, f5, f6, f7, f8⟩
    have hall : ∀ i, i < ops.size → listed.getD i false = true := by
      intro i hi
      have : (List.range ops.size).filter (fun i => !listed.getD i true) = [] := List.length_eq_zero_iff.1 (by omega)
      have := List.filter_eq_nil_iff.1 this i (by simpa using hi)
      simp only [Array.getD_eq_getD_getElem?] at this ⊢
      have hi' : i < listed.size := by omega
      simp [hi'] at this ⊢; exact this
    have hb : b = aops.length := by
      rcases f4 with q | ⟨ab, q1, q2, q3⟩
      · exact q
      · have : b < aops.length := by
          rcases Nat.lt_or_ge b aops.length with r | r
          · exact r
          · rw [List.getElem?_eq_none r] at q1; cases q1
        have h1 := f2 b ab q1 q2 (Nat.le_refl _)
        rw [hall b (by omega)] at h1; cases h1
    subst hb
    rw [hn] at f6 f8
    refine ⟨?_, hQ φ act w ⟨hts, fun t => ?_⟩ hdf f6 f8⟩
    · unfold Region.ready
      rw [List.filter_eq_nil_iff]
      intro i hi
      have hi' : i < ops.size := by simpa using hi
      have := hall i hi'
      have hi2 : i < listed.size := by omega
      simp only [Array.getD_eq_getD_getElem?] at this ⊢
      simp [hi2] at this ⊢
      simp [this]
    · have := f5 t
      rw [valE_full hT t aops.length (Nat.le_refl _) (fun i hi _ => hall i (by omega)), hn] at this
      exact this
  | succ fuel ih =>
    intro listed act w hcnt hls hcl hts hdf ⟨φ, s, b, hsb, hbn, f1, f2, f3, f4, f5, f6, f7, f8⟩
    constructor
    · -- nothing is ready: all is done
      intro hr
      have hall : ∀ i, i < ops.size → listed.getD i false = true := by
        intro i
        induction i using Nat.strongRecOn with
        | _ i ihi =>
          intro hi
          cases hli : listed.getD i false with
          | true => rfl
          | false =>
            exfalso
            have : i ∈ Region.ready .any ops listed := by
              unfold Region.ready
              rw [List.mem_filter]
              refine ⟨by simpa using hi, ?_⟩
              have hi2 : i < listed.size := by omega
              simp only [Array.getD_eq_getD_getElem?] at hli ⊢
              simp [hi2] at hli
              have ho : ops[i]? = some ops[i] := Array.getElem?_eq_getElem hi
              simp only [hi2, Array.getElem?_eq_getElem, Option.getD_some, hli, Bool.not_false, Bool.true_and, ho, Option.map_some]
              rw [Array.all_eq_true']
              intro e he
              cases hb : binds .any e with
              | false => simp
              | true =>
                have hlt := hd.back i _ e ho he hb
                have := ihi e.on hlt (by omega)
                simp only [Array.getD_eq_getD_getElem?] at this
                simp [this]
            rw [hr] at this; cases this
      have hb : b = aops.length := by
        rcases f4 with q | ⟨ab, q1, q2, q3⟩
        · exact q
        · have : b < aops.length := by
            rcases Nat.lt_or_ge b aops.length with r | r
            · exact r
            · rw [List.getElem?_eq_none r] at q1; cases q1
          have h1 := f2 b ab q1 q2 (Nat.le_refl _)
          rw [hall b (by omega)] at h1; cases h1
      subst hb
      rw [hn] at f6 f8
      refine hQ φ act w ⟨hts, fun t => ?_⟩ hdf f6 f8
      have := f5 t
      rw [valE_full hT t aops.length (Nat.le_refl _) (fun i hi _ => hall i (by omega)), hn] at this
      exact this
    · intro i hi
      unfold Region.ready at hi
      rw [List.mem_filter] at hi
      obtain ⟨hi1, hi2⟩ := hi
      have hin : i < ops.size := by simpa using hi1
      have hil : i < listed.size := by omega
      have ho : ops[i]? = some ops[i] := Array.getElem?_eq_getElem hin
      have hia : aops[i]? = some (aops[i]'(by omega)) := List.getElem?_eq_getElem (by omega)
      generalize hao : aops[i]'(by omega) = ao at hia
      obtain ⟨o, ho', hok⟩ := hd.ok i ao hia
      have hli : listed.getD i false = false := by
        simp only [Bool.and_eq_true] at hi2
        have := hi2.1
        simp only [Array.getD_eq_getD_getElem?] at this ⊢
        simp [hil] at this ⊢; exact this
      have hready : ∀ o', ops[i]? = some o' → ∀ e ∈ o'.after, binds .any e = true → listed.getD e.on false = true := by
        intro o' ho2 e he hb
        simp only [Bool.and_eq_true, ho2, Option.map_some, Option.getD_some] at hi2
        have := (Array.all_eq_true'.1 hi2.2) e he
        simpa [hb] using this
      have hanc : ∀ k, Anc ops k i → listed.getD k false = true := fun k hk => ancIn listed hcl k i hk hready
      have hdesc : ∀ k, Anc ops i k → listed.getD k false = false := by
        intro k hk
        cases hlk : listed.getD k false with
        | false => rfl
        | true =>
          have := ancIn listed hcl i k hk (fun o2 ho2 => hcl k o2 hlk ho2)
          rw [hli] at this; cases this
      have hst := hT i ao hia
      have hset : ∀ j, (listed.setIfInBounds i true).getD j false = if i = j then true else listed.getD j false := fun j => getD_set listed i j hil
      -- slots that the operation looks at
      have hlook : ∀ t, t ∈ looksA o ao → valE T aops listed t aops.length = Env.at (T i).1 t := by
        intro t ht
        have h1 : valE T aops listed t aops.length = valE T aops listed t i := by
          refine valE_none t i aops.length (by omega) fun k hk1 hk2 hkd => ?_
          by_cases hki : k = i
          · subst hki; rw [hli]; simp
          · have hka : aops[k]? = some aops[k] := List.getElem?_eq_getElem hk2
            obtain ⟨ok, hok1, hok2⟩ := hd.ok k _ hka
            rw [hka] at hkd
            have hkd' : ok.dst = some t := by rw [← hok2.dst]; exact hkd
            have := (hd.conf i k o ok ao _ (by omega) ho' hok1 hia hka).2 t hkd' ht
            rw [hdesc k this]; simp
        rw [h1]
        refine valE_full hT t i (by omega) fun k hk hkd => ?_
        have hka : aops[k]? = some (aops[k]'(by omega)) := List.getElem?_eq_getElem (by omega)
        obtain ⟨ok, hok1, hok2⟩ := hd.ok k _ hka
        rw [hka] at hkd
        have hkd' : ok.dst = some t := by rw [← hok2.dst]; exact hkd
        exact hanc k ((hd.conf k i ok o _ ao hk hok1 ho' hka hia).1 t hkd' (.inl ht))
      have hx : XRel φ (ev (T i).1) act.eval o.op.operands.toList := by
        intro x hx y hy
        cases x with
        | tmp t =>
          simp [copd] at hy; subst hy
          have := f5 t
          rw [hlook t (by simp only [looksA, List.mem_append, List.mem_filterMap]; exact .inl ⟨_, hx, rfl⟩)] at this
          exact this
        | const v =>
          cases hc : cval v <;> simp [copd, hc] at hy
          subst hy; exact cval_rel hc
        | global g => simp [copd] at hy
        | func f => simp [copd] at hy; subst hy; exact .fn f [] [] _ _ .nil .nil
      have hg : ∀ t c, ao.guard = some (t, c) → VRel φ (Env.at (T i).1 t) (act.tmps.getD t undef) := by
        intro t c hgc
        have := f5 t
        rw [hlook t (by simp only [looksA, List.mem_append, hgc]; exact .inr (by simp))] at this
        exact this
      -- slots behind it
      have hafter : ∀ (φ' : Pl) (x : AV) (v : Value), φ.le φ' → (T (i + 1)).1 = putA (T i).1 ao.dst x → VRel φ' x v → ∀ t, VRel φ' (valE T aops (listed.setIfInBounds i true) t aops.length) ((act.put o.dst v).tmps.getD t undef) := by
        intro φ' x v hle hput hv t
        rw [getD_put act o.dst v t (by rw [hts]; exact hok.dlt)]
        by_cases hdt : o.dst = some t
        · rw [if_pos hdt]
          have hia2 : i < aops.length := by omega
          have h1 : valE T aops (listed.setIfInBounds i true) t aops.length = valE T aops (listed.setIfInBounds i true) t (i + 1) := by
            refine valE_none t (i + 1) aops.length (by omega) fun k hk1 hk2 hkd => ?_
            have hka : aops[k]? = some aops[k] := List.getElem?_eq_getElem hk2
            obtain ⟨ok, hok1, hok2⟩ := hd.ok k _ hka
            rw [hka] at hkd
            have hkd' : ok.dst = some t := by rw [← hok2.dst]; exact hkd
            have := (hd.conf i k o ok ao _ (by omega) ho' hok1 hia hka).1 t hdt (.inr hkd')
            rw [hset, if_neg (by omega), hdesc k this]; simp
          rw [h1]
          simp only [valE]
          rw [if_pos ⟨by rw [hset, if_pos rfl], by rw [hia]; simp only [Option.bind_some]; rw [hok.dst]; exact hdt⟩, hput, at_put, if_pos (by rw [hok.dst]; exact hdt)]
          exact hv
        · rw [if_neg hdt]
          have : valE T aops (listed.setIfInBounds i true) t aops.length = valE T aops listed t aops.length := by
            refine valE_congr t aops.length fun k hk hkd => ?_
            rw [hset]
            by_cases hki : i = k
            · subst hki
              rw [hia] at hkd
              exact absurd (by rw [← hok.dst]; exact hkd) hdt
            · rw [if_neg hki]
          rw [this]; exact (f5 t).mono hle
      have hcnt' : ((List.range ops.size).filter fun j => !(listed.setIfInBounds i true).getD j true).length ≤ fuel := by
        have := filter_lt (fun j => !listed.getD j true) (fun j => !(listed.setIfInBounds i true).getD j true) i (List.range ops.size) (by simpa using hin)
          (by simp only [Array.getD_eq_getD_getElem?] at hli ⊢; simp [hil] at hli ⊢; exact hli)
          (by simp [Array.getD_eq_getD_getElem?, hil])
          (fun j hj => by
            by_cases hij : i = j
            · subst hij; simp [Array.getD_eq_getD_getElem?, hil] at hj
            · simpa [Array.getD_eq_getD_getElem?, Array.getElem?_setIfInBounds, hij] using hj)
        omega
      have hcl' : ∀ (j : Nat) (o : Oper), (listed.setIfInBounds i true).getD j false = true → ops[j]? = some o → ∀ e ∈ o.after, binds .any e = true → (listed.setIfInBounds i true).getD e.on false = true := by
        intro j o2 hj ho2 e he hb
        rw [hset] at hj ⊢
        by_cases hie : i = e.on
        · rw [if_pos hie]
        · rw [if_neg hie]
          by_cases hij : i = j
          · subst hij; exact hready o2 ho2 e he hb
          · rw [if_neg hij] at hj; exact hcl j o2 hj ho2 e he hb
      have hbfloor : B ≤ (T b).2.floor := by rw [(tr b hbn).1.floor]; exact hH0.fl
      cases hp : ao.op.isPure with
      | true =>
        -- an operation that takes no memory
        have hst2 := (stepA_pure hst hp).2 (T b).2
        refine step_wp hcf ho' hok hts hx hg f6 hst2 (hZ b hbn) fun φ' x v w' e1 h1 h2 h3 _ => ?_
        refine ih _ _ _ hcnt' (by simp [hls]) hcl' (by rw [put_tmps]; cases o.dst <;> simp [hts]) (by rw [put_defers]; exact hdf)
          ⟨φ', s, b, hsb, hbn, fun k ak q1 q2 q3 => ?_, fun k ak q1 q2 q3 => ?_, f3, f4, hafter φ' x v h3.ext e1 h1, h2, fun p L e => ?_, f8.trans h3⟩
        · rw [hset]; split
          · exact .inl rfl
          · exact f1 k ak q1 q2 q3
        · rw [hset]
          by_cases hik : i = k
          · subst hik; rw [hia] at q1; cases q1; rw [hp] at q2; cases q2
          · rw [if_neg hik]; exact f2 k ak q1 q2 q3
        · cases hφ : φ p with
          | none => have := h3.new p L e hφ; omega
          | some L' =>
            rcases f7 p L' hφ with q | q | ⟨k, ak, q1, q2, q3, q4, q5, q6, q7⟩
            · exact .inl q
            · exact .inr (.inl q)
            · exact .inr (.inr ⟨k, ak, q1, q2, q3, q4, by rw [hset]; split; rfl; exact q5, q6, q7⟩)
      | false =>
        by_cases hsi' : i < s
        case pos =>
          -- a load that comes late
          rcases f1 i ao hia hp hsi' with q | ⟨n, t, hop, hsame⟩
          · rw [hli] at q; cases q
          obtain ⟨hsT, hst2, _⟩ := stepA_load (H' := (T b).2) hst hop hsame
          refine step_wp hcf ho' hok hts hx hg f6 hst2 (hZ b hbn) fun φ' x v w' e1 h1 h2 h3 _ => ?_
          refine ih _ _ _ hcnt' (by simp [hls]) hcl' (by rw [put_tmps]; cases o.dst <;> simp [hts]) (by rw [put_defers]; exact hdf)
            ⟨φ', s, b, hsb, hbn, fun k ak q1 q2 q3 => ?_, fun k ak q1 q2 q3 => ?_, f3, f4, hafter φ' x v h3.ext e1 h1, h2, fun p L e => ?_, f8.trans h3⟩
          · rw [hset]; split
            · exact .inl rfl
            · exact f1 k ak q1 q2 q3
          · rw [hset, if_neg (by omega)]; exact f2 k ak q1 q2 q3
          · cases hφ : φ p with
            | none => have := h3.new p L e hφ; omega
            | some L' =>
              rcases f7 p L' hφ with q | q | ⟨k, ak, q1, q2, q3, q4, q5, q6, q7⟩
              · exact .inl q
              · exact .inr (.inl q)
              · exact .inr (.inr ⟨k, ak, q1, q2, q3, q4, by rw [hset]; split; rfl; exact q5, q6, q7⟩)
        have hsi : s ≤ i := by omega
        clear hsi'
        cases hq : ao.quiet with
        | true =>
          -- a quiet one
          have hib : i < b := by
            rcases Nat.lt_or_ge i b with q | q
            · exact q
            · exfalso
              rcases f4 with r | ⟨ab, r1, r2, r3⟩
              · omega
              · by_cases e : b = i
                · subst e; rw [hia] at r1; cases r1; rw [hq] at r3; cases r3
                · have := (hd.barr b ab r1 r3 r2 i ao hia hp).2 (by omega)
                  have := hanc b this
                  rw [f2 b ab r1 r2 (Nat.le_refl _)] at this; cases this
          have hTi := tr i (by omega)
          have hTi1 := trm i (i + 1) (by omega) (by omega)
          have hTb := trm (i + 1) b (by omega) hbn
          have same : ∀ p, p < (T i).2.next → (T b).2.get p = (T i).2.get p := trs s b f3 hbn i hsi b (by omega) (Nat.le_refl _)
          have same1 : ∀ p, p < (T (i + 1)).2.next → (T b).2.get p = (T (i + 1)).2.get p := trs s b f3 hbn (i + 1) (by omega) b (by omega) (Nat.le_refl _)
          have hfl : (T b).2.floor = (T i).2.floor := by rw [(tr b hbn).1.floor, hTi.1.floor]
          have liveb : ∀ p, live (T i).2 p → live (T b).2 p := fun p ⟨y, hy, hyd⟩ => by
            have : p < (T i).2.next := by
              rcases Nat.lt_or_ge p (T i).2.next with r | r
              · exact r
              · rw [trf i (by omega) p r] at hy; cases hy
            exact ⟨y, by rw [same p this]; exact hy, hyd⟩
          have hHi : HRel B W (T (i + 1)).2.next φ (T i).2 w :=
            { fl := by rw [hTi.1.floor]; exact hH0.fl
              fn := hTi.2
              wsz := f6.wsz
              dom := fun p L e => by
                rcases f7 p L e with r | r | ⟨k, ak, r1, r2, r3, r4, r5, r6, r7⟩
                · exact .inl (Nat.lt_of_lt_of_le r (trm s i hsi (by omega)).next)
                · exact .inr (Nat.le_trans (hZ (i + 1) (by omega)) r)
                · by_cases hki : k < i
                  · exact .inl (Nat.lt_of_lt_of_le r7 (trm (k + 1) i (by omega) (by omega)).next)
                  · by_cases hke : k = i
                    · subst hke; rw [hli] at r5; cases r5
                    · exact .inr (Nat.le_trans (trm (i + 1) k (by omega) (by omega)).next r6)
              fresh := trf i (by omega)
              obj := fun p L y e hy => by
                have : p < (T i).2.next := by
                  rcases Nat.lt_or_ge p (T i).2.next with r | r
                  · exact r
                  · rw [trf i (by omega) p r] at hy; cases hy
                exact f6.obj p L y e (by rw [same p this]; exact hy)
              low := f6.low
              high := fun p L e hp hl => f6.high p L e hp (liveb p hl)
              inj := fun p p' L L' e e' hp hp' hl hl' => f6.inj p p' L L' e e' hp hp' (liveb p hl) (liveb p' hl') }
          refine step_wp hcf ho' hok hts hx hg hHi hst (Nat.le_refl _) fun φ' x v w' e1 h1 h2 h3 h4 => ?_
          obtain ⟨hkept, hmade⟩ := h4 hq
          have isnew : ∀ p L, φ' p = some L → φ p = none → (T i).2.next ≤ p ∧ p < (T (i + 1)).2.next := h3.new
          have isold : ∀ p L L', φ' p = some L → φ p = some L' → L' = L := fun p L L' e e' => by
            have := h3.ext p L' e'; rw [e] at this; exact (Option.some.inj this).symm
          have live1 : ∀ p, p < (T (i + 1)).2.next → (live (T b).2 p ↔ live (T (i + 1)).2 p) := fun p hp => by unfold live; rw [same1 p hp]
          have hBi : B ≤ (T i).2.next := Nat.le_trans hHi.fl hTi.2
          have hHb : HRel B W Z φ' (T b).2 w' :=
            { fl := f6.fl
              fn := f6.fn
              wsz := Nat.le_trans f6.wsz h3.size
              dom := fun p L e => by
                cases hφ : φ p with
                | none => exact .inl (Nat.lt_of_lt_of_le (isnew p L e hφ).2 hTb.next)
                | some L' => exact f6.dom p L' hφ
              fresh := f6.fresh
              obj := fun p L y e hy => by
                by_cases hp1 : p < (T (i + 1)).2.next
                · exact h2.obj p L y e (by rw [← same1 p hp1]; exact hy)
                · cases hφ : φ p with
                  | none => exact absurd (isnew p L e hφ).2 hp1
                  | some L' =>
                    have := isold p L L' e hφ; subst this
                    by_cases hyd : y = .dead
                    · subst hyd; trivial
                    · have hpB : B ≤ p := by have := hTi1.next; omega
                      have := f6.live_in hφ ⟨y, hy, hyd⟩ hpB
                      exact (f6.obj p L' y hφ hy).keep h3.ext (hkept _ this)
              low := fun p L e hp => by
                cases hφ : φ p with
                | none => have := (isnew p L e hφ).1; omega
                | some L' => have := isold p L L' e hφ; subst this; exact f6.low p L' hφ hp
              high := fun p L e hp hl => by
                cases hφ : φ p with
                | none => exact h2.high p L e hp ((live1 p (isnew p L e hφ).2).1 hl)
                | some L' => have := isold p L L' e hφ; subst this; exact f6.high p L' hφ hp hl
              inj := fun p p' L L' e e' hp hp' hl hl' hbb => by
                cases hφ : φ p with
                | none =>
                  have n1 := isnew p L e hφ
                  have l1 := (live1 p n1.2).1 hl
                  have m1 := hmade p L e hφ l1
                  cases hφ' : φ p' with
                  | none => exact h2.inj p p' L L' e e' hp hp' l1 ((live1 p' (isnew p' L' e' hφ').2).1 hl') hbb
                  | some K =>
                    have := isold p' L' K e' hφ'; subst this
                    have := f6.live_in hφ' hl' hp'
                    omega
                | some K =>
                  have := isold p L K e hφ; subst this
                  cases hφ' : φ p' with
                  | none =>
                    have m1 := hmade p' L' e' hφ' ((live1 p' (isnew p' L' e' hφ').2).1 hl')
                    have := f6.live_in hφ hl hp
                    omega
                  | some K' =>
                    have := isold p' L' K' e' hφ'; subst this
                    exact f6.inj p p' K K' hφ hφ' hp hp' hl hl' hbb }
          have hSb : Step φ0 H0 w0 φ' (T b).2 w' :=
            { ext := Pl.le_trans f8.ext h3.ext
              new := fun p L e e0 => by
                cases hφ : φ p with
                | none =>
                  have := isnew p L e hφ
                  have h5 := hTi.1.next
                  have h6 := hTb.next
                  omega
                | some L' => exact f8.new p L' hφ e0
              next := f8.next
              floor := f8.floor
              os := h3.os.trans f8.os
              tape := h3.tape.trans f8.tape
              output := h3.output.trans f8.output
              size := Nat.le_trans f8.size h3.size
              kept := fun c hc hnn => (hkept c (Nat.lt_of_lt_of_le hc f8.size)).trans (f8.kept c hc hnn)
              made := fun p L hp e hl => by
                cases hφ : φ p with
                | none =>
                  have n1 := isnew p L e hφ
                  exact .inl (Nat.le_trans f8.size (hmade p L e hφ ((live1 p n1.2).1 hl)))
                | some L' => have := isold p L L' e hφ; subst this; exact f8.made p L' hp hφ hl
              low := f8.low }
          refine ih _ _ _ hcnt' (by simp [hls]) hcl' (by rw [put_tmps]; cases o.dst <;> simp [hts]) (by rw [put_defers]; exact hdf)
            ⟨φ', s, b, hsb, hbn, fun k ak q1 q2 q3 => ?_, fun k ak q1 q2 q3 => ?_, f3, f4, hafter φ' x v h3.ext e1 h1, hHb, fun p L e => ?_, hSb⟩
          · rw [hset]; split
            · exact .inl rfl
            · exact f1 k ak q1 q2 q3
          · rw [hset, if_neg (by omega)]; exact f2 k ak q1 q2 q3
          · cases hφ : φ p with
            | none =>
              have n1 := isnew p L e hφ
              exact .inr (.inr ⟨i, ao, hia, hp, hsi, hib, by rw [hset, if_pos rfl], n1.1, n1.2⟩)
            | some L' =>
              rcases f7 p L' hφ with q | q | ⟨k, ak, q1, q2, q3, q4, q5, q6, q7⟩
              · exact .inl q
              · exact .inr (.inl q)
              · exact .inr (.inr ⟨k, ak, q1, q2, q3, q4, by rw [hset]; split; rfl; exact q5, q6, q7⟩)
        | false =>
          -- one that must stand where it stands
          have hib : i = b := by
            rcases Nat.lt_trichotomy i b with q | q | q
            · have := f3 i ao hia hp hsi q; rw [hq] at this; cases this
            · exact q
            · exfalso
              rcases f4 with r | ⟨ab, r1, r2, r3⟩
              · omega
              · have := hanc b ((hd.barr b ab r1 r3 r2 i ao hia hp).2 q)
                rw [f2 b ab r1 r2 (Nat.le_refl _)] at this; cases this
          subst hib
          have hi1 : i + 1 ≤ aops.length := by omega
          -- what is not done yet is a load, and its object stays
          have before : ∀ (k : Nat) (ak : AOper), aops[k]? = some ak → ak.op.isPure = false → k < i → listed.getD k false = true ∨ Late T (i + 1) k ak := by
            intro k ak q1 q2 q3
            cases hlk : listed.getD k false with
            | true => exact .inl rfl
            | false =>
              right
              rcases (hd.barr i ao hia hq hp k ak q1 q2).1 q3 with q | ⟨⟨ak', ab', n, t, r1, r2, r3, r4, r5, r6⟩, _⟩
              · rw [hanc k q] at hlk; cases hlk
              · rw [q1] at r1; cases r1
                rw [hia] at r2; cases r2
                have hstk := hT k ak q1
                have slot : ∀ m, k < m → m ≤ i → Env.at (T m).1 t = Env.at (T (k + 1)).1 t := by
                  intro m
                  induction m with
                  | zero => intro h; omega
                  | succ m ihm =>
                    intro h1 h2
                    by_cases hmk : m = k
                    · subst hmk; rfl
                    · have hma : aops[m]? = some (aops[m]'(by omega)) := List.getElem?_eq_getElem (by omega)
                      obtain ⟨x, hx⟩ := stepA_put (hT m _ hma)
                      rw [hx, at_put, if_neg (r6 m _ (by omega) (by omega) hma)]
                      exact ihm (by omega) (by omega)
                refine ⟨n, t, r3, fun hw p off ha => ?_⟩
                -- the object is as it was up to here
                have upto : (T i).2.get p = (T k).2.get p ∧ p < (T k).2.next := by
                  have hnx : p < (T k).2.next := by
                    obtain ⟨_, _, h5⟩ := stepA_load (H' := (T k).2) hstk r3 (fun _ _ _ _ => rfl)
                    obtain ⟨p', off', x, h6, h7⟩ := h5 hw
                    rw [ha] at h6; cases h6
                    rcases Nat.lt_or_ge p (T k).2.next with r | r
                    · exact r
                    · rw [trf k (by omega) p r] at h7; cases h7
                  refine ⟨?_, hnx⟩
                  by_cases hks : k < s
                  · rcases f1 k ak q1 q2 hks with h6 | ⟨n', t', h6, h7⟩
                    · rw [hlk] at h6; cases h6
                    · rw [r3] at h6; cases h6
                      exact h7 hw p off ha
                  · exact trs s i f3 hbn k (by omega) i (by omega) (Nat.le_refl _) p hnx
                have hslot : Env.at (T (k + 1)).1 t = Env.at (T k).1 t ∨ ak.dst = some t := by
                  obtain ⟨x, hx⟩ := stepA_put hstk
                  rw [hx, at_put]
                  by_cases h8 : ak.dst = some t
                  · exact .inr h8
                  · left; rw [if_neg h8]
                rcases hslot with h8 | h8
                · have h9 : Env.at (T i).1 t = .ptr p off := by rw [slot i q3 (Nat.le_refl _), h8, ha]
                  rw [stepA_frees hst hq r5 h9 (Nat.lt_of_lt_of_le upto.2 (trm k i (by omega) (by omega)).next)]
                  exact upto.1
                · exact absurd h8 (by
                    intro h8
                    obtain ⟨ok2, h10, h11⟩ := hd.ok k ak q1
                    exact hd.self k ok2 ak n t h10 q1 r3 h8)
          have behind : ∀ (k : Nat) (ak : AOper), aops[k]? = some ak → ak.op.isPure = false → i < k → listed.getD k false = false := fun k ak q1 q2 q3 => hdesc k ((hd.barr i ao hia hq hp k ak q1 q2).2 q3)
          refine step_wp hcf ho' hok hts hx hg f6 hst (hZ (i + 1) hi1) fun φ' x v w' e1 h1 h2 h3 _ => ?_
          -- the next one that must stand
          have nb : ∃ b', i + 1 ≤ b' ∧ b' ≤ aops.length ∧ (∀ (k : Nat) (ak : AOper), aops[k]? = some ak → ak.op.isPure = false → i + 1 ≤ k → k < b' → ak.quiet = true) ∧ (b' = aops.length ∨ ∃ ab, aops[b']? = some ab ∧ ab.op.isPure = false ∧ ab.quiet = false) := by
            have : ∀ n k, n = aops.length - k → i + 1 ≤ k → k ≤ aops.length → (∀ (m : Nat) (am : AOper), aops[m]? = some am → am.op.isPure = false → i + 1 ≤ m → m < k → am.quiet = true) →
                ∃ b', i + 1 ≤ b' ∧ b' ≤ aops.length ∧ (∀ (k : Nat) (ak : AOper), aops[k]? = some ak → ak.op.isPure = false → i + 1 ≤ k → k < b' → ak.quiet = true) ∧ (b' = aops.length ∨ ∃ ab, aops[b']? = some ab ∧ ab.op.isPure = false ∧ ab.quiet = false) := by
              intro n
              induction n with
              | zero => intro k h1 h2 h3 h4; exact ⟨k, h2, h3, h4, .inl (by omega)⟩
              | succ n ihn =>
                intro k h1 h2 h3 h4
                have hk : k < aops.length := by omega
                have hka : aops[k]? = some aops[k] := List.getElem?_eq_getElem hk
                by_cases hc : aops[k].op.isPure = false ∧ aops[k].quiet = false
                · exact ⟨k, h2, h3, h4, .inr ⟨_, hka, hc.1, hc.2⟩⟩
                · refine ihn (k + 1) (by omega) (by omega) (by omega) fun m am q1 q2 q3 q4 => ?_
                  by_cases e : m = k
                  · subst e; rw [hka] at q1; cases q1
                    cases hqq : aops[m].quiet with
                    | true => rfl
                    | false => exact absurd ⟨q2, hqq⟩ hc
                  · exact h4 m am q1 q2 q3 (by omega)
            exact this _ (i + 1) rfl (Nat.le_refl _) hi1 fun m am _ _ q3 q4 => by omega
          obtain ⟨b', g1, g2, g3, g4⟩ := nb
          have hdom' : ∀ p L, φ' p = some L → p < (T (i + 1)).2.next ∨ Z ≤ p := h2.dom
          have same1 : ∀ p, p < (T (i + 1)).2.next → (T b').2.get p = (T (i + 1)).2.get p := trs (i + 1) b' g3 g2 (i + 1) (Nat.le_refl _) b' g1 (Nat.le_refl _)
          have hm' := trm (i + 1) b' g1 g2
          have getb : ∀ p L y, φ' p = some L → (T b').2.get p = some y → (T (i + 1)).2.get p = some y := fun p L y e hy => by
            rcases hdom' p L e with r | r
            · rw [← same1 p r]; exact hy
            · rw [trf b' g2 p (Nat.le_trans (hZ b' g2) r)] at hy; cases hy
          have lb : ∀ p L, φ' p = some L → live (T b').2 p → live (T (i + 1)).2 p := fun p L e ⟨y, hy, hyd⟩ => ⟨y, getb p L y e hy, hyd⟩
          have hHb : HRel B W Z φ' (T b').2 w' :=
            { fl := by rw [hm'.floor]; exact h2.fl
              fn := (tr b' g2).2
              wsz := h2.wsz
              dom := fun p L e => (hdom' p L e).imp (fun r => Nat.lt_of_lt_of_le r hm'.next) id
              fresh := trf b' g2
              obj := fun p L y e hy => h2.obj p L y e (getb p L y e hy)
              low := h2.low
              high := fun p L e hp hl => h2.high p L e hp (lb p L e hl)
              inj := fun p p' L L' e e' hp hp' hl hl' => h2.inj p p' L L' e e' hp hp' (lb p L e hl) (lb p' L' e' hl') }
          have hS := f8.trans h3
          have hSb : Step φ0 H0 w0 φ' (T b').2 w' :=
            { ext := hS.ext
              new := fun p L e e0 => by have := hS.new p L e e0; have := hm'.next; omega
              next := Nat.le_trans hS.next hm'.next
              floor := hm'.floor.trans hS.floor
              os := hS.os, tape := hS.tape, output := hS.output, size := hS.size, kept := hS.kept
              made := fun p L hp e hl => hS.made p L hp e (lb p L e hl)
              low := fun p hp => by
                have h5 := hS.low p hp
                have h6 := hH0.fn
                have h7 := hS.next
                rw [same1 p (by omega)]; exact h5 }
          refine ih _ _ _ hcnt' (by simp [hls]) hcl' (by rw [put_tmps]; cases o.dst <;> simp [hts]) (by rw [put_defers]; exact hdf)
            ⟨φ', i + 1, b', g1, g2, fun k ak q1 q2 q3 => ?_, fun k ak q1 q2 q3 => ?_, g3, g4, hafter φ' x v h3.ext e1 h1, hHb, fun p L e => ?_, hSb⟩
          · rw [hset]; split
            · exact .inl rfl
            · rcases before k ak q1 q2 (by omega) with h5 | ⟨n, t, h5, h6⟩
              · exact .inl h5
              · refine .inr ⟨n, t, h5, fun hw p off ha => ?_⟩
                rw [← h6 hw p off ha]
                have hnx : p < (T k).2.next := by
                  obtain ⟨_, _, h7⟩ := stepA_load (H' := (T k).2) (hT k ak q1) h5 (fun _ _ _ _ => rfl)
                  obtain ⟨p', off', x, h8, h9⟩ := h7 hw
                  rw [ha] at h8; cases h8
                  rcases Nat.lt_or_ge p (T k).2.next with r | r
                  · exact r
                  · rw [trf k (by omega) p r] at h9; cases h9
                exact same1 p (Nat.lt_of_lt_of_le hnx (trm k (i + 1) (by omega) (by omega)).next)
          · rw [hset, if_neg (by omega)]; exact behind k ak q1 q2 (by omega)
          · rcases hdom' p L e with r | r
            · exact .inl r
            · exact .inr (.inl r)
end Go.AI
