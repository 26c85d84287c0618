/- Texts as bytes; what the laws share. No claim by itself. -/
import Derived.Test.YtacfhbhfgbjleaaDoorL4
namespace Go.Proofs.YtacfhbhfgbjleaaDoor
open Go Go.AI
theorem itoa_lt (n : Int) : ∀ b, b ∈ itoaN n → b < 256 := by
  have h : ∀ f u (acc : List Nat), (∀ b, b ∈ acc → b < 256) → ∀ b, b ∈ decF f u acc → b < 256 := by
    intro f
    induction f with
    | zero => intro u acc h b hb; exact h b hb
    | succ f ih =>
      intro u acc h b hb
      unfold decF at hb
      cases hq : Nat.blt u 10 with
      | true =>
        rw [hq] at hb
        have h10 := Nat.le_of_ble_eq_true hq
        rcases List.mem_cons.1 hb with r | r
        · omega
        · exact h b r
      | false =>
        rw [hq] at hb
        refine ih _ _ (fun c hc => ?_) b hb
        rcases List.mem_cons.1 hc with r | r
        · omega
        · exact h c r
  intro b hb
  cases n with
  | ofNat k => exact h 25 k [] (by simp) b hb
  | negSucc k =>
    rcases List.mem_cons.1 hb with r | r
    · omega
    · exact h 25 (k + 1) [] (by simp) b r
theorem rend_lt : ∀ (l : List Wd), (∀ q, q ∈ l → (∀ b, b ∈ q.1 → b < 256) ∧ (∀ b, b ∈ q.2 → b < 256)) → ∀ b, b ∈ rend l → b < 256
  | [], _, b, hb => by simp [rend] at hb
  | q :: l, h, b, hb => by
    have e : rend (q :: l) = q.1 ++ q.2 ++ rend l := by simp [rend]
    rw [e] at hb
    rcases List.mem_append.1 hb with r | r
    · rcases List.mem_append.1 r with r | r
      · exact (h q (by simp)).1 b r
      · exact (h q (by simp)).2 b r
    · exact rend_lt l (fun p hp => h p (by simp [hp])) b r
theorem joinQ_b : ∀ (ws : List (List Nat)) (q : Wd), q ∈ joinQ ws → q.1 ∈ ws ∧ (q.2 = [32] ∨ q.2 = [10])
  | [], q, h => by simp [joinQ] at h
  | [w], q, h => by simp [joinQ] at h; subst h; simp
  | w :: x :: ws, q, h => by
    simp only [joinQ] at h
    rcases List.mem_cons.1 h with r | r
    · subst r; simp
    · have := joinQ_b (x :: ws) q r; exact ⟨List.mem_cons_of_mem _ this.1, this.2⟩
theorem wordsO_b (P : List (Int × Int)) (W : Int) (F : List (List Int)) : ∀ q, q ∈ wordsO P W F → (∀ b, b ∈ q.1 → b < 256) ∧ (q.2 = [32] ∨ q.2 = [10]) := by
  intro q hq
  unfold wordsO at hq
  rcases List.mem_append.1 hq with hq | hq
  · obtain ⟨p, _, hq⟩ := List.mem_flatMap.1 hq
    obtain ⟨hm, hs⟩ := joinQ_b _ _ hq
    refine ⟨?_, hs⟩
    simp only [placeT, List.mem_cons, List.not_mem_nil, or_false] at hm
    rcases hm with r | r | r | r | r <;> rw [r]
    · simp [vS]
    · exact itoa_lt _
    · exact itoa_lt _
    · simp
    · exact itoa_lt _
  · obtain ⟨f, _, hq⟩ := List.mem_flatMap.1 hq
    obtain ⟨hm, hs⟩ := joinQ_b _ _ hq
    refine ⟨?_, hs⟩
    simp only [faceT, List.mem_cons, List.mem_map] at hm
    rcases hm with r | ⟨k, _, r⟩
    · rw [r]; simp [fS]
    · rw [← r]; exact itoa_lt _
theorem textO_lt (P : List (Int × Int)) (W : Int) (F : List (List Int)) : ∀ b, b ∈ textO P W F → b < 256 :=
  rend_lt _ fun q hq => by
    obtain ⟨a, b⟩ := wordsO_b P W F q hq
    exact ⟨a, by rcases b with b | b <;> (rw [b]; simp)⟩
theorem bytes_of_str {H : Heap} {s : List Nat} (h : ∀ b, b ∈ s → b < 256) : bytesA (H.push (.cells (s.map byteA))) (.slc H.next 0 s.length 1 s.length false) = some s ∧ capOk (.slc H.next 0 s.length 1 s.length false) = true := by
  have e : s.map byteA = s.flatMap bytc := by
    clear h
    induction s with
    | nil => rfl
    | cons b s ih => simp [bytc, byteA, ih]
  rw [e]
  exact ⟨bytesA_cells (get_pushN.trans (if_pos rfl)) h _ _, by simp [capOk]⟩
theorem textO_len {P : List (Int × Int)} {W : Int} {F : List (List Int)} (h : ValidO P W F) : (textO P W F).length ≤ 300 * (P.length + F.length) := by
  have h1 := txP_len W P
  have h2 := txF_len (F := F) (fun f hf => by have := h.f4 f hf; omega)
  rw [textO_eq, List.length_append]; omega
/-- A mesh that is copied: a variable of one's own. -/
theorem mesh_var {H : Heap} (hw : H.Wf) {vP vF : AV} {P : List (Int × Int)} {W : Int} {F : List (List Int)} (h : Mo H vP vF P F) :
    ∃ H2, storeA (H.push (.cells [.nils, .int .i64 0, .nils])) 3 (.ptr H.next 0) (.agg [vP, .int .i64 W, vF]) = some (undefA, H2) ∧ H2.get H.next = some (.cells [vP, .int .i64 W, vF]) ∧ Ext H H2 ∧ H2.next = H.next + 1 ∧
      ∀ {H' : Heap}, ExtC H2 H' → loadA H' (some 3) (.ptr H.next 0) = some (.agg [vP, .int .i64 W, vF]) ∧ loadA H' none (.ptr H.next 0) = some vP := by
  obtain ⟨H2, a, b, c, d⟩ := store_new hw (z := [.nils, .int .i64 0, .nils]) (n := 3) (x := .agg [vP, .int .i64 W, vF]) (cs := [vP, .int .i64 W, vF]) rfl rfl rfl (h.one W)
  exact ⟨H2, a, b, c, d, fun k => ⟨load_agg (k.keep _ _ b) (by simp [seg]), load_get (k.keep _ _ b) rfl⟩⟩
end Go.Proofs.YtacfhbhfgbjleaaDoor
