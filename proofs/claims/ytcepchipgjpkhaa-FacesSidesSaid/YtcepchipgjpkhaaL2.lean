/- The statements FacesTells and FacesRims at the interpreter. No claim by itself. -/
import Derived.Test.YtcepchipgjpkhaaL1
namespace Go.Proofs.Ytcepchipgjpkhaa
open Go Go.AI
section
variable {H : Heap} {FT : Nat → Option FnD}
theorem edS_len_le (L : List (Int × Int)) : (edS L).length ≤ L.length := by
  have := layU_len (lt := ltS) (L.map upE) []
  simpa [edS] using this
open Classical in
noncomputable def errR (n : Int) (F : List (List Int)) : Int := if chkF n F = 0 then (if (keys (rimE (allE F))).Nodup then 0 else 81) else chkF n F
open Classical in
noncomputable def rowR (n : Int) (F : List (List Int)) : List (List Int) := if chkF n F = 0 ∧ (keys (rimE (allE F))).Nodup then rimsF (allE F) else []
theorem gd_nil (H : Heap) : Gd H .nils [] := ⟨[], ⟨.inl ⟨rfl, rfl⟩, rfl⟩, rfl, fun i r f a => by simp at a⟩
theorem rimsR_un {n : Int} {F : List (List Int)} {r : AV} (h : rimsR n F H r) : ∃ v, r = .tup [v, .int .i64 (errR n F)] ∧ Gd H v (rowR n F) := by
  unfold errR rowR
  rcases h with ⟨z, rfl⟩ | ⟨z, d, rfl⟩ | ⟨z, d, v, rfl, g⟩
  · rw [if_neg z, if_neg (fun q => z q.1)]; exact ⟨_, rfl, gd_nil H⟩
  · rw [if_pos z, if_neg d, if_neg (fun q => d q.2)]; exact ⟨_, rfl, gd_nil H⟩
  · rw [if_pos z, if_pos d, if_pos ⟨z, d⟩]; exact ⟨v, rfl, g⟩
theorem errR_zero {n : Int} {F : List (List Int)} : errR n F = 0 ↔ chkF n F = 0 ∧ (keys (rimE (allE F))).Nodup := by
  unfold errR
  by_cases z : chkF n F = 0
  · rw [if_pos z]
    by_cases d : (keys (rimE (allE F))).Nodup
    · rw [if_pos d]; exact ⟨fun _ => ⟨z, d⟩, fun _ => rfl⟩
    · rw [if_neg d]; exact ⟨fun q => by omega, fun q => absurd q.2 d⟩
  · rw [if_neg z]; exact ⟨fun q => absurd q z, fun q => absurd q.1 z⟩
/-- How long rings are together. -/
theorem rings_size : ∀ (l : List Int) (M : Nx), (ringsF l M).flatten.length + (ringsF l M).length ≤ 2 * M.length
  | [], M => by simp [ringsF]
  | a :: l, M => by
    rw [rings_cons]
    split
    · exact rings_size l M
    · rename_i z
      have ih := rings_size l (goes M a).2
      have hlen : (goes M a).1.length + (goes M a).2.length ≤ M.length := by
        have key : ∀ (n : Nat) (M : Nx) (a : Int), M.length ≤ n → (goes M a).1.length + (goes M a).2.length ≤ M.length := by
          intro n
          induction n with
          | zero =>
            intro M a h
            have : M = [] := List.length_eq_zero_iff.1 (by omega)
            subst this
            rw [goes_none (by simp [keys])]; simp
          | succ n ih =>
            intro M a h
            cases q : at1 M a with
            | none => rw [goes_none (at1_none.1 q)]; simp
            | some e =>
              rw [goes_some q]
              have h1 := without_len q
              have := ih (without M a) e.2 (by omega)
              simp only [List.length_cons]
              omega
        exact key M.length M a (Nat.le_refl _)
      have hpos : 0 < (goes M a).1.length := List.length_pos_iff.2 z
      rw [List.flatten_cons, List.length_append, List.length_cons]
      omega
theorem rowR_size {n : Int} {F : List (List Int)} (hs : F.flatten.length ≤ 400) : (rowR n F).length ≤ 1000000000 ∧ (∀ f, f ∈ rowR n F → f.length ≤ 1000000000) ∧ (rowR n F).flatten.length + (rowR n F).length ≤ 2 * F.flatten.length := by
  have h0 : (rowR n F).flatten.length + (rowR n F).length ≤ 2 * F.flatten.length := by
    unfold rowR
    split
    · have h1 := rings_size (srtI (keys (rimE (allE F)))) (rimE (allE F))
      have h2 : (rimE (allE F)).length ≤ (allE F).length := List.length_filter_le _ _
      have h3 : (allE F).length = F.flatten.length := flat_edges F
      unfold rimsF
      omega
    · simp
  refine ⟨by omega, fun f hf => ?_, h0⟩
  obtain ⟨p, q, e⟩ := List.append_of_mem hf
  rw [e, List.flatten_append, List.length_append, List.flatten_cons, List.length_append, List.length_append, List.length_cons] at h0
  omega
end
end Go.Proofs.Ytcepchipgjpkhaa
