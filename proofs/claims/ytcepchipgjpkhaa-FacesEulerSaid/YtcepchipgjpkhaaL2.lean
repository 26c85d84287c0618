/- The statements FacesTells and FacesRims at the interpreter. No claim by itself. -/
import Derived.Test.YtcepchipgjpkhaaL1
namespace Go.Proofs.Ytcepchipgjpkhaa
open Go Go.AI
section
variable {H : Heap} {FT : Nat → Option FnD}
theorem edS_len_le (L : List (Int × Int)) : (edS L).length ≤ L.length := by
  have := layU_len (lt := ltS) (L.map upE) []
  simpa [edS] using this
open Classical in
noncomputable def errR (n : Int) (F : List (List Int)) : Int := if chkF n F = 0 then (if (keys (rimE (allE F))).Nodup then 0 else 81) else chkF n F
open Classical in
noncomputable def rowR (n : Int) (F : List (List Int)) : List (List Int) := if chkF n F = 0 ∧ (keys (rimE (allE F))).Nodup then rimsF (allE F) else []
theorem gd_nil (H : Heap) : Gd H .nils [] := ⟨[], ⟨.inl ⟨rfl, rfl⟩, rfl⟩, rfl, fun i r f a => by simp at a⟩
theorem rimsR_un {n : Int} {F : List (List Int)} {r : AV} (h : rimsR n F H r) : ∃ v, r = .tup [v, .int .i64 (errR n F)] ∧ Gd H v (rowR n F) := by
  unfold errR rowR
  rcases h with ⟨z, rfl⟩ | ⟨z, d, rfl⟩ | ⟨z, d, v, rfl, g⟩
  · rw [if_neg z, if_neg (fun q => z q.1)]; exact ⟨_, rfl, gd_nil H⟩
  · rw [if_pos z, if_neg d, if_neg (fun q => d q.2)]; exact ⟨_, rfl, gd_nil H⟩
  · rw [if_pos z, if_pos d, if_pos ⟨z, d⟩]; exact ⟨v, rfl, g⟩
theorem errR_zero {n : Int} {F : List (List Int)} : errR n F = 0 ↔ chkF n F = 0 ∧ (keys (rimE (allE F))).Nodup := by
  unfold errR
  by_cases z : chkF n F = 0
  · rw [if_pos z]
    by_cases d : (keys (rimE (allE F))).Nodup
    · rw [if_pos d]; exact ⟨fun _ => ⟨z, d⟩, fun _ => rfl⟩
    · rw [if_neg d]; exact ⟨fun q => by omega, fun q => absurd q.2 d⟩
  · rw [if_neg z]; exact ⟨fun q => absurd q z, fun q => absurd q.1 z⟩
end
end Go.Proofs.Ytcepchipgjpkhaa
