/- The statements FacesTells and FacesRims at the interpreter. No claim by itself. -/
import Derived.Test.YtcepchipgjpkhaaL1
namespace Go.Proofs.Ytcepchipgjpkhaa
open Go Go.AI
section
variable {H : Heap} {FT : Nat → Option FnD}
theorem edS_len_le (L : List (Int × Int)) : (edS L).length ≤ L.length := by
  have := layU_len (lt := ltS) (L.map upE) []
  simpa [edS] using this
open Classical in
noncomputable def errR (n : Int) (F : List (List Int)) : Int := if chkF n F = 0 then (if (keys (rimE (allE F))).Nodup then 0 else 81) else chkF n F
open Classical in
noncomputable def rowR (n : Int) (F : List (List Int)) : List (List Int) := if chkF n F = 0 ∧ (keys (rimE (allE F))).Nodup then rimsF (allE F) else []
end
end Go.Proofs.Ytcepchipgjpkhaa
