/- The statement DualQuads, at the table. No claim by itself. -/
import Derived.Test.YtcepchipgjpkhaaN42
import Derived.Test.YtcepchipgjpkhaaN37
namespace Go.Proofs.Ytcepchipgjpkhaa
open Go Go.AI
theorem law_quads {H : Heap} (hw : H.Wf) {x : AV} {P : List (Int × Int)} {T : List Tri} {S : List (Int × Int)} {i k : Int} (hm : Msh H x P T S) (_ : -9223372036854775808 ≤ i ∧ i ≤ 9223372036854775807) (_ : -9223372036854775808 ≤ k ∧ k ≤ 9223372036854775807) :
    Cp FM 12 [x, .int .i64 i, .int .i64 k] H (fun r _ => r = .bool true) := quads12 lawM refM numM rfl rfl rfl rfl hw hm
end Go.Proofs.Ytcepchipgjpkhaa
