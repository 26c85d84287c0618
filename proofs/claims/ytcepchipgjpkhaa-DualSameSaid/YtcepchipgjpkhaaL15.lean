/- The statement DualSame, at the table. No claim by itself. -/
import Derived.Test.YtcepchipgjpkhaaN40
import Derived.Test.YtcepchipgjpkhaaN37
namespace Go.Proofs.Ytcepchipgjpkhaa
open Go Go.AI
theorem law_dsame {H : Heap} (hw : H.Wf) {x : AV} {P : List (Int × Int)} {T : List Tri} {S : List (Int × Int)} (hm : Msh H x P T S) :
    Cp FM 15 [x] H (fun r _ => r = .bool true) := same15 lawM refM rfl rfl rfl rfl hw hm
end Go.Proofs.Ytcepchipgjpkhaa
