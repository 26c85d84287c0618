/- The law's own functions at the table. No claim by itself. -/
import Derived.Test.YtcepchipgjpkhaaN36
import Derived.Test.YtcepchipgjpkhaaNF
namespace Go.Proofs.Ytcepchipgjpkhaa
open Go Go.AI
theorem refM : RefT FM := ⟨fun hw => orient53 numM rfl hw, rfl, rfl, rfl, rfl, rfl, rfl⟩
end Go.Proofs.Ytcepchipgjpkhaa
