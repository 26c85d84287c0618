/- The statement DualCut, at the table. No claim by itself. -/
import Derived.Test.YtcepchipgjpkhaaN27
import Derived.Test.YtcepchipgjpkhaaNF
namespace Go.Proofs.Ytcepchipgjpkhaa
open Go Go.AI
theorem law_cut {H : Heap} (hw : H.Wf) {a b c d : Int × Int} (_ : (-9223372036854775808 ≤ a.1 ∧ a.1 ≤ 9223372036854775807) ∧ -9223372036854775808 ≤ a.2 ∧ a.2 ≤ 9223372036854775807) (_ : (-9223372036854775808 ≤ b.1 ∧ b.1 ≤ 9223372036854775807) ∧ -9223372036854775808 ≤ b.2 ∧ b.2 ≤ 9223372036854775807) (_ : (-9223372036854775808 ≤ c.1 ∧ c.1 ≤ 9223372036854775807) ∧ -9223372036854775808 ≤ c.2 ∧ c.2 ≤ 9223372036854775807) (_ : (-9223372036854775808 ≤ d.1 ∧ d.1 ≤ 9223372036854775807) ∧ -9223372036854775808 ≤ d.2 ∧ d.2 ≤ 9223372036854775807) :
    Cp FM 14 [.agg (pairc a), .agg (pairc b), .agg (pairc c), .agg (pairc d)] H (fun r _ => r = .bool true) := cut14 lawM numM rfl rfl rfl hw
end Go.Proofs.Ytcepchipgjpkhaa
