/- Matchings of given size, and bounds: pairs in a row, covers, graphs numbered otherwise. No claim by itself. -/
import Derived.Test.YtcepchipgjpkhaaMB
namespace Go.Proofs.Ytcepchipgjpkhaa.Gr
section
variable {n : Nat} {E : Nat -> Nat -> Prop} {m : Nat -> Option Nat}
end
end Go.Proofs.Ytcepchipgjpkhaa.Gr
