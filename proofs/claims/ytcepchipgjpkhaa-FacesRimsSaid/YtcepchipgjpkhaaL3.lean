/- The laws on faces, as the rows ask for them. No claim by itself. -/
import Derived.Test.YtcepchipgjpkhaaL2
namespace Go.Proofs.Ytcepchipgjpkhaa
open Go Go.AI
section
variable {H : Heap}
theorem law_tells (hw : H.Wf) {n a b : Int} {vF : AV} {F : List (List Int)} {p q r : Prop} (_ : p) (hF : Gd H vF F) (_ : q) (_ : r) : Cp FZ 3 [.int .i64 n, vF, .int .i64 a, .int .i64 b] H (fun r _ => r = .bool true) := tells3 lawT rfl hw hF
theorem law_rims (hw : H.Wf) {n : Int} {vF : AV} {F : List (List Int)} {p : Prop} (_ : p) (hF : Gd H vF F) : Cp FZ 4 [.int .i64 n, vF] H (fun r _ => r = .bool true) := rims4 lawT rfl hw hF
end
end Go.Proofs.Ytcepchipgjpkhaa
