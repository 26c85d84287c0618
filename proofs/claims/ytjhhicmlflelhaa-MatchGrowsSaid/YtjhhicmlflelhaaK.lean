import Derived.Test.YtjhhicmlflelhaaTab
namespace Go.Proofs.Ytjhhicmlflelhaa
open Go Go.AI
def H0 : Heap := ⟨.leaf, 0, 0⟩
set_option maxRecDepth 100000
theorem known_true : ((callA FT 3000 9 [] H0).map fun r => match r.1 with | .bool b => b | _ => false) = some true := by kernel_rfl
end Go.Proofs.Ytjhhicmlflelhaa
