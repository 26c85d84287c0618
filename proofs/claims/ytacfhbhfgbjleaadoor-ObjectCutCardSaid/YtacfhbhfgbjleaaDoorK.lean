/- known() is true: by running the interpreter in the kernel. No claim by itself. -/
import Derived.Test.YtacfhbhfgbjleaaDoorX
import Derived.KernelRfl
namespace Go.Proofs.YtacfhbhfgbjleaaDoor
open Go Go.AI
set_option maxRecDepth 100000 in
theorem known_true : ((callA FE 3000 10 [] ⟨.leaf, 0, 0⟩).map fun r => match r.1 with | .bool b => b | _ => false) = some true := by kernel_rfl
end Go.Proofs.YtacfhbhfgbjleaaDoor
