/- The statement QuadsConvex, at the table. No claim by itself. -/
import Derived.Test.YtcepchipgjpkhaaN45
import Derived.Test.YtcepchipgjpkhaaNF
namespace Go.Proofs.Ytcepchipgjpkhaa
open Go Go.AI
theorem zcf2 : Gr.TB FM := by constructor <;> rfl
theorem zcf4 {H : Heap} (hw : H.Wf) : Cp FM 36 [] H (fun r _ => r = .bool true) := zb49 zcl5 rfl zcf2 zbq1 rfl rfl rfl rfl rfl rfl rfl hw
theorem zbh2 {H : Heap} (hw : H.Wf) {vP vF : AV} {P : List (Int × Int)} {F : List (List Int)} (hP : Rw 2 za2 H vP P) (hF : Gd H vF F) :
  Cp FM 10 [vP, vF] H (fun r _ => r = .bool true) := zb32 zbq1 numM rfl rfl rfl rfl rfl zcf4 hw hP hF
end Go.Proofs.Ytcepchipgjpkhaa
