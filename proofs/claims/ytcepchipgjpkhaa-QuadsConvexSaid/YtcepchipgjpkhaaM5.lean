/- Triangles made one in pairs: faces, in plain words. No claim by itself. -/
import Derived.Test.YtcepchipgjpkhaaMM
import Derived.Test.YtcepchipgjpkhaaMD
import Derived.Test.YtcepchipgjpkhaaS6
namespace Go.Proofs.Ytcepchipgjpkhaa
open Go Go.AI Gr
noncomputable def fcM (P : List (Int × Int)) (T : List Tri) (S : List (Int × Int)) (mate : List Int) (i : Nat) : List (List Int) :=
 match mate[i]?, T[i]? with
 | some k, some t => if k < 0 then [rowT t] else if (i : Int) < k then [(zm6 P T S i k).getD []] else []
 | _, _ => []
noncomputable def za16 (P : List (Int × Int)) (T : List Tri) (S : List (Int × Int)) (mate : List Int) : List (List Int) := (List.range T.length).flatMap (fcM P T S mate)
theorem zbe5 {P S : List (Int × Int)} {T : List Tri} (hn : T.length <= 1000) : zj2 (T.length : Int) (zz0 P T S) = true := by
 refine zbp8 (by omega) (by omega) fun a b h => ?_
 have := za62 h
 simp only at this
 omega
end Go.Proofs.Ytcepchipgjpkhaa
