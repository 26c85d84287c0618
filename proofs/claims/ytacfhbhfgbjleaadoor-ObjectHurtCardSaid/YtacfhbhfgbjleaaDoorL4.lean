/- The law ObjectReads, over the interpreter. No claim by itself. -/
import Derived.Test.YtacfhbhfgbjleaaDoorX2
import Derived.Test.YtacfhbhfgbjleaaDoorGB
import Derived.Test.YtacfhbhfgbjleaaDoorG7
import Derived.Test.YtacfhbhfgbjleaaDoorEE
namespace Go.Proofs.YtacfhbhfgbjleaaDoor
open Go Go.AI
theorem j13 : H13 FK := ⟨rfl, rfl, rfl, rfl, rfl, rfl, rfl, rfl, rfl, rfl, rfl, rfl, rfl, rfl⟩
theorem j14 : H14 FK := ⟨rfl, rfl, rfl, rfl⟩
theorem j11 : H11 FK := ⟨rfl, j13, ⟨rfl, rfl, rfl, rfl⟩, rfl⟩
theorem j15 : H15 FK := ⟨rfl, rfl, ⟨rfl, rfl, ⟨rfl, rfl, rfl, rfl, rfl⟩⟩, j13⟩
def r4b : ACode := subAt [1,1,1,1,1,0] A4.body
structure Sev (H1 H' : Heap) (vP : AV) (n o3 : Nat) (v : AV) (τ0 τ : Env) (i m : Nat) : Prop where
  fr : Fr (rowObj vP).toList H1 H'
  cs : ∀ p, rowObj vP = some p → ∃ cs, H'.get p = some (.cells cs) ∧ cs.length = n * 2
  le : i ≤ n
  hm : m = n - i
  t0 : Env.at τ 0 = Env.at τ0 0
  t6 : Env.at τ 6 = Env.at τ0 6
  t3 : Env.at τ 3 = .ptr o3 0
  t9 : Env.at τ 9 = .int .i64 i
end Go.Proofs.YtacfhbhfgbjleaaDoor
