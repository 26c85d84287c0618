/- Are two meshes the same, as the document asks it. No claim by itself. -/
import Derived.Test.YtacfhbhfgbjleaaDoorFA
namespace Go.Proofs.YtacfhbhfgbjleaaDoor
open Go Go.AI
section
variable {FT : Nat → Option FnD} {H : Heap}
structure SmI (H H' : Heap) (n : Nat) (va vb : AV) (eq : Nat → Prop) (τ : Env) (i m : Nat) : Prop where
  hh : H = H'
  le : i ≤ n
  hm : m = n - i
  eq : eq i
  t0 : Env.at τ 0 = va
  t1 : Env.at τ 1 = vb
  t5 : Env.at τ 5 = .int .i64 i
structure SoI (H H' : Heap) (n o1 o2 : Nat) (eq : Nat → Prop) (τ : Env) (i m : Nat) : Prop where
  hh : H = H'
  le : i ≤ n
  hm : m = n - i
  eq : eq i
  t2 : Env.at τ 2 = .ptr o1 0
  t3 : Env.at τ 3 = .ptr o2 0
  t5 : Env.at τ 5 = .int .i64 i
abbrev H17 (FT : Nat → Option FnD) : Prop := FT 17 = some (.code A17) ∧ FT 34 = some (.code A34) ∧ FT 35 = some (.code A35)
end
end Go.Proofs.YtacfhbhfgbjleaaDoor
