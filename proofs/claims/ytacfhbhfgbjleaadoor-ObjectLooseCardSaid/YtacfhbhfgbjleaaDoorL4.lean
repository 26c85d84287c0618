/- The law ObjectReads, over the interpreter. No claim by itself. -/
import Derived.Test.YtacfhbhfgbjleaaDoorX2
import Derived.Test.YtacfhbhfgbjleaaDoorGB
import Derived.Test.YtacfhbhfgbjleaaDoorG7
import Derived.Test.YtacfhbhfgbjleaaDoorEE
namespace Go.Proofs.YtacfhbhfgbjleaaDoor
open Go Go.AI
theorem j13 : H13 FK := ⟨rfl, rfl, rfl, rfl, rfl, rfl, rfl, rfl, rfl, rfl, rfl, rfl, rfl, rfl⟩
theorem j11 : H11 FK := ⟨rfl, j13, ⟨rfl, rfl, rfl, rfl⟩, rfl⟩
theorem j15 : H15 FK := ⟨rfl, rfl, ⟨rfl, rfl, ⟨rfl, rfl, rfl, rfl, rfl⟩⟩, j13⟩
theorem j17 : H17 FK := ⟨rfl, rfl, rfl⟩
theorem nil_sz : Sz [] [] := ⟨by simp, by simp, by simp, by simp⟩
theorem parO_sz {s : List Nat} {P : List (Int × Int)} {W : Int} {F : List (List Int)} {a e : Int} (h : parO s = ((P, W, F), a, e)) : Sz P F := by
  by_cases he : e = 0
  · subst he
    obtain ⟨_, hl, hv, ht⟩ := parO_ok h
    have h1 := txtO_len P W F
    have h2 : (wordsN s).length = (txtO P W F).length := by rw [← ht]; simp
    have h3 := words_len s
    have h4 := flat4 hv.f4
    exact ⟨by omega, by omega, fun f hf => by have := hv.f4 f hf; omega, by omega⟩
  · have := (parO_no h he).1
    unfold nilO at this
    simp only [Prod.mk.injEq] at this
    obtain ⟨rfl, _, rfl⟩ := this
    exact nil_sz
def r4b : ACode := subAt [1,1,1,1,1,0] A4.body
structure Sev (H1 H' : Heap) (vP : AV) (n o3 : Nat) (v : AV) (τ0 τ : Env) (i m : Nat) : Prop where
  fr : Fr (rowObj vP).toList H1 H'
  cs : ∀ p, rowObj vP = some p → ∃ cs, H'.get p = some (.cells cs) ∧ cs.length = n * 2
  le : i ≤ n
  hm : m = n - i
  t0 : Env.at τ 0 = Env.at τ0 0
  t6 : Env.at τ 6 = Env.at τ0 6
  t3 : Env.at τ 3 = .ptr o3 0
  t9 : Env.at τ 9 = .int .i64 i
end Go.Proofs.YtacfhbhfgbjleaaDoor
