/- The law ObjectLoose, over the interpreter. No claim by itself. -/
import Derived.Test.YtacfhbhfgbjleaaDoorLU
namespace Go.Proofs.YtacfhbhfgbjleaaDoor
open Go Go.AI
theorem bytes_lt_app {a b : List Nat} (ha : ∀ x, x ∈ a → x < 256) (hb : ∀ x, x ∈ b → x < 256) : ∀ x, x ∈ a ++ b → x < 256 := fun x hx => by
  rcases List.mem_append.1 hx with r | r
  · exact ha x r
  · exact hb x r
theorem placeT_flen (W : Int) (P : List (Int × Int)) : (P.flatMap (placeT W)).length = 5 * P.length := by
  induction P with
  | nil => rfl
  | cons p P ih => simp only [List.flatMap_cons, List.length_append, ih]; simp [placeT]; omega
theorem tok_at {H : Heap} {v : AV} {W : List Tok} (h : Sl 2 tokA H v W) {k : Nat} {t : Tok} (hk : W[k]? = some t) : ∃ o off, indexAddrV 2 v (.int .i64 (k : Int)) = some (.ptr o off) ∧ loadA H none (.ptr o off) = some (.int .i64 (t.1 : Int)) ∧ loadA H none (.ptr o (off + 1)) = some (.str t.2) := by
  obtain ⟨o, off, t', a, b, _, c, d⟩ := toks_idx h (List.getElem?_eq_some_iff.1 hk).1
  rw [hk] at a
  cases a
  exact ⟨o, off, b, c, d⟩
theorem sl_lit {α : Type} {e : Nat} {enc : α → List AV} {H : Heap} {o off n lo : Nat} {ex : Bool} {xs : List α} (h : Sl e enc H (.slc o off n e lo ex) xs) (lo' : Nat) (ex' : Bool) : Sl e enc H (.slc o off n e lo' ex') xs := by
  rcases h with ⟨h, _⟩ | ⟨o', off', lo1, ex1, cs, h, hc, hx⟩
  · cases h
  · cases h; exact .inr ⟨_, _, lo', ex', cs, rfl, hc, hx⟩
def gapsW : List (List Nat) := [[32], [10], [9, 13, 32], [32, 35, 32, 118, 32, 49, 10], [10, 10, 35, 10]]
structure Gw (w : List Nat) : Prop where
  ok : wordOk w
  ln : w.length ≤ 26
  b8 : ∀ b, b ∈ w → b < 256
structure Gp (q : Wd) : Prop where
  w : Gw q.1
  sp : sepOk q.2
  b8 : ∀ b, b ∈ q.2 → b < 256
structure Lo8 (W : List Tok) (i : Nat) (t : List Nat) : Prop where
  ln : t.length ≤ 37 * i
  ex : ∃ V : List Wd, t = rend V ∧ V.map (·.1) = (W.take i).map (·.2) ∧ ∀ q, q ∈ V → Gp q
def r8b : ACode := subAt [1,1,1,1,1,1,1,1,1] A8.body
structure Inv8 (H : Heap) (T : List Tok) (v uv gv p3 : AV) (w : Int) (s : List Nat) (k : Nat) (τ : Env) (H' : Heap) : Prop where
  hh : H' = H
  ri : ∃ (i : Nat) (t : List Nat), i ≤ T.length ∧ k = T.length - i ∧ Lo8 T i t ∧ Env.at τ 1 = v ∧ Env.at τ 2 = .int .i64 w ∧ Env.at τ 3 = p3 ∧ Env.at τ 7 = .str s ∧ Env.at τ 9 = uv ∧ Env.at τ 11 = gv ∧ Env.at τ 12 = .str t ∧ Env.at τ 13 = .int .i64 i
end Go.Proofs.YtacfhbhfgbjleaaDoor
