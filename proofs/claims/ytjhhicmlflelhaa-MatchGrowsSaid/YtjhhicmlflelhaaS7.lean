/- The law MatchTells, over the interpreter. No claim by itself. -/
import Derived.Test.YtjhhicmlflelhaaS6
import Derived.Test.YtjhhicmlflelhaaS1
import Derived.Test.YtjhhicmlflelhaaK
namespace Go.Proofs.Ytjhhicmlflelhaa
open Go Go.AI
/-- The table, with known() told. -/
def FK (f : Nat) : Option FnD := if f = 9 then some (.ext (told (.bool true))) else FT f
theorem known_told : (callA FT 3000 9 [] ⟨.leaf, 0, 0⟩).map Prod.fst = some (.bool true) := by
  have h : ((callA FT 3000 9 [] ⟨.leaf, 0, 0⟩).map fun r => match r.1 with | .bool b => b | _ => false) = some true := known_true
  generalize callA FT 3000 9 [] ⟨.leaf, 0, 0⟩ = c at h
  cases c with
  | none => cases h
  | some r =>
    obtain ⟨v, H'⟩ := r
    cases v with
    | bool b => simp at h; simp [h]
    | _ => simp at h
theorem FK_ok : TableOk Try.prog FK := by
  intro f
  by_cases h : f = 9
  · subst h
    refine ⟨fun af e => by simp [FK] at e, fun g e => ?_⟩
    simp [FK] at e; subst e
    exact told_ok FT_ok known_told rfl
  · have : FK f = FT f := by simp [FK, h]
    rw [this]; exact FT_ok f
theorem hk9 {H : Heap} {K : AV → Heap → Prop} (k : K (.bool true) H) : Cp FK 9 [] H K := Cp_ext (told (.bool true)) rfl rfl k
theorem tells4 {n : Int} {v u : AV} {l : List (Int × Int)} {mate : List Int} {H : Heap} (h : Pairs H v l) (hu : Ints H u mate) (hw : H.Wf)
    (hl : l.length ≤ 9223372036854775806) (hm : mate.length ≤ 9223372036854775806) :
    Cp FK 4 [.int .i64 n, v, u] H (fun r _ => r = .bool true) := by
  refine Cp_code A4 rfl rfl ?_
  have k15 : Cp FK 15 [.int .i64 n, v, u] H (fun r H' => r = .bool (isM n l mate) ∧ Ext H H') := is15 rfl rfl rfl rfl rfl rfl rfl h hu hw hl hm
  by_cases c1 : 100 < n
  · by_cases c2 : n ≤ 1000
    · simp [A4, c1, c2]
      apply hk9; simp
    by_cases c3 : 300 < (l.length : Int)
    · simp [A4, h.len, hu.len, c1, c2, c3]
      apply hk9; simp
    by_cases c4 : 300 < (mate.length : Int)
    · simp [A4, h.len, hu.len, c1, c2, c3, c4]
      apply hk9; simp
    simp [A4, h.len, hu.len, c1, c2, c3, c4]
    refine k15.mono ?_
    rintro r H1 ⟨rfl, he1⟩
    simp
    refine (is12 rfl rfl rfl (h.ext he1) (hu.ext he1) hl hm).mono ?_
    rintro r H2 ⟨rfl, rfl⟩
    simp
    refine (size16 rfl (hu.ext he1) hm).mono ?_
    rintro r H3 ⟨rfl, rfl⟩
    simp
    refine (size13 rfl (hu.ext he1) hm).mono ?_
    rintro r H4 ⟨rfl, rfl⟩
    simp
    apply hk9
    simp
  · skip
    by_cases c3 : 300 < (l.length : Int)
    · simp [A4, h.len, hu.len, c1, c3]
      apply hk9; simp
    by_cases c4 : 300 < (mate.length : Int)
    · simp [A4, h.len, hu.len, c1, c3, c4]
      apply hk9; simp
    simp [A4, h.len, hu.len, c1, c3, c4]
    refine k15.mono ?_
    rintro r H1 ⟨rfl, he1⟩
    simp
    refine (is12 rfl rfl rfl (h.ext he1) (hu.ext he1) hl hm).mono ?_
    rintro r H2 ⟨rfl, rfl⟩
    simp
    refine (size16 rfl (hu.ext he1) hm).mono ?_
    rintro r H3 ⟨rfl, rfl⟩
    simp
    refine (size13 rfl (hu.ext he1) hm).mono ?_
    rintro r H4 ⟨rfl, rfl⟩
    simp
    apply hk9
    simp
end Go.Proofs.Ytjhhicmlflelhaa
