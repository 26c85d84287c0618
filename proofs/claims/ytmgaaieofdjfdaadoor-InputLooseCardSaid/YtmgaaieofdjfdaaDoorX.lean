/- The table, with the library's functions and token.All told. No claim by itself. -/
import Derived.Test.YtmgaaieofdjfdaaDoorTab
import Derived.Test.YtmgaaieofdjfdaaDoorE22
import Derived.Test.YtmgaaieofdjfdaaDoorE29
import Derived.Test.YtmgaaieofdjfdaaDoorB1
import Derived.Test.YtmgaaieofdjfdaaDoorB3
import Derived.Test.YtmgaaieofdjfdaaDoorSh
namespace Go.Proofs.YtmgaaieofdjfdaaDoor
open Go Go.AI
/-- What every world of the law's call holds: the library's table of powers of ten. -/
abbrev GT (w : World) : Prop := Lib.TabIs Tryd.prog w "internal/strconv.uint64pow10" .u64 Lib.pow10Tab
theorem fn39 : FnOk Tryd.prog 39 := ⟨_, Tryd.func39, by kernel_rfl, rfl⟩
theorem fn40 : FnOk Tryd.prog 40 := ⟨_, Tryd.func40, by kernel_rfl, rfl⟩
theorem fn25 : FnOk Tryd.prog 25 := ⟨_, Tryd.func25, by kernel_rfl, rfl⟩
theorem fn29 : FnOk Tryd.prog 29 := ⟨_, Tryd.func29, by kernel_rfl, rfl⟩
theorem ext39 : ExtOk Tryd.prog GT 39 itoaG := itoa_ok fn39 fun n w h0 h1 hg => Tryd.strconv_Itoa n h0 h1 w hg
theorem ext40 : ExtOk Tryd.prog GT 40 (writeG 67 5) := write_ok fn40 fun s _ h1 h2 h3 h4 h5 => writeString s h1 h2 h3 h4 h5
theorem ext25 : ExtOk Tryd.prog GT 25 (stringG 67 5) := string_ok fn25 ⟨fun h => string_nil h, fun l h0 h1 h2 h3 h4 h5 h6 => string_pos l h0 h1 h2 h3 h4 h5 h6⟩
theorem ext29 : ExtOk Tryd.prog GT 29 allG := all_ok (E := 51) fn29 ⟨fun a len cap zs hz hl w hc => All_calls a len cap zs hz hl w (by
    rcases hc with q | ⟨b, off, rfl, h1, h2, h3⟩
    · exact .inl ⟨a, cap, by rw [q], by rw [← List.length_eq_zero_iff, hz, q]⟩
    · exact .inr ⟨b, off, cap, by rw [hz], by rw [hz]; exact h1, by rw [hz]; exact h2, h3⟩), fun a len cap h w => All_long a len cap h w⟩
def FE (f : Nat) : Option FnD := if f = 39 then some (.ext itoaG) else if f = 40 then some (.ext (writeG 67 5)) else if f = 25 then some (.ext (stringG 67 5)) else if f = 29 then some (.ext allG) else FT f
theorem FE_ok : TableOk Tryd.prog GT FE := by
  intro f
  unfold FE
  split
  · rename_i h; subst h; exact ⟨fun af e => (by cases e), fun g e => (by cases e; exact ext39)⟩
  split
  · rename_i h; subst h; exact ⟨fun af e => (by cases e), fun g e => (by cases e; exact ext40)⟩
  split
  · rename_i h; subst h; exact ⟨fun af e => (by cases e), fun g e => (by cases e; exact ext25)⟩
  split
  · rename_i h; subst h; exact ⟨fun af e => (by cases e), fun g e => (by cases e; exact ext29)⟩
  · exact FT_ok f
end Go.Proofs.YtmgaaieofdjfdaaDoor
