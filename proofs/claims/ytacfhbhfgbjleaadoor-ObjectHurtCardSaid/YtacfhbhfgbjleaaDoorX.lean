/- The table, with the library's functions and token.All told. No claim by itself. -/
import Derived.Test.YtacfhbhfgbjleaaDoorTab
import Derived.Test.YtacfhbhfgbjleaaDoorE22
import Derived.Test.YtacfhbhfgbjleaaDoorED
import Derived.Test.YtacfhbhfgbjleaaDoorB1
import Derived.Test.YtacfhbhfgbjleaaDoorB3
import Derived.Test.YtacfhbhfgbjleaaDoorSh
namespace Go.Proofs.YtacfhbhfgbjleaaDoor
open Go Go.AI
/-- What every world of the law's call holds: the library's table of powers of ten. -/
abbrev GT (w : World) : Prop := Lib.TabIs Tryd.prog w "internal/strconv.uint64pow10" .u64 Lib.pow10Tab
theorem fn36 : FnOk Tryd.prog 36 := ⟨_, Tryd.func36, by kernel_rfl, rfl⟩
theorem fn37 : FnOk Tryd.prog 37 := ⟨_, Tryd.func37, by kernel_rfl, rfl⟩
theorem fn20 : FnOk Tryd.prog 20 := ⟨_, Tryd.func20, by kernel_rfl, rfl⟩
theorem fn27 : FnOk Tryd.prog 27 := ⟨_, Tryd.func27, by kernel_rfl, rfl⟩
theorem ext36 : ExtOk Tryd.prog GT 36 itoaG := itoa_ok fn36 fun n w h0 h1 hg => Tryd.strconv_Itoa n h0 h1 w hg
theorem ext37 : ExtOk Tryd.prog GT 37 (writeG 58 5) := write_ok fn37 fun s _ h1 h2 h3 h4 h5 => writeString s h1 h2 h3 h4 h5
theorem ext20 : ExtOk Tryd.prog GT 20 (stringG 58 5) := string_ok fn20 ⟨fun h => string_nil h, fun l h0 h1 h2 h3 h4 h5 h6 => string_pos l h0 h1 h2 h3 h4 h5 h6⟩
theorem ext27 : ExtOk Tryd.prog GT 27 allG := all_ok (E := 48) fn27 ⟨fun a len cap zs hz hl w hc => All_calls a len cap zs hz hl w (by
    rcases hc with q | ⟨b, off, rfl, h1, h2, h3⟩
    · exact .inl ⟨a, cap, by rw [q], by rw [← List.length_eq_zero_iff, hz, q]⟩
    · exact .inr ⟨b, off, cap, by rw [hz], by rw [hz]; exact h1, by rw [hz]; exact h2, h3⟩), fun a len cap h w => All_long a len cap h w⟩
def FE (f : Nat) : Option FnD := if f = 36 then some (.ext itoaG) else if f = 37 then some (.ext (writeG 58 5)) else if f = 20 then some (.ext (stringG 58 5)) else if f = 27 then some (.ext allG) else FT f
theorem FE_ok : TableOk Tryd.prog GT FE := by
  intro f
  unfold FE
  split
  · rename_i h; subst h; exact ⟨fun af e => (by cases e), fun g e => (by cases e; exact ext36)⟩
  split
  · rename_i h; subst h; exact ⟨fun af e => (by cases e), fun g e => (by cases e; exact ext37)⟩
  split
  · rename_i h; subst h; exact ⟨fun af e => (by cases e), fun g e => (by cases e; exact ext20)⟩
  split
  · rename_i h; subst h; exact ⟨fun af e => (by cases e), fun g e => (by cases e; exact ext27)⟩
  · exact FT_ok f
end Go.Proofs.YtacfhbhfgbjleaaDoor
