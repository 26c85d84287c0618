/- The table of the translated functions. No claim by itself. -/
import Derived.Test.YtmgaaieofdjfdaaDoorT0
namespace Go.Proofs.YtmgaaieofdjfdaaDoor
open Go Go.AI
def tab : Tr AFunc := (.node (.node (.node (.node (.node (.node .leaf (some A31) .leaf) (some A15) .leaf) (some A7) (.node .leaf (some A23) .leaf)) (some A3) (.node (.node (.node .leaf (some A35) .leaf) (some A19) (.node .leaf (some A51) .leaf)) (some A11) (.node (.node .leaf (some A43) .leaf) (some A27) .leaf))) none (.node (.node (.node (.node .leaf (some A33) .leaf) (some A17) .leaf) (some A9) (.node (.node .leaf (some A41) .leaf) none .leaf)) (some A5) (.node (.node (.node .leaf (some A37) .leaf) (some A21) (.node .leaf (some A53) .leaf)) (some A13) (.node (.node .leaf (some A45) .leaf) none .leaf)))) none (.node (.node (.node (.node (.node .leaf (some A32) .leaf) (some A16) .leaf) (some A8) (.node .leaf (some A24) .leaf)) (some A4) (.node (.node (.node .leaf (some A36) .leaf) (some A20) (.node .leaf (some A52) .leaf)) (some A12) (.node (.node .leaf (some A44) .leaf) (some A28) .leaf))) none (.node (.node (.node (.node .leaf (some A34) .leaf) (some A18) .leaf) (some A10) (.node .leaf (some A26) .leaf)) (some A6) (.node (.node (.node .leaf (some A38) .leaf) (some A22) (.node .leaf (some A54) .leaf)) (some A14) (.node (.node .leaf (some A46) .leaf) (some A30) .leaf)))))
theorem tab_eq : tab = (((((((((((((((((((((((((((((((((((((((((((((.leaf : Tr AFunc)).set 10 A10).set 23 A23).set 13 A13).set 41 A41).set 24 A24).set 14 A14).set 30 A30).set 43 A43).set 31 A31).set 32 A32).set 33 A33).set 34 A34).set 18 A18).set 11 A11).set 12 A12).set 16 A16).set 37 A37).set 21 A21).set 38 A38).set 22 A22).set 26 A26).set 15 A15).set 27 A27).set 28 A28).set 17 A17).set 3 A3).set 20 A20).set 35 A35).set 51 A51).set 44 A44).set 52 A52).set 45 A45).set 53 A53).set 54 A54).set 46 A46).set 36 A36).set 19 A19).set 4 A4).set 5 A5).set 6 A6).set 7 A7).set 8 A8).set 9 A9) := by rfl
def FT (f : Nat) : Option FnD := (tab.get f).map .code
theorem FT_ok {G : World → Prop} : TableOk Tryd.prog G FT := by
  intro f
  refine ⟨fun af h => ?_, fun g h => ?_⟩
  · unfold FT at h; rw [tab_eq] at h
    simp only [Tr.get_set] at h
    by_cases h9 : f = 9
    · subst h9; simp at h; subst h; exact ok9
    rw [if_neg h9] at h
    by_cases h8 : f = 8
    · subst h8; simp at h; subst h; exact ok8
    rw [if_neg h8] at h
    by_cases h7 : f = 7
    · subst h7; simp at h; subst h; exact ok7
    rw [if_neg h7] at h
    by_cases h6 : f = 6
    · subst h6; simp at h; subst h; exact ok6
    rw [if_neg h6] at h
    by_cases h5 : f = 5
    · subst h5; simp at h; subst h; exact ok5
    rw [if_neg h5] at h
    by_cases h4 : f = 4
    · subst h4; simp at h; subst h; exact ok4
    rw [if_neg h4] at h
    by_cases h19 : f = 19
    · subst h19; simp at h; subst h; exact ok19
    rw [if_neg h19] at h
    by_cases h36 : f = 36
    · subst h36; simp at h; subst h; exact ok36
    rw [if_neg h36] at h
    by_cases h46 : f = 46
    · subst h46; simp at h; subst h; exact ok46
    rw [if_neg h46] at h
    by_cases h54 : f = 54
    · subst h54; simp at h; subst h; exact ok54
    rw [if_neg h54] at h
    by_cases h53 : f = 53
    · subst h53; simp at h; subst h; exact ok53
    rw [if_neg h53] at h
    by_cases h45 : f = 45
    · subst h45; simp at h; subst h; exact ok45
    rw [if_neg h45] at h
    by_cases h52 : f = 52
    · subst h52; simp at h; subst h; exact ok52
    rw [if_neg h52] at h
    by_cases h44 : f = 44
    · subst h44; simp at h; subst h; exact ok44
    rw [if_neg h44] at h
    by_cases h51 : f = 51
    · subst h51; simp at h; subst h; exact ok51
    rw [if_neg h51] at h
    by_cases h35 : f = 35
    · subst h35; simp at h; subst h; exact ok35
    rw [if_neg h35] at h
    by_cases h20 : f = 20
    · subst h20; simp at h; subst h; exact ok20
    rw [if_neg h20] at h
    by_cases h3 : f = 3
    · subst h3; simp at h; subst h; exact ok3
    rw [if_neg h3] at h
    by_cases h17 : f = 17
    · subst h17; simp at h; subst h; exact ok17
    rw [if_neg h17] at h
    by_cases h28 : f = 28
    · subst h28; simp at h; subst h; exact ok28
    rw [if_neg h28] at h
    by_cases h27 : f = 27
    · subst h27; simp at h; subst h; exact ok27
    rw [if_neg h27] at h
    by_cases h15 : f = 15
    · subst h15; simp at h; subst h; exact ok15
    rw [if_neg h15] at h
    by_cases h26 : f = 26
    · subst h26; simp at h; subst h; exact ok26
    rw [if_neg h26] at h
    by_cases h22 : f = 22
    · subst h22; simp at h; subst h; exact ok22
    rw [if_neg h22] at h
    by_cases h38 : f = 38
    · subst h38; simp at h; subst h; exact ok38
    rw [if_neg h38] at h
    by_cases h21 : f = 21
    · subst h21; simp at h; subst h; exact ok21
    rw [if_neg h21] at h
    by_cases h37 : f = 37
    · subst h37; simp at h; subst h; exact ok37
    rw [if_neg h37] at h
    by_cases h16 : f = 16
    · subst h16; simp at h; subst h; exact ok16
    rw [if_neg h16] at h
    by_cases h12 : f = 12
    · subst h12; simp at h; subst h; exact ok12
    rw [if_neg h12] at h
    by_cases h11 : f = 11
    · subst h11; simp at h; subst h; exact ok11
    rw [if_neg h11] at h
    by_cases h18 : f = 18
    · subst h18; simp at h; subst h; exact ok18
    rw [if_neg h18] at h
    by_cases h34 : f = 34
    · subst h34; simp at h; subst h; exact ok34
    rw [if_neg h34] at h
    by_cases h33 : f = 33
    · subst h33; simp at h; subst h; exact ok33
    rw [if_neg h33] at h
    by_cases h32 : f = 32
    · subst h32; simp at h; subst h; exact ok32
    rw [if_neg h32] at h
    by_cases h31 : f = 31
    · subst h31; simp at h; subst h; exact ok31
    rw [if_neg h31] at h
    by_cases h43 : f = 43
    · subst h43; simp at h; subst h; exact ok43
    rw [if_neg h43] at h
    by_cases h30 : f = 30
    · subst h30; simp at h; subst h; exact ok30
    rw [if_neg h30] at h
    by_cases h14 : f = 14
    · subst h14; simp at h; subst h; exact ok14
    rw [if_neg h14] at h
    by_cases h24 : f = 24
    · subst h24; simp at h; subst h; exact ok24
    rw [if_neg h24] at h
    by_cases h41 : f = 41
    · subst h41; simp at h; subst h; exact ok41
    rw [if_neg h41] at h
    by_cases h13 : f = 13
    · subst h13; simp at h; subst h; exact ok13
    rw [if_neg h13] at h
    by_cases h23 : f = 23
    · subst h23; simp at h; subst h; exact ok23
    rw [if_neg h23] at h
    by_cases h10 : f = 10
    · subst h10; simp at h; subst h; exact ok10
    rw [if_neg h10] at h
    simp [Tr.get] at h
  · unfold FT at h; cases h2 : tab.get f <;> simp [h2] at h
end Go.Proofs.YtmgaaieofdjfdaaDoor
