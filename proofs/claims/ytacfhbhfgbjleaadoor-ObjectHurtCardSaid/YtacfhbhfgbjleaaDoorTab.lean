/- The table of the translated functions. No claim by itself. -/
import Derived.Test.YtacfhbhfgbjleaaDoorT0
namespace Go.Proofs.YtacfhbhfgbjleaaDoor
open Go Go.AI
def tab : Tr AFunc := (.node (.node (.node (.node (.node (.node .leaf (some A31) .leaf) (some A15) (.node .leaf (some A47) .leaf)) (some A7) (.node (.node .leaf (some A39) .leaf) (some A23) (.node .leaf (some A55) .leaf))) (some A3) (.node (.node (.node (.node .leaf (some A67) .leaf) (some A35) .leaf) (some A19) .leaf) (some A11) (.node (.node (.node .leaf (some A75) .leaf) (some A43) .leaf) none (.node .leaf (some A59) .leaf)))) none (.node (.node (.node (.node (.node .leaf (some A65) .leaf) (some A33) .leaf) (some A17) (.node .leaf (some A49) .leaf)) (some A9) (.node (.node .leaf (some A41) .leaf) (some A25) (.node .leaf (some A57) .leaf))) (some A5) (.node (.node (.node (.node .leaf (some A69) .leaf) none .leaf) (some A21) (.node .leaf (some A53) .leaf)) (some A13) (.node (.node (.node .leaf (some A77) .leaf) (some A45) .leaf) (some A29) (.node .leaf (some A61) .leaf))))) none (.node (.node (.node (.node (.node .leaf (some A32) .leaf) (some A16) (.node .leaf (some A48) .leaf)) (some A8) (.node (.node .leaf (some A40) .leaf) (some A24) (.node .leaf (some A56) .leaf))) (some A4) (.node (.node (.node (.node .leaf (some A68) .leaf) none .leaf) none (.node .leaf (some A52) .leaf)) (some A12) (.node (.node (.node .leaf (some A76) .leaf) none .leaf) (some A28) .leaf))) none (.node (.node (.node (.node (.node .leaf (some A66) .leaf) (some A34) .leaf) (some A18) .leaf) (some A10) (.node (.node (.node .leaf (some A74) .leaf) (some A42) .leaf) (some A26) (.node .leaf (some A58) .leaf))) (some A6) (.node (.node (.node .leaf (some A38) .leaf) (some A22) (.node .leaf (some A54) .leaf)) (some A14) (.node (.node .leaf (some A46) .leaf) (some A30) (.node .leaf (some A62) .leaf))))))
theorem tab_eq : tab = (((((((((((((((((((((((((((((((((((((((((((((((((((((((((((((((.leaf : Tr AFunc)).set 9 A9).set 22 A22).set 65 A65).set 54 A54).set 55 A55).set 56 A56).set 41 A41).set 23 A23).set 66 A66).set 57 A57).set 59 A59).set 58 A58).set 42 A42).set 24 A24).set 13 A13).set 38 A38).set 19 A19).set 11 A11).set 61 A61).set 28 A28).set 31 A31).set 47 A47).set 45 A45).set 46 A46).set 29 A29).set 30 A30).set 15 A15).set 34 A34).set 35 A35).set 17 A17).set 10 A10).set 43 A43).set 25 A25).set 26 A26).set 14 A14).set 52 A52).set 39 A39).set 53 A53).set 40 A40).set 21 A21).set 12 A12).set 3 A3).set 18 A18).set 74 A74).set 67 A67).set 75 A75).set 68 A68).set 76 A76).set 77 A77).set 69 A69).set 62 A62).set 48 A48).set 49 A49).set 32 A32).set 33 A33).set 16 A16).set 4 A4).set 5 A5).set 6 A6).set 7 A7).set 8 A8) := by rfl
def FT (f : Nat) : Option FnD := (tab.get f).map .code
theorem FT_ok {G : World → Prop} : TableOk Tryd.prog G FT := by
  intro f
  refine ⟨fun af h => ?_, fun g h => ?_⟩
  · unfold FT at h; rw [tab_eq] at h
    simp only [Tr.get_set] at h
    by_cases h8 : f = 8
    · subst h8; simp at h; subst h; exact ok8
    rw [if_neg h8] at h
    by_cases h7 : f = 7
    · subst h7; simp at h; subst h; exact ok7
    rw [if_neg h7] at h
    by_cases h6 : f = 6
    · subst h6; simp at h; subst h; exact ok6
    rw [if_neg h6] at h
    by_cases h5 : f = 5
    · subst h5; simp at h; subst h; exact ok5
    rw [if_neg h5] at h
    by_cases h4 : f = 4
    · subst h4; simp at h; subst h; exact ok4
    rw [if_neg h4] at h
    by_cases h16 : f = 16
    · subst h16; simp at h; subst h; exact ok16
    rw [if_neg h16] at h
    by_cases h33 : f = 33
    · subst h33; simp at h; subst h; exact ok33
    rw [if_neg h33] at h
    by_cases h32 : f = 32
    · subst h32; simp at h; subst h; exact ok32
    rw [if_neg h32] at h
    by_cases h49 : f = 49
    · subst h49; simp at h; subst h; exact ok49
    rw [if_neg h49] at h
    by_cases h48 : f = 48
    · subst h48; simp at h; subst h; exact ok48
    rw [if_neg h48] at h
    by_cases h62 : f = 62
    · subst h62; simp at h; subst h; exact ok62
    rw [if_neg h62] at h
    by_cases h69 : f = 69
    · subst h69; simp at h; subst h; exact ok69
    rw [if_neg h69] at h
    by_cases h77 : f = 77
    · subst h77; simp at h; subst h; exact ok77
    rw [if_neg h77] at h
    by_cases h76 : f = 76
    · subst h76; simp at h; subst h; exact ok76
    rw [if_neg h76] at h
    by_cases h68 : f = 68
    · subst h68; simp at h; subst h; exact ok68
    rw [if_neg h68] at h
    by_cases h75 : f = 75
    · subst h75; simp at h; subst h; exact ok75
    rw [if_neg h75] at h
    by_cases h67 : f = 67
    · subst h67; simp at h; subst h; exact ok67
    rw [if_neg h67] at h
    by_cases h74 : f = 74
    · subst h74; simp at h; subst h; exact ok74
    rw [if_neg h74] at h
    by_cases h18 : f = 18
    · subst h18; simp at h; subst h; exact ok18
    rw [if_neg h18] at h
    by_cases h3 : f = 3
    · subst h3; simp at h; subst h; exact ok3
    rw [if_neg h3] at h
    by_cases h12 : f = 12
    · subst h12; simp at h; subst h; exact ok12
    rw [if_neg h12] at h
    by_cases h21 : f = 21
    · subst h21; simp at h; subst h; exact ok21
    rw [if_neg h21] at h
    by_cases h40 : f = 40
    · subst h40; simp at h; subst h; exact ok40
    rw [if_neg h40] at h
    by_cases h53 : f = 53
    · subst h53; simp at h; subst h; exact ok53
    rw [if_neg h53] at h
    by_cases h39 : f = 39
    · subst h39; simp at h; subst h; exact ok39
    rw [if_neg h39] at h
    by_cases h52 : f = 52
    · subst h52; simp at h; subst h; exact ok52
    rw [if_neg h52] at h
    by_cases h14 : f = 14
    · subst h14; simp at h; subst h; exact ok14
    rw [if_neg h14] at h
    by_cases h26 : f = 26
    · subst h26; simp at h; subst h; exact ok26
    rw [if_neg h26] at h
    by_cases h25 : f = 25
    · subst h25; simp at h; subst h; exact ok25
    rw [if_neg h25] at h
    by_cases h43 : f = 43
    · subst h43; simp at h; subst h; exact ok43
    rw [if_neg h43] at h
    by_cases h10 : f = 10
    · subst h10; simp at h; subst h; exact ok10
    rw [if_neg h10] at h
    by_cases h17 : f = 17
    · subst h17; simp at h; subst h; exact ok17
    rw [if_neg h17] at h
    by_cases h35 : f = 35
    · subst h35; simp at h; subst h; exact ok35
    rw [if_neg h35] at h
    by_cases h34 : f = 34
    · subst h34; simp at h; subst h; exact ok34
    rw [if_neg h34] at h
    by_cases h15 : f = 15
    · subst h15; simp at h; subst h; exact ok15
    rw [if_neg h15] at h
    by_cases h30 : f = 30
    · subst h30; simp at h; subst h; exact ok30
    rw [if_neg h30] at h
    by_cases h29 : f = 29
    · subst h29; simp at h; subst h; exact ok29
    rw [if_neg h29] at h
    by_cases h46 : f = 46
    · subst h46; simp at h; subst h; exact ok46
    rw [if_neg h46] at h
    by_cases h45 : f = 45
    · subst h45; simp at h; subst h; exact ok45
    rw [if_neg h45] at h
    by_cases h47 : f = 47
    · subst h47; simp at h; subst h; exact ok47
    rw [if_neg h47] at h
    by_cases h31 : f = 31
    · subst h31; simp at h; subst h; exact ok31
    rw [if_neg h31] at h
    by_cases h28 : f = 28
    · subst h28; simp at h; subst h; exact ok28
    rw [if_neg h28] at h
    by_cases h61 : f = 61
    · subst h61; simp at h; subst h; exact ok61
    rw [if_neg h61] at h
    by_cases h11 : f = 11
    · subst h11; simp at h; subst h; exact ok11
    rw [if_neg h11] at h
    by_cases h19 : f = 19
    · subst h19; simp at h; subst h; exact ok19
    rw [if_neg h19] at h
    by_cases h38 : f = 38
    · subst h38; simp at h; subst h; exact ok38
    rw [if_neg h38] at h
    by_cases h13 : f = 13
    · subst h13; simp at h; subst h; exact ok13
    rw [if_neg h13] at h
    by_cases h24 : f = 24
    · subst h24; simp at h; subst h; exact ok24
    rw [if_neg h24] at h
    by_cases h42 : f = 42
    · subst h42; simp at h; subst h; exact ok42
    rw [if_neg h42] at h
    by_cases h58 : f = 58
    · subst h58; simp at h; subst h; exact ok58
    rw [if_neg h58] at h
    by_cases h59 : f = 59
    · subst h59; simp at h; subst h; exact ok59
    rw [if_neg h59] at h
    by_cases h57 : f = 57
    · subst h57; simp at h; subst h; exact ok57
    rw [if_neg h57] at h
    by_cases h66 : f = 66
    · subst h66; simp at h; subst h; exact ok66
    rw [if_neg h66] at h
    by_cases h23 : f = 23
    · subst h23; simp at h; subst h; exact ok23
    rw [if_neg h23] at h
    by_cases h41 : f = 41
    · subst h41; simp at h; subst h; exact ok41
    rw [if_neg h41] at h
    by_cases h56 : f = 56
    · subst h56; simp at h; subst h; exact ok56
    rw [if_neg h56] at h
    by_cases h55 : f = 55
    · subst h55; simp at h; subst h; exact ok55
    rw [if_neg h55] at h
    by_cases h54 : f = 54
    · subst h54; simp at h; subst h; exact ok54
    rw [if_neg h54] at h
    by_cases h65 : f = 65
    · subst h65; simp at h; subst h; exact ok65
    rw [if_neg h65] at h
    by_cases h22 : f = 22
    · subst h22; simp at h; subst h; exact ok22
    rw [if_neg h22] at h
    by_cases h9 : f = 9
    · subst h9; simp at h; subst h; exact ok9
    rw [if_neg h9] at h
    simp [Tr.get] at h
  · unfold FT at h; cases h2 : tab.get f <;> simp [h2] at h
end Go.Proofs.YtacfhbhfgbjleaaDoor
