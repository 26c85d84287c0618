/- The law ObjectWrites, over the interpreter. No claim by itself. -/
import Derived.Test.YtacfhbhfgbjleaaDoorX2
import Derived.Test.YtacfhbhfgbjleaaDoorG3
namespace Go.Proofs.YtacfhbhfgbjleaaDoor
open Go Go.AI
theorem k13 : H13 FK := ⟨rfl, rfl, rfl, rfl, rfl, rfl, rfl, rfl, rfl, rfl, rfl, rfl, rfl, rfl⟩
theorem k14 : H14 FK := ⟨rfl, rfl, rfl, rfl⟩
theorem k11 : H11 FK := ⟨rfl, k13, ⟨rfl, rfl, rfl, rfl⟩, rfl⟩
theorem k12 : H12 FK := ⟨rfl, k14, ⟨rfl, rfl, rfl, rfl, rfl⟩⟩
theorem writes3 {H : Heap} (hw : H.Wf) {vP vF : AV} {P : List (Int × Int)} {W : Int} {F : List (List Int)} (h : ObA H vP vF P F) : Cp FK 3 [.agg [vP, .int .i64 W, vF]] H (fun r _ => r = .bool true) := by
  refine Cp_code A3 rfl rfl ?_
  obtain ⟨g0, e0⟩ := push_new hw (.cells [vP, .int .i64 W, vF])
  have ld : ∀ {H' : Heap}, ExtC (H.push (.cells [vP, .int .i64 W, vF])) H' → loadA H' (some 3) (.ptr H.next 0) = some (.agg [vP, .int .i64 W, vF]) := fun k => load_agg (k.keep _ _ g0) (by simp [seg])
  have l0 := ld (ExtC.refl e0.wf)
  simp [A3, h.mo.one W, l0]
  refine (many9 (FT := FK) rfl e0.wf (h.mo.ext e0)).mono ?_
  rintro _ H1 ⟨⟨b, rfl, hb⟩, e1⟩
  cases b with
  | true =>
    simp
    apply hk10
    simp
  | false =>
    have hs := (hb rfl).sz
    have h1 := h.mo.ext (e0.trans e1)
    simp [ld e1.c]
    refine (write11 k11 e1.wf (W := W) h1 hs).mono ?_
    rintro _ H2 ⟨rfl, e2⟩
    have c2 := e1.c.trans e2
    have h2 := h1.extC e2
    simp [ld c2]
    refine (write12 k12 c2.wf (W := W) h2 hs).mono ?_
    rintro _ H3 ⟨rfl, e3⟩
    have c3 := c2.trans e3.c
    have h3 := h2.ext e3
    simp [ld c3]
    refine (check13 k13 c3.wf.up (W := W) (H := H3.up) h3.up hs).quiet (H := H3) ?_
    rintro _ H4 ⟨rfl, e4'⟩
    have e4 := e4'.back c3.wf
    generalize hH4 : ({ H4 with floor := H3.floor } : Heap) = H5 at *
    have c4 := c3.trans e4.c
    have h4 := h3.ext e4
    simp [ld c4]
    refine (check14 k14 e4.wf (W := W) h4 hs).mono ?_
    rintro _ H6 ⟨rfl, e6⟩
    simp
    apply hk10
    simp
end Go.Proofs.YtacfhbhfgbjleaaDoor
