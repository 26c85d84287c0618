/- The statements FacesTells and FacesRims at the interpreter. No claim by itself. -/
import Derived.Test.YtcepchipgjpkhaaL1
namespace Go.Proofs.Ytcepchipgjpkhaa
open Go Go.AI
section
variable {H : Heap} {FT : Nat → Option FnD}
theorem edS_len_le (L : List (Int × Int)) : (edS L).length ≤ L.length := by
  have := layU_len (lt := ltS) (L.map upE) []
  simpa [edS] using this
theorem tells3 (T : LawT FT) (h3 : FT 3 = some (.code A3)) (hw : H.Wf) {n a b : Int} {vF : AV} {F : List (List Int)} (hF : Gd H vF F) :
    Cp FT 3 [.int .i64 n, vF, .int .i64 a, .int .i64 b] H (fun r _ => r = .bool true) := by
  refine Cp_code A3 h3 rfl ?_
  simp [A3]
  refine (many17 T.h17 hF).mono ?_
  rintro _ _ ⟨⟨c, rfl, hc⟩, rfl⟩
  cases c with
  | true =>
    simp
    refine (known18 T hw).mono ?_
    rintro _ _ ⟨rfl, _⟩
    simp
  | false =>
    have hs := Fsz.of (hc rfl)
    simp
    refine (copied19 T.h19 hF hs hw).mono ?_
    rintro vx H1 ⟨hx, e1⟩
    simp
    refine (check13 T.h20 T.h56 T.h91 T.h114 T.h63 T.h58 (n := n) hx hs.row hs.len e1.wf).mono ?_
    rintro _ H2 ⟨rfl, e2⟩
    simp
    refine (edges21 T.toFacesT (hx.ext e2) hs e2.wf).mono ?_
    rintro vE H3 ⟨hE, e3⟩
    have hx3 := (hx.ext e2).ext e3
    simp
    refine (left22 T.toFacesT (a := a) (b := b) hx3 hs e3.wf).mono ?_
    rintro _ H4 ⟨rfl, e4⟩
    simp
    refine (count23 T.toFacesT (hx3.ext e4) hs e4.wf).mono ?_
    rintro _ H5 ⟨rfl, e5⟩
    have e15 := ((e2.trans e3).trans e4).trans e5
    have e05 := e1.trans e15
    have hF5 := hF.ext e05
    have hx5 := hx.ext e15
    have hcnt : ∃ x y z : Int, (if chkF 1048576 F = 0 then AV.tup [.int .i64 (firsts F.flatten).length, .int .i64 (edS (allE F)).length, .int .i64 F.length] else .tup [.int .i64 0, .int .i64 0, .int .i64 0]) = .tup [.int .i64 x, .int .i64 y, .int .i64 z] := by
      split
      · exact ⟨_, _, _, rfl⟩
      · exact ⟨_, _, _, rfl⟩
    obtain ⟨x, y, z, hxyz⟩ := hcnt
    rw [hxyz]
    simp
    refine (count24 T.h24 T.h27 T.h60 T.h25 T.h59 hF5 hs e05.wf).mono ?_
    rintro _ H6 ⟨rfl, e6⟩
    rw [hxyz]
    have hF6 := hF5.ext e6
    have hx6 := hx5.ext e6
    have hE6 := ((hE.ext e4).ext e5).ext e6
    simp
    refine (ref25 (n := n) T.h25 T.h59 hF6 hs.row hs.len hs.tot e6.wf).mono ?_
    rintro _ H7 ⟨rfl, e7⟩
    simp
    refine (edges27 T.h27 T.h60 T.h25 T.h59 (hF6.ext e7) hs e7.wf).mono ?_
    rintro vE2 H8 ⟨hE2, e8⟩
    have hEl : (if chkF 1048576 F = 0 then edS (allE F) else []).length ≤ 1000000000 := by
      split
      · have h1 := edS_len_le (allE F)
        have h2 : (allE F).length = F.flatten.length := flat_edges F
        have := hs.tot
        omega
      · simp
    simp
    refine (same26 T.h26 (((hE6.ext e7).ext e8).sl pairc_len) (hE2.sl pairc_len) hEl).mono ?_
    rintro _ _ ⟨rfl, rfl⟩
    simp
    refine (left28 T.h28 T.h61 T.h25 T.h59 (a := a) (b := b) ((hF6.ext e7).ext e8) hs e8.wf).mono ?_
    rintro _ H9 ⟨rfl, e9⟩
    have e79 := (e7.trans e8).trans e9
    simp
    refine (same29 T.h29 T.h32 (hx6.ext e79) (hF6.ext e79) hs.len hs.row).mono ?_
    rintro _ _ ⟨rfl, rfl⟩
    simp
    refine (known18 T e9.wf).mono ?_
    rintro _ _ ⟨rfl, _⟩
    simp
open Classical in
noncomputable def errR (n : Int) (F : List (List Int)) : Int := if chkF n F = 0 then (if (keys (rimE (allE F))).Nodup then 0 else 81) else chkF n F
open Classical in
noncomputable def rowR (n : Int) (F : List (List Int)) : List (List Int) := if chkF n F = 0 ∧ (keys (rimE (allE F))).Nodup then rimsF (allE F) else []
theorem gd_nil (H : Heap) : Gd H .nils [] := ⟨[], ⟨.inl ⟨rfl, rfl⟩, rfl⟩, rfl, fun i r f a => by simp at a⟩
theorem rimsR_un {n : Int} {F : List (List Int)} {r : AV} (h : rimsR n F H r) : ∃ v, r = .tup [v, .int .i64 (errR n F)] ∧ Gd H v (rowR n F) := by
  unfold errR rowR
  rcases h with ⟨z, rfl⟩ | ⟨z, d, rfl⟩ | ⟨z, d, v, rfl, g⟩
  · rw [if_neg z, if_neg (fun q => z q.1)]; exact ⟨_, rfl, gd_nil H⟩
  · rw [if_pos z, if_neg d, if_neg (fun q => d q.2)]; exact ⟨_, rfl, gd_nil H⟩
  · rw [if_pos z, if_pos d, if_pos ⟨z, d⟩]; exact ⟨v, rfl, g⟩
/-- How long rings are together. -/
theorem rings_size : ∀ (l : List Int) (M : Nx), (ringsF l M).flatten.length + (ringsF l M).length ≤ 2 * M.length
  | [], M => by simp [ringsF]
  | a :: l, M => by
    rw [rings_cons]
    split
    · exact rings_size l M
    · rename_i z
      have ih := rings_size l (goes M a).2
      have hlen : (goes M a).1.length + (goes M a).2.length ≤ M.length := by
        have key : ∀ (n : Nat) (M : Nx) (a : Int), M.length ≤ n → (goes M a).1.length + (goes M a).2.length ≤ M.length := by
          intro n
          induction n with
          | zero =>
            intro M a h
            have : M = [] := List.length_eq_zero_iff.1 (by omega)
            subst this
            rw [goes_none (by simp [keys])]; simp
          | succ n ih =>
            intro M a h
            cases q : at1 M a with
            | none => rw [goes_none (at1_none.1 q)]; simp
            | some e =>
              rw [goes_some q]
              have h1 := without_len q
              have := ih (without M a) e.2 (by omega)
              simp only [List.length_cons]
              omega
        exact key M.length M a (Nat.le_refl _)
      have hpos : 0 < (goes M a).1.length := List.length_pos_iff.2 z
      rw [List.flatten_cons, List.length_append, List.length_cons]
      omega
theorem rowR_size {n : Int} {F : List (List Int)} (hs : F.flatten.length ≤ 400) : (rowR n F).length ≤ 1000000000 ∧ (∀ f, f ∈ rowR n F → f.length ≤ 1000000000) ∧ (rowR n F).flatten.length + (rowR n F).length ≤ 2 * F.flatten.length := by
  have h0 : (rowR n F).flatten.length + (rowR n F).length ≤ 2 * F.flatten.length := by
    unfold rowR
    split
    · have h1 := rings_size (srtI (keys (rimE (allE F)))) (rimE (allE F))
      have h2 : (rimE (allE F)).length ≤ (allE F).length := List.length_filter_le _ _
      have h3 : (allE F).length = F.flatten.length := flat_edges F
      unfold rimsF
      omega
    · simp
  refine ⟨by omega, fun f hf => ?_, h0⟩
  obtain ⟨p, q, e⟩ := List.append_of_mem hf
  rw [e, List.flatten_append, List.length_append, List.flatten_cons, List.length_append, List.length_append, List.length_cons] at h0
  omega
theorem rims4 (T : LawT FT) (h4 : FT 4 = some (.code A4)) (hw : H.Wf) {n : Int} {vF : AV} {F : List (List Int)} (hF : Gd H vF F) :
    Cp FT 4 [.int .i64 n, vF] H (fun r _ => r = .bool true) := by
  refine Cp_code A4 h4 rfl ?_
  simp [A4]
  refine (many17 T.h17 hF).mono ?_
  rintro _ _ ⟨⟨c, rfl, hc⟩, rfl⟩
  cases c with
  | true =>
    simp
    refine (known18 T hw).mono ?_
    rintro _ _ ⟨rfl, _⟩
    simp
  | false =>
    have hs := Fsz.of (hc rfl)
    simp
    obtain ⟨z1, z2, _⟩ := rowR_size (n := n) (F := F) (by have := hc rfl; omega)
    refine (rims30 T.toFacesT (n := n) hF hs hw).mono ?_
    rintro r1 H1 ⟨hr1, e1⟩
    obtain ⟨v1, rfl, g1⟩ := rimsR_un hr1
    simp
    refine (rims31 T.h31 T.h25 T.h59 (n := n) (hF.ext e1) hs e1.wf).mono ?_
    rintro r2 H2 ⟨hr2, e2⟩
    obtain ⟨v2, rfl, g2⟩ := rimsR_un hr2
    have e02 := e1.trans e2
    simp
    refine (same29 T.h29 T.h32 (g1.ext e2) g2 z1 z2).mono ?_
    rintro _ _ ⟨rfl, rfl⟩
    simp
    refine (parts33 T.toFacesT (hF.ext e02) hs e2.wf).mono ?_
    rintro p1 H3 ⟨hp1, e3⟩
    simp
    refine (parts34 T.h34 T.h61 T.h25 T.h59 (hF.ext (e02.trans e3)) hs e3.wf).mono ?_
    rintro p2 H4 ⟨hp2, e4⟩
    simp
    refine (same32 T.h32 ((hp1.ext e4).sl i64c_len) (hp2.sl i64c_len) ?_).mono ?_
    · split
      · rw [(parts_is F).len]; exact hs.len
      · simp
    rintro _ _ ⟨rfl, rfl⟩
    simp
    refine (known18 T e4.wf).mono ?_
    rintro _ _ ⟨rfl, _⟩
    simp
end
end Go.Proofs.Ytcepchipgjpkhaa
