/- The table with known() told; a mesh that is small. No claim by itself. -/
import Derived.Test.YtacfhbhfgbjleaaDoorK
import Derived.Test.YtacfhbhfgbjleaaDoorFA
namespace Go.Proofs.YtacfhbhfgbjleaaDoor
open Go Go.AI
def FK (f : Nat) : Option FnD := if f = 10 then some (.ext (told (.bool true))) else FE f
theorem known_told : (callA FE 3000 10 [] ⟨.leaf, 0, 0⟩).map Prod.fst = some (.bool true) := by
  have h : ((callA FE 3000 10 [] ⟨.leaf, 0, 0⟩).map fun r => match r.1 with | .bool b => b | _ => false) = some true := known_true
  generalize callA FE 3000 10 [] ⟨.leaf, 0, 0⟩ = c at h
  cases c with
  | none => cases h
  | some r =>
    obtain ⟨v, H'⟩ := r
    cases v with
    | bool b => simp at h; simp [h]
    | _ => simp at h
theorem FK_ok : TableOk Tryd.prog GT FK := by
  intro f
  by_cases h : f = 10
  · subst h
    refine ⟨fun af e => by simp [FK] at e, fun g e => ?_⟩
    simp [FK] at e; subst e
    exact told_ok FE_ok known_told rfl
  · have : FK f = FE f := by simp [FK, h]
    rw [this]; exact FE_ok f
theorem hk10 {H : Heap} {K : AV → Heap → Prop} (k : K (.bool true) H) : Cp FK 10 [] H K := Cp_ext (told (.bool true)) rfl rfl k
/-- A mesh's argument. -/
structure ObA (H : Heap) (vP vF : AV) (P : List (Int × Int)) (F : List (List Int)) : Prop where
  p : Rw 2 pairc H vP P
  f : Gd H vF F
theorem ObA.mo {H : Heap} {vP vF : AV} {P : List (Int × Int)} {F : List (List Int)} (h : ObA H vP vF P F) : Mo H vP vF P F := ⟨h.p.sl pairc_len, h.f⟩
theorem ObA.ext {H H' : Heap} {vP vF : AV} {P : List (Int × Int)} {F : List (List Int)} (h : ObA H vP vF P F) (e : Ext H H') : ObA H' vP vF P F := ⟨h.p.ext e, h.f.ext e⟩
theorem ObA.extC {H H' : Heap} {vP vF : AV} {P : List (Int × Int)} {F : List (List Int)} (h : ObA H vP vF P F) (e : ExtC H H') : ObA H' vP vF P F := ⟨Rw.extC' h.p e, Gd.extC' h.f e⟩
theorem Mo.up {H : Heap} {vP vF : AV} {P : List (Int × Int)} {F : List (List Int)} (h : Mo H vP vF P F) : Mo H.up vP vF P F :=
  ⟨h.p.up, ⟨by obtain ⟨rs, a, b, c⟩ := h.f.ex; exact ⟨rs, ⟨a.sw, a.cap⟩, b, fun i r f q1 q2 => ⟨(c i r f q1 q2).sw, (c i r f q1 q2).cap⟩⟩⟩⟩
structure Sm (P : List (Int × Int)) (F : List (List Int)) : Prop where
  p : P.length ≤ 150
  f : F.length ≤ 200
  r : ∀ f, f ∈ F → f.length ≤ 200
  t : F.flatten.length ≤ 200
theorem Sm.sz {P : List (Int × Int)} {F : List (List Int)} (h : Sm P F) : Sz P F := by
  obtain ⟨a, b, c, d⟩ := h
  exact ⟨by omega, by omega, fun f hf => by have := c f hf; omega, by omega⟩
def mnS (F : List (List Int)) : Nat := (F.map fun f => min f.length 200).sum
theorem mnS_all : ∀ {F : List (List Int)}, mnS F ≤ 199 → (∀ f, f ∈ F → f.length ≤ 199) ∧ F.flatten.length = mnS F
  | [], _ => by simp [mnS]
  | f :: F, h => by
    have e : mnS (f :: F) = min f.length 200 + mnS F := by simp [mnS]
    rw [e] at h
    obtain ⟨a, b⟩ := mnS_all (F := F) (by omega)
    refine ⟨fun g hg => ?_, ?_⟩
    · rcases List.mem_cons.1 hg with q | q
      · subst q; omega
      · exact a g q
    · rw [List.flatten_cons, List.length_append, b, e]; omega
structure MaI (H H' : Heap) (ob : Nat) (vP vF : AV) (W : Int) (F : List (List Int)) (τ : Env) (i m : Nat) : Prop where
  eq : H = H'
  le : i ≤ F.length
  hm : m = F.length - i
  t1 : Env.at τ 1 = .ptr ob 0
  t3 : Env.at τ 3 = .int .i64 (F.length + mnS (F.take i) : Nat)
  t4 : Env.at τ 4 = .int .i64 i
  lt : i = 0 ∨ F.length + mnS (F.take i) ≤ 400
structure MaR (P : List (Int × Int)) (F : List (List Int)) (r : AV) : Prop where
  ex : ∃ b, r = .bool b ∧ (b = false → Sm P F)
theorem many9 {FT : Nat → Option FnD} (h9 : FT 9 = some (.code A9)) {H : Heap} (hw : H.Wf) {vP vF : AV} {P : List (Int × Int)} {W : Int} {F : List (List Int)} (h : Mo H vP vF P F) :
    Cp FT 9 [.agg [vP, .int .i64 W, vF]] H (fun r H' => MaR P F r ∧ Ext H H') := by
  refine Cp_code A9 h9 rfl ?_
  have hone := h.one W
  have e0 := Ext.push hw (.cells [vP, .int .i64 W, vF])
  have g0 : (H.push (.cells [vP, .int .i64 W, vF])).get H.next = some (.cells [vP, .int .i64 W, vF]) := get_pushN.trans (if_pos rfl)
  generalize hP0 : H.push (.cells [vP, .int .i64 W, vF]) = H0 at *
  have l0 : loadA H0 none (.ptr H.next 0) = some vP := load_get g0 rfl
  have l2 : loadA H0 none (.ptr H.next 2) = some vF := load_get g0 rfl
  have hfl := h.f.len
  have hpl := h.p.len
  simp [A9, hone, hP0, l2, hfl]
  refine Wp_loop (fun m τ H' => ∃ i, MaI H0 H' H.next vP vF W F τ i m) ?_ F.length _ _ ⟨0, ⟨rfl, by omega, by omega, by simp, by simp [mnS], by simp, .inl rfl⟩⟩
  rintro m τ _ ⟨i, ⟨rfl, hi, rfl, t1, t3, t4, hlt⟩⟩
  simp only [Wp_seq, Wp_region]
  have fin : ∀ b : Bool, (b = false → Sm P F) → MaR P F (.bool b) ∧ Ext H H0 := fun b hb => ⟨⟨b, rfl, hb⟩, e0⟩
  generalize hn : F.length + mnS (F.take i) = n at *
  by_cases c : i < F.length
  · by_cases cn : n ≤ 200
    · obtain ⟨p, r, f, a1, a2, a3, a4⟩ := (h.f.ext e0).idx (k := .i64) (i := (i : Int)) (by omega) (by omega)
      rw [Int.toNat_natCast] at a1
      have hs : F.length + mnS (F.take (i + 1)) = n + min f.length 200 := by
        rw [List.take_add_one, a1, ← hn]
        simp [mnS]; omega
      have w : IntKind.i64.wrap ((i : Int) + 1) = ((i + 1 : Nat) : Int) := wrap64 (by omega) (by omega)
      have hmn : (if (200 : Int) < (f.length : Int) then (200 : Int) else (f.length : Int)) = ((min f.length 200 : Nat) : Int) := by split <;> omega
      have hwn : IntKind.i64.wrap ((n : Int) + ((min f.length 200 : Nat) : Int)) = ((n + min f.length 200 : Nat) : Int) := by rw [wrap64 (by omega) (by omega)]; omega
      have cn' : ((n : Nat) : Int) ≤ 200 := by omega
      simp [-Int.natCast_add, c, t1, t3, t4, l2, hfl, cn', a2, a3, a4.len, maxA, hmn, hwn, w]
      exact ⟨_, by omega, i + 1, ⟨rfl, by omega, rfl, by simp [t1], by simp [hs], by simp, .inr (by omega)⟩⟩
    · have cn' : ¬ ((n : Nat) : Int) ≤ 200 := by omega
      have cn2 : (200 : Int) < ((n : Nat) : Int) := by omega
      simp [c, t1, t3, t4, l2, hfl, cn', cn2]
      exact fin _ (by simp)
  · have hil : i = F.length := by omega
    subst hil
    rw [List.take_length] at hn
    by_cases cn : n ≤ 200
    · have cn2 : ¬ (200 : Int) < ((n : Nat) : Int) := by omega
      by_cases cp : 150 < P.length
      · have cp' : (150 : Int) < P.length := by omega
        simp [t1, t3, t4, l0, l2, hfl, hpl, cn2, cp']
        exact fin _ (by simp)
      · have cp' : ¬ (150 : Int) < P.length := by omega
        simp [t1, t3, t4, l0, l2, hfl, hpl, cn2, cp']
        refine fin _ (fun _ => ?_)
        by_cases c0 : F = []
        · subst c0; exact ⟨by omega, by simp, by simp, by simp⟩
        · have hpos : 0 < F.length := List.length_pos_iff.2 c0
          obtain ⟨q1, q2⟩ := mnS_all (F := F) (by omega)
          exact ⟨by omega, by omega, fun f hf => by have := q1 f hf; omega, by omega⟩
    · have cn2 : (200 : Int) < ((n : Nat) : Int) := by omega
      simp [t1, t3, t4, l2, hfl, cn2]
      exact fin _ (by simp)
end Go.Proofs.YtacfhbhfgbjleaaDoor
