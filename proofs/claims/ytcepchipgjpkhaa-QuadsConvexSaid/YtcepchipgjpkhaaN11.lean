/- The statement QuadsConvex, walked, but for the chapter's example (hk). No claim by itself. -/
import Derived.Test.YtcepchipgjpkhaaN10
namespace Go.Proofs.Ytcepchipgjpkhaa
open Go Go.AI
section
variable {FT : Nat -> Option FnD} {H H' : Heap}
structure Qc1 (H H' : Heap) (vP vF : AV) (F : List (List Int)) (c : Nat) (τ : Env) (i m : Nat) : Prop where
 eq : H = H'
 le : i <= F.length
 hm : m = F.length - i
 lo : F.length <= c
 ok : ∀ f, f ∈ F.take i -> f.length <= 20
 t : Tm τ [(0, vP), (1, vF), (5, .int .i64 c), (6, .int .i64 i)]
theorem zb32 (T : z10 FT) (N : NumT FT) (h53 : FT 53 = some (.code A53)) (h48 : FT 48 = some (.code A48)) (h38 : FT 38 = some (.code A38)) (h37 : FT 37 = some (.code A37)) (h10 : FT 10 = some (.code A10)) (hk : ∀ {H : Heap}, H.Wf -> Cp FT 36 [] H (fun r _ => r = .bool true)) (hw : H.Wf) {vP vF : AV} {P : List (Int × Int)} {F : List (List Int)} (hP : Rw 2 za2 H vP P) (hF : Gd H vF F) :
  Cp FT 10 [vP, vF] H (fun r _ => r = .bool true) := by
 refine zb1 A10 h10 rfl ?_
 simp [A10, hF.len]
 refine zb7 (fun m τ H' => ∃ i c, Qc1 H H' vP vF F c τ i m) ?_ F.length _ _ ⟨0, F.length, ⟨rfl, by omega, by omega, by omega, by simp, by simp⟩⟩
 rintro m τ _ ⟨i, c, ⟨rfl, hi, rfl, lo, ok, t⟩⟩
 simp at t
 obtain ⟨t0, t1, t5, t6⟩ := t
 by_cases q : i < F.length /\ c <= 200
 ·obtain ⟨q1, q2⟩ := q
  have q2' : (c : Int) <= 200 := by omega
  obtain ⟨p, r, f, a1, a2, a3, a4⟩ := hF.idx (k := .i64) (i := (i : Int)) (by omega) (by omega)
  rw [Int.toNat_natCast] at a1
  have wi : IntKind.i64.wrap ((i : Int) + 1) = (i : Int) + 1 := wrap64 (by omega) (by omega)
  have hmin : (if (200 : Int) < (f.length : Int) then (200 : Int) else f.length) = ((min f.length 200 : Nat) : Int) := by split <;> omega
  have hml : min f.length 200 <= 200 := Nat.min_le_right _ _
  have wc : IntKind.i64.wrap ((c : Int) + ((min f.length 200 : Nat) : Int)) = (c : Int) + ((min f.length 200 : Nat) : Int) := wrap64 (by omega) (by omega)
  have hmA : maxA false (.int .i64 f.length) [.int .i64 200] = some (.int .i64 ((min f.length 200 : Nat) : Int)) := by rw [<- hmin]; simp [maxA]
  have hok : f.length <= 20 -> ∀ g, g ∈ F.take (i + 1) -> g.length <= 20 := fun h g hg => by
   rw [List.take_add_one, a1] at hg
   rcases List.mem_append.1 hg with z | z
   ·exact ok g z
   ·simp at z; subst z; exact h
  generalize min f.length 200 = k at *
  by_cases d : f.length <= 20
  ·have d' : ¬ (20 : Int) < f.length := by omega
   simp [q1, q2', t1, t5, t6, hF.len, a2, a3, a4.len, hmA, wc, d', wi]
   exact ⟨_, by omega, i + 1, c + k, ⟨rfl, by omega, rfl, by omega, hok d, by simp [t0, t1]⟩⟩
  ·have d' : (20 : Int) < f.length := by omega
   simp [q1, q2', t1, t5, t6, hF.len, a2, a3, a4.len, hmA, wc, d']
   refine (hk hw).mono ?_
   rintro _ H1 rfl
   simp
 ·by_cases q1 : i < F.length
  ·have q2 : ¬ c <= 200 := fun h => q ⟨q1, h⟩
   have q2' : ¬ (c : Int) <= 200 := by omega
   have q3 : (200 : Int) < c := by omega
   simp [q1, q2', q3, t1, t5, t6, hF.len]
   refine (hk hw).mono ?_
   rintro _ H1 rfl
   simp
  ·have hil : i = F.length := by omega
   subst hil
   rw [List.take_length] at ok
   by_cases q2 : c <= 200
   ·have q3 : ¬ (200 : Int) < c := by omega
    have hr : ∀ f, f ∈ F -> f.length <= 1000000000 := fun f hf => by have := ok f hf; omega
    have hPl := hP.len
    by_cases q4 : P.length <= 200
    ·have q4' : ¬ (200 : Int) < P.length := by omega
     simp [q3, q4', t0, t1, t5, t6, hF.len, hPl]
     refine (za39 T h37 hw (hP.sl zc6) hF (by omega) (by omega) hr).mono ?_
     rintro _ H1 ⟨rfl, e1⟩
     simp [t0, t1]
     refine (zbu1 N h53 h48 h38 e1.wf ((hP.sl zc6).ext e1) (hF.ext e1) (by omega) (by omega) hr).mono ?_
     rintro _ H2 ⟨rfl, e2⟩
     simp
     refine (hk e2.wf).mono ?_
     rintro _ H3 rfl
     simp
    ·have q4' : (200 : Int) < P.length := by omega
     simp [q3, q4', t0, t1, t5, t6, hF.len, hPl]
     refine (hk hw).mono ?_
     rintro _ H1 rfl
     simp
   ·have q3 : (200 : Int) < c := by omega
    simp [q3, t1, t5, t6, hF.len]
    refine (hk hw).mono ?_
    rintro _ H1 rfl
    simp
end
end Go.Proofs.Ytcepchipgjpkhaa
