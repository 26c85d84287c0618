/- Many; the statement DualGraph, walked. No claim by itself. -/
import Derived.Test.YtcepchipgjpkhaaNG
import Derived.Test.YtcepchipgjpkhaaNF
import Derived.Test.YtcepchipgjpkhaaMM
namespace Go.Proofs.Ytcepchipgjpkhaa
open Go Go.AI
section
variable {FT : Nat → Option FnD} {H H' : Heap}
def manyM (P : List (Int × Int)) (T : List Tri) (S : List (Int × Int)) : Bool := decide (40 < P.length) || (decide (60 < T.length) || decide (80 < S.length))
theorem manyM_no {P : List (Int × Int)} {T : List Tri} {S : List (Int × Int)} (h : manyM P T S = false) : P.length ≤ 40 ∧ T.length ≤ 60 ∧ S.length ≤ 80 := by
  simp [manyM] at h
  omega
theorem many42 (h42 : FT 42 = some (.code A42)) (hw : H.Wf) {x : AV} {P : List (Int × Int)} {T : List Tri} {S : List (Int × Int)} (hm : Msh H x P T S) :
    Cp FT 42 [x] H (fun r H' => r = .bool (manyM P T S) ∧ Ext H H') := by
  obtain ⟨vP, vT, vS, rfl, rP, rT, rS⟩ := hm.ex
  refine Cp_code A42 h42 rfl ?_
  obtain ⟨g1, e1⟩ := push_new hw (.cells [vP, vT, vS])
  have hall : allOne [vP, vT, vS] = true := by simp [allOne, rP.one.1, rT.one.1, rS.one.1]
  generalize hH1 : H.push (.cells [vP, vT, vS]) = H1 at g1 e1
  have f0 : loadA H1 none (.ptr H.next 0) = some vP := load_get g1 rfl
  have f1 : loadA H1 none (.ptr H.next 1) = some vT := load_get g1 rfl
  have f2 : loadA H1 none (.ptr H.next 2) = some vS := load_get g1 rfl
  by_cases c1 : (40 : Int) < P.length
  · have hv : manyM P T S = true := by have : 40 < P.length := by omega
                                       simp [manyM, this]
    simp [A42, hall, hH1, f0, rP.len, c1, hv]
    exact e1
  · by_cases c2 : (60 : Int) < T.length
    · have hv : manyM P T S = true := by have : 60 < T.length := by omega
                                         simp [manyM, this]
      simp [A42, hall, hH1, f0, f1, rP.len, rT.len, c1, c2, hv]
      exact e1
    · by_cases c3 : (80 : Int) < S.length
      · have hv : manyM P T S = true := by have : 80 < S.length := by omega
                                           simp [manyM, this]
        simp [A42, hall, hH1, f0, f1, f2, rP.len, rT.len, rS.len, c1, c2, c3, hv]
        exact e1
      · have hv : manyM P T S = false := by
          have h1 : ¬ 40 < P.length := by omega
          have h2 : ¬ 60 < T.length := by omega
          have h3 : ¬ 80 < S.length := by omega
          simp only [manyM, decide_eq_false h1, decide_eq_false h2, decide_eq_false h3, Bool.or_self]
        simp [A42, hall, hH1, f0, f1, f2, rP.len, rT.len, rS.len, c1, c2, c3, hv]
        exact e1
def k13k : ACode := subAt [1, 1, 1, 1, 1, 0, 1, 0, 0, 1, 0, 0, 1, 1, 1] A13.body
structure Gk (P : List (Int × Int)) (T : List Tri) (S : List (Int × Int)) (H1 H' : Heap) (o1 : Nat) (v3 : AV) (i : Nat) (τ : Env) (k m : Nat) : Prop where
  ex : Ext H1 H'
  lo : i + 1 ≤ k
  le : k ≤ T.length
  hm : m = T.length - k
  t : Tm τ [(1, .ptr o1 0), (3, v3), (5, .int .i64 (rankS (prsM P T S) ((i : Int), (k : Int)) : Nat)), (6, .int .i64 i), (8, .int .i64 k)]
structure Gi (P : List (Int × Int)) (T : List Tri) (S : List (Int × Int)) (H1 H' : Heap) (o1 : Nat) (v3 : AV) (τ : Env) (i m : Nat) : Prop where
  ex : Ext H1 H'
  le : i ≤ T.length
  hm : m = T.length - i
  t : Tm τ [(1, .ptr o1 0), (3, v3), (5, .int .i64 (rankS (prsM P T S) ((i : Int), (i : Int) + 1) : Nat)), (6, .int .i64 i)]
end
end Go.Proofs.Ytcepchipgjpkhaa
