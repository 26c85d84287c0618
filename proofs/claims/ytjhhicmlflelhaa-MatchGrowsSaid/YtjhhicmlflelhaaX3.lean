/- The law MatchMost, over the interpreter. No claim by itself. -/
import Derived.Test.YtjhhicmlflelhaaMC
import Derived.Test.YtjhhicmlflelhaaS7
namespace Go.Proofs.Ytjhhicmlflelhaa.Gr
open Go Go.AI
theorem tbK : TB FK := ⟨rfl, rfl, rfl, rfl, rfl, rfl, rfl, rfl, rfl, rfl, rfl, rfl, rfl, rfl, rfl, rfl, rfl, rfl, rfl, rfl, rfl, rfl, rfl, rfl, rfl, rfl, rfl, rfl, rfl, rfl, rfl, rfl, rfl, rfl, rfl⟩
theorem cnt_even {n b : Nat} {E : Nat → Nat → Prop} {m : Nat → Option Nat} (h : Best n E (fun _ => True) b) (hm : Mt E m) (k : ∀ m2, Mt E m2 → cnt n m2 ≤ cnt n m) : cnt n m / 2 = b := by
  obtain ⟨⟨m1, h1, _, h3⟩, h4⟩ := h
  have a := k m1 h1
  have b := h4 m hm fun _ _ _ => trivial
  omega
theorem most3 {n : Int} {v : AV} {l : List (Int × Int)} {H : Heap} (h : Pairs H v l) (hw : H.Wf) (hl : l.length ≤ 9223372036854775806) :
    Cp FK 3 [.int .i64 n, v] H (fun r _ => r = .bool true) := by
  refine Cp_code A3 rfl rfl ?_
  by_cases c3 : 100 < (l.length : Int)
  · by_cases c1 : 10 < n
    · by_cases c2 : n ≤ 1000
      · simp [A3, c1, c2]
        apply hk9; simp
      · simp [A3, c1, c2, h.len, c3]
        apply hk9; simp
    · simp [A3, c1, h.len, c3]
      apply hk9; simp
  by_cases c12 : 10 < n ∧ n ≤ 1000
  · simp [A3, c12.1, c12.2]
    apply hk9; simp
  have hg : (10 < n ∧ ¬ n ≤ 1000) ∨ ¬ 10 < n := by omega
  have m10 : Cp FK 10 [.int .i64 n, v] H _ := max10 tbK hw (n := n) h (by omega)
  have m11 : ∀ {H'}, Ext H H' → Cp FK 11 [.int .i64 n, v] H' _ := fun he => right11 (H := _) (n := n) rfl (h.ext he) hl
  rcases hg with ⟨c1, c2⟩ | c1
  · simp [A3, c1, c2, h.len, c3]
    refine m10.mono ?_
    rintro r H1 ⟨he, ⟨hr, u, rfl, hu, _⟩ | ⟨hr, rfl⟩⟩
    · have := (right_mem hr).2.1; omega
    · simp
      refine (m11 he).mono ?_
      rintro r H2 ⟨rfl, rfl⟩
      simp [hr]
      apply hk9; simp
  · simp [A3, c1, h.len, c3]
    refine m10.mono ?_
    rintro r H1 ⟨he, ⟨hr, u, rfl, hu, _⟩ | ⟨hr, rfl⟩⟩
    · have hrm := right_mem hr
      obtain ⟨N, rfl⟩ : ∃ N : Nat, n = (N : Int) := ⟨n.toNat, by omega⟩
      obtain ⟨k1, k2, k3⟩ := maxOf_ok hr
      have him := isM_of hr k2
      rw [Int.toNat_natCast] at hu k1 k2 k3 him
      simp
      refine (m11 he).mono ?_
      rintro r H2 ⟨rfl, rfl⟩
      simp [hr]
      refine (is12 (n := (N : Int)) rfl rfl rfl (h.ext he) hu hl (by rw [mateL_len]; omega)).mono ?_
      rintro r H3 ⟨rfl, rfl⟩
      simp [him]
      refine (size13 rfl hu (by rw [mateL_len]; omega)).mono ?_
      rintro r H4 ⟨rfl, rfl⟩
      rw [cnt_mateL]
      generalize hq : cnt N (maxOf N (natE l)) / 2 = q
      simp
      refine (most14 (n := N) rfl rfl rfl he.wf (h.ext he) hr (by omega)).mono ?_
      rintro r H5 ⟨b, rfl, hb, _⟩
      have hcb := cnt_even hb k2 k3
      have hqb : q = b := hq.symm.trans hcb
      subst hqb
      simp
      apply hk9; simp
    · simp
      refine (m11 he).mono ?_
      rintro r H2 ⟨rfl, rfl⟩
      simp [hr]
      apply hk9; simp
end Go.Proofs.Ytjhhicmlflelhaa.Gr

