/- Is it a matching: the program's asking. No claim by itself. -/
import Derived.Test.YtcepchipgjpkhaaS5
namespace Go.Proofs.Ytcepchipgjpkhaa
open Go Go.AI
theorem is15 {FT : Nat -> Option FnD} (h15 : FT 95 = some (.code A95)) (h21 : FT 97 = some (.code A97)) (h30 : FT 128 = some (.code A128)) (h31 : FT 129 = some (.code A129)) (h37 : FT 152 = some (.code A152)) (h28 : FT 108 = some (.code A108)) (h36 : FT 134 = some (.code A134))
  {n : Int} {v u : AV} {l : List (Int × Int)} {mate : List Int} {H : Heap} (h : zh3 H v l) (hu : Ints H u mate) (hw : H.Wf)
  (hl : l.length <= 9223372036854775806) (hm : mate.length <= 9223372036854775806) :
  Cp FT 95 [.int .i64 n, v, u] H (fun r H' => r = .bool (isM n l mate) /\ Ext H H') := by
 refine zb1 A95 h15 rfl ?_
 simp [A95]
 refine (zbd4 h21 h30 h31 h37 h hw hl).mono ?_
 rintro r H1 ⟨rfl, he1⟩
 cases hr : zj2 n l with
 | false => simp [isM, hr, he1]
 | true =>
  cases hn : ((mate.length : Int) == n) with
  | false =>
   have : ((mate.length : Int) != n) = true := by simp [bne, hn]
   simp [hu.len, this, isM, hr, hn, he1]
  | true =>
   have hne : ((mate.length : Int) != n) = false := by simp [bne, hn]
   have hn' : (mate.length : Int) = n := by simpa using hn
   simp [hu.len, hne]
   refine zb7 (fun m τ H' => Ext H H' /\ ∃ i : Nat, i <= mate.length /\ m = mate.length - i /\ Env.at τ 0 = .int .i64 n /\ Env.at τ 1 = v /\ Env.at τ 2 = u /\ Env.at τ 19 = u /\ Env.at τ 20 = .int .i64 mate.length /\ Env.at τ 21 = .int .i64 i /\ zah0 n l mate i = true) ?_ mate.length _ _ ⟨he1, 0, by simp, by simp, by simp, by simp, by simp, by simp, by simp, by simp, za86⟩
   rintro m τ H2 ⟨he, i, hi, rfl, t0, t1, t2, t19, t20, t21, hall⟩
   simp only [zi9, zd3]
   by_cases hc : i < mate.length
   ·have hc' : (i : Int) < n := by omega
    have hu2 := hu.ext he
    obtain ⟨p, k, hx, hp, hld⟩ := Ints.idx hu2 (k := .i64) (i := i) (by omega) (by omega)
    have hx' : mate[i]? = some k := hx
    have w : IntKind.i64.wrap ((i : Int) + 1) = ((i + 1 : Nat) : Int) := wrap64 (by omega) (by omega)
    have fin : ∀ H', Ext H H' -> okAt n l mate i = true -> ∃ m', m' < mate.length - i /\ Ext H H' /\ ∃ j : Nat, j <= mate.length /\ m' = mate.length - j /\ IntKind.i64.wrap ((i : Int) + 1) = (j : Int) /\ zah0 n l mate j = true :=
     fun H' he q => ⟨_, by omega, he, i + 1, by omega, rfl, w, by rw [za87, hall, q]; rfl⟩
    by_cases c1 : k = -1
    ·subst c1
     simp [hc, t0, t1, t2, t19, t20, t21, hp, hld]
     exact fin _ he (by simp [okAt, hx'])
    ·have c1' : (k == -1) = false := by simp [c1]
     by_cases c2 : k < 0
     ·simp [hc, t0, t1, t2, t19, t20, t21, hp, hld, c1', c2]
      exact ⟨za20 hc (by simp only [okAt, hx', c1', c2]; simp), he⟩
     by_cases c3 : n <= k
     ·simp [hc, t0, t1, t2, t19, t20, t21, hp, hld, c1', c2, c3]
      exact ⟨za20 hc (by simp only [okAt, hx', c1', c2, c3]; simp), he⟩
     obtain ⟨p2, k2, hx2, hp2, hld2⟩ := Ints.idx hu2 (k := .i64) (i := k) (by omega) (by omega)
     have hg : mate.getD k.toNat 0 = k2 := by simp [List.getD, hx2]
     cases c4 : (k2 != (i : Int)) with
     | true =>
      have c4' : (k2 == (i : Int)) = false := by simpa [bne] using c4
      simp [hc, t0, t1, t2, t19, t20, t21, hp, hld, c1', c2, c3, hp2, hld2, c4]
      exact ⟨za20 hc (by simp only [okAt, hx', c1', c2, c3, hg, c4']; simp), he⟩
     | false =>
      have c4' : (k2 == (i : Int)) = true := by simpa [bne] using c4
      simp [hc, t0, t1, t2, t19, t20, t21, hp, hld, c1', c2, c3, hp2, hld2, c4]
      refine (z98 h28 h36 (y := ((i : Int), k)) (h.ext he) he.wf hl).mono ?_
      rintro r H3 ⟨rfl, he3⟩
      cases hj : z00 (fun x => decide (((i : Int), k) = x)) l with
      | true =>
       simp [t0, t1, t2, t19, t20, t21]
       exact fin _ (he.trans he3) (by simp only [okAt, hx', c1', c2, c3, hg, c4', zax0, hj]; simp)
      | false =>
       simp [t1]
       refine (z98 h28 h36 (y := (k, (i : Int))) (h.ext (he.trans he3)) he3.wf hl).mono ?_
       rintro r H4 ⟨rfl, he4⟩
       cases hk : z00 (fun x => decide ((k, (i : Int)) = x)) l with
       | true =>
        simp [t0, t1, t2, t19, t20, t21]
        exact fin _ ((he.trans he3).trans he4) (by simp only [okAt, hx', c1', c2, c3, hg, c4', zax0, hj, hk]; simp)
       | false =>
        simp
        exact ⟨za20 hc (by simp only [okAt, hx', c1', c2, c3, hg, c4', zax0, hj, hk]; simp), (he.trans he3).trans he4⟩
   ·have : i = mate.length := by omega
    subst this
    simp [t19, t20, t21, isM, hr, hall, hn', he]
end Go.Proofs.Ytcepchipgjpkhaa
