/- Told functions at work; the library's Compact. No claim by itself. -/
import Derived.Test.YtcepchipgjpkhaaX2
import Derived.Test.YtcepchipgjpkhaaMM
namespace Go.Proofs.Ytcepchipgjpkhaa
open Go Go.AI
section
variable {FT : Nat -> Option FnD} {H H' : Heap}
theorem zcq6 (hs : FT 157 = FM 157) : zbv8 FT := by
 intro H n hw h1 hn
 refine (zan9 (K := K157) hs (zb55 h1 hn) ⟨n, rfl, rfl, rfl⟩).mono ?_
 rintro _ _ ⟨n', h, rfl, rfl⟩
 simp only [List.cons.injEq, AV.int.injEq, and_true, true_and] at h
 have : n = n' := by omega
 subst this
 exact ⟨rfl, rfl⟩
theorem zcc5 (hs : FT 85 = FM 85) {o lo : Nat} {ex : Bool} {xs : List (Int × Int)} (hg : H.get o = some (.cells (xs.flatMap za2))) (hf : H.floor <= o) (hx : xs ≠ []) (hn : xs.length < 4611686018427387904) :
  Cp FT 85 [.slc o 0 xs.length 2 lo ex, .fn 86 [] []] H (fun r H' => r = .tup [] /\ H' = H.set o (.cells ((srtS xs).flatMap za2))) := by
 have hgood : AI.Good Try.prog 85 [.slc o 0 xs.length 2 lo ex, .fn 86 [] []] H (.tup []) (H.set o (.cells ((srtS xs).flatMap za2))) := by
  rw [<- zcc3]
  exact zbb6 (FT := Go.Proofs.Ytcepchipgjpkhaa.FT) (ints := zbs0) zb86 Try.laysF85 Try.isAgg49 Try.sizeOf49 (fun _ => rfl) (by omega) zb09 zb08 (enters_of Try.func86 (by kernel_rfl) rfl) (fun x y => zcr1 rfl rfl rfl rfl ⟨Nat.le_refl _, fun _ _ => rfl⟩) fn85 hg hf hx hn
 refine (zan9 (K := K85b) hs hgood ⟨rfl, .inr ⟨o, lo, ex, xs, rfl, hg, rfl⟩⟩).mono ?_
 rintro _ H' ⟨rfl, ⟨h, _⟩ | ⟨o', lo', ex', ys, h1, h2, h3⟩⟩
 ·cases h
 ·have ho : o = o' := by injection h1 with h1 _; injection h1
  subst ho
  rw [hg] at h2
  have := zap9 (zo4.cells.inj (Option.some.inj h2))
  subst this
  exact ⟨rfl, h3⟩
theorem zb19 (hs : FT 85 = FM 85) : Cp FT 85 [.nils, .fn 86 [] []] H (fun r H' => r = .tup [] /\ H' = H) := by
 have hgood : AI.Good Try.prog 85 [.nils, .fn 86 [] []] H (.tup []) H := zbb5 Try.prog fn85 (fun p cap fv w => AnyF.slices_SortFunc_none { Try.laysF85 with } p cap fv w)
 refine (zan9 (K := K85b) hs hgood ⟨rfl, .inl ⟨rfl, rfl⟩⟩).mono ?_
 rintro _ H' ⟨rfl, ⟨_, h⟩ | ⟨o', lo', ex', ys, h1, h2, h3⟩⟩
 ·exact ⟨rfl, h⟩
 ·cases h1
theorem zbk2 (hs : FT 75 = FM 75) (hw : H.Wf) {av : AV} {P : List (Int × Int)} {T : List Tri} {S : List (Int × Int)} (hm : Msh H av P T S) (lP : P.length <= 1000000000) (lT : T.length <= 1000000000) (lS : S.length <= 1000000000) :
  Cp FT 75 [av] H (fun r H' => r = .int .i64 (chkM P T S) /\ Ext H H') := by
 obtain ⟨v, H', g, k⟩ := zcg1 hw hm lP lT lS
 refine (zan9 (K := K75) hs g k).mono ?_
 rintro _ H2 ⟨av', P', T', S', h, hm', rfl, ex⟩
 simp only [List.cons.injEq, and_true] at h
 subst h
 obtain ⟨rfl, rfl, rfl⟩ := hm.inj hm'
 exact ⟨rfl, ex⟩
structure Cc1 (H H' : Heap) (v : AV) (l : List (Int × Int)) (τ : Env) (k f : Nat) : Prop where
 eq : H = H'
 lo : 1 <= k
 le : k <= l.length
 hm : f = l.length - k
 t : Tm τ [(0, v), (3, .int .i64 k)]
theorem zas9 (h89 : FT 89 = some (.code A89)) {v : AV} {l : List (Int × Int)} (hv : zh3 H v l) (hl : l.length <= 1000000000) (hn : l.Nodup) : Cp FT 89 [v] H (fun r H' => r = v /\ H' = H) := by
 refine zb1 A89 h89 rfl ?_
 by_cases c : l.length < 2
 ·have c' : (l.length : Int) < 2 := by omega
  simp [A89, hv.len, c']
 ·have c' : ¬ (l.length : Int) < 2 := by omega
  simp [A89, hv.len, c']
  refine zb7 (fun f τ H' => ∃ k, Cc1 H H' v l τ k f) ?_ (l.length - 1) _ _ ⟨1, ⟨rfl, by omega, by omega, rfl, by simp⟩⟩
  rintro f τ _ ⟨k, ⟨rfl, lo, le, rfl, t⟩⟩
  simp at t
  obtain ⟨t0, t3⟩ := t
  by_cases q : k < l.length
  ·obtain ⟨k', rfl⟩ : ∃ k', k = k' + 1 := ⟨k - 1, by omega⟩
   have w : IntKind.i64.wrap (((k' : Int) + 1) + 1) = ((k' : Int) + 1) + 1 := wrap64 (by omega) (by omega)
   have wm : IntKind.i64.wrap (k' : Int) = k' := wrap64 (by omega) (by omega)
   obtain ⟨o1, f1, x, a1, a2, a3, _⟩ := zh3.idx hv (k := .i64) (i := ((k' : Int) + 1)) (by omega) (by omega)
   obtain ⟨o2, f2, y, b1, b2, b3, _⟩ := zh3.idx hv (k := .i64) (i := (k' : Int)) (by omega) (by omega)
   have hne : x ≠ y := fun e => by
    subst e
    have hk : ((k' : Int) + 1).toNat = k' + 1 := by omega
    rw [hk] at a1
    rw [Int.toNat_natCast] at b1
    have := zb43 hn a1 b1
    omega
   have he := zbj2 x y
   rw [decide_eq_false hne] at he
   have q' : (k' : Int) + 1 < l.length := by omega
   push_cast at t3
   simp [q', t0, t3, hv.len, a2, a3, wm, b2, b3, he, w]
   exact ⟨_, by omega, k' + 1 + 1, ⟨rfl, by omega, by omega, rfl, by simp [t0]⟩⟩
  ·have hk : k = l.length := by omega
   subst hk
   simp [t0, t3, hv.len]
end
end Go.Proofs.Ytcepchipgjpkhaa
namespace Go.Proofs.Ytcepchipgjpkhaa
open Go Go.AI
section
variable {FT : Nat -> Option FnD} {H H' : Heap}
structure zaz0 (FT : Nat -> Option FnD) : Prop where
 q : zbl9 FT
 h75 : FT 75 = FM 75
 h85 : FT 85 = FM 85
 h89 : FT 89 = some (.code A89)
 h51 : FT 51 = some (.code A51)
 h45 : FT 45 = some (.code A45)
def eTo (T : List Tri) (i : Nat) (t : Tri) (j : Nat) : List Ent := z13 0 (zj6 (T.take i)) ++ ((zp9 t).take j).map fun s => (s, (i : Int))
theorem zbt1 (T : List Tri) (i : Nat) (t : Tri) : eTo T i t 0 = z13 0 (zj6 (T.take i)) := by simp [eTo]
theorem zbt2 {T : List Tri} {i : Nat} {t : Tri} {j : Nat} {s : Int × Int} (h : (zp9 t)[j]? = some s) : eTo T i t (j + 1) = eTo T i t j ++ [(s, (i : Int))] := by
 unfold eTo; rw [List.take_add_one, h]; simp
theorem zb61 {T : List Tri} {i : Nat} {t : Tri} (h : T[i]? = some t) : eTo T i t 3 = z13 0 (zj6 (T.take (i + 1))) := by
 unfold eTo zj6
 have hi : i < T.length := (List.getElem?_eq_some_iff.1 h).1
 have e : (zp9 t).take 3 = zp9 t := rfl
 rw [e, List.take_add_one, h, Option.toList_some, List.map_append, za02]
 simp [z13, List.length_take, Nat.min_eq_left (Nat.le_of_lt hi), za76]
theorem zb60 {T : List Tri} {i : Nat} {t : Tri} {j : Nat} {s : Int × Int} (hn : (zx2 T).Nodup) (ht : T[i]? = some t) (h : (zp9 t)[j]? = some s) : s ∉ (eTo T i t j).map (·.1) := by
 intro hd
 have hd2 : s ∈ zx2 (T.take i) ++ (zp9 t).take j := by
  unfold eTo at hd
  rw [List.map_append, za01] at hd
  simpa [Function.comp_def, zx2, allE] using hd
 have e1 : zx2 (T.take (i + 1)) = zx2 (T.take i) ++ zp9 t := zt9 ht
 have hn1 := zam9 (i := i + 1) hn
 have e2 : zp9 t = (zp9 t).take j ++ s :: (zp9 t).drop (j + 1) := by rw [<- zo0 h, List.take_append_drop]
 rw [e1, e2, <- List.append_assoc, List.nodup_append] at hn1
 exact hn1.2.2 s hd2 s (by simp) rfl
theorem zcd0 {t x : Tri} {j : Nat} (h : (sd3 t)[j]? = some x) : (zp9 t)[j]? = some (x.1, x.2.1) := by
 have hi : j < 3 := by have := (List.getElem?_eq_some_iff.1 h).1; simpa [sd3] using this
 have : j = 0 \/ j = 1 \/ j = 2 := by omega
 rcases this with rfl | rfl | rfl <;> (simp [sd3] at h; subst h; rfl)
structure Pm (H H' : Heap) (vP vT vS : AV) (om : Nat) (E : List Ent) : Prop where
 ex : Ext H H'
 g1 : H'.get H.next = some (.cells [vP, vT, vS])
 gm : H'.get om = some (.map (E.map entc))
 om0 : H.next <= om
 ne : om ≠ H.next
theorem Pm.to {H2 : Heap} {vP vT vS : AV} {om : Nat} {E : List Ent} (h : Pm H H' vP vT vS om E) (e : Ext H' H2) : Pm H H2 vP vT vS om E := ⟨h.ex.trans e, e.keep _ _ h.g1, e.keep _ _ h.gm, h.om0, h.ne⟩
theorem Pm.upd {vP vT vS : AV} {om : Nat} {E : List Ent} {s : Int × Int} {k : Int} (hw : H.Wf) (h : Pm H H' vP vT vS om E) (hn : s ∉ E.map (·.1)) :
  ∃ H2, zl7 H' (.flat [.int, .int]) (.map om) (.agg (za2 s)) (.int .i64 k) = some (zb8, H2) /\ Pm H H2 vP vT vS om (E ++ [(s, k)]) := by
 refine ⟨_, za71 (by rw [h.ex.floor]; exact Nat.le_trans hw.1 h.om0) h.gm hn, ⟨h.ex.setNew hw h.om0 (h.ex.wf.lt h.gm), ?_, za7.trans (if_pos rfl), h.om0, h.ne⟩⟩
 rw [za7, if_neg (fun e => h.ne e.symm)]; exact h.g1
def k51a : za0 := zf3 [1, 1, 1, 0, 1] A51.body
def k51i : za0 := zf3 [0, 0, 1, 1, 0, 0, 1, 1] k51a
def k51b : za0 := zf3 [1, 1, 1, 1, 1, 0, 1] A51.body
def k51j : za0 := zf3 [0, 0, 1, 1, 0, 0, 1, 1] k51b
theorem zci1 : A51.body = putAt [1, 1, 1, 0, 1] (putAt [1, 1, 1, 1, 1, 0, 1] A51.body k51b) k51a := rfl
theorem zb72 : k51a = putAt [0, 0, 1, 1, 0, 0, 1, 1] k51a k51i := rfl
theorem zb71 : k51b = putAt [0, 0, 1, 1, 0, 0, 1, 1] k51b k51j := rfl
structure Pj (H H' : Heap) (vP vT vS : AV) (T : List Tri) (om i : Nat) (t : Tri) (τ : Env) (j m : Nat) : Prop where
 pm : Pm H H' vP vT vS om (eTo T i t j)
 le : j <= 3
 hm : m = 3 - j
 t : Tm τ [(1, .ptr H.next 0), (5, .map om), (6, .int .i64 i), (26, vT), (27, .int .i64 T.length), (28, .int .i64 i), (34, .agg ((sd3 t).flatMap zh2)), (35, .int .i64 j)]
theorem zb36 (hw : H.Wf) {H1 : Heap} {vP vT vS : AV} {T : List Tri} {om i : Nat} {t : Tri} (hn : (zx2 T).Nodup) (ht : T[i]? = some t) (pm : Pm H H1 vP vT vS om (z13 0 (zj6 (T.take i)))) {τ0 : Env}
  (w : Tm τ0 [(1, .ptr H.next 0), (5, .map om), (6, .int .i64 i), (26, vT), (27, .int .i64 T.length), (28, .int .i64 i), (34, .agg ((sd3 t).flatMap zh2)), (35, .int .i64 0)]) :
  Wp FT k51i τ0 H1 (fun s τ H' => s = .next /\ Pm H H' vP vT vS om (z13 0 (zj6 (T.take (i + 1)))) /\ Tm τ [(1, .ptr H.next 0), (5, .map om), (26, vT), (27, .int .i64 T.length), (28, .int .i64 i)]) := by
 simp at w
 obtain ⟨w1, w5, w6, w26, w27, w28, w34, w35⟩ := w
 simp [k51i, k51a, zf3, A51]
 refine zb7 (fun m τ H' => ∃ j, Pj H H' vP vT vS T om i t τ j m) ?_ 3 _ _ ⟨0, ⟨by rw [zbt1]; exact pm, by omega, rfl, by simp [w1, w5, w6, w26, w27, w28, w34, w35]⟩⟩
 rintro m τ H2 ⟨j, ⟨pm, hj, rfl, u⟩⟩
 simp at u
 obtain ⟨t1, t5, t6, t26, t27, t28, t34, t35⟩ := u
 by_cases q : j < 3
 ·have hjl : j < (sd3 t).length := q
  obtain ⟨x, hx⟩ : ∃ x, (sd3 t)[j]? = some x := ⟨_, List.getElem?_eq_getElem hjl⟩
  have q' : (j : Int) < 3 := by omega
  have hidx := za22 hx
  have wj : IntKind.i64.wrap ((j : Int) + 1) = (j : Int) + 1 := wrap64 (by omega) (by omega)
  obtain ⟨H3, st, g9, e3, n3⟩ := zd4 pm.ex.wf (z := [.int .i64 0, .int .i64 0, .int .i64 0]) (n := 3) (x := .agg (zh2 x)) (cs := zh2 x) rfl rfl rfl rfl
  have a0 : za9 H3 none (.ptr H2.next 0) = some (.int .i64 x.1) := za1 g9 rfl
  have a1 : za9 H3 none (.ptr H2.next 1) = some (.int .i64 x.2.1) := za1 g9 rfl
  have x0 : ∀ o, zw9 3 1 (.ptr o 0) (.int .i64 0) = some (.ptr o 0) := fun o => rfl
  have x1 : ∀ o, zw9 3 1 (.ptr o 0) (.int .i64 1) = some (.ptr o 1) := fun o => rfl
  obtain ⟨H4, m1, pm4⟩ := (pm.to e3).upd hw (k := (i : Int)) (zb60 hn ht (zcd0 hx))
  have m1' : zl7 H3 (.flat [.int, .int]) (.map om) (.agg [.int .i64 x.1, .int .i64 x.2.1]) (.int .i64 i) = some (zb8, H4) := m1
  simp [-zg9, q', t5, t6, t34, t35, hidx, st, x0, x1, a0, a1, setSeg, m1', wj]
  exact ⟨_, by omega, j + 1, ⟨by rw [zbt2 (zcd0 hx)]; exact pm4, by omega, rfl, by simp [t1, t5, t6, t26, t27, t28, t34]⟩⟩
 ·have hj3 : j = 3 := by omega
  subst hj3
  rw [zb61 ht] at pm
  simp [t35]
  exact ⟨pm, by simp [t1, t5, t26, t27, t28]⟩
structure Pi1 (H H' : Heap) (vP vT vS : AV) (T : List Tri) (om : Nat) (τ : Env) (i m : Nat) : Prop where
 pm : Pm H H' vP vT vS om (z13 0 (zj6 (T.take i)))
 le : i <= T.length
 hm : m = T.length - i
 t : Tm τ [(1, .ptr H.next 0), (5, .map om), (26, vT), (27, .int .i64 T.length), (28, .int .i64 i)]
theorem zb38 (h84 : FT 84 = some (.code A84)) (hw : H.Wf) {H1 : Heap} {vP vT vS : AV} {T : List Tri} {om : Nat} (hT : Tris H vT T) (lT : T.length <= 1000000000) (hn : (zx2 T).Nodup) (pm : Pm H H1 vP vT vS om []) {τ0 : Env}
  (w : Tm τ0 [(1, .ptr H.next 0), (5, .map om), (26, vT), (27, .int .i64 T.length), (28, .int .i64 0)]) :
  Wp FT k51a τ0 H1 (fun s τ H' => s = .next /\ Pm H H' vP vT vS om (z13 0 (zj6 T)) /\ Tm τ [(1, .ptr H.next 0), (5, .map om)]) := by
 simp at w
 obtain ⟨w1, w5, w26, w27, w28⟩ := w
 rw [zb72]
 generalize hki : k51i = ki
 simp [k51a, zf3, putAt, A51]
 refine zb7 (fun m τ H' => ∃ i, Pi1 H H' vP vT vS T om τ i m) ?_ T.length _ _ ⟨0, ⟨by simpa [zj6, z13] using pm, by omega, by omega, by simp [w1, w5, w26, w27, w28]⟩⟩
 rintro m τ H2 ⟨i, ⟨pm, hi, rfl, u⟩⟩
 simp at u
 obtain ⟨t1, t5, t26, t27, t28⟩ := u
 by_cases q : i < T.length
 ·have hT2 := hT.ext pm.ex
  have wi : IntKind.i64.wrap ((i : Int) + 1) = (i : Int) + 1 := wrap64 (by omega) (by omega)
  obtain ⟨o1, off1, t, a1, a2, a3, _⟩ := Tris.idx hT2 (k := .i64) (i := (i : Int)) (by omega) (by omega)
  rw [Int.toNat_natCast] at a1
  obtain ⟨H3, st3, g5, e3, n3⟩ := zd4 pm.ex.wf (z := [.int .i64 0, .int .i64 0, .int .i64 0]) (n := 3) (x := .agg (zh2 t)) (cs := zh2 t) rfl rfl rfl rfl
  have l7 : za9 H3 (some 3) (.ptr H2.next 0) = some (.agg (zh2 t)) := zc0 g5 rfl
  simp [q, t26, t27, t28, a2, a3, st3, l7]
  refine (zak9 h84 e3.wf (t := t)).mono ?_
  rintro _ H4 ⟨rfl, e4⟩
  simp
  rw [<- hki]
  refine (zb36 hw hn a1 (pm.to (e3.trans e4)) (by simp [t1, t5, t26, t27, t28])).mono ?_
  rintro _ τ2 H5 ⟨rfl, pm5, w⟩
  simp at w
  obtain ⟨t1, t5, t26, t27, t28⟩ := w
  simp [t28, wi]
  exact ⟨_, by omega, i + 1, ⟨pm5, by omega, rfl, by simp [t1, t5, t26, t27]⟩⟩
 ·have hil : i = T.length := by omega
  subst hil
  rw [List.take_length] at pm
  simp [t27, t28]
  exact ⟨pm, by simp [t1, t5]⟩
end
end Go.Proofs.Ytcepchipgjpkhaa
namespace Go.Proofs.Ytcepchipgjpkhaa
open Go Go.AI
section
variable {FT : Nat -> Option FnD} {H H' : Heap}
theorem Pm.fr {H2 : Heap} {Q : List Nat} {vP vT vS : AV} {om : Nat} {E : List Ent} (hw : H.Wf) (h : Pm H H' vP vT vS om E) (k : Fr Q H' H2) (hq : ∀ p, p ∈ Q -> H.next < p /\ om < p) : Pm H H2 vP vT vS om E :=
 ⟨zp3 hw h.ex k (fun p hp => by have := hq p hp; omega), k.keep _ _ (fun hm => by have := hq _ hm; omega) h.g1, k.keep _ _ (fun hm => by have := hq _ hm; omega) h.gm, h.om0, h.ne⟩
structure Mq (H : Heap) (vP vT vS : AV) (P : List (Int × Int)) (T : List Tri) (S : List (Int × Int)) : Prop where
 hP : Rw 2 za2 H vP P
 hT : Rw 3 zh2 H vT T
 hS : Rw 2 za2 H vS S
 lP : P.length <= 1000000000
 lT : T.length <= 1000000
 lS : S.length <= 1000000000
 ok : zi5 P T S
structure Pl1 (H Hb H' : Heap) (vP vT vS v10 : AV) (P : List (Int × Int)) (T : List Tri) (S : List (Int × Int)) (L0 : List (Int × Int)) (om i : Nat) (t : Tri) (τ : Env) (j m : Nat) : Prop where
 pm : Pm H H' vP vT vS om (z13 0 (zj6 T))
 nx : Hb.next <= H'.next
 mi : Mine 2 za2 Hb H' v10 (L0 ++ ((sd3 t).take j).flatMap (prA P T S i))
 le : j <= 3
 hm : m = 3 - j
 t : Tm τ [(1, .ptr H.next 0), (5, .map om), (10, v10), (11, .int .i64 i), (48, vT), (49, .int .i64 T.length), (50, .int .i64 i), (56, .agg ((sd3 t).flatMap zh2)), (57, .int .i64 j)]
structure PjQ (H Hb H' : Heap) (vP vT vS v10 : AV) (P : List (Int × Int)) (T : List Tri) (S : List (Int × Int)) (L : List (Int × Int)) (om i : Nat) (τ : Env) : Prop where
 pm : Pm H H' vP vT vS om (z13 0 (zj6 T))
 nx : Hb.next <= H'.next
 mi : Mine 2 za2 Hb H' v10 L
 t : Tm τ [(1, .ptr H.next 0), (5, .map om), (10, v10), (48, vT), (49, .int .i64 T.length), (50, .int .i64 i)]
structure PkQ (H Hb H' : Heap) (v10 : AV) (L : List (Int × Int)) (τ : Env) : Prop where
 ex : Ext H H'
 nx : Hb.next <= H'.next
 mi : Mine 2 za2 Hb H' v10 L
 t : Tm τ [(10, v10)]
theorem zbe8 (P : List (Int × Int)) (T : List Tri) (S : List (Int × Int)) (i : Nat) : ∀ l : List Tri, (l.flatMap (prA P T S i)).length <= l.length
 | [] => by simp
 | x :: l => by
  have ih := zbe8 P T S i l
  have h1 : (prA P T S i x).length <= 1 := by unfold prA; split <;> simp
  rw [List.flatMap_cons, List.length_append, List.length_cons]; omega
theorem zb35 (Q : zbl9 FT) (hw : H.Wf) {Hb H1 : Heap} {vP vT vS v10 : AV} {P : List (Int × Int)} {T : List Tri} {S : List (Int × Int)} {L0 : List (Int × Int)} {om i : Nat} {t : Tri} (mq : Mq H vP vT vS P T S) (ht : T[i]? = some t) (lL : L0.length <= 3000000) (pm : Pm H H1 vP vT vS om (z13 0 (zj6 T))) (nx : Hb.next <= H1.next) (nb : H.next < Hb.next /\ om < Hb.next) (mi : Mine 2 za2 Hb H1 v10 L0) {τ0 : Env}
  (w : Tm τ0 [(1, .ptr H.next 0), (5, .map om), (10, v10), (11, .int .i64 i), (48, vT), (49, .int .i64 T.length), (50, .int .i64 i), (56, .agg ((sd3 t).flatMap zh2)), (57, .int .i64 0)]) :
  Wp FT k51j τ0 H1 (fun s τ H' => s = .next /\ ∃ v10', PjQ H Hb H' vP vT vS v10' P T S (L0 ++ prI P T S i t) om i τ) := by
 simp at w
 obtain ⟨w1, w5, w10, w11, w48, w49, w50, w56, w57⟩ := w
 simp [k51j, k51b, zf3, A51]
 refine zb7 (fun m τ H' => ∃ j v10', Pl1 H Hb H' vP vT vS v10' P T S L0 om i t τ j m) ?_ 3 _ _ ⟨0, v10, ⟨pm, nx, by simpa using mi, by omega, rfl, by simp [w1, w5, w10, w11, w48, w49, w50, w56, w57]⟩⟩
 rintro m τ H2 ⟨j, v10', ⟨pm, nx, mi, hj, rfl, u⟩⟩
 simp at u
 obtain ⟨t1, t5, t10, t11, t48, t49, t50, t56, t57⟩ := u
 by_cases q : j < 3
 ·have hjl : j < (sd3 t).length := q
  obtain ⟨x, hx⟩ : ∃ x, (sd3 t)[j]? = some x := ⟨_, List.getElem?_eq_getElem hjl⟩
  have q' : (j : Int) < 3 := by omega
  have hidx := za22 hx
  have wj : IntKind.i64.wrap ((j : Int) + 1) = (j : Int) + 1 := wrap64 (by omega) (by omega)
  have htk : ((sd3 t).take (j + 1)).flatMap (prA P T S i) = ((sd3 t).take j).flatMap (prA P T S i) ++ prA P T S i x := by
   rw [List.take_add_one, hx]; simp
  have hlen := zbe8 P T S i ((sd3 t).take j)
  have hlt : ((sd3 t).take j).length <= 3 := by rw [List.length_take]; omega
  obtain ⟨H3, st, g9, e3, n3⟩ := zd4 pm.ex.wf (z := [.int .i64 0, .int .i64 0, .int .i64 0]) (n := 3) (x := .agg (zh2 x)) (cs := zh2 x) rfl rfl rfl rfl
  have pm3 := pm.to e3
  have mi3 := mi.ext e3
  have a0 : za9 H3 none (.ptr H2.next 0) = some (.int .i64 x.1) := za1 g9 rfl
  have a1 : za9 H3 none (.ptr H2.next 1) = some (.int .i64 x.2.1) := za1 g9 rfl
  have x0 : ∀ o, zw9 3 1 (.ptr o 0) (.int .i64 0) = some (.ptr o 0) := fun o => rfl
  have x1 : ∀ o, zw9 3 1 (.ptr o 0) (.int .i64 1) = some (.ptr o 1) := fun o => rfl
  have l1 : za9 H3 (some 3) (.ptr H.next 0) = some (.agg [vP, vT, vS]) := zc0 pm3.g1 rfl
  obtain ⟨r, hr, hc⟩ := zbg8 (s := (x.2.1, x.1)) pm3.gm
  have hr' : zp1 H3 (.flat [.int, .int]) (.map om) (.agg [.int .i64 x.2.1, .int .i64 x.1]) = some r := hr
  have hlk : zw8 (z13 0 (zj6 T)) (x.2.1, x.1) = zl8 (zj6 T) (x.2.1, x.1) := zbg6 _ _
  generalize hN : L0 ++ ((sd3 t).take j).flatMap (prA P T S i) = N at mi mi3
  have hNl : N.length <= 3000003 := by rw [<- hN, List.length_append]; omega
  have hnext : ∀ {M : List (Int × Int)}, prA P T S i x = M -> L0 ++ ((sd3 t).take (j + 1)).flatMap (prA P T S i) = N ++ M := fun h => by rw [htk, <- List.append_assoc, hN, h]
  rcases hc with ⟨_, rfl, h3⟩ | ⟨_, i', k, rfl, h3, _⟩
  ·have hp : prA P T S i x = [] := by unfold prA; rw [<- hlk, h3, if_neg (fun h => by have := h.1; omega)]
   simp [-zg9, q', t5, t56, t57, hidx, st, x0, x1, a0, a1, setSeg, hr', zt3, wj]
   exact ⟨_, by omega, j + 1, v10', ⟨pm3, by have := e3.next; omega, by rw [hnext hp, List.append_nil]; exact mi3, by omega, rfl, by simp [t1, t5, t10, t11, t48, t49, t50, t56]⟩⟩
  ·have hf : zl8 (zj6 T) (x.2.1, x.1) = k := by rw [<- hlk, h3]
   by_cases c : k <= (i : Int)
   ·have hp : prA P T S i x = [] := by unfold prA; rw [hf, if_neg (fun h => by have := h.1; omega)]
    simp [-zg9, q', t5, t11, t56, t57, hidx, st, x0, x1, a0, a1, setSeg, hr', zt3, c, wj]
    exact ⟨_, by omega, j + 1, v10', ⟨pm3, by have := e3.next; omega, by rw [hnext hp, List.append_nil]; exact mi3, by omega, rfl, by simp [t1, t5, t10, t11, t48, t49, t50, t56]⟩⟩
   ·obtain ⟨kn, u, h1, h2, h5⟩ := za18 (T := T) (s := (x.2.1, x.1)) (by omega)
    have hk : k = (kn : Int) := by omega
    subst hk
    have c' : (i : Int) < (kn : Int) := by omega
    have tt := mq.ok.tri t (List.mem_of_getElem? ht)
    have tu := mq.ok.tri u (List.mem_of_getElem? h2)
    have hlT := mq.lT
    have hqa := zy6 (P := P) (S := S) ht h2
    simp [-zg9, q', t1, t5, t11, t56, t57, hidx, st, x0, x1, a0, a1, setSeg, hr', zt3, c, l1]
    refine (zbx5 Q pm3.ex.wf ((mq.hP.sl zc6).ext pm3.ex) ((mq.hT.sl zq0).ext pm3.ex) ((mq.hS.sl zc6).ext pm3.ex) mq.lP (by omega) mq.lS mq.hP.one mq.hT.one mq.hS.one ht h2 tt tu).mono ?_
    rintro _ H4 ⟨⟨v, rfl, _, _⟩, e4⟩
    have pm4 := pm3.to e4
    have mi4 := mi3.ext e4
    cases hq : (zq5 P S t u).isSome with
    | false =>
     have hp : prA P T S i x = [] := by
      unfold prA
      rw [hf, if_neg (fun h => by
       have := h.2
       rw [Int.toNat_natCast, hqa, hq] at this
       cases this)]
     simp [t57, wj]
     exact ⟨_, by omega, j + 1, v10', ⟨pm4, by have := e3.next; have := e4.next; omega, by rw [hnext hp, List.append_nil]; exact mi4, by omega, rfl, by simp [t1, t5, t10, t11, t48, t49, t50, t56]⟩⟩
    | true =>
     have hp : prA P T S i x = [((i : Int), (kn : Int))] := by
      unfold prA
      rw [hf, if_pos ⟨c', by rw [Int.toNat_natCast, hqa, hq]⟩]
     obtain ⟨v', H5, b1, b2, b3, b4⟩ := mi4.app1 zc6 (by omega) zad9 (bytes := 16) pm4.ex.wf (by have := e3.next; have := e4.next; omega) ((i : Int), (kn : Int)) (by omega)
     have b1' : zc4 2 16 (H4.push (.cells [.int .i64 i, .int .i64 kn])) v10' (.slc H4.next 0 1 2 1 true) = some (v', H5) := b1
     simp [t10, t11, t57, setSeg, b1', wj]
     refine ⟨_, by omega, j + 1, v', ⟨pm4.fr hw b3 (fun p hp => ?_), by have := e3.next; have := e4.next; have := b3.next; omega, by rw [hnext hp]; exact b2, by omega, rfl, by simp [t1, t5, t11, t48, t49, t50, t56]⟩⟩
     have := mi4.new p (by simpa using hp)
     omega
 ·have hj3 : j = 3 := by omega
  subst hj3
  have hall : ((sd3 t).take 3).flatMap (prA P T S i) = prI P T S i t := rfl
  rw [hall] at mi
  simp [t57]
  exact ⟨v10', ⟨pm, nx, mi, by simp [t1, t5, t10, t48, t49, t50]⟩⟩
structure Pk1 (H Hb H' : Heap) (vP vT vS v10 : AV) (P : List (Int × Int)) (T : List Tri) (S : List (Int × Int)) (om : Nat) (τ : Env) (i m : Nat) : Prop where
 pm : Pm H H' vP vT vS om (z13 0 (zj6 T))
 nx : Hb.next <= H'.next
 mi : Mine 2 za2 Hb H' v10 (prL P T S i)
 le : i <= T.length
 hm : m = T.length - i
 t : Tm τ [(1, .ptr H.next 0), (5, .map om), (10, v10), (48, vT), (49, .int .i64 T.length), (50, .int .i64 i)]
theorem zb37 (Q : zbl9 FT) (hw : H.Wf) {Hb : Heap} {vP vT vS : AV} {P : List (Int × Int)} {T : List Tri} {S : List (Int × Int)} {om : Nat} (mq : Mq H vP vT vS P T S) (pm : Pm H Hb vP vT vS om (z13 0 (zj6 T))) {τ0 : Env}
  (w : Tm τ0 [(1, .ptr H.next 0), (5, .map om), (10, .nils), (48, vT), (49, .int .i64 T.length), (50, .int .i64 0)]) :
  Wp FT k51b τ0 Hb (fun s τ H' => s = .next /\ ∃ v10', PkQ H Hb H' v10' (prL P T S T.length) τ) := by
 simp at w
 obtain ⟨w1, w5, w10, w48, w49, w50⟩ := w
 have nb : H.next < Hb.next /\ om < Hb.next := ⟨pm.ex.wf.lt pm.g1, pm.ex.wf.lt pm.gm⟩
 rw [zb71]
 generalize hkj : k51j = kj
 simp [k51b, zf3, putAt, A51]
 refine zb7 (fun m τ H' => ∃ i v10, Pk1 H Hb H' vP vT vS v10 P T S om τ i m) ?_ T.length _ _ ⟨0, .nils, ⟨pm, Nat.le_refl _, by simpa [prL] using Mine.nil, by omega, by omega, by simp [w1, w5, w10, w48, w49, w50]⟩⟩
 rintro m τ H2 ⟨i, v10, ⟨pm, nx, mi, hi, rfl, u⟩⟩
 simp at u
 obtain ⟨t1, t5, t10, t48, t49, t50⟩ := u
 by_cases q : i < T.length
 ·have hlT := mq.lT
  have hT2 := (mq.hT.sl zq0).ext pm.ex
  have wi : IntKind.i64.wrap ((i : Int) + 1) = (i : Int) + 1 := wrap64 (by omega) (by omega)
  obtain ⟨o1, off1, t, a1, a2, a3, _⟩ := Tris.idx hT2 (k := .i64) (i := (i : Int)) (by omega) (by omega)
  rw [Int.toNat_natCast] at a1
  obtain ⟨H3, st3, g5, e3, n3⟩ := zd4 pm.ex.wf (z := [.int .i64 0, .int .i64 0, .int .i64 0]) (n := 3) (x := .agg (zh2 t)) (cs := zh2 t) rfl rfl rfl rfl
  have l7 : za9 H3 (some 3) (.ptr H2.next 0) = some (.agg (zh2 t)) := zc0 g5 rfl
  have hlen := zal5 P T S i
  simp [q, t48, t49, t50, a2, a3, st3, l7]
  refine (zak9 Q.h84 e3.wf (t := t)).mono ?_
  rintro _ H4 ⟨rfl, e4⟩
  simp
  rw [<- hkj]
  refine (zb35 Q hw mq a1 (by omega) (pm.to (e3.trans e4)) (by have := e3.next; have := e4.next; omega) nb (mi.ext (e3.trans e4)) (by simp [t1, t5, t10, t48, t49, t50])).mono ?_
  rintro _ τ2 H5 ⟨rfl, v10', ⟨pm5, nx5, mi5, w⟩⟩
  simp at w
  obtain ⟨t1, t5, t10, t48, t49, t50⟩ := w
  simp [t50, wi]
  exact ⟨_, by omega, i + 1, v10', ⟨pm5, nx5, by rw [zal4 a1]; exact mi5, by omega, rfl, by simp [t1, t5, t10, t48, t49]⟩⟩
 ·have hil : i = T.length := by omega
  subst hil
  simp [t49, t50]
  exact ⟨v10, ⟨pm.ex, nx, mi, by simp [t10]⟩⟩
end
end Go.Proofs.Ytcepchipgjpkhaa
namespace Go.Proofs.Ytcepchipgjpkhaa
open Go Go.AI
section
variable {FT : Nat -> Option FnD} {H H' : Heap}
structure PrR (H0 H' : Heap) (P : List (Int × Int)) (T : List Tri) (S : List (Int × Int)) (r : AV) : Prop where
 yes : zi5 P T S -> ∃ v, r = .tup [v, .int .i64 0] /\ Rw 2 za2 H' v (zz0 P T S) /\ ∀ p, rowObj v = some p -> H0.next <= p
 no : ¬ zi5 P T S -> r = .tup [.nils, .int .i64 2]
theorem zbf1 (T : zaz0 FT) (hw : H.Wf) {av : AV} {P : List (Int × Int)} {Ts : List Tri} {S : List (Int × Int)} (hm : Msh H av P Ts S) (lP : P.length <= 1000000000) (lT : Ts.length <= 1000000) (lS : S.length <= 1000000000) :
  Cp FT 51 [av] H (fun r H' => PrR H H' P Ts S r /\ Ext H H') := by
 obtain ⟨vP, vT, vS, rfl, hP, hT, hS⟩ := hm.ex
 refine zb1 A51 T.h51 rfl ?_
 rw [zci1]
 generalize hka : k51a = ka
 generalize hkb : k51b = kb
 obtain ⟨g1, e1⟩ := za4 hw (.cells [vP, vT, vS])
 have hall : za5 [vP, vT, vS] = true := by simp [za5, hP.one.1, hT.one.1, hS.one.1]
 generalize hH1 : H.push (.cells [vP, vT, vS]) = H1 at g1 e1
 have l1 : za9 H1 (some 3) (.ptr H.next 0) = some (.agg [vP, vT, vS]) := zc0 g1 rfl
 simp [A51, putAt, hall, hH1, l1]
 refine (zbk2 T.h75 e1.wf (hm.ext e1) lP (by omega) lS).mono ?_
 rintro _ H2 ⟨rfl, e2⟩
 have ex2 := e1.trans e2
 by_cases ok : zi5 P Ts S
 ·rw [zay0 ok]
  obtain ⟨gm, e3⟩ := za4 e2.wf (.map [])
  have g12 := e3.keep _ _ (e2.keep _ _ g1)
  have hlt := e2.wf.lt (e2.keep _ _ g1)
  have pm0 : Pm H (H2.push (.map [])) vP vT vS H2.next [] := ⟨ex2.trans e3, g12, gm, ex2.next, by omega⟩
  generalize hH3 : H2.push (.map []) = H3 at *
  have f1 : za9 H3 none (.ptr H.next 1) = some vT := za1 g12 rfl
  simp [hH3, f1, hT.len]
  rw [<- hka]
  refine (zb38 T.q.h84 hw (hT.sl zq0) (by omega) ok.nod pm0 (by simp)).mono ?_
  rintro _ τ2 H4 ⟨rfl, pm4, w⟩
  simp at w
  obtain ⟨w1, w5⟩ := w
  have f1' : za9 H4 none (.ptr H.next 1) = some vT := za1 pm4.g1 rfl
  simp [w1, f1', hT.len]
  rw [<- hkb]
  refine (zb37 T.q hw ⟨hP, hT, hS, lP, lT, lS, ok⟩ pm4 (by simp [w1, w5])).mono ?_
  rintro _ τ3 H5 ⟨rfl, v10, ⟨ex5, nx5, mi5, w⟩⟩
  simp at w
  have hsrt := zbe6 (P := P) (S := S) ok.nod
  have hlen : (prL P Ts S Ts.length).length = (zz0 P Ts S).length := by rw [<- hsrt]; exact (za03 _).symm
  have hll := zal5 P Ts S Ts.length
  have hnod : (zz0 P Ts S).Nodup := (zap6 P Ts S).nodup stoS
  simp [w]
  rcases mi5.ow with ⟨rfl, hT0⟩ | ⟨o1, rfl, hT1, hT2, hT3⟩
  ·refine (zb19 T.h85).mono ?_
   rintro _ H6 ⟨rfl, rfl⟩
   have he : zz0 P Ts S = [] := List.length_eq_zero_iff.1 (by rw [<- hlen, hT0]; rfl)
   have hv : zh3 H6 .nils (zz0 P Ts S) := .inl ⟨rfl, he⟩
   simp [w]
   refine (zas9 T.h89 hv (by omega) hnod).mono ?_
   rintro _ _ ⟨rfl, rfl⟩
   simp
   exact ⟨⟨fun _ => ⟨.nils, rfl, ⟨.inl ⟨rfl, he⟩, rfl⟩, fun p hp => by cases hp⟩, fun h => absurd ok h⟩, ex5⟩
  ·have ho := mi5.new o1 rfl
   have hox : H.next <= o1 := by have := pm4.ex.next; omega
   have hfl : H5.floor <= o1 := hT3
   refine (zcc5 T.h85 hT2 hfl hT1 (by omega)).mono ?_
   rintro _ _ ⟨rfl, rfl⟩
   rw [hsrt]
   have g6 : (H5.set o1 (.cells ((zz0 P Ts S).flatMap za2))).get o1 = some (.cells ((zz0 P Ts S).flatMap za2)) := za7.trans (if_pos rfl)
   have e6 : Ext H (H5.set o1 (.cells ((zz0 P Ts S).flatMap za2))) := ex5.setNew hw hox (ex5.wf.lt hT2)
   generalize H5.set o1 (.cells ((zz0 P Ts S).flatMap za2)) = H6 at *
   have hrw : Rw 2 za2 H6 (.slc o1 0 (prL P Ts S Ts.length).length 2 (prL P Ts S Ts.length).length false) (zz0 P Ts S) := by
    rw [hlen]
    refine ⟨.inr ⟨o1, 0, _, false, rfl, ?_⟩, by simp [zo2]⟩
    unfold Heap.readSeg
    rw [za3 g6]
    exact zo7 (zg6 zc6 _)
   simp [w]
   refine (zas9 T.h89 (hrw.sl zc6) (by omega) hnod).mono ?_
   rintro _ _ ⟨rfl, rfl⟩
   simp
   exact ⟨⟨fun _ => ⟨_, rfl, hrw, fun p hp => by cases hp; exact hox⟩, fun h => absurd ok h⟩, e6⟩
 ·rw [zag3 ok]
  simp
  exact ⟨⟨fun h => absurd h ok, fun _ => rfl⟩, ex2⟩
theorem zcd7 (T : zaz0 FT) (hw : H.Wf) {av : AV} {P : List (Int × Int)} {Ts : List Tri} {S : List (Int × Int)} {i k : Int} (hm : Msh H av P Ts S) (lP : P.length <= 1000000000) (lT : Ts.length <= 1000000) (lS : S.length <= 1000000000) :
  Cp FT 45 [av, .int .i64 i, .int .i64 k] H (fun r H' => QdR H H' (zm6 P Ts S i k) r /\ Ext H H') := by
 obtain ⟨vP, vT, vS, rfl, hP, hT, hS⟩ := hm.ex
 refine zb1 A45 T.h45 rfl ?_
 obtain ⟨g1, e1⟩ := za4 hw (.cells [vP, vT, vS])
 have hall : za5 [vP, vT, vS] = true := by simp [za5, hP.one.1, hT.one.1, hS.one.1]
 generalize hH1 : H.push (.cells [vP, vT, vS]) = H1 at g1 e1
 have l1 : za9 H1 (some 3) (.ptr H.next 0) = some (.agg [vP, vT, vS]) := zc0 g1 rfl
 have f1 : za9 H1 none (.ptr H.next 1) = some vT := za1 g1 rfl
 simp [A45, hall, hH1, l1]
 refine (zbk2 T.h75 e1.wf (hm.ext e1) lP (by omega) lS).mono ?_
 rintro _ H2 ⟨rfl, e2⟩
 have ex2 := e1.trans e2
 have f1' := zd6 f1 e2
 have l1' := zd6 l1 e2
 by_cases ok : zi5 P Ts S
 ·rw [zay0 ok]
  by_cases i0 : i < 0
  ·have hn : zm6 P Ts S i k = none := by unfold zm6; rw [if_neg fun h => by have := h.2.1.1; omega]
   simp [i0]
   exact ⟨QdR.nil hn, ex2⟩
  by_cases i1 : (Ts.length : Int) <= i
  ·have hn : zm6 P Ts S i k = none := by unfold zm6; rw [if_neg fun h => by have := h.2.1.2; omega]
   simp [i0, i1, f1', hT.len]
   exact ⟨QdR.nil hn, ex2⟩
  by_cases k0 : k < 0
  ·have hn : zm6 P Ts S i k = none := by unfold zm6; rw [if_neg fun h => by have := h.2.2.1; omega]
   simp [i0, i1, k0, f1', hT.len]
   exact ⟨QdR.nil hn, ex2⟩
  by_cases k1 : (Ts.length : Int) <= k
  ·have hn : zm6 P Ts S i k = none := by unfold zm6; rw [if_neg fun h => by have := h.2.2.2; omega]
   simp [i0, i1, k0, k1, f1', hT.len]
   exact ⟨QdR.nil hn, ex2⟩
  obtain ⟨ni, rfl⟩ := Int.eq_ofNat_of_zero_le (show 0 <= i by omega)
  obtain ⟨nk, rfl⟩ := Int.eq_ofNat_of_zero_le (show 0 <= k by omega)
  have il : ni < Ts.length := by omega
  have kl : nk < Ts.length := by omega
  have hi : Ts[ni]? = some Ts[ni] := List.getElem?_eq_getElem il
  have hk : Ts[nk]? = some Ts[nk] := List.getElem?_eq_getElem kl
  have hq : zm6 P Ts S ni nk = zq5 P S Ts[ni] Ts[nk] := by
   unfold zm6
   rw [if_pos ⟨ok, ⟨by omega, by omega⟩, ⟨by omega, by omega⟩⟩, Int.toNat_natCast, Int.toNat_natCast, zy6 hi hk]
  have c1 : ¬ Ts.length <= ni := by omega
  have c2 : ¬ Ts.length <= nk := by omega
  have c3 : ¬ (ni : Int) < 0 := by omega
  have c4 : ¬ (nk : Int) < 0 := by omega
  simp [c1, c2, c3, c4, f1', hT.len, l1']
  refine (zbx5 T.q e2.wf ((hP.sl zc6).ext ex2) ((hT.sl zq0).ext ex2) ((hS.sl zc6).ext ex2) lP (by omega) lS hP.one hT.one hS.one hi hk (ok.tri _ (List.getElem_mem il)) (ok.tri _ (List.getElem_mem kl))).mono ?_
  rintro _ H3 ⟨⟨v, rfl, h1, h2⟩, e3⟩
  simp
  rw [hq]
  exact ⟨⟨v, rfl, fun f e => ⟨(h1 f e).1, fun p hp => by have := (h1 f e).2 p hp; have := ex2.next; omega⟩, h2⟩, ex2.trans e3⟩
 ·have hn : zm6 P Ts S i k = none := by unfold zm6; rw [if_neg fun h => ok h.1]
  rw [zag3 ok]
  simp
  exact ⟨QdR.nil hn, ex2⟩
end
end Go.Proofs.Ytcepchipgjpkhaa
namespace Go.Proofs.Ytcepchipgjpkhaa
open Go Go.AI
section
variable {H : Heap} {FT : Nat -> Option FnD}
structure Sm2 {α : Type} (H H' : Heap) (v w : AV) (a b : List α) (τ : Env) (i m : Nat) : Prop where
 eq : H = H'
 le : i <= a.length
 hm : m = a.length - i
 ok : a.take i = b.take i
 t : Tm τ [(0, v), (1, w), (5, .int .i64 i)]
theorem za54 {α : Type} {a b : List α} (_hl : a.length = b.length) {i : Nat} {x : α} (h : a.take i = b.take i) (ha : a[i]? = some x) (hb : b[i]? = some x) : a.take (i + 1) = b.take (i + 1) := by
 rw [List.take_add_one, List.take_add_one, h, ha, hb]
theorem zb26 (h32 : FT 32 = some (.code A32)) {v w : AV} {a b : List Int} (ha : Ints H v a) (hb : Ints H w b) (hl : a.length <= 1000000000) :
  Cp FT 32 [v, w] H (fun r H' => r = .bool (decide (a = b)) /\ H' = H) := by
 refine zb1 A32 h32 rfl ?_
 simp [A32, ha.len, hb.len]
 by_cases e : a.length = b.length
 ·have e' : (a.length : Int) = b.length := by omega
  simp [e']
  rw [<- e]
  refine zb7 (fun m τ H' => ∃ i, Sm2 H H' v w a b τ i m) ?_ a.length _ _ ⟨0, ⟨rfl, by omega, by omega, by simp, by simp⟩⟩
  rintro m τ _ ⟨i, ⟨rfl, hi, rfl, ok, t⟩⟩
  simp at t
  obtain ⟨t0, t1, t5⟩ := t
  by_cases c : i < a.length
  ·obtain ⟨p, x, a1, a2, a3⟩ := Ints.idx ha (k := .i64) (i := (i : Int)) (by omega) (by omega)
   obtain ⟨q, y, b1, b2, b3⟩ := Ints.idx hb (k := .i64) (i := (i : Int)) (by omega) (by omega)
   rw [Int.toNat_natCast] at a1 b1
   by_cases d : x = y
   ·subst d
    have wi : IntKind.i64.wrap ((i : Int) + 1) = (i : Int) + 1 := wrap64 (by omega) (by omega)
    simp [c, t0, t1, t5, ha.len, a2, a3, b2, b3, wi]
    exact ⟨_, by omega, i + 1, ⟨rfl, by omega, rfl, za54 e ok a1 b1, by simp [t0, t1]⟩⟩
   ·have hne : ¬ a = b := fun q => by rw [q, b1] at a1; exact d (Option.some.inj a1).symm
    simp [c, t0, t1, t5, ha.len, a2, a3, b2, b3, d, hne]
  ·have hil : i = a.length := by omega
   subst hil
   rw [List.take_length, e, List.take_length] at ok
   simp [t0, t5, ha.len, ok]
 ·have e' : ¬ (a.length : Int) = b.length := by omega
  have hne : ¬ a = b := fun q => e (by rw [q])
  simp [e', hne]
theorem zbg3 {H : Heap} (_hw : H.Wf) {P S : List (Int × Int)} {T : List Tri} {oP oT oS : Nat} (gP : H.get oP = some (.cells (P.flatMap za2))) (gT : H.get oT = some (.cells (T.flatMap zh2))) (gS : H.get oS = some (.cells (S.flatMap za2))) : Msh H (.agg [.slc oP 0 P.length 2 P.length true, .slc oT 0 T.length 3 T.length true, .slc oS 0 S.length 2 S.length true]) P T S :=
 ⟨_, _, _, rfl, zi1 zc6 gP, zi1 zq0 gT, zi1 zc6 gS⟩
end
end Go.Proofs.Ytcepchipgjpkhaa
namespace Go.Proofs.Ytcepchipgjpkhaa
open Go Go.AI
theorem zbq1 : z10 FM := ⟨rfl, rfl, rfl, rfl, rfl, rfl, rfl, rfl, rfl, rfl, rfl, rfl, rfl, rfl, rfl, rfl, rfl⟩
theorem zcd6 : zbl9 FM := ⟨fun hw => zal7 zbq1 hw, fun hw hv hl => za38 zbq1 hw hv hl, zcq6 rfl, rfl, rfl, rfl, rfl, rfl, rfl, rfl, rfl, rfl⟩
theorem zcl5 : zaz0 FM := ⟨zcd6, rfl, rfl, rfl, rfl, rfl⟩
theorem numM : NumT FM := by constructor <;> rfl
end Go.Proofs.Ytcepchipgjpkhaa
