/- The document's numbers by digits: trimmed, small ones, tenths, their texts. No claim by itself. -/
import Derived.Test.YtcepchipgjpkhaaTab
import Derived.Test.YtcepchipgjpkhaaED
namespace Go.Proofs.Ytcepchipgjpkhaa
open Go Go.AI
def n64c (n : Nat) : List AV := [.int .i64 (n : Int)]
abbrev Nats := Sl 1 n64c
theorem zs8 (x : Nat) : (n64c x).length = 1 := rfl
theorem zam0 (x : Nat) : za5 (n64c x) = true := rfl
theorem Nats.idx {H : Heap} {v : AV} {xs : List Nat} (h : Nats H v xs) {k : IntKind} {i : Nat} (h1 : i < xs.length) :
  ∃ p x, xs[i]? = some x /\ zd7 1 v (.int k i) = some p /\ za9 H none p = some (.int .i64 x) := by
 obtain ⟨p, x, a, b, _, d⟩ := Sl.idx h (k := k) (i := (i : Int)) (by omega) (by omega); exact ⟨p, x, by simpa using a, b, d _ rfl rfl⟩
theorem zbw8 {α : Type} {e : Nat} {enc : α -> List AV} {H : Heap} {v : AV} {xs : List α} (h : Sl e enc H v xs) (hc : zo2 v = true) {n : Nat} (hn : n <= xs.length) :
  ∃ v', sliceA e v none (some (.int .i64 (n : Int))) none = some v' /\ Sl e enc H v' (xs.take n) /\ zo2 v' = true /\ (∀ p, rowObj v' = some p -> rowObj v = some p) := by
 rcases h with ⟨rfl, rfl⟩ | ⟨o, off, lo, ex, cs, rfl, hc2, hx⟩
 ·have : n = 0 := by simpa using hn
  subst this
  exact ⟨.nils, rfl, .inl ⟨rfl, rfl⟩, rfl, fun p q => q⟩
 ·have hlo : xs.length <= lo := by simpa [zo2] using hc
  have hb : (0 : Int) <= (n : Int) /\ (n : Int) <= (lo : Int) := by omega
  refine ⟨.slc o (off + 0 * e) (n - 0) e (lo - 0) ex, ?_, .inr ⟨o, off, lo, ex, cs, ?_, hc2, fun i y hy => ?_⟩, by simp [zo2]; omega, fun p q => q⟩
  ·simp only [sliceA, Nat.beq_refl, cond_true, zd8, zl1, if_pos hb, Option.map_some, Int.toNat_natCast]
  ·simp only [Nat.zero_mul, Nat.add_zero, Nat.sub_zero, List.length_take]
   rw [Nat.min_eq_left hn]
  ·refine hx i y ?_
   rw [List.getElem?_take] at hy
   split at hy
   ·exact hy
   ·cases hy
theorem Ow.cap {α : Type} {e : Nat} {enc : α -> List AV} {H : Heap} {v : AV} {xs : List α} (h : Ow e enc H v xs) : zo2 v = true := by
 rcases h with ⟨rfl, _⟩ | ⟨o, rfl, _⟩
 ·rfl
 ·simp [zo2]
structure NumR (H : Heap) (v : AV) (m : Bool) (ds : List Nat) : Prop where
 dg : Dg ds
 nm : Nm ds
 len : ds.length <= 100
 at_ : ∃ u, v = .agg [.bool m, u] /\ zo2 u = true /\ Nats H u ds
theorem NumR.ext {H H' : Heap} {v : AV} {m : Bool} {ds : List Nat} (h : NumR H v m ds) (k : Ext H H') : NumR H' v m ds := by
 obtain ⟨a, b, c, u, d, e, f⟩ := h; exact ⟨a, b, c, u, d, e, f.ext k⟩
theorem zar0 {ds : List Nat} {k : Nat} (h : k <= ds.length) : (ds.take k).isEmpty = decide (k = 0) := by
 cases ds with
 | nil => have : k = 0 := (by simpa using h); simp [this]
 | cons d ds => cases k <;> simp
theorem Mine.num {H0 H : Heap} {v : AV} {m : Bool} {ds : List Nat} (h : Mine 1 n64c H0 H v ds) (dg : Dg ds) (nm : Nm ds) (hl : ds.length <= 100) : NumR H (.agg [.bool m, v]) m ds := ⟨dg, nm, hl, v, rfl, Ow.cap h.ow, h.sl zs8⟩
theorem zbj4 (x : Int) : ∃ (y : Int) (d : Nat), d < 65536 /\ (x.tmod 65536 = d \/ (x.tmod 65536 = -(d : Int) /\ 0 < d)) /\ x.tdiv 65536 = y /\ x.natAbs = d + 65536 * y.natAbs /\ (x <= 0 -> y <= 0) /\ (0 <= x -> 0 <= y) := by
 rcases Int.natAbs_eq x with h | h
 ·generalize x.natAbs = a at h
  subst h
  refine ⟨((a / 65536 : Nat) : Int), a % 65536, Nat.mod_lt _ (by omega), .inl rfl, rfl, by omega, by omega, by omega⟩
 ·generalize x.natAbs = a at h
  subst h
  have e1 : (-(a : Int)).tmod 65536 = -((a % 65536 : Nat) : Int) := by rw [Int.neg_tmod]; rfl
  have e2 : (-(a : Int)).tdiv 65536 = -((a / 65536 : Nat) : Int) := by rw [Int.neg_tdiv]; rfl
  by_cases h0 : a % 65536 = 0
  ·exact ⟨-((a / 65536 : Nat) : Int), 0, by omega, .inl (by rw [e1, h0]; rfl), e2, by omega, by omega, by omega⟩
  ·exact ⟨-((a / 65536 : Nat) : Int), a % 65536, Nat.mod_lt _ (by omega), .inr ⟨e1, by omega⟩, e2, by omega, by omega, by omega⟩
def zap2 : za0 := zba7 3 A80.body
theorem zch7 : A80.body = zbh8 3 A80.body zap2 := rfl
section
variable {FT : Nat -> Option FnD} {H : Heap}
def Tr37 (H H' : Heap) (v : AV) (m : Bool) (ds : List Nat) (r : AV) : Prop := ∃ u, r = .agg [.bool (m && !(zk5 ds).isEmpty), u] /\ zo2 u = true /\ Nats H' u (zk5 ds) /\ (∀ p, rowObj u = some p -> rowObj v = some p) /\ Ext H H'
theorem zba3 (h80 : FT 80 = some (.code A80)) (hw : H.Wf) {v : AV} {ds : List Nat} {m : Bool} (h : Nats H v ds) (hc : zo2 v = true) (hl : ds.length <= 1000) :
  Cp FT 80 [.bool m, v] H (fun r H' => Tr37 H H' v m ds r) := by
 refine zb1 A80 h80 rfl ?_
 rw [zch7]
 have hA : A80.results = [.cell 4 (some 2)] := rfl
 rw [hA]
 obtain ⟨g0, e0⟩ := za4 hw (.cells [.bool false, .nils])
 simp [A80, zbh8, h.len]
 refine zb7 (fun k τ H' => H' = H.push (.cells [.bool false, .nils]) /\ ∃ n : Nat, n <= ds.length /\ k = n /\ zaa8 ds ds.length = zaa8 ds n /\ Env.at τ 0 = .bool m /\ Env.at τ 1 = v /\ Env.at τ 4 = .ptr H.next 0 /\ Env.at τ 5 = .int .i64 n) ?_ ds.length _ _ ⟨rfl, ds.length, Nat.le_refl _, rfl, rfl, by simp, by simp, by simp, by simp⟩
 rintro k τ _ ⟨rfl, n, hn, rfl, ht, t0, t1, t4, t5⟩
 have fin : zaa8 ds k = k -> ∀ {τ : Env}, Env.at τ 0 = .bool m -> Env.at τ 1 = v -> Env.at τ 4 = .ptr H.next 0 -> Env.at τ 5 = .int .i64 k ->
   Wp FT zap2 τ (H.push (.cells [.bool false, .nils])) (finQ [.cell 4 (some 2)] fun r H' => Tr37 H H' v m ds r) := by
  intro hk τ t0 t1 t4 t5
  have hd : zk5 ds = ds.take k := by unfold zk5; rw [ht, hk]
  obtain ⟨u, hu, hs, hcu, hru⟩ := zbw8 (h.ext e0) hc (n := k) hn
  obtain ⟨ou, cu⟩ := hs.one
  have hemp := zar0 hn
  have gen : ∀ b : Bool, ∃ H', zf6 (H.push (.cells [.bool false, .nils])) 2 (.ptr H.next 0) (.agg [.bool b, u]) = some (zb8, H') /\ H'.get H.next = some (.cells [.bool b, u]) /\ Ext H H' := by
   intro b
   obtain ⟨H', a1, a2, a3, _⟩ := zd4 hw (z := [.bool false, .nils]) (n := 2) (x := .agg [.bool b, u]) rfl rfl rfl (by simp [zh1 ou])
   exact ⟨H', a1, a2, a3⟩
  have hsx : ∀ {H' : Heap}, Ext H H' -> Nats H' u (ds.take k) := by
   intro H' ex
   obtain ⟨u', hu', hs', _⟩ := zbw8 (h.ext ex) hc (n := k) hn
   rw [hu] at hu'; cases hu'; exact hs'
  unfold Tr37
  rw [hd, hemp]
  cases m with
  | false =>
   obtain ⟨H', a1, a2, a3⟩ := gen false
   simp [zap2, zba7, A80, t0, t1, t4, t5, hu, zi4 ou cu, a1, zb5, ze1, za3 a2, ze2, seg, zg8, hcu]
   exact ⟨hsx a3, hru, a3⟩
  | true =>
   by_cases hk0 : k = 0
   ·subst hk0
    obtain ⟨H', a1, a2, a3⟩ := gen false
    simp only [Int.natCast_zero] at t5 hu
    simp [zap2, zba7, A80, t0, t1, t4, t5, hu, zi4 ou cu, a1, zb5, ze1, za3 a2, ze2, seg, zg8, hcu]
    have := hsx a3
    rw [List.take_zero] at this
    exact ⟨this, hru, a3⟩
   ·obtain ⟨H', a1, a2, a3⟩ := gen true
    have hk1 : 0 < k := by omega
    simp [zap2, zba7, A80, t0, t1, t4, t5, hu, hk1, zi4 ou cu, a1, zb5, ze1, za3 a2, ze2, seg, zg8, hcu, hk0]
    exact ⟨hsx a3, hru, a3⟩
 simp only [zi9, zd3]
 cases k with
 | zero =>
  have t5' : Env.at τ 5 = .int .i64 0 := by simpa using t5
  simp [t5']
  exact fin rfl (by simp [t0]) (by simp [t1]) (by simp [t4]) (by simp [t5'])
 | succ n =>
  obtain ⟨p, x, hx, hp, hld⟩ := Nats.idx (h.ext e0) (k := .i64) (i := n) (by omega)
  have w : IntKind.i64.wrap (((n + 1 : Nat) : Int) - 1) = (n : Int) := by rw [wrap64 (by omega) (by omega)]; omega
  have hpos : (0 : Int) < ((n + 1 : Nat) : Int) := by omega
  by_cases hx0 : x = 0
  ·subst hx0
   simp only [Int.natCast_zero] at hld
   simp [-Int.natCast_add, t5, t1, w, hp, hld, t0, t4]
   exact ⟨n, by omega, n, by omega, rfl, by rw [ht, zaa8, if_pos hx], rfl⟩
  ·have hx1 : ((x : Int) == 0) = false := by rw [beq_eq_false_iff_ne]; omega
   simp [-Int.natCast_add, t5, t1, w, hp, hld, hx1]
   exact fin (by rw [zaa8, if_neg (by rw [hx]; simp [hx0])]) (by simp [t0]) (by simp [t1]) (by simp [t4]) (by simp [t5])
theorem zb20 (h50 : FT 50 = some (.code A50)) (h80 : FT 80 = some (.code A80)) (hw : H.Wf) {n : Int} (h0 : -9223372036854775807 <= n) (h1 : n <= 9223372036854775807) :
  Cp FT 50 [.int .i64 n] H (fun r H' => ∃ ds, NumR H' r (decide (n < 0)) ds /\ ze9 ds = n.natAbs /\ Ext H H') := by
 refine zb1 A50 h50 rfl ?_
 obtain ⟨g0, e0⟩ := za4 hw (.cells [.bool false, .nils])
 have hn0 : (H.push (.cells [.bool false, .nils])).next = H.next + 1 := rfl
 generalize hH0 : H.push (.cells [.bool false, .nils]) = H0 at *
 simp [A50, hH0]
 refine zb7 (fun k τ H' => Ext H0 H' /\ ∃ (x : Int) (ds : List Nat) (v : AV), k = x.natAbs /\ Mine 1 n64c H0 H' v ds /\ Dg ds /\ ds.length <= 64 /\ x.natAbs < 65536 ^ (64 - ds.length) /\ x.natAbs < 9223372036854775808 /\ n.natAbs = ze9 ds + 65536 ^ ds.length * x.natAbs /\ (n < 0 -> x <= 0) /\ (0 <= n -> 0 <= x) /\
  Env.at τ 0 = .int .i64 n /\ Env.at τ 2 = .ptr H.next 0 /\ Env.at τ 3 = v /\ Env.at τ 4 = .int .i64 x) ?_ n.natAbs _ _ ⟨Ext.refl e0.wf, n, [], .nils, rfl, Mine.nil, Dg.nil, by simp, ?_, by omega, by simp [ze9], by omega, by omega, by simp, by simp, by simp, by simp⟩
 ·rintro k τ H1 ⟨ex, x, ds, v, rfl, mi, dg, hlen, hxb, hx63, hval, hs1, hs2, t0, t2, t3, t4⟩
  simp only [zi9, zd3]
  by_cases hx : x = 0
  ·subst hx
   have hval' : n.natAbs = ze9 ds := by simpa using hval
   simp [t4, t0, t3]
   refine (zba3 h80 ex.wf (mi.sl zs8) (Ow.cap mi.ow) (by omega)).mono ?_
   rintro _ H2 ⟨u, rfl, hcu, hu, hru, e2⟩
   obtain ⟨ou, cu⟩ := hu.one
   have g2 := e2.keep _ _ (ex.keep _ _ g0)
   have hfl : H2.floor <= H.next := by rw [e2.floor, ex.floor, e0.floor]; exact hw.1
   have hm : (decide (n < 0) && !(zk5 ds).isEmpty) = decide (n < 0) := by
    by_cases hn : n < 0
    ·have hne : zk5 ds ≠ [] := fun q => by
      have := (zaf5 (zab4 ds)).2 q
      rw [zq9] at this; omega
     simp [hn, hne]
    ·simp [hn]
   rw [hm]
   generalize decide (n < 0) = bm
   obtain ⟨H3, s3, g3, f3⟩ := ze0 (n := 2) (x := .agg [.bool bm, u]) e2.wf rfl rfl hfl g2 rfl (by simp [zh1 ou])
   have f13 : Ext H H3 := ((((e0.trans ex).trans e2).fr (S := [])).trans hw f3 (by simp)).ext
   have hu3 : Nats H3 u (zk5 ds) := hu.fr f3 (fun p q => by
    have := mi.new p (hru p q); simp; omega)
   have hl : (zk5 ds).length <= 100 := by have := zt4 ds; omega
   simp [t2, s3, zb5, ze1, za3 g3, ze2, seg, zg8]
   exact ⟨zk5 ds, ⟨zak8 dg, zab4 ds, hl, u, rfl, hcu, hu3⟩, by rw [zq9, hval'], f13⟩
  ·obtain ⟨y, d, hd, hrem, hdiv, hxy, hy1, hy2⟩ := zbj4 x
   have wy : IntKind.i64.wrap y = y := wrap64 (by omega) (by omega)
   have hlt : ds.length < 64 := by
    refine Classical.byContradiction fun q => ?_
    have : 64 - ds.length = 0 := by omega
    rw [this] at hxb; simp at hxb; omega
   obtain ⟨v', H2, ap, mi2, f2, _⟩ := mi.app1 zs8 (by omega) zam0 ex.wf ex.next d (bytes := 8) (by omega)
   have ex2 : Ext H0 H2 := ((ex.fr (S := [])).trans e0.wf f2 (by intro p hp; right; simp at hp; exact mi.new p hp)).ext
   have hb2 : y.natAbs < 65536 ^ (64 - (ds.length + 1)) := by
    have : 65536 ^ (64 - ds.length) = 65536 * 65536 ^ (64 - (ds.length + 1)) := by
     rw [show 64 - ds.length = (64 - (ds.length + 1)) + 1 from by omega, Nat.pow_succ, Nat.mul_comm]
    rw [this] at hxb; omega
   have hv2 : n.natAbs = ze9 (ds ++ [d]) + 65536 ^ (ds ++ [d]).length * y.natAbs := by
    rw [hval, zh5, hxy]; simp [ze9, Nat.pow_succ, Nat.mul_add, Nat.mul_assoc]; omega
   have hx' : (x != 0) = true := by simpa using hx
   simp only [n64c] at ap
   rcases hrem with hrem | ⟨hrem, hd0⟩
   ·have hneg : ¬ (d : Int) < 0 := by omega
    simp [t4, hx', hrem, hneg, t3, hdiv, wy, ap, t0, t2]
    exact ⟨y.natAbs, by omega, ex2, y, rfl, ds ++ [d], v', mi2, dg.app (Dg.one hd), by simp; omega, by simpa using hb2, by omega, hv2, by omega, by omega, rfl, rfl⟩
   ·have hneg : -(d : Int) < 0 := by omega
    have wd : IntKind.i64.wrap (d : Int) = d := wrap64 (by omega) (by omega)
    simp [t4, hx', hrem, hd0, unA, t3, hdiv, wy, wd, ap, t0, t2]
    exact ⟨y.natAbs, by omega, ex2, y, rfl, ds ++ [d], v', mi2, dg.app (Dg.one hd), by simp; omega, by simpa using hb2, by omega, hv2, by omega, by omega, rfl, rfl⟩
 ·have : (65536 : Nat) ^ 64 = 65536 ^ 4 * 65536 ^ 60 := by rw [<- Nat.pow_add]
  have h3 : 0 < 65536 ^ 60 := Nat.pow_pos (by omega)
  have h4 : 65536 ^ 4 * 1 <= 65536 ^ 4 * 65536 ^ 60 := Nat.mul_le_mul_left _ h3
  have h5 : (65536 : Nat) ^ 4 = 18446744073709551616 := by decide
  simp only [List.length_nil, Nat.sub_zero]
  omega
end
end Go.Proofs.Ytcepchipgjpkhaa
namespace Go.Proofs.Ytcepchipgjpkhaa
open Go Go.AI
theorem zbi5 (zs : List Nat) : zs.flatMap n64c = zs.map fun (n : Nat) => AV.int .i64 (n : Int) := by
 induction zs with
 | nil => rfl
 | cons z zs ih => simp [n64c, ih]
theorem za74 (zs : List Nat) (i y : Nat) : (zs.flatMap n64c).set i (.int .i64 (y : Int)) = (zs.set i y).flatMap n64c := by
 rw [zbi5, zbi5, List.map_set]
theorem zbr3 {H : Heap} {n : Nat} (hn : n <= 100000) : zn4 H 1 8 [.int .i64 0] (.int .i64 n) (.int .i64 n) = some (.slc H.next 0 n 1 n true, H.push (.cells ((List.replicate n 0).flatMap n64c))) := by
 have e : (List.replicate n [AV.int .i64 0]).flatten = (List.replicate n 0).flatMap n64c := by
  induction n with
  | zero => rfl
  | succ n ih => simp only [List.replicate_succ, List.flatten_cons, List.flatMap_cons, ih (by omega)]; rfl
 unfold zn4
 simp only
 rw [if_pos ⟨by omega, by omega, by omega, by omega⟩]
 simp [e]
theorem zbg5 {H : Heap} {o n : Nat} {zs : List Nat} (hl : zs.length = n) (g : H.get o = some (.cells (zs.flatMap n64c))) : Nats H (.slc o 0 n 1 n true) zs := by
 subst hl
 exact .inr ⟨o, 0, _, true, _, rfl, za3 g, fun i x hx => by rw [Nat.zero_add]; exact zal2 zs8 zs i x hx⟩
section
variable {FT : Nat -> Option FnD} {H : Heap}
theorem zbt5 {ds : List Nat} (h : Nm ds) (k : ds ≠ []) : 0 < ze9 ds := Nat.pos_of_ne_zero fun q => k ((zaf5 h).1 q)
end
end Go.Proofs.Ytcepchipgjpkhaa
namespace Go.Proofs.Ytcepchipgjpkhaa
open Go Go.AI
def zval (m : Bool) (ds : List Nat) : Int := if m = true then -(ze9 ds : Int) else ze9 ds
section
variable {FT : Nat -> Option FnD} {H : Heap}
theorem zan2 (h79 : FT 79 = some (.code A79)) {v : AV} {ds : List Nat} (h : Nats H v ds) (_hl : ds.length <= 1000) {i : Nat} (_hi : i <= 100000) :
  Cp FT 79 [v, .int .i64 i] H (fun r H' => r = .int .i64 (((ds[i]?).getD 0 : Nat) : Int) /\ H' = H) := by
 refine zb1 A79 h79 rfl ?_
 by_cases hc : i < ds.length
 ·obtain ⟨p, x, hx, hp, hld⟩ := Nats.idx h (k := .i64) hc
  have hv := (List.getElem?_eq_some_iff.1 hx).2
  simp [A79, h.len, hc, hp, hld, hv]
 ·have : ds[i]? = none := by simp; omega
  simp [A79, h.len, hc]
theorem za37 {a b : List Nat} {k : Nat} (da : Dg a) (_db : Dg b) (hl : a.length = b.length) (hk : k < a.length) (ht : a.drop (k + 1) = b.drop (k + 1)) {x y : Nat} (hx : a[k]? = some x) (hy : b[k]? = some y) (h : x < y) : ze9 a < ze9 b := by
 have ea : a = a.take k ++ (x :: a.drop (k + 1)) := by rw [<- zo0 hx, List.take_append_drop]
 have eb : b = b.take k ++ (y :: b.drop (k + 1)) := by rw [<- zo0 hy, List.take_append_drop]
 have la : (a.take k).length = k := by simp; omega
 have lb : (b.take k).length = k := by simp; omega
 have h1 := zan0 (da.take k)
 rw [la] at h1
 rw [ea, eb, zh5, zh5, la, lb, ht]
 simp only [ze9]
 generalize ze9 (b.drop (k + 1)) = t
 have h2 : 65536 ^ k * (x + 65536 * t + 1) <= 65536 ^ k * (y + 65536 * t) := Nat.mul_le_mul_left _ (by omega)
 rw [Nat.mul_add] at h2
 omega
structure zcs2 (H : Heap) (u v : AV) (a b : List Nat) (k : Nat) (τ : Env) (H' : Heap) : Prop where
 hh : H' = H
 kl : k <= a.length
 eq : a.drop k = b.drop k
 t0 : Env.at τ 0 = u
 t1 : Env.at τ 1 = v
 t5 : Env.at τ 5 = .int .i64 ((k : Int) - 1)
theorem zbw9 (h81 : FT 81 = some (.code A81)) {u v : AV} {a b : List Nat} (ha : Nats H u a) (hb : Nats H v b) (da : Dg a) (db : Dg b) (na : Nm a) (nb : Nm b) (la : a.length <= 1000) (lb : b.length <= 1000) :
  Cp FT 81 [u, v] H (fun r H' => ∃ n : Int, r = .int .i64 n /\ (n < 0 ↔ ze9 a < ze9 b) /\ (n = 0 ↔ ze9 a = ze9 b) /\ H' = H) := by
 refine zb1 A81 h81 rfl ?_
 by_cases hlen : a.length = b.length
 ·have e1 : ((a.length : Int) != (b.length : Int)) = false := by rw [hlen]; simp
  have w1 : IntKind.i64.wrap ((a.length : Int) - 1) = (a.length : Int) - 1 := wrap64 (by omega) (by omega)
  simp [A81, ha.len, hb.len, e1, w1]
  refine zb7 (zcs2 H u v a b) ?_ a.length _ _ ⟨rfl, Nat.le_refl _, by rw [List.drop_length, hlen, List.drop_length], by simp, by simp, by simp⟩
  rintro k τ _ ⟨rfl, hk, heq, t0, t1, t5⟩
  simp only [zi9, zd3]
  cases k with
  | zero =>
   have t5' : Env.at τ 5 = .int .i64 (-1) := by simpa using t5
   have hab : a = b := by simpa using heq
   simp [t5', hab]
  | succ k =>
   obtain ⟨p, x, hx, hp, hl1⟩ := Nats.idx ha (k := .i64) (i := k) (by omega)
   obtain ⟨q, y, hy, hq, hl2⟩ := Nats.idx hb (k := .i64) (i := k) (by omega)
   have t5' : Env.at τ 5 = .int .i64 (k : Int) := by rw [t5]; congr 1; omega
   have hx6 := da x (List.mem_of_getElem? hx)
   have hy6 := db y (List.mem_of_getElem? hy)
   have wk : IntKind.i64.wrap ((k : Int) - 1) = (k : Int) - 1 := wrap64 (by omega) (by omega)
   have ws : IntKind.i64.wrap ((x : Int) - (y : Int)) = (x : Int) - y := wrap64 (by omega) (by omega)
   by_cases hxy : x = y
   ·subst hxy
    simp [t0, t1, t5', hp, hq, hl1, hl2, wk]
    exact ⟨k, by omega, rfl, by omega, by rw [zo0 hx, zo0 hy, heq], by simp [t0], by simp [t1], by simp⟩
   ·have hne : ((x : Int) != (y : Int)) = true := by rw [bne_iff_ne]; omega
    simp [t0, t1, t5', hp, hq, hl1, hl2, hne, ws]
    rcases Nat.lt_or_gt_of_ne hxy with h | h
    ·have := za37 da db hlen (by omega) heq hx hy h
     omega
    ·have := za37 db da hlen.symm (by omega) heq.symm hy hx h
     omega
 ·have e1 : ((a.length : Int) != (b.length : Int)) = true := by rw [bne_iff_ne]; omega
  have w1 : IntKind.i64.wrap ((a.length : Int) - (b.length : Int)) = (a.length : Int) - b.length := wrap64 (by omega) (by omega)
  have key : ∀ {a b : List Nat}, Dg a -> Nm b -> a.length < b.length -> ze9 a < ze9 b := by
   intro a b da nb h
   have h1 := zan0 da
   have h2 := zan1 nb (fun q => by rw [q] at h; simp at h)
   have h3 : 65536 ^ a.length <= 65536 ^ (b.length - 1) := Nat.pow_le_pow_right (by omega) (by omega)
   omega
  simp [A81, ha.len, hb.len, e1, w1]
  rcases Nat.lt_or_gt_of_ne hlen with h | h
  ·have := key da nb h; omega
  ·have := key db na h; omega
theorem zcp8 (h82 : FT 82 = some (.code A82)) (hw : H.Wf) {v : AV} {m : Bool} {ds : List Nat} (h : NumR H v m ds) : Cp FT 82 [v] H (fun r H' => NumR H' r (!m && decide (ds ≠ [])) ds /\ Ext H H') := by
 obtain ⟨dg, nm, hlen, u, rfl, hcu, hu⟩ := h
 refine zb1 A82 h82 rfl ?_
 obtain ⟨ou, cu⟩ := hu.one
 have hone : za5 [AV.bool m, u] = true := by simp [zh1 ou]
 obtain ⟨g0, e0⟩ := za4 hw (.cells [.bool m, u])
 obtain ⟨g1, e1⟩ := za4 e0.wf (.cells [.bool false, .nils])
 have hn1 : (H.push (.cells [.bool m, u])).next = H.next + 1 := rfl
 have g0' := e1.keep _ _ g0
 generalize hH1 : (H.push (.cells [.bool m, u])).push (.cells [.bool false, .nils]) = H1 at *
 have l0 : za9 H1 none (.ptr H.next 0) = some (.bool m) := za1 g0' rfl
 have l1 : za9 H1 none (.ptr H.next 1) = some u := za1 g0' rfl
 have e01 := e0.trans e1
 have fl : H1.floor <= H.next + 1 := by rw [e01.floor]; have := hw.1; omega
 have fin : ∀ b : Bool, b = (!m && decide (ds ≠ [])) -> ∃ H', zf6 H1 2 (.ptr (H.next + 1) 0) (.agg [.bool b, u]) = some (zb8, H') /\ H'.cellsAt (H.next + 1) = some [.bool b, u] /\ NumR H' (.agg [.bool b, u]) (!m && decide (ds ≠ [])) ds /\ Ext H H' := by
  intro b hb
  obtain ⟨H', s, g, f⟩ := ze0 (n := 2) (x := .agg [.bool b, u]) e1.wf rfl rfl fl g1 rfl (by simp [zh1 ou])
  have ex : Ext H H' := ((e01.fr (S := [])).trans hw f (by simp)).ext
  exact ⟨H', s, za3 g, ⟨dg, nm, hlen, u, by rw [hb], hcu, hu.ext ex⟩, ex⟩
 cases m with
 | true =>
  obtain ⟨H', s, g, k, ex⟩ := fin false (by simp)
  simp [A82, hone, hH1, l0, l1, zi4 ou cu, s, zb5, ze1, g, ze2, seg, zg8]
  exact ⟨by simpa using k, ex⟩
 | false =>
  by_cases hd : ds = []
  ·subst hd
   obtain ⟨H', s, g, k, ex⟩ := fin false (by simp)
   simp [A82, hone, hH1, l0, l1, hu.len, zi4 ou cu, s, zb5, ze1, g, ze2, seg, zg8]
   exact ⟨by simpa using k, ex⟩
  ·obtain ⟨H', s, g, k, ex⟩ := fin true (by simp [hd])
   have hl : 0 < ds.length := by
    have : ds.length ≠ 0 := fun q => hd (List.length_eq_zero_iff.1 q)
    omega
   simp [A82, hone, hH1, l0, l1, hu.len, hl, zi4 ou cu, s, zb5, ze1, g, ze2, seg, zg8, hd]
   exact ⟨by simpa [hd] using k, ex⟩
theorem zcc7 (h83 : FT 83 = some (.code A83)) (hw : H.Wf) {v : AV} {m : Bool} {ds : List Nat} (h : NumR H v m ds) : Cp FT 83 [v] H (fun r H' => r = .int .i64 (zval m ds).sign /\ Ext H H') := by
 obtain ⟨dg, nm, hlen, u, rfl, hcu, hu⟩ := h
 refine zb1 A83 h83 rfl ?_
 obtain ⟨ou, cu⟩ := hu.one
 have hone : za5 [AV.bool m, u] = true := by simp [zh1 ou]
 obtain ⟨g0, e0⟩ := za4 hw (.cells [.bool m, u])
 have l0 : za9 (H.push (.cells [.bool m, u])) none (.ptr H.next 0) = some (.bool m) := za1 g0 rfl
 have l1 : za9 (H.push (.cells [.bool m, u])) none (.ptr H.next 1) = some u := za1 g0 rfl
 by_cases hd : ds = []
 ·subst hd
  simp [A83, hone, l1, hu.len, zval, ze9]
  exact e0
 ·have hl0 : ((ds.length : Int) == 0) = false := by
   rw [beq_eq_false_iff_ne]
   have : ds.length ≠ 0 := fun q => hd (List.length_eq_zero_iff.1 q)
   omega
  have hpos := zbt5 nm hd
  cases m with
  | true =>
   have hs : (zval true ds).sign = -1 := by unfold zval; rw [if_pos rfl]; exact Int.sign_eq_neg_one_of_neg (by omega)
   simp [A83, hone, l0, l1, hu.len, hl0, hs]
   exact e0
  | false =>
   have hs : (zval false ds).sign = 1 := by unfold zval; rw [if_neg (by simp)]; exact Int.sign_eq_one_of_pos (by omega)
   simp [A83, hone, l0, l1, hu.len, hl0, hs]
   exact e0
end
end Go.Proofs.Ytcepchipgjpkhaa
namespace Go.Proofs.Ytcepchipgjpkhaa
open Go Go.AI
theorem zbt3 {l : List Nat} {j x y : Nat} (h : l[j]? = some y) : ze9 (l.set j x) + 65536 ^ j * y = ze9 l + 65536 ^ j * x := by
 have hj : j < l.length := (List.getElem?_eq_some_iff.1 h).1
 have e1 : l = l.take j ++ (y :: l.drop (j + 1)) := by rw [<- zo0 h, List.take_append_drop]
 have e2 : l.set j x = l.take j ++ (x :: l.drop (j + 1)) := by
  rw [List.set_eq_take_append_cons_drop, if_pos hj]
 have hl : (l.take j).length = j := by simp; omega
 rw [e2, zh5, hl]
 have h3 : ze9 l = ze9 (l.take j) + 65536 ^ j * ze9 (y :: l.drop (j + 1)) := by
  have := zh5 (l.take j) (y :: l.drop (j + 1))
  rw [hl, <- e1] at this
  exact this
 rw [h3]
 simp only [ze9, Nat.mul_add]
 omega
theorem zm0 {l : List Nat} {k x : Nat} (h : l[k]? = some x) : ze9 (l.take (k + 1)) = ze9 (l.take k) + 65536 ^ k * x := by
 have hk : k < l.length := (List.getElem?_eq_some_iff.1 h).1
 have hl : (l.take k).length = k := by simp; omega
 rw [List.take_add_one, h, zh5, hl]; simp [ze9]
theorem zcg8 {l : List Nat} (h : Dg l) {j x : Nat} (hx : x < 65536) : Dg (l.set j x) := fun d hd => by
 rcases List.mem_or_eq_of_mem_set hd with q | q
 ·exact h d q
 ·omega
theorem za70 {a b : Nat} (ha : a < 65536) (hb : b < 65536) : a * b <= 65535 * 65535 := Nat.mul_le_mul (by omega) (by omega)
theorem zbt4 (n : Nat) : ze9 (List.replicate n 0) = 0 := by
 induction n with
 | zero => rfl
 | succ n ih => simp [List.replicate_succ, ze9, ih]
theorem zbo3 {D D' R T Pi Pk ai bk dj c r c' : Nat} (h1 : D' + Pi * Pk * dj = D + Pi * Pk * r) (hx : dj + ai * bk + c = r + 65536 * c') (h0 : D + Pi * Pk * c = R + Pi * (ai * T)) :
  D' + Pi * Pk * 65536 * c' = R + Pi * (ai * (T + Pk * bk)) := by
 have e := congrArg (fun z => Pi * Pk * z) hx
 simp only [Nat.mul_add] at e ⊢
 have e1 : Pi * Pk * (65536 * c') = Pi * Pk * 65536 * c' := by rw [<- Nat.mul_assoc]
 have e2 : Pi * (ai * (Pk * bk)) = Pi * Pk * (ai * bk) := by rw [Nat.mul_left_comm ai Pk bk, <- Nat.mul_assoc]
 rw [e1] at e; rw [e2]
 omega
section
variable {FT : Nat -> Option FnD} {H : Heap}
structure zcj7 (H H0 H' : Heap) (o : Nat) (L : Nat) (u v : AV) (a b d : List Nat) (τ : Env) : Prop where
 ex : Ext H H'
 ex0 : Ext H0 H'
 dg : Dg d
 dl : d.length = L
 g : H'.get o = some (.cells (d.flatMap n64c))
 t2 : Env.at τ 2 = .ptr H.next 0
 t3 : Env.at τ 3 = .ptr (H.next + 1) 0
 t4 : Env.at τ 4 = .ptr (H.next + 2) 0
 t5 : Env.at τ 5 = .slc o 0 L 1 L true
structure zcr8 (H H0 : Heap) (o L : Nat) (u v : AV) (a b : List Nat) (k : Nat) (τ : Env) (H' : Heap) : Prop where
 ri : ∃ (d : List Nat) (i : Nat), zcj7 H H0 H' o L u v a b d τ /\ i <= a.length /\ k = a.length - i /\ (∀ j y, i + b.length <= j -> d[j]? = some y -> y = 0) /\ ze9 d = ze9 (a.take i) * ze9 b /\ Env.at τ 6 = .int .i64 i
structure In44 (H H0 : Heap) (o L : Nat) (u v : AV) (a b : List Nat) (i : Nat) (n : Nat) (τ : Env) (H' : Heap) : Prop where
 ri : ∃ (d : List Nat) (k c : Nat), zcj7 H H0 H' o L u v a b d τ /\ k <= b.length + 1 /\ n = b.length + 1 - k /\ c < 65536 /\ (k = b.length + 1 -> c = 0) /\ (k <= b.length -> ∀ j y, i + b.length <= j -> d[j]? = some y -> y = 0) /\
  (∀ j y, i + 1 + b.length <= j -> d[j]? = some y -> y = 0) /\ ze9 d + 65536 ^ (i + k) * c = ze9 (a.take i) * ze9 b + 65536 ^ i * ((a[i]?.getD 0) * ze9 (b.take k)) /\ Env.at τ 6 = .int .i64 i /\ Env.at τ 7 = .int .i64 c /\ Env.at τ 8 = .int .i64 k
def zbd7 : za0 := zf3 [1,1,1] A111.body
theorem zb77 : A111.body = putAt [1,1,1] A111.body zbd7 := rfl
theorem zbo0 (h111 : FT 111 = some (.code A111)) (h79 : FT 79 = some (.code A79)) (h80 : FT 80 = some (.code A80)) (hw : H.Wf) {x y : AV} {ma mb : Bool} {a b : List Nat} (ha : NumR H x ma a) (hb : NumR H y mb b) (hlen : a.length + b.length <= 90) :
  Cp FT 111 [x, y] H (fun r H' => ∃ ds, NumR H' r ((ma != mb) && decide (ds ≠ [])) ds /\ ze9 ds = ze9 a * ze9 b /\ ds.length <= a.length + b.length + 1 /\ Ext H H') := by
 obtain ⟨dga, nma, lena, u, rfl, hcu, hu⟩ := ha
 obtain ⟨dgb, nmb, lenb, v, rfl, hcv, hv⟩ := hb
 refine zb1 A111 h111 rfl ?_
 rw [zb77]
 have hA : A111.results = [.cell 4 (some 2)] := rfl
 rw [hA]
 obtain ⟨ou, cu⟩ := hu.one
 obtain ⟨ov, cv⟩ := hv.one
 have hou : za5 [AV.bool ma, u] = true := by simp [zh1 ou]
 have hov : za5 [AV.bool mb, v] = true := by simp [zh1 ov]
 obtain ⟨g0, e0⟩ := za4 hw (.cells [.bool ma, u])
 obtain ⟨g1, e1⟩ := za4 e0.wf (.cells [.bool mb, v])
 obtain ⟨g2, e2⟩ := za4 e1.wf (.cells [.bool false, .nils])
 have e02 := (e0.trans e1).trans e2
 have g0' := e2.keep _ _ (e1.keep _ _ g0)
 have g1' := e2.keep _ _ g1
 simp [A111, putAt, hou, hov]
 have hn1 : ((H.push (.cells [.bool ma, u])).push (.cells [.bool mb, v])).next = H.next + 2 := rfl
 generalize hH3 : ((H.push (.cells [.bool ma, u])).push (.cells [.bool mb, v])).push (.cells [.bool false, .nils]) = H3 at *
 have hn3 : H3.next = H.next + 3 := by rw [<- hH3]; rfl
 have g1' : H3.get (H.next + 1) = some (.cells [.bool mb, v]) := g1'
 have g2' : H3.get (H.next + 2) = some (.cells [.bool false, .nils]) := g2
 have ld : ∀ {H' : Heap}, Ext H3 H' -> za9 H' none (.ptr H.next 1) = some u /\ za9 H' none (.ptr (H.next + 1) 1) = some v /\ za9 H' none (.ptr H.next 0) = some (.bool ma) /\ za9 H' none (.ptr (H.next + 1) 0) = some (.bool mb) := fun k =>
  ⟨za1 (k.keep _ _ g0') rfl, za1 (k.keep _ _ g1') rfl, za1 (k.keep _ _ g0') rfl, za1 (k.keep _ _ g1') rfl⟩
 obtain ⟨l0, l1, _, _⟩ := ld (Ext.refl e2.wf)
 have wl : IntKind.i64.wrap ((a.length : Int) + (b.length : Int)) = ((a.length + b.length : Nat) : Int) := by rw [wrap64 (by omega) (by omega)]; omega
 have wl1 : IntKind.i64.wrap (((a.length + b.length : Nat) : Int) + 1) = ((a.length + b.length + 1 : Nat) : Int) := by rw [wrap64 (by omega) (by omega)]; omega
 have hmk := zbr3 (H := H3) (n := a.length + b.length + 1) (by omega)
 obtain ⟨g4, e4⟩ := za4 e2.wf (.cells ((List.replicate (a.length + b.length + 1) 0).flatMap n64c))
 simp [-Int.natCast_add, l0, l1, hu.len, hv.len, wl, wl1, hmk]
 generalize hL : a.length + b.length + 1 = L at *
 generalize hH4 : H3.push (.cells ((List.replicate L 0).flatMap n64c)) = H4 at *
 refine zb7 (zcr8 H H3 H3.next L u v a b) ?_ a.length _ _ ⟨List.replicate L 0, 0, ⟨e02.trans e4, e4, fun d hd => by have := List.eq_of_mem_replicate hd; omega, by simp, g4, by simp, by simp, by simp, by simp⟩, by omega, rfl, fun j y _ hj => ?_, by simp [zbt4, ze9], by simp⟩
 ·rintro n τ H5 ⟨d, i, bs, hi, rfl, hz, hval, t6⟩
  obtain ⟨l0, l1, lm0, lm1⟩ := ld bs.ex0
  simp only [zi9, zd3]
  by_cases hc : i < a.length
  ·obtain ⟨_, ai, hai, _, _⟩ := Nats.idx hu (k := .i64) hc
   have hai6 := dga ai (List.mem_of_getElem? hai)
   simp [bs.t2, t6, l0, hu.len, hc]
   refine zb7 (In44 H H3 H3.next L u v a b i) ?_ (b.length + 1) _ _ ⟨d, 0, 0, ⟨bs.ex, bs.ex0, bs.dg, bs.dl, bs.g, by simp [bs.t2], by simp [bs.t3], by simp [bs.t4], by simp [bs.t5]⟩, by omega, rfl, by omega, by omega, fun _ => hz, fun j y hj => hz j y (by omega), by simp [hval, ze9], by simp [t6], by simp, by simp⟩
   rintro n τ H6 ⟨d, k, c, bs, hk, rfl, hcl, hk1, hz1, hz2, hval, t6, t7, t8⟩
   obtain ⟨l0, l1, lm0, lm1⟩ := ld bs.ex0
   simp only [zi9, zd3]
   by_cases hgo : k < b.length \/ 0 < c
   ·have hkl : k <= b.length := by
     rcases hgo with q | q
     ·omega
     ·refine Classical.byContradiction fun r => ?_
      have := hk1 (by omega); omega
    obtain ⟨dj, hdj⟩ : ∃ dj, d[i + k]? = some dj := ⟨_, List.getElem?_eq_getElem (by rw [bs.dl]; omega)⟩
    have hdj6 := bs.dg dj (List.mem_of_getElem? hdj)
    have hds := zbg5 bs.dl bs.g
    obtain ⟨pd, dj', hdj', hpd, lpd⟩ := Nats.idx hds (k := .i64) (i := i + k) (by rw [bs.dl]; omega)
    rw [hdj] at hdj'; cases hdj'
    have hpd' : pd = .ptr H3.next (i + k) := by
     have ix : (0 : Int) <= ((i + k : Nat) : Int) /\ ((i + k : Nat) : Int) < ((L : Nat) : Int) := by omega
     simp only [zf2, ix, and_self, if_true] at hpd
     rw [Int.toNat_natCast] at hpd
     simpa using hpd.symm
    subst hpd'
    obtain ⟨pa, ai', hai', hpa, lpa⟩ := Nats.idx (hu.ext bs.ex) (k := .i64) hc
    rw [hai] at hai'; cases hai'
    have hbk6 : ((b[k]?).getD 0) < 65536 := by
     cases hq : b[k]? with
     | none => simp
     | some z => simpa using dgb z (List.mem_of_getElem? hq)
    have hmul := za70 hai6 hbk6
    have hq : H6.Wf := bs.ex.wf
    have hbx := zan2 (H := H6.up) h79 (hv.ext bs.ex).up (by omega) (i := k) (by omega)
    generalize hbk : (b[k]?).getD 0 = bk at *
    have wik : IntKind.i64.wrap ((i : Int) + (k : Int)) = ((i + k : Nat) : Int) := by rw [wrap64 (by omega) (by omega)]; omega
    have wm : IntKind.i64.wrap ((ai : Int) * (bk : Int)) = ((ai * bk : Nat) : Int) := by rw [wrap64 (by rw [<- Int.natCast_mul]; omega) (by rw [<- Int.natCast_mul]; omega), Int.natCast_mul]
    have wa : IntKind.i64.wrap ((dj : Int) + ((ai * bk : Nat) : Int)) = ((dj + ai * bk : Nat) : Int) := by rw [wrap64 (by omega) (by omega)]; omega
    have wc : IntKind.i64.wrap (((dj + ai * bk : Nat) : Int) + (c : Int)) = ((dj + ai * bk + c : Nat) : Int) := by rw [wrap64 (by omega) (by omega)]; omega
    have hxx : ∃ X : Nat, X = dj + ai * bk + c := ⟨_, rfl⟩
    obtain ⟨X, hX⟩ := hxx
    rw [<- hX] at wc
    have hrem : (X : Int).tmod 65536 = ((X % 65536 : Nat) : Int) := rfl
    have hquo : (X : Int).tdiv 65536 = ((X / 65536 : Nat) : Int) := rfl
    have wq : IntKind.i64.wrap ((X / 65536 : Nat) : Int) = ((X / 65536 : Nat) : Int) := wrap64 (by omega) (by omega)
    have wk : IntKind.i64.wrap ((k : Int) + 1) = ((k + 1 : Nat) : Int) := wrap64 (by omega) (by omega)
    have hfl : H6.floor <= H3.next := by rw [bs.ex0.floor]; exact e2.wf.1
    have ix : (0 : Int) <= ((i + k : Nat) : Int) /\ ((i + k : Nat) : Int) < ((L : Nat) : Int) := by omega
    obtain ⟨H7, s7, g7, f7⟩ := zai9 (x := .int .i64 ((X % 65536 : Nat) : Int)) bs.ex.wf hfl bs.g (off := i + k) (by rw [zbi5]; simp; have := bs.dl; omega) rfl
    rw [za74] at g7
    have ex7 : Ext H H7 := ((bs.ex.fr (S := [])).trans hw f7 (by simp; omega)).ext
    have ex07 : Ext H3 H7 := ((bs.ex0.fr (S := [])).trans e2.wf f7 (by simp)).ext
    have hX65 : X / 65536 < 65536 := by omega
    have hfin : ze9 (d.set (i + k) (X % 65536)) + 65536 ^ (i + (k + 1)) * (X / 65536) = ze9 (a.take i) * ze9 b + 65536 ^ i * (ai * ze9 (b.take (k + 1))) := by
     have h1 := zbt3 (x := X % 65536) hdj
     have e : 65536 ^ (i + (k + 1)) = 65536 ^ i * 65536 ^ k * 65536 := by rw [<- Nat.add_assoc, Nat.pow_succ, Nat.pow_add]
     have hbt : ze9 (b.take (k + 1)) = ze9 (b.take k) + 65536 ^ k * bk := by
      cases hq : b[k]? with
      | none =>
       rw [hq] at hbk
       have hkb : b.length <= k := by simpa using hq
       have : bk = 0 := by simpa using hbk.symm
       rw [this, List.take_of_length_le (by omega), List.take_of_length_le (by omega)]; simp
      | some z => rw [hq] at hbk; simp at hbk; subst hbk; exact zm0 hq
     rw [hai] at hval
     simp only [Option.getD_some] at hval
     rw [Nat.pow_add] at h1 hval
     rw [e, hbt]
     exact zbo3 h1 (by omega) hval
    have fin : ∀ {τ' : Env}, Env.at τ' 2 = .ptr H.next 0 -> Env.at τ' 3 = .ptr (H.next + 1) 0 -> Env.at τ' 4 = .ptr (H.next + 2) 0 -> Env.at τ' 5 = .slc H3.next 0 L 1 L true -> Env.at τ' 6 = .int .i64 i -> Env.at τ' 7 = .int .i64 ((X / 65536 : Nat) : Int) -> Env.at τ' 8 = .int .i64 ((k + 1 : Nat) : Int) ->
      In44 H H3 H3.next L u v a b i (b.length + 1 - (k + 1)) τ' H7 := by
     intro τ' q2 q3 q4 q5 q6 q7 q8
     refine ⟨d.set (i + k) (X % 65536), k + 1, X / 65536, ⟨ex7, ex07, zcg8 bs.dg (by omega), by rw [List.length_set]; exact bs.dl, g7, q2, q3, q4, q5⟩, by omega, rfl, hX65, fun q => ?_, fun q j y hj hy => ?_, fun j y hj hy => ?_, by rw [hfin, hai]; rfl, q6, q7, q8⟩
     ·have hk : k = b.length := by omega
      have hdj0 : dj = 0 := hz1 hkl (i + k) dj (by omega) hdj
      have hbk0 : bk = 0 := by rw [<- hbk, List.getElem?_eq_none (by omega)]; rfl
      rw [hdj0, hbk0] at hX
      omega
     ·rw [List.getElem?_set_ne (by omega)] at hy; exact hz1 hkl j y hj hy
     ·rw [List.getElem?_set_ne (by omega)] at hy; exact hz2 j y hj hy
    by_cases hkb : k < b.length
    ·simp [-Int.natCast_add, -Int.natCast_mul, -Int.natCast_emod, -Int.natCast_ediv, bs.t2, bs.t3, bs.t5, t6, t8, l0, l1, hv.len, hkb, wik, ix, lpd, hpa, lpa]
     refine hbx.quietEq ?_
     simp [-Int.natCast_add, -Int.natCast_mul, -Int.natCast_emod, -Int.natCast_ediv, bs.t5, t6, t7, t8, wm, wa, wc, wik, ix, hrem, hquo, wq, s7, wk]
     exact ⟨_, by omega, fin (by simp [bs.t2]) (by simp [bs.t3]) (by simp [bs.t4]) (by simp [bs.t5]) (by simp [t6]) (by simp) (by simp)⟩
    ·have hc0 : 0 < c := by omega
     simp [-Int.natCast_add, -Int.natCast_mul, -Int.natCast_emod, -Int.natCast_ediv, bs.t2, bs.t3, bs.t5, t6, t7, t8, l0, l1, hv.len, hkb, hc0, wik, ix, lpd, hpa, lpa]
     refine hbx.quietEq ?_
     simp [-Int.natCast_add, -Int.natCast_mul, -Int.natCast_emod, -Int.natCast_ediv, bs.t5, t6, t7, t8, wm, wa, wc, wik, ix, hrem, hquo, wq, s7, wk]
     exact ⟨_, by omega, fin (by simp [bs.t2]) (by simp [bs.t3]) (by simp [bs.t4]) (by simp [bs.t5]) (by simp [t6]) (by simp) (by simp)⟩
   ·have hc0 : c = 0 := by omega
    have hkb : ¬ k < b.length := fun q => hgo (.inl q)
    subst hc0
    have hbt : b.take k = b := List.take_of_length_le (by omega)
    have hfin : ze9 d = ze9 (a.take (i + 1)) * ze9 b := by
     rw [zm0 hai]
     simp [hbt, hai] at hval
     rw [hval, Nat.add_mul, Nat.mul_assoc]
    have wi : IntKind.i64.wrap ((i : Int) + 1) = ((i + 1 : Nat) : Int) := wrap64 (by omega) (by omega)
    simp [bs.t3, t6, t7, t8, l1, hv.len, hkb]
    simp [-Int.natCast_add, wi]
    exact ⟨a.length - (i + 1), by omega, d, i + 1, ⟨bs.ex, bs.ex0, bs.dg, bs.dl, bs.g, by simp [bs.t2], by simp [bs.t3], by simp [bs.t4], by simp [bs.t5]⟩, by omega, rfl, fun j y hj => hz2 j y (by omega), hfin, by simp⟩
  ·have hin : i = a.length := by omega
   subst hin
   rw [List.take_length] at hval
   have hfl : H5.floor <= H.next + 2 := by rw [bs.ex.floor]; have := hw.1; omega
   simp [bs.t2, t6, l0, hu.len]
   simp [zbd7, zf3, A111, bs.t2, bs.t3, bs.t5, lm0, lm1]
   refine (zba3 h80 bs.ex.wf (zbg5 bs.dl bs.g) (by simp [zo2]) (by have := bs.dl; omega)).mono ?_
   rintro _ H6 ⟨u', rfl, hcu', hu', hru, e6⟩
   obtain ⟨ou', cu'⟩ := hu'.one
   have hm : (!(ma == mb) && !(zk5 d).isEmpty) = ((ma != mb) && decide (zk5 d ≠ [])) := by
    cases ma <;> cases mb <;> cases zk5 d <;> rfl
   rw [hm]
   generalize hbm : ((ma != mb) && decide (zk5 d ≠ [])) = bm
   obtain ⟨H7, s7, g7, f7⟩ := ze0 (n := 2) (x := .agg [.bool bm, u']) e6.wf rfl rfl (by rw [e6.floor]; exact hfl) (e6.keep _ _ (bs.ex0.keep _ _ g2')) rfl (by simp [zh1 ou'])
   have ex7 : Ext H H7 := (((bs.ex.trans e6).fr (S := [])).trans hw f7 (by simp)).ext
   have hdl := bs.dl
   have htl := zt4 d
   have hlen2 : (zk5 d).length <= a.length + b.length + 1 := by omega
   simp [bs.t4, s7, zb5, ze1, za3 g7, ze2, seg, zg8]
   exact ⟨zk5 d, ⟨zak8 bs.dg, zab4 d, by omega, u', by rw [<- hbm]; simp, hcu', hu'.fr f7 (fun p q => by have h9 := hru p q; cases h9; simp; omega)⟩, by rw [zq9, hval], by omega, ex7⟩
 ·rw [List.getElem?_replicate] at hj; split at hj
  ·cases hj; rfl
  ·cases hj
end
end Go.Proofs.Ytcepchipgjpkhaa
namespace Go.Proofs.Ytcepchipgjpkhaa
open Go Go.AI
theorem zq7 (l : List Nat) (k : Nat) : ze9 (l.take (k + 1)) = ze9 (l.take k) + 65536 ^ k * (l[k]?).getD 0 := by
 cases hq : l[k]? with
 | some z => exact zm0 hq
 | none =>
  have : l.length <= k := by simpa using hq
  rw [List.take_of_length_le (by omega), List.take_of_length_le (by omega)]; simp
theorem getD_lt {l : List Nat} (h : Dg l) (k : Nat) : (l[k]?).getD 0 < 65536 := by
 cases hq : l[k]? with
 | none => simp
 | some z => simpa using h z (List.mem_of_getElem? hq)
theorem zbo4 {D R S P ai bi c r c' : Nat} (h0 : D + P * c = R + S) (hx : ai + bi + c = r + 65536 * c') : D + P * r + P * 65536 * c' = R + P * ai + (S + P * bi) := by
 have e := congrArg (fun z => P * z) hx
 simp only [Nat.mul_add] at e
 have e1 : P * (65536 * c') = P * 65536 * c' := by rw [<- Nat.mul_assoc]
 rw [e1] at e
 omega
theorem zbo2 {D R S P ai bi c r c' : Nat} (h0 : R + P * c = D + S) (hx : ai + 65536 * c' = r + bi + c) : R + P * ai + P * 65536 * c' = D + P * r + (S + P * bi) := by
 have e := congrArg (fun z => P * z) hx
 simp only [Nat.mul_add] at e
 have e1 : P * (65536 * c') = P * 65536 * c' := by rw [<- Nat.mul_assoc]
 rw [e1] at e
 omega
theorem zas5 (l : List Nat) (x : Nat) : ze9 (l ++ [x]) = ze9 l + 65536 ^ l.length * x := by rw [zh5]; simp [ze9]
section
variable {FT : Nat -> Option FnD} {H : Heap}
structure zcj9 (H H3 : Heap) (a b : List Nat) (n : Nat) (τ : Env) (H' : Heap) : Prop where
 ex : Ext H H'
 ex3 : Ext H3 H'
 ri : ∃ (ds : List Nat) (w : AV) (c i : Nat), Mine 1 n64c H3 H' w ds /\ Dg ds /\ ds.length = i /\ c <= 1 /\ i <= max a.length b.length + 1 /\ n = max a.length b.length + 1 - i /\ (i = max a.length b.length + 1 -> c = 0) /\
  ze9 ds + 65536 ^ i * c = ze9 (a.take i) + ze9 (b.take i) /\
  Env.at τ 2 = .ptr H.next 0 /\ Env.at τ 3 = .ptr (H.next + 1) 0 /\ Env.at τ 4 = .ptr (H.next + 2) 0 /\ Env.at τ 5 = w /\ Env.at τ 6 = .int .i64 c /\ Env.at τ 7 = .int .i64 i
structure zci9 (H H3 : Heap) (o9 o10 : Nat) (a b : List Nat) (n : Nat) (τ : Env) (H' : Heap) : Prop where
 ex : Ext H H'
 ex3 : Ext H3 H'
 ri : ∃ (ds : List Nat) (w : AV) (c i : Nat), Mine 1 n64c H3 H' w ds /\ Dg ds /\ ds.length = i /\ c <= 1 /\ i <= a.length /\ n = a.length - i /\ ze9 (a.take i) + 65536 ^ i * c = ze9 ds + ze9 (b.take i) /\
  Env.at τ 4 = .ptr (H.next + 2) 0 /\ Env.at τ 5 = w /\ Env.at τ 6 = .int .i64 c /\ Env.at τ 9 = .ptr o9 0 /\ Env.at τ 10 = .ptr o10 0 /\ Env.at τ 11 = .int .i64 i
def zcr7 (H H' : Heap) (ma mb : Bool) (a b : List Nat) (r : AV) : Prop := ∃ m ds, NumR H' r m ds /\ zval m ds = zval ma a + zval mb b /\ (m = true -> ds ≠ []) /\ ds.length <= max a.length b.length + 1 /\ Ext H H'
def zbd5 : za0 := zf3 [1,1,1,1,1,1,1] A47.body
def zbd6 : za0 := zf3 [1,1,1,0,1,0,1] A47.body
theorem zci3 : A47.body = putAt [1,1,1,1,1,1,1] (putAt [1,1,1,0,1,0,1] A47.body zbd6) zbd5 := rfl
theorem zcg5 (h80 : FT 80 = some (.code A80)) {H1 : Heap} (hw : H.Wf) {o : Nat} (ho : H.next <= o) (ex : Ext H H1) (go : H1.get o = some (.cells [.bool false, .nils])) {w : AV} {H3 : Heap} {ds : List Nat} (mi : Mine 1 n64c H3 H1 w ds) (h3 : o < H3.next) (dg : Dg ds) (hl : ds.length <= 95) {m : Bool}
  {K : AV -> Heap -> Prop} (k : ∀ (u : AV) (m' : Bool) (H6 : Heap), (∃ H7, zf6 H6 2 (.ptr o 0) (.agg [.bool m', u]) = some (zb8, H7) /\ H7.cellsAt o = some [.bool m', u] /\ NumR H7 (.agg [.bool m', u]) (m && decide (zk5 ds ≠ [])) (zk5 ds) /\ Ext H H7) -> K (.agg [.bool m', u]) H6) :
  Cp FT 80 [.bool m, w] H1 K := by
 refine (zba3 h80 ex.wf (mi.sl zs8) (Ow.cap mi.ow) (by omega)).mono ?_
 rintro _ H6 ⟨u, rfl, hcu, hu, hru, e6⟩
 obtain ⟨ou, cu⟩ := hu.one
 have hm : (m && !(zk5 ds).isEmpty) = (m && decide (zk5 ds ≠ [])) := by cases m <;> cases zk5 ds <;> rfl
 have htl := zt4 ds
 refine k u _ H6 ?_
 obtain ⟨H7, s7, g7, f7⟩ := ze0 (n := 2) (x := .agg [.bool (m && !(zk5 ds).isEmpty), u]) e6.wf rfl rfl (by rw [e6.floor, ex.floor]; have := hw.1; omega) (e6.keep _ _ go) rfl (by simp [zh1 ou])
 have ex7 : Ext H H7 := (((ex.trans e6).fr (S := [])).trans hw f7 (by simp; omega)).ext
 exact ⟨H7, s7, za3 g7, ⟨zak8 dg, zab4 ds, by omega, u, by rw [hm], hcu, hu.fr f7 (fun p q => by have h9 := mi.new p (hru p q); simp; omega)⟩, ex7⟩
theorem zcc1 (h79 : FT 79 = some (.code A79)) (h80 : FT 80 = some (.code A80)) {H3 H4 : Heap} (hw : H.Wf) (_hw3 : H3.Wf) (e03 : Ext H H3) (ex : Ext H3 H4) {o9 o10 : Nat} {u v : AV} {m m2 : Bool} {a b : List Nat} (hu : Nats H3 u a) (hv : Nats H3 v b) (dga : Dg a) (dgb : Dg b) (_na : Nm a) (nb : Nm b) (la : a.length <= 90) (lb : b.length <= 90)
  (hge : ze9 b <= ze9 a) (hn3 : H3.next >= H.next + 3) (g9 : H4.get o9 = some (.cells [.bool m, u])) (g10 : H4.get o10 = some (.cells [.bool m2, v])) (go : H3.get (H.next + 2) = some (.cells [.bool false, .nils]))
  {τ : Env} (t4 : Env.at τ 4 = .ptr (H.next + 2) 0) (t5 : Env.at τ 5 = .nils) (t6 : Env.at τ 6 = .int .i64 0) (t9 : Env.at τ 9 = .ptr o9 0) (t10 : Env.at τ 10 = .ptr o10 0) :
  Wp FT zbd5 τ H4 (finQ [.cell 4 (some 2)] fun r H' => ∃ ds, NumR H' r (m && decide (ds ≠ [])) ds /\ ze9 ds = ze9 a - ze9 b /\ ds.length <= a.length /\ Ext H H') := by
 simp [zbd5, zf3, A47]
 refine zb7 (zci9 H H4 o9 o10 a b) ?_ a.length _ _ ⟨e03.trans ex, Ext.refl ex.wf, [], .nils, 0, 0, Mine.nil, Dg.nil, rfl, by omega, by omega, rfl, by simp [ze9], by simp [t4], by simp [t5], by simp [t6], by simp [t9], by simp [t10], by simp⟩
 have hba : b.length <= a.length := by
  refine Classical.byContradiction fun q => ?_
  have h1 := zan0 dga
  have h2 := zan1 nb (fun r => by rw [r] at q; simp at q)
  have h3 : 65536 ^ a.length <= 65536 ^ (b.length - 1) := Nat.pow_le_pow_right (by omega) (by omega)
  omega
 rintro n τ H5 ⟨ex0, ex4, ds, w, c, i, mi, dg, hdl, hc1, hi, rfl, hval, t4, t5, t6, t9, t10, t11⟩
 have l9 : za9 H5 none (.ptr o9 1) = some u := za1 (ex4.keep _ _ g9) rfl
 have l90 : za9 H5 none (.ptr o9 0) = some (.bool m) := za1 (ex4.keep _ _ g9) rfl
 have l10 : za9 H5 none (.ptr o10 1) = some v := za1 (ex4.keep _ _ g10) rfl
 simp only [zi9, zd3]
 by_cases hgo : i < a.length
 ·obtain ⟨p, ai, hai, hp, hld⟩ := Nats.idx (hu.ext (ex.trans ex4)) (k := .i64) hgo
  have ha6 := dga ai (List.mem_of_getElem? hai)
  have hbx := zan2 (H := H5.up) h79 (hv.ext (ex.trans ex4)).up (by omega) (i := i) (by omega)
  have hb6 := getD_lt dgb i
  have hta := zm0 hai
  have htb := zq7 b i
  generalize (b[i]?).getD 0 = bi at *
  have w1 : IntKind.i64.wrap ((ai : Int) - (bi : Int)) = (ai : Int) - bi := wrap64 (by omega) (by omega)
  have w2 : IntKind.i64.wrap ((ai : Int) - (bi : Int) - (c : Int)) = (ai : Int) - bi - c := wrap64 (by omega) (by omega)
  have wi : IntKind.i64.wrap ((i : Int) + 1) = ((i + 1 : Nat) : Int) := wrap64 (by omega) (by omega)
  have step : ∀ (x c' : Nat), ai + 65536 * c' = x + bi + c -> x < 65536 -> c' <= 1 -> ∃ w' H6, zc4 1 8 (H5.push (.cells [.int .i64 (x : Int)])) w (.slc H5.next 0 1 1 1 true) = some (w', H6) /\
    ∀ {τ' : Env}, Env.at τ' 4 = .ptr (H.next + 2) 0 -> Env.at τ' 5 = w' -> Env.at τ' 6 = .int .i64 c' -> Env.at τ' 9 = .ptr o9 0 -> Env.at τ' 10 = .ptr o10 0 -> Env.at τ' 11 = .int .i64 ((i + 1 : Nat) : Int) -> ∃ m', m' < a.length - i /\ zci9 H H4 o9 o10 a b m' τ' H6 := by
   intro x c' hx hx6 hc'
   obtain ⟨w', H6, ap, mi2, f6, _⟩ := mi.app1 zs8 (by omega) zam0 ex0.wf ex4.next x (bytes := 8) (by omega)
   have ex46 : Ext H4 H6 := ((ex4.fr (S := [])).trans ex.wf f6 (by intro p hp; right; simp at hp; exact mi.new p hp)).ext
   refine ⟨w', H6, ap, fun q4 q5 q6 q9 q10 q11 => ⟨a.length - (i + 1), by omega, (e03.trans ex).trans ex46, ex46, ds ++ [x], w', c', i + 1, mi2, dg.app (Dg.one hx6), by simp [hdl], hc', by omega, rfl, ?_, q4, q5, q6, q9, q10, q11⟩⟩
   rw [zas5, hdl, hta, htb, Nat.pow_succ]
   exact zbo2 hval (by omega)
  simp [t9, t10, t11, l9, l10, hu.len, hgo, hp, hld]
  refine hbx.quietEq ?_
  by_cases hneg : (ai : Int) - bi - c < 0
  ·have wn : IntKind.i64.wrap ((ai : Int) - bi - c + 65536) = ((ai + 65536 - bi - c : Nat) : Int) := by rw [wrap64 (by omega) (by omega)]; omega
   obtain ⟨w', H6, ap, fin⟩ := step (ai + 65536 - bi - c) 1 (by omega) (by omega) (by omega)
   simp [t5, t6, t11, w1, w2, hneg, wn, ap, wi]
   exact fin (by simp [t4]) (by simp) (by simp) (by simp [t9]) (by simp [t10]) (by simp)
  ·have wn : (ai : Int) - bi - c = ((ai - bi - c : Nat) : Int) := by omega
   obtain ⟨w', H6, ap, fin⟩ := step (ai - bi - c) 0 (by omega) (by omega) (by omega)
   rw [wn] at w2 hneg
   simp [t5, t6, t11, w1, wn, w2, hneg, ap, wi]
   exact fin (by simp [t4]) (by simp) (by simp) (by simp [t9]) (by simp [t10]) (by simp)
 ·have hia : i = a.length := by omega
  subst hia
  rw [List.take_length, List.take_of_length_le hba] at hval
  have hlt := zan0 dg
  rw [hdl] at hlt
  have hc0 : c = 0 := by
   refine Classical.byContradiction fun q => ?_
   have : c = 1 := by omega
   rw [this] at hval; omega
  subst hc0
  simp at hval
  simp [t9, t11, l9, hu.len]
  simp [t5, l90]
  refine zcg5 (o := H.next + 2) h80 hw (by omega) ex0 (ex4.keep _ _ (ex.keep _ _ go)) mi (by have := ex.next; omega) dg (by omega) ?_
  rintro u' m' H6 ⟨H7, s7, g7, n7, e7⟩
  have htl := zt4 ds
  simp [t4, s7, zb5, ze1, g7, ze2, seg, zg8]
  exact ⟨zk5 ds, by simpa using n7, by rw [zq9]; omega, by omega, e7⟩
theorem zcd8 (h47 : FT 47 = some (.code A47)) (h81 : FT 81 = some (.code A81)) (h79 : FT 79 = some (.code A79)) (h80 : FT 80 = some (.code A80)) (hw : H.Wf) {x y : AV} {ma mb : Bool} {a b : List Nat} (ha : NumR H x ma a) (hb : NumR H y mb b) (la : a.length <= 90) (lb : b.length <= 90) :
  Cp FT 47 [x, y] H (fun r H' => zcr7 H H' ma mb a b r) := by
 obtain ⟨dga, nma, lena, u, rfl, hcu, hu⟩ := ha
 obtain ⟨dgb, nmb, lenb, v, rfl, hcv, hv⟩ := hb
 refine zb1 A47 h47 rfl ?_
 rw [zci3]
 have hA : A47.results = [.cell 4 (some 2)] := rfl
 rw [hA]
 obtain ⟨ou, cu⟩ := hu.one
 obtain ⟨ov, cv⟩ := hv.one
 have hou : za5 [AV.bool ma, u] = true := by simp [zh1 ou]
 have hov : za5 [AV.bool mb, v] = true := by simp [zh1 ov]
 obtain ⟨g0, e0⟩ := za4 hw (.cells [.bool ma, u])
 obtain ⟨g1, e1⟩ := za4 e0.wf (.cells [.bool mb, v])
 obtain ⟨g2, e2⟩ := za4 e1.wf (.cells [.bool false, .nils])
 have e02 := (e0.trans e1).trans e2
 have g0' := e2.keep _ _ (e1.keep _ _ g0)
 have g1' := e2.keep _ _ g1
 simp [A47, putAt, hou, hov]
 generalize hH3 : ((H.push (.cells [.bool ma, u])).push (.cells [.bool mb, v])).push (.cells [.bool false, .nils]) = H3 at *
 have hn3 : H3.next = H.next + 3 := by rw [<- hH3]; rfl
 have g1' : H3.get (H.next + 1) = some (.cells [.bool mb, v]) := g1'
 have g2' : H3.get (H.next + 2) = some (.cells [.bool false, .nils]) := g2
 have ld : ∀ {H' : Heap}, Ext H3 H' -> za9 H' none (.ptr H.next 1) = some u /\ za9 H' none (.ptr (H.next + 1) 1) = some v /\ za9 H' none (.ptr H.next 0) = some (.bool ma) /\ za9 H' none (.ptr (H.next + 1) 0) = some (.bool mb) /\
   za9 H' (some 2) (.ptr H.next 0) = some (.agg [.bool ma, u]) /\ za9 H' (some 2) (.ptr (H.next + 1) 0) = some (.agg [.bool mb, v]) := fun k =>
  ⟨za1 (k.keep _ _ g0') rfl, za1 (k.keep _ _ g1') rfl, za1 (k.keep _ _ g0') rfl, za1 (k.keep _ _ g1') rfl, zc0 (k.keep _ _ g0') (by simp [seg]), zc0 (k.keep _ _ g1') (by simp [seg])⟩
 obtain ⟨l0, l1, lm0, lm1, lw0, lw1⟩ := ld (Ext.refl e2.wf)
 by_cases hm : ma = mb
 ·subst hm
  simp [lm0, lm1]
  refine zb7 (zcj9 H H3 a b) ?_ (max a.length b.length + 1) _ _ ⟨e02, Ext.refl e2.wf, [], .nils, 0, 0, Mine.nil, Dg.nil, rfl, by omega, by omega, rfl, by omega, by simp [ze9], by simp, by simp, by simp, by simp, by simp, by simp⟩
  rintro n τ H5 ⟨ex, ex3, ds, w, c, i, mi, dg, hdl, hc1, hi, rfl, hic, hval, t2, t3, t4, t5, t6, t7⟩
  obtain ⟨l0, l1, lm0, lm1, lw0, lw1⟩ := ld ex3
  simp only [zi9, zd3]
  by_cases hgo : i < a.length \/ i < b.length \/ 0 < c
  ·have him : i <= max a.length b.length := by
    refine Classical.byContradiction fun q => ?_
    have := hic (by omega)
    rcases hgo with r | r | r <;> omega
   have hax := zan2 (H := H5.up) h79 (hu.ext ex).up (by omega) (i := i) (by omega)
   have hbx := zan2 (H := H5) h79 (hv.ext ex) (by omega) (i := i) (by omega)
   have ha6 := getD_lt dga i
   have hb6 := getD_lt dgb i
   have hta := zq7 a i
   have htb := zq7 b i
   generalize (a[i]?).getD 0 = ai at *
   generalize (b[i]?).getD 0 = bi at *
   have wab : IntKind.i64.wrap ((ai : Int) + (bi : Int)) = ((ai + bi : Nat) : Int) := by rw [wrap64 (by omega) (by omega)]; omega
   have wc : IntKind.i64.wrap (((ai + bi : Nat) : Int) + (c : Int)) = ((ai + bi + c : Nat) : Int) := by rw [wrap64 (by omega) (by omega)]; omega
   obtain ⟨X, hX⟩ : ∃ X : Nat, X = ai + bi + c := ⟨_, rfl⟩
   rw [<- hX] at wc
   have hrem : (X : Int).tmod 65536 = ((X % 65536 : Nat) : Int) := rfl
   have hquo : (X : Int).tdiv 65536 = ((X / 65536 : Nat) : Int) := rfl
   have wq : IntKind.i64.wrap ((X / 65536 : Nat) : Int) = ((X / 65536 : Nat) : Int) := wrap64 (by omega) (by omega)
   have wi : IntKind.i64.wrap ((i : Int) + 1) = ((i + 1 : Nat) : Int) := wrap64 (by omega) (by omega)
   obtain ⟨w', H6, ap, mi2, f6, _⟩ := mi.app1 zs8 (by omega) zam0 ex.wf ex3.next (X % 65536) (bytes := 8) (by omega)
   have ex36 : Ext H3 H6 := ((ex3.fr (S := [])).trans e2.wf f6 (by intro p hp; right; simp at hp; exact mi.new p hp)).ext
   simp only [n64c] at ap
   have fin : ∀ {τ' : Env}, Env.at τ' 2 = .ptr H.next 0 -> Env.at τ' 3 = .ptr (H.next + 1) 0 -> Env.at τ' 4 = .ptr (H.next + 2) 0 -> Env.at τ' 5 = w' -> Env.at τ' 6 = .int .i64 ((X / 65536 : Nat) : Int) -> Env.at τ' 7 = .int .i64 ((i + 1 : Nat) : Int) ->
     ∃ m', m' < max a.length b.length + 1 - i /\ zcj9 H H3 a b m' τ' H6 := by
    intro τ' q2 q3 q4 q5 q6 q7
    refine ⟨max a.length b.length + 1 - (i + 1), by omega, e02.trans ex36, ex36, ds ++ [X % 65536], w', X / 65536, i + 1, mi2, dg.app (Dg.one (by omega)), by simp [hdl], by omega, by omega, rfl, fun q => ?_, ?_, q2, q3, q4, q5, q6, q7⟩
    ·have h1 : a.length <= i := by omega
     have h2 : b.length <= i := by omega
     rw [List.take_of_length_le h1, List.take_of_length_le (by omega)] at hta
     rw [List.take_of_length_le h2, List.take_of_length_le (by omega)] at htb
     have hp : 0 < 65536 ^ i := Nat.pow_pos (by omega)
     have h3 : ai = 0 := by
      rcases Nat.mul_eq_zero.1 (show 65536 ^ i * ai = 0 by omega) with r | r
      ·omega
      ·exact r
     have h4 : bi = 0 := by
      rcases Nat.mul_eq_zero.1 (show 65536 ^ i * bi = 0 by omega) with r | r
      ·omega
      ·exact r
     omega
    ·rw [zas5, hdl, hta, htb, Nat.pow_succ]
     exact zbo4 hval (by omega)
   by_cases h1 : i < a.length
   ·simp [t2, t7, l0, hu.len, h1]
    refine hax.quietEq ?_
    simp [t3, t7, l1]
    refine hbx.mono ?_
    rintro _ H5 ⟨rfl, rfl⟩
    simp [-Int.natCast_add, -Int.natCast_emod, -Int.natCast_ediv, t5, t6, t7, wab, wc, hrem, hquo, wq, ap, wi]
    exact fin (by simp [t2]) (by simp [t3]) (by simp [t4]) (by simp) (by simp) (by simp)
   ·by_cases h2 : i < b.length
    ·simp [t2, t3, t7, l0, l1, hu.len, hv.len, h1, h2]
     refine hax.quietEq ?_
     simp [t3, t7, l1]
     refine hbx.mono ?_
     rintro _ H5 ⟨rfl, rfl⟩
     simp [-Int.natCast_add, -Int.natCast_emod, -Int.natCast_ediv, t5, t6, t7, wab, wc, hrem, hquo, wq, ap, wi]
     exact fin (by simp [t2]) (by simp [t3]) (by simp [t4]) (by simp) (by simp) (by simp)
    ·have h3 : 0 < c := by omega
     simp [t2, t3, t6, t7, l0, l1, hu.len, hv.len, h1, h2, h3]
     refine hax.quietEq ?_
     simp [t3, t7, l1]
     refine hbx.mono ?_
     rintro _ H5 ⟨rfl, rfl⟩
     simp [-Int.natCast_add, -Int.natCast_emod, -Int.natCast_ediv, t5, t6, t7, wab, wc, hrem, hquo, wq, ap, wi]
     exact fin (by simp [t2]) (by simp [t3]) (by simp [t4]) (by simp) (by simp) (by simp)
  ·have h1 : ¬ i < a.length := fun q => hgo (.inl q)
   have h2 : ¬ i < b.length := fun q => hgo (.inr (.inl q))
   have h3 : c = 0 := by omega
   subst h3
   rw [List.take_of_length_le (by omega), List.take_of_length_le (by omega)] at hval
   simp at hval
   simp [t2, t3, t6, t7, l0, l1, hu.len, hv.len, h1, h2]
   simp [zbd6, zf3, A47, t2, t5, lm0]
   refine zcg5 (o := H.next + 2) h80 hw (by omega) ex (ex3.keep _ _ g2') mi (by omega) dg (by omega) ?_
   rintro u' m' H6 ⟨H7, s7, g7, n7, e7⟩
   simp [t4, s7, zb5, ze1, g7, ze2, seg, zg8]
   refine ⟨_, _, n7, ?_, by simp, by have := zt4 ds; omega, e7⟩
   unfold zval
   rw [zq9, hval]
   cases ma with
   | false => simp
   | true =>
    by_cases hz : zk5 ds = []
    ·have : ze9 ds = 0 := by rw [<- zq9, hz]; rfl
     simp [hz]; omega
    ·simp [hz]; omega
 ·have hmb : (ma == mb) = false := by simpa using hm
  have hsz := zbw9 h81 (hu.ext e02) (hv.ext e02) dga dgb nma nmb (by omega) (by omega)
  have hz : ∀ {m : Bool} {ds : List Nat} {A B : List Nat}, ze9 B <= ze9 A -> ze9 ds = ze9 A - ze9 B -> zval (m && decide (ds ≠ [])) ds = zval m A + zval (!m) B := by
   intro m ds A B h1 h2
   unfold zval
   cases m with
   | false => simp; omega
   | true =>
    by_cases hd : ds = []
    ·have : ze9 ds = 0 := by rw [hd]; rfl
     simp [hd, ze9]; omega
    ·simp [hd]; omega
  obtain ⟨g9, e9⟩ := za4 e2.wf (.cells [.bool ma, u])
  obtain ⟨g10, e10⟩ := za4 e9.wf (.cells [.bool mb, v])
  obtain ⟨H4, s4, g4, e4, n4⟩ := zd4 e2.wf (z := [.bool false, .nils]) (n := 2) (x := .agg [.bool ma, u]) (cs := [.bool ma, u]) rfl rfl rfl hou
  obtain ⟨_, _, _, _, _, lw14⟩ := ld e4
  obtain ⟨H5, s5, g5, e5, n5⟩ := zd4 e4.wf (z := [.bool false, .nils]) (n := 2) (x := .agg [.bool mb, v]) (cs := [.bool mb, v]) rfl rfl rfl hov
  have e35 := e4.trans e5
  obtain ⟨l05, l15, _, _, lw05, lw15⟩ := ld e35
  have g45 := e5.keep _ _ g4
  have hne : H4.next ≠ H3.next := by omega
  have hsz5 := zbw9 h81 (hu.ext (e02.trans e35)) (hv.ext (e02.trans e35)) dga dgb nma nmb (by omega) (by omega)
  simp [lm0, lm1, hmb, lw0, s4, lw14, s5, l05, l15]
  refine hsz5.mono ?_
  rintro _ H5 ⟨n, rfl, hn1, hn2, rfl⟩
  by_cases hneg : n < 0
  ·have hlt := hn1.1 hneg
   have hfl : H5.floor <= H3.next := by rw [e35.floor]; exact e2.wf.1
   obtain ⟨H6, s6, g6, f6⟩ := ze0 (n := 2) (x := .agg [.bool mb, v]) e35.wf rfl rfl hfl g45 rfl hov
   have e36 : Ext H3 H6 := ((e35.fr (S := [])).trans e2.wf f6 (by simp)).ext
   obtain ⟨_, _, _, _, lw06, _⟩ := ld e36
   have g56 := f6.keep _ _ (by simp [hne]) g5
   obtain ⟨H7, s7, g7, f7⟩ := ze0 (n := 2) (x := .agg [.bool ma, u]) f6.wf rfl rfl (by rw [e36.floor]; have := e2.wf.1; omega) g56 rfl hou
   have e37 : Ext H3 H7 := ((e36.fr (S := [])).trans e2.wf f7 (by simp; omega)).ext
   have g67 := f7.keep _ _ (by simp; omega) g6
   simp [hneg, lw15, s6, lw06, s7]
   refine (zcc1 h79 h80 hw e2.wf e02 e37 (hv.ext e02) (hu.ext e02) dgb dga nmb nma lb la (by omega) (by omega) g67 g7 g2' (by simp) (by simp) (by simp) (by simp) (by simp)).fin ?_
   rintro r H' ⟨ds, k1, k2, k3, k4⟩
   refine ⟨_, ds, k1, ?_, by simp, by omega, k4⟩
   rw [hz (by omega) k2]
   cases ma <;> cases mb <;> simp at hm ⊢ <;> omega
  ·have hge : ze9 b <= ze9 a := by
    refine Classical.byContradiction fun q => hneg (hn1.2 (by omega))
   simp [hneg]
   refine (zcc1 h79 h80 hw e2.wf e02 e35 (hu.ext e02) (hv.ext e02) dga dgb nma nmb la lb hge (by omega) g45 g5 g2' (by simp) (by simp) (by simp) (by simp) (by simp)).fin ?_
   rintro r H' ⟨ds, k1, k2, k3, k4⟩
   refine ⟨_, ds, k1, ?_, by simp, by omega, k4⟩
   rw [hz (by omega) k2]
   cases ma <;> cases mb <;> simp at hm ⊢
end
end Go.Proofs.Ytcepchipgjpkhaa
namespace Go.Proofs.Ytcepchipgjpkhaa
open Go Go.AI
theorem zce2 {ds : List Nat} {k : Nat} (h : Nm ds) (hv : ze9 ds < 65536 ^ k) : ds.length <= k := by
 refine Classical.byContradiction fun q => ?_
 have h2 := zan1 h (fun r => by rw [r] at q; simp at q)
 have h3 : 65536 ^ k <= 65536 ^ (ds.length - 1) := Nat.pow_le_pow_right (by omega) (by omega)
 omega
theorem NumR.up {H : Heap} {v : AV} {m : Bool} {ds : List Nat} (h : NumR H v m ds) : NumR H.up v m ds := ⟨h.dg, h.nm, h.len, h.at_⟩
theorem NumR.fl {H : Heap} {v : AV} {m : Bool} {ds : List Nat} {f : Nat} (h : NumR H v m ds) : NumR { H with floor := f } v m ds := ⟨h.dg, h.nm, h.len, h.at_⟩
theorem NumR.cells {H : Heap} {v : AV} {m : Bool} {ds : List Nat} (h : NumR H v m ds) : ∃ u, v = .agg [.bool m, u] /\ za5 [AV.bool m, u] = true := by
 obtain ⟨_, _, _, u, rfl, _, hu⟩ := h
 exact ⟨u, rfl, by simp [zh1 hu.one.1]⟩
section
variable {FT : Nat -> Option FnD} {H : Heap}
end
end Go.Proofs.Ytcepchipgjpkhaa
