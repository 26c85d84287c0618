/- The graph of a list of edges, and its greatest matching. No claim by itself. -/
import Derived.Test.YtcepchipgjpkhaaWB
import Derived.Test.YtcepchipgjpkhaaS1
namespace Go.Proofs.Ytcepchipgjpkhaa.Gr
open Go Go.AI
def zu9 (l : List (Int × Int)) : List (Nat × Nat) := l.map fun p => (p.1.toNat, p.2.toNat)
def Adj (L : List (Nat × Nat)) (a b : Nat) : Prop := b ∈ zv6 L a
theorem zah5 {L : List (Nat × Nat)} {a b : Nat} : Adj L a b ↔ (a, b) ∈ L \/ (b, a) ∈ L := zaj9
theorem zm4 {n : Int} {l : List (Int × Int)} (h : zj2 n l = true) : 0 <= n /\ n <= 1000 /\ ∀ a b, (a, b) ∈ l -> 0 <= a /\ 0 <= b /\ a < n /\ b < n /\ a ≠ b := by
 unfold zj2 at h
 simp only [Bool.and_eq_true, decide_eq_true_eq, List.all_eq_true] at h
 obtain ⟨⟨h1, h2⟩, h3⟩ := h
 refine ⟨h1, h2, fun a b hm => ?_⟩
 have := h3 _ hm
 simp only [badE, Bool.not_or, Bool.and_eq_true, Bool.not_eq_true', decide_eq_false_iff_not] at this
 omega
theorem zbp8 {n : Int} {l : List (Int × Int)} (h1 : 0 <= n) (h2 : n <= 1000) (h : ∀ a b, (a, b) ∈ l -> 0 <= a /\ 0 <= b /\ a < n /\ b < n /\ a ≠ b) : zj2 n l = true := by
 unfold zj2
 simp only [Bool.and_eq_true, decide_eq_true_eq, List.all_eq_true]
 refine ⟨⟨h1, h2⟩, fun p hp => ?_⟩
 obtain ⟨a, b⟩ := p
 have := h a b hp
 simp only [badE, Bool.not_or, Bool.and_eq_true, Bool.not_eq_true', decide_eq_false_iff_not]
 omega
theorem zbf8 {n : Int} {l : List (Int × Int)} (h : zj2 n l = true) : (zu9 l).map up2 = l := by
 unfold zu9
 rw [List.map_map]
 refine (List.map_congr_left fun p hp => ?_).trans (List.map_id l)
 obtain ⟨a, b⟩ := p
 have := (zm4 h).2.2 a b hp
 simp only [Function.comp, up2, id]
 rw [Prod.mk.injEq]; omega
theorem zs7 {n : Int} {l : List (Int × Int)} (h : zj2 n l = true) {a b : Nat} : (a, b) ∈ zu9 l ↔ ((a : Int), (b : Int)) ∈ l := by
 conv => rhs; rw [<- zbf8 h]
 rw [List.mem_map]
 constructor
 ·intro q; exact ⟨_, q, rfl⟩
 ·rintro ⟨⟨x, y⟩, q, e⟩
  simp only [up2, Prod.mk.injEq] at e
  have e1 : x = a := by omega
  have e2 : y = b := by omega
  subst e1; subst e2; exact q
theorem zb45 {n : Int} {l : List (Int × Int)} (h : zj2 n l = true) : ∀ a b, (a, b) ∈ zu9 l -> a < n.toNat /\ b < n.toNat := by
 intro a b hm
 have := (zm4 h).2.2 _ _ ((zs7 h).1 hm)
 omega
theorem zbi1 {n : Int} {l : List (Int × Int)} (h : zj2 n l = true) : Gph n.toNat (Adj (zu9 l)) := by
 have key : ∀ {a b}, Adj (zu9 l) a b -> a < n.toNat /\ a ≠ b := by
  intro a b q
  rcases zah5.1 q with q | q
  ·have := (zm4 h).2.2 _ _ ((zs7 h).1 q); omega
  ·have := (zm4 h).2.2 _ _ ((zs7 h).1 q); omega
 exact ⟨fun q => zah5.2 (zah5.1 q).symm, fun q => (key q).1, fun q => (key q).2⟩
def maxOf (n : Nat) (L : List (Nat × Nat)) : Nat -> Option Nat := (maxM n (zv6 L) (n + 2) (List.range n) fun _ => none).getD fun _ => none
theorem zam1 {n : Int} {l : List (Int × Int)} (h : zj2 n l = true) : maxM n.toNat (zv6 (zu9 l)) (n.toNat + 2) (List.range n.toNat) (fun _ => none) = some (maxOf n.toNat (zu9 l)) /\ Mt (Adj (zu9 l)) (maxOf n.toNat (zu9 l)) /\ ∀ m2, Mt (Adj (zu9 l)) m2 -> cnt n.toNat m2 <= cnt n.toNat (maxOf n.toNat (zu9 l)) := by
 have hr := zm4 h
 obtain ⟨m', k1, k2, k3⟩ := zbg4 (zbi1 h) (next := zv6 (zu9 l)) (fun {a b} => Iff.rfl) (F := n.toNat + 2) (by omega) (by omega)
 have e : maxOf n.toNat (zu9 l) = m' := by unfold maxOf; rw [k1]; rfl
 rw [e]; exact ⟨k1, k2, k3⟩
def zv4 (n : Nat) (m : Nat -> Option Nat) : List Int := (List.range n).map fun i => oi (m i)
theorem zm7 {n : Nat} {m : Nat -> Option Nat} : (zv4 n m).length = n := by simp [zv4]
theorem zz4 {n i : Nat} {m : Nat -> Option Nat} (h : i < n) : (zv4 n m)[i]? = some (oi (m i)) := by simp [zv4, h]
theorem za24 {l : List (Int × Int)} {a b : Int} : z00 (hasE a b) l = true ↔ (a, b) ∈ l \/ (b, a) ∈ l := by
 unfold z00
 rw [List.any_eq_true]
 constructor
 ·rintro ⟨⟨x, y⟩, hm, he⟩
  simp only [hasE, Bool.or_eq_true, Bool.and_eq_true, beq_iff_eq] at he
  rcases he with ⟨rfl, rfl⟩ | ⟨rfl, rfl⟩
  ·exact .inl hm
  ·exact .inr hm
 ·rintro (h | h)
  ·exact ⟨_, h, by simp [hasE]⟩
  ·exact ⟨_, h, by simp [hasE]⟩
theorem zby4 {n : Int} {l : List (Int × Int)} (h : zj2 n l = true) {m : Nat -> Option Nat} (hm : Mt (Adj (zu9 l)) m) : isM n l (zv4 n.toNat m) = true := by
 have hr := zm4 h
 unfold isM
 rw [h, zm7]
 have e : (((n.toNat : Nat) : Int) == n) = true := by rw [beq_iff_eq]; omega
 rw [e]
 simp only [Bool.true_and]
 unfold zah0
 rw [List.all_eq_true]
 intro i hi
 have hi := List.mem_range.1 hi
 unfold okAt
 rw [zz4 hi]
 simp only
 cases hmi : m i with
 | none => simp
 | some k =>
  have hE := hm.edge hmi
  have hk := (zbi1 h).lt ((zbi1 h).sym hE)
  have hki := hm.sym hmi
  have ht : z00 (hasE (i : Int) (k : Int)) l = true := by
   rw [za24]
   rcases zah5.1 hE with q | q
   ·exact .inl ((zs7 h).1 q)
   ·exact .inr ((zs7 h).1 q)
  have h1 : ¬ ((k : Int) < 0) := by omega
  have h2 : ¬ (n <= (k : Int)) := by omega
  simp [zz4 hk, hki, ht, h1, h2]
def zaw7 (mate : List Int) (i : Nat) : Option Nat := match mate[i]? with | some k => if k < 0 then none else some k.toNat | none => none
theorem zbh4 {n : Int} {l : List (Int × Int)} {mate : List Int} (h : isM n l mate = true) : zj2 n l = true /\ mate = zv4 n.toNat (zaw7 mate) /\ Mt (Adj (zu9 l)) (zaw7 mate) := by
 unfold isM at h
 simp only [Bool.and_eq_true, beq_iff_eq] at h
 obtain ⟨⟨h1, h2⟩, h3⟩ := h
 have hr := zm4 h1
 unfold zah0 at h3
 rw [List.all_eq_true] at h3
 have at_ : ∀ (i : Nat) (k : Int), mate[i]? = some k -> k = -1 \/ (0 <= k /\ k < n /\ mate[k.toNat]? = some (i : Int) /\ (((i : Int), k) ∈ l \/ (k, (i : Int)) ∈ l)) := by
  intro i k hk
  have hi := (List.getElem?_eq_some_iff.1 hk).1
  have := h3 i (List.mem_range.2 hi)
  unfold okAt at this
  rw [hk] at this
  simp only [Bool.or_eq_true, Bool.and_eq_true, beq_iff_eq, Bool.not_eq_true', decide_eq_false_iff_not] at this
  rcases this with q | ⟨⟨⟨q1, q2⟩, q3⟩, q4⟩
  ·exact .inl q
  ·refine .inr ⟨by omega, by omega, ?_, za24.1 q4⟩
   have hk' : k.toNat < mate.length := by omega
   rw [List.getD, List.getElem?_eq_getElem hk'] at q3
   rw [List.getElem?_eq_getElem hk']
   simp only [Option.getD_some] at q3
   rw [q3]
 refine ⟨h1, ?_, ?_, ?_⟩
 ·apply List.ext_getElem?
  intro i
  by_cases hi : i < n.toNat
  ·rw [zz4 hi]
   have hi' : i < mate.length := by omega
   have hg : mate[i]? = some mate[i] := List.getElem?_eq_getElem hi'
   unfold zaw7
   rw [hg]
   simp only
   rcases at_ i _ hg with q | q
   ·rw [q]; rfl
   ·rw [if_neg (by omega), z92]; congr 1; omega
  ·rw [List.getElem?_eq_none (by omega), List.getElem?_eq_none (by rw [zm7]; omega)]
 ·intro i k hik
  unfold zaw7 at hik ⊢
  cases hg : mate[i]? with
  | none => rw [hg] at hik; cases hik
  | some x =>
   rw [hg] at hik; simp only at hik
   split at hik
   ·cases hik
   ·rename_i hx
    cases hik
    rcases at_ i x hg with q | ⟨_, _, q, _⟩
    ·omega
    ·rw [q]; simp
 ·intro i k hik
  unfold zaw7 at hik
  cases hg : mate[i]? with
  | none => rw [hg] at hik; cases hik
  | some x =>
   rw [hg] at hik; simp only at hik
   split at hik
   ·cases hik
   ·rename_i hx
    cases hik
    rcases at_ i x hg with q | ⟨q0, _, _, q⟩
    ·omega
    ·have e : ((x.toNat : Nat) : Int) = x := by omega
     rw [zah5, zs7 h1, zs7 h1, e]; exact q
end Go.Proofs.Ytcepchipgjpkhaa.Gr
namespace Go.Proofs.Ytcepchipgjpkhaa.Gr
open Go Go.AI
structure TB (FT : Nat -> Option FnD) : Prop where
 h10 : FT 69 = some (.code A69)
 h15 : FT 95 = some (.code A95)
 h17 : FT 32 = some (.code A32)
 h21 : FT 97 = some (.code A97)
 h22 : FT 98 = some (.code A98)
 h23 : FT 99 = some (.code A99)
 h24 : FT 100 = some (.code A100)
 h25 : FT 101 = some (.code A101)
 h28 : FT 108 = some (.code A108)
 h30 : FT 128 = some (.code A128)
 h31 : FT 129 = some (.code A129)
 h32 : FT 130 = some (.code A130)
 h33 : FT 131 = some (.code A131)
 h34 : FT 132 = some (.code A132)
 h35 : FT 133 = some (.code A133)
 h36 : FT 134 = some (.code A134)
 h37 : FT 152 = some (.code A152)
 h39 : FT 154 = some (.code A154)
 h40 : FT 155 = some (.code A155)
 h41 : FT 156 = some (.code A156)
theorem zaz7 {n : Nat} {par : Nat -> Option Nat} : ∀ {f x : Nat} {m m' : Nat -> Option Nat}, (∀ {y w}, m y = some w -> w < n) -> zah9 n par f x m = some m' -> ∀ {y w}, m' y = some w -> w < n
 | 0, _, _, _, _, h => by cases h
 | f + 1, x, m, m', hm, h => by
  unfold zah9 at h
  by_cases hx : x < n
  ·rw [if_pos hx] at h
   cases hp : par x with
   | none => rw [hp] at h; cases h
   | some p =>
    rw [hp] at h; simp only at h
    by_cases hpn : p < n
    ·rw [if_pos hpn] at h
     have hu : ∀ {y w}, upd (upd m x (some p)) p (some x) y = some w -> w < n := by
      intro y w e
      by_cases e1 : y = p
      ·subst e1; rw [upd_same] at e; cases e; exact hx
      ·rw [upd_ne e1] at e
       by_cases e2 : y = x
       ·subst e2; rw [upd_same] at e; cases e; exact hpn
       ·rw [upd_ne e2] at e; exact hm e
     cases ha : m p with
     | none => rw [ha] at h; cases h; exact hu
     | some a => rw [ha] at h; exact zaz7 hu h
    ·rw [if_neg hpn] at h; cases h
  ·rw [if_neg hx] at h; cases h
section
variable {FT : Nat -> Option FnD} {S : Nat -> Prop} {H0 H : Heap} {n : Nat} {c : FC} {m : Nat -> Option Nat} {s : St} {ks : List Nat} {next : Nat -> List Nat}
theorem FS.ints (fs : FS S H0 H n c m s ks) : Ints H (.slc c.om 0 n 1 c.lm c.xm) (zv4 n m) := by
 refine .inr ⟨c.om, 0, c.lm, c.xm, zi3 n m, by rw [zm7], za3 fs.gm, ?_⟩
 intro i x hx
 have hi : i < n := by have := (List.getElem?_eq_some_iff.1 hx).1; rwa [zm7] at this
 rw [zz4 hi] at hx; cases hx
 have hb : Nat.ble (0 + i * 1 + 1) (zi3 n m).length = true := Nat.ble_eq_true_of_le (by rw [zi3, zn6]; omega)
 simp only [seg, hb, cond_true]
 congr 1
 have hl : i < (zi3 n m).length := by rw [zi3, zn6]; exact hi
 rw [Nat.zero_add, Nat.mul_one, List.drop_eq_getElem_cons hl]
 have : (zi3 n m)[i]? = some (.int .i64 (oi (m i))) := zp5 hi
 rw [List.getElem?_eq_getElem hl] at this
 rw [Option.some.inj this]
 rfl
theorem za77 {n i : Nat} (h : i < n) : (List.range n).drop i = i :: (List.range n).drop (i + 1) := by
 rw [List.drop_eq_getElem_cons (by simpa using h)]; simp
theorem zb48 (tb : TB FT) (hw : H.Wf) {n : Int} {v : AV} {l : List (Int × Int)} (h : zh3 H v l) (hll : l.length <= 1000000) :
  Cp FT 69 [.int .i64 n, v] H (fun r H' => Ext H H' /\ ((zj2 n l = true /\ ∃ u, r = .tup [u, .int .i64 0] /\ Ints H' u (zv4 n.toNat (maxOf n.toNat (zu9 l))) /\ ∀ o, rowObj u = some o -> H.next <= o) \/ (zj2 n l = false /\ r = .tup [.nils, .int .i64 2]))) := by
 refine zb1 A69 tb.h10 rfl ?_
 simp [A69]
 refine (zbd4 tb.h21 tb.h30 tb.h31 tb.h37 h hw (by omega)).mono ?_
 rintro r H1 ⟨rfl, he1⟩
 cases hr : zj2 n l with
 | false => simp; exact he1
 | true =>
  have hrm := zm4 hr
  obtain ⟨N, rfl⟩ : ∃ N : Nat, n = (N : Int) := ⟨n.toNat, by omega⟩
  obtain ⟨k1, k2, k3⟩ := zam1 hr
  rw [Int.toNat_natCast] at *
  generalize hmx : maxOf N (zu9 l) = mx at k1 k2 k3
  simp
  have hw1 := he1.wf
  have gq : (H1.push (.cells [.int .i64 (-1)])).get H1.next = some (.cells [.int .i64 (-1)]) := za6.trans (if_pos rfl)
  refine (zbp9 tb.h23 tb.h33 tb.h39 (hw1.push _) gq (n := N) (by omega)).mono ?_
  rintro r H2 ⟨rfl, g2, n2, he2⟩
  simp
  have heH2 : Ext H H2 := (he1.trans (Ext.push hw1 _)).trans he2
  have hP : zh3 H2 v ((zu9 l).map up2) := by rw [zbf8 hr]; exact h.ext heH2
  have hlt := zb45 hr
  rw [Int.toNat_natCast] at hlt
  have hsg : seg (zi3 N fun _ => none) 0 N = some (zi3 N fun _ => none) := by
   have hb : Nat.ble (0 + N) (zi3 N fun _ => none).length = true := Nat.ble_eq_true_of_le (by rw [zi3, zn6]; omega)
   simp only [seg, hb, cond_true, List.drop_zero]
   rw [List.take_of_length_le (by rw [zi3, zn6]; omega)]
  refine (zb10 tb.h22 tb.h32 (n := N) he2.wf hP hlt g2 hsg (by omega) (by unfold zu9; rw [List.length_map]; exact hll)).mono ?_
  rintro r H3 ⟨c, S, rfl, fs, nx, he3, hS⟩
  simp
  have heH3 := heH2.trans he3
  refine zb7 (fun f τ H' => ∃ (i : Nat) (m0 : Nat -> Option Nat) (s : St) (ks : List Nat), i <= N /\ f = N - i /\ maxM N (zv6 (zu9 l)) (N + 2) ((List.range N).drop i) m0 = some mx /\ (∀ {y w}, m0 y = some w -> w < N) /\ FS S H3 H' N c m0 s ks /\ Env.at τ 6 = .ptr c.f 0 /\ Env.at τ 19 = .int .i64 (N : Int) /\ Env.at τ 20 = .int .i64 (i : Int)) ?_ N _ _ ⟨0, _, s00, [], by omega, rfl, k1, (by intro y w e; cases e), fs, by simp, by simp, by simp⟩
  rintro f τ H4 ⟨i, m0, s, ks, hi, rfl, hmM, hm0, fs4, t6, t19, t20⟩
  simp only [zi9, zd3]
  by_cases hc : i < N
  ·have w : IntKind.i64.wrap ((i : Int) + 1) = ((i + 1 : Nat) : Int) := wrap64 (by omega) (by omega)
   rw [za77 hc] at hmM
   unfold maxM at hmM
   cases hmi : m0 i with
   | some k =>
    rw [hmi] at hmM
    simp only [Option.isSome_some, if_true] at hmM
    simp [t6, t19, t20, hc, fs4.f1, fs4.lm hc, hmi, w]
    exact ⟨_, by omega, i + 1, by omega, rfl, m0, hmM, hm0, ⟨s, ks, fs4⟩, by simp⟩
   | none =>
    rw [hmi] at hmM
    simp only [Option.isSome_none] at hmM
    rw [if_neg (by simp)] at hmM
    unfold step at hmM
    cases hf : zas1 N m0 (zv6 (zu9 l)) i (N + 2) (N + 2) (zj9 i) with
    | none => rw [hf] at hmM; cases hmM
    | some x =>
     obtain ⟨r, s'⟩ := x
     rw [hf] at hmM
     simp [t6, t19, t20, hc, fs4.f1, fs4.lm hc, hmi]
     refine (zcg4 tb.h24 tb.h34 tb.h35 tb.h40 tb.h41 fs4 nx (by omega) (fun e => hm0 e) (fun {x y} hy => by
      rcases zaj9.1 hy with q | q
      ·exact (hlt _ _ q).2
      ·exact (hlt _ _ q).1) (fun x => by have := za67 (l := zu9 l) (a := x); have : (zu9 l).length = l.length := (by unfold zu9; rw [List.length_map]); omega) hc hf).mono ?_
     rintro _ H5 ⟨rfl, ks5, fs5⟩
     cases r with
     | none =>
      simp only at hmM
      simp [t6, t19, t20, w]
      exact ⟨_, by omega, i + 1, by omega, rfl, m0, hmM, hm0, ⟨s', ks5, fs5⟩, by simp⟩
     | some t =>
      simp only at hmM
      cases ht : zah9 N s'.par (N + 2) t m0 with
      | none => rw [ht] at hmM; cases hmM
      | some m1 =>
       rw [ht] at hmM; simp only at hmM
       simp [t6, t19, t20]
       refine (zcb6 tb.h25 fs5 ht).mono ?_
       rintro _ H6 fs6
       simp [t6, t19, t20, w]
       exact ⟨_, by omega, i + 1, by omega, rfl, m1, hmM, zaz7 hm0 ht, ⟨s', ks5, fs6⟩, by simp⟩
  ·have : i = N := by omega
   subst this
   rw [List.drop_eq_nil_of_le (by simp)] at hmM
   cases hmM
   simp [t6, t19, t20, fs4.f1]
   refine ⟨⟨fs4.fl.trans heH3.floor, ?_, ?_, fs4.wf⟩, fs4.ints, fun o q => ?_⟩
   ·refine Classical.byContradiction fun q => ?_
    have := (fs4.frz H4.next (hS _ (by have := heH2.next; omega))).2
    omega
   ·intro o x e
    have ho : o < H.next := Classical.byContradiction fun q => by
     have := hw.2 o (by omega); rw [this] at e; cases e
    rw [(fs4.frz o (hS o (by have := heH2.next; omega))).1]; exact heH3.keep o x e
   ·cases q
    refine Classical.byContradiction fun k => ?_
    exact (fs4.ge c.om (by simp [FC.own])).2.2 (hS _ (by have := heH2.next; omega))
end
end Go.Proofs.Ytcepchipgjpkhaa.Gr
