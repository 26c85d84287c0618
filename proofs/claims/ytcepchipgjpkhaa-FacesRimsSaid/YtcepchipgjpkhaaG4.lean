/- The document's parts of faces, walked. No claim by itself. -/
import Derived.Test.YtcepchipgjpkhaaG3
namespace Go.Proofs.Ytcepchipgjpkhaa
open Go Go.AI
section
variable {FT : Nat → Option FnD} {H : Heap}
def k34a : ACode := subAt [1, 1, 1, 1, 0, 1] A34.body
def k34b : ACode := subAt [1, 1, 1, 1, 1, 0, 1] A34.body
def k34i : ACode := subAt [0, 0, 1, 0, 0, 1] k34b
def k34k : ACode := subAt [0, 0, 1, 0, 0, 1] k34i
def k34j : ACode := subAt [0, 0, 1, 0, 0, 1, 1, 1] k34k
def k34n : ACode := subAt [1, 1, 1, 1, 1, 1, 1, 1, 0, 1] A34.body
def k34m : ACode := subAt [1, 1, 1, 1, 1, 1, 1, 1, 1, 0, 1] A34.body
theorem body34 : A34.body = putAt [1, 1, 1, 1, 0, 1] (putAt [1, 1, 1, 1, 1, 0, 1] (putAt [1, 1, 1, 1, 1, 1, 1, 1, 0, 1] (putAt [1, 1, 1, 1, 1, 1, 1, 1, 1, 0, 1] A34.body k34m) k34n) k34b) k34a := rfl
theorem body34b : k34b = putAt [0, 0, 1, 0, 0, 1] k34b k34i := rfl
theorem body34i : k34i = putAt [0, 0, 1, 0, 0, 1] k34i k34k := rfl
theorem body34k : k34k = putAt [0, 0, 1, 0, 0, 1, 1, 1] k34k k34j := rfl
/-- Faces that stay while one row is written. -/
structure Sit (H Hb : Heap) (vF : AV) (F : List (List Int)) (o : Nat) : Prop where
  wf : H.Wf
  gd : Gd H vF F
  sz : Fsz F
  ex : Ext H Hb
  no : H.next ≤ o
theorem Sit.gdAt {H Hb H' : Heap} {vF : AV} {F : List (List Int)} {o : Nat} (s : Sit H Hb vF F o) (f : Fr [o] Hb H') : Gd H' vF F :=
  s.gd.ext (ext_fr s.wf s.ex f (fun p hp => by simp at hp; rw [hp]; exact s.no))
theorem Sit.extAt {H Hb H' : Heap} {vF : AV} {F : List (List Int)} {o : Nat} (s : Sit H Hb vF F o) (f : Fr [o] Hb H') : Ext H H' :=
  ext_fr s.wf s.ex f (fun p hp => by simp at hp; rw [hp]; exact s.no)
/-- What one stretch of spreading comes to. -/
structure Spr (F : List (List Int)) (out out' : List Int) (P : Nat → Nat → Prop) : Prop where
  inv : MInv F out'
  keep : ∀ k, goodM F out k → goodM F out' k
  met : ∀ {i v}, P i v → goodM F out i → goodM F out' v
theorem Spr.start {F : List (List Int)} {out : List Int} (h : MInv F out) : Spr F out out (fun _ _ => False) := ⟨h, fun _ q => q, fun q => q.elim⟩
theorem Spr.then {F : List (List Int)} {a b c : List Int} {P Q R : Nat → Nat → Prop} (h : Spr F a b P) (k : Spr F b c Q) (hr : ∀ {i v}, R i v → P i v ∨ Q i v) : Spr F a c R :=
  ⟨k.inv, fun x q => k.keep x (h.keep x q), fun {i v} r q => (hr r).elim (fun p => k.keep v (h.met p q)) (fun p => k.met p (h.keep i q))⟩
theorem Spr.weak {F : List (List Int)} {a b : List Int} {P R : Nat → Nat → Prop} (h : Spr F a b P) (hr : ∀ {i v}, R i v → P i v) : Spr F a b R := ⟨h.inv, h.keep, fun r => h.met (hr r)⟩
theorem spr_meet {F : List (List Int)} {out : List Int} (h : MInv F out) {i j : Nat} {x y : Int} (hx : out[i]? = some x) (hy : out[j]? = some y) (ha : Adj F i j) : Spr F out ((out.set i (min x y)).set j (min x y)) (fun u v => u = i ∧ v = j) := by
  obtain ⟨h1, h2, h3⟩ := h.meet hx hy ha
  exact ⟨h1, h3, fun ⟨e1, e2⟩ q => by rw [e1] at q; rw [e2]; exact h2 q⟩
structure Pj1 (Hb H' : Heap) (vF v4 x6 : AV) (F : List (List Int)) (o : Nat) (i k : Nat) (s : Int × Int) (out out' : List Int) (τ : Env) (j m : Nat) : Prop where
  fr : Fr [o] Hb H'
  arr : Arr intV H' v4 o out'
  spr : Spr F out out' (fun u v => u = i ∧ v < j ∧ ∃ g, F[v]? = some g ∧ rev s ∈ edgesF g)
  le : j ≤ F.length
  hm : m = F.length - j
  t : Tm τ [(0, vF), (4, v4), (6, x6), (7, .int .i64 i), (8, .int .i64 k), (9, .int .i64 s.2), (10, .int .i64 j)]
structure Pqj (Hb H' : Heap) (vF v4 x6 : AV) (F : List (List Int)) (o : Nat) (i k : Nat) (out out' : List Int) (P : Nat → Nat → Prop) (τ : Env) : Prop where
  fr : Fr [o] Hb H'
  arr : Arr intV H' v4 o out'
  spr : Spr F out out' P
  t : Tm τ [(0, vF), (4, v4), (6, x6), (7, .int .i64 i), (8, .int .i64 k)]
theorem parts_j (h61 : FT 61 = some (.code A61)) {Hb H0 : Heap} {vF v4 x6 : AV} {F : List (List Int)} {o i k : Nat} {s : Int × Int} {f : List Int} {out : List Int} (S : Sit H Hb vF F o) (f0 : Fr [o] Hb H0) (ha : Arr intV H0 v4 o out) (inv : MInv F out) (hf : F[i]? = some f) (hk : f[k]? = some s.1) (hs : s ∈ edgesF f) {τ0 : Env}
    (u : Tm τ0 [(0, vF), (4, v4), (6, x6), (7, .int .i64 i), (8, .int .i64 k), (9, .int .i64 s.2), (10, .int .i64 0)]) :
    Wp FT k34j τ0 H0 (fun c τ H' => c = .next ∧ ∃ out', Pqj Hb H' vF v4 x6 F o i k out out' (fun u v => u = i ∧ ∃ g, F[v]? = some g ∧ rev s ∈ edgesF g) τ) := by
  simp at u
  obtain ⟨u0, u4, u6, u7, u8, u9, u10⟩ := u
  have hl := S.sz.len
  simp [k34j, k34k, k34i, k34b, subAt, A34]
  refine Wp_loop (fun m τ H' => ∃ j out', Pj1 Hb H' vF v4 x6 F o i k s out out' τ j m) ?_ F.length _ _ ⟨0, out, ⟨f0, ha, (Spr.start inv).weak (fun q => by omega), by omega, by omega, by simp [u0, u4, u6, u7, u8, u9, u10]⟩⟩
  rintro m τ H1 ⟨j, out1, ⟨fr, arr, spr, hj, rfl, t⟩⟩
  simp at t
  obtain ⟨t0, t4, t6, t7, t8, t9, t10⟩ := t
  have hF1 := S.gdAt fr
  have il : i < F.length := (List.getElem?_eq_some_iff.1 hf).1
  have kl : k < f.length := (List.getElem?_eq_some_iff.1 hk).1
  have ol := spr.inv.len
  by_cases q : j < F.length
  · have w : IntKind.i64.wrap ((j : Int) + 1) = (j : Int) + 1 := wrap64 (by omega) (by omega)
    obtain ⟨p, r, g, a1, a2, a3, a4⟩ := hF1.idx (k := .i64) (i := (j : Int)) (by omega) (by omega)
    rw [Int.toNat_natCast] at a1
    obtain ⟨p', r', f', b1, b2, b3, b4⟩ := hF1.idx (k := .i64) (i := (i : Int)) (by omega) (by omega)
    rw [Int.toNat_natCast, hf] at b1
    cases b1
    obtain ⟨p2, x, c1, c2, c3⟩ := Ints.idx (b4.sl i64c_len) (k := .i64) (i := (k : Int)) (by omega) (by omega)
    rw [Int.toNat_natCast, hk] at c1
    cases c1
    simp [q, t0, t7, t8, t9, t10, hF1.len, a2, a3, b2, b3, c2, c3]
    refine (has61 h61 (a4.sl i64c_len) (S.sz.row g (List.mem_of_getElem? a1))).mono ?_
    rintro _ H1 ⟨rfl, rfl⟩
    by_cases d : (s.2, s.1) ∈ edgesF g
    · obtain ⟨x, x1, x2, x3⟩ := arr.idx (i := i) (by omega)
      obtain ⟨y, y1, y2, y3⟩ := arr.idx (i := j) (by omega)
      have hadj : Adj F i j := ⟨f, g, s, hf, a1, hs, d⟩
      have hme := spr_meet spr.inv x1 y1 hadj
      obtain ⟨H2, s1, s2, s3⟩ := arr.set fr.wf (i := i) (by omega) (min x y) rfl
      have x3' : loadA H1 none (.ptr o i) = some (.int .i64 x) := x3
      have y3' : loadA H1 none (.ptr o j) = some (.int .i64 y) := y3
      have hmin : (if y < x then y else x) = min x y := by split <;> omega
      have s1' : storeA H1 1 (.ptr o i) (.int .i64 (min x y)) = some (undefA, H2) := s1
      obtain ⟨z, z1, z2, z3⟩ := s2.idx (i := i) (by simp; omega)
      have hz : z = min x y := by
        rw [List.getElem?_set, if_pos rfl, if_pos (by omega)] at z1; exact (Option.some.inj z1).symm
      subst hz
      have z3' : loadA H2 none (.ptr o i) = some (.int .i64 (min x y)) := z3
      obtain ⟨H3, r1, r2, r3⟩ := s2.set s3.wf (i := j) (by simp; omega) (min x y) rfl
      have r1' : storeA H2 1 (.ptr o j) (.int .i64 (min x y)) = some (undefA, H3) := r1
      have f3 : Fr [o] Hb H3 := (fr.trans S.ex.wf s3 (fun o q => .inl q)).trans S.ex.wf r3 (fun o q => .inl q)
      simp [d, t4, t7, t10, x2, x3', y2, y3', maxA, hmin, s1', z3', r1', w]
      refine ⟨_, by omega, j + 1, _, ⟨f3, r2, spr.then hme (fun {u v} q => ?_), by omega, rfl, by simp [t0, t4, t6, t7, t8, t9]⟩⟩
      obtain ⟨q1, q2, q3⟩ := q
      by_cases e : v = j
      · exact .inr ⟨q1, e⟩
      · exact .inl ⟨q1, by omega, q3⟩
    · simp [d, t4, t7, t10, w]
      refine ⟨_, by omega, j + 1, out1, ⟨fr, arr, spr.weak (fun {u v} q => ?_), by omega, rfl, by simp [t0, t4, t6, t7, t8, t9]⟩⟩
      obtain ⟨q1, q2, g', q3, q4⟩ := q
      by_cases e : v = j
      · subst e; rw [a1] at q3; cases q3; exact absurd q4 d
      · exact ⟨q1, by omega, g', q3, q4⟩
  · have hjl : j = F.length := by omega
    subst hjl
    simp [t0, t10, hF1.len]
    exact ⟨out1, fr, arr, spr.weak (fun {u v} ⟨q1, g, q2, q3⟩ => ⟨q1, (List.getElem?_eq_some_iff.1 q2).1, g, q2, q3⟩), by simp [t0, t4, t6, t7, t8]⟩
structure Pk1 (Hb H' : Heap) (vF v4 x6 : AV) (F : List (List Int)) (o : Nat) (i : Nat) (f out out' : List Int) (τ : Env) (k m : Nat) : Prop where
  fr : Fr [o] Hb H'
  arr : Arr intV H' v4 o out'
  spr : Spr F out out' (fun u v => u = i ∧ ∃ k' s g, k' < k ∧ (edgesF f)[k']? = some s ∧ F[v]? = some g ∧ rev s ∈ edgesF g)
  le : k ≤ f.length
  hm : m = f.length - k
  t : Tm τ [(0, vF), (4, v4), (6, x6), (7, .int .i64 i), (8, .int .i64 k)]
structure Pqk (Hb H' : Heap) (vF v4 x6 : AV) (F : List (List Int)) (o : Nat) (i : Nat) (out out' : List Int) (P : Nat → Nat → Prop) (τ : Env) : Prop where
  fr : Fr [o] Hb H'
  arr : Arr intV H' v4 o out'
  spr : Spr F out out' P
  t : Tm τ [(0, vF), (4, v4), (6, x6), (7, .int .i64 i)]
theorem parts_k (h61 : FT 61 = some (.code A61)) {Hb H0 : Heap} {vF v4 x6 : AV} {F : List (List Int)} {o i : Nat} {f : List Int} {out : List Int} (S : Sit H Hb vF F o) (f0 : Fr [o] Hb H0) (ha : Arr intV H0 v4 o out) (inv : MInv F out) (hf : F[i]? = some f) {τ0 : Env}
    (u : Tm τ0 [(0, vF), (4, v4), (6, x6), (7, .int .i64 i), (8, .int .i64 0)]) :
    Wp FT k34k τ0 H0 (fun c τ H' => c = .next ∧ ∃ out', Pqk Hb H' vF v4 x6 F o i out out' (fun u v => u = i ∧ Adj F i v) τ) := by
  simp at u
  obtain ⟨u0, u4, u6, u7, u8⟩ := u
  have hl := S.sz.len
  have hfl := S.sz.row f (List.mem_of_getElem? hf)
  rw [body34k]
  generalize hj : k34j = kj
  simp [k34k, k34i, k34b, putAt, subAt, A34]
  refine Wp_loop (fun m τ H' => ∃ k out', Pk1 Hb H' vF v4 x6 F o i f out out' τ k m) ?_ f.length _ _ ⟨0, out, ⟨f0, ha, (Spr.start inv).weak (fun q => by obtain ⟨_, k', _, _, hk, _⟩ := q; omega), by omega, by omega, by simp [u0, u4, u6, u7, u8]⟩⟩
  rintro m τ H1 ⟨k, out1, ⟨fr, arr, spr, hk, rfl, t⟩⟩
  simp at t
  obtain ⟨t0, t4, t6, t7, t8⟩ := t
  have hF1 := S.gdAt fr
  have il : i < F.length := (List.getElem?_eq_some_iff.1 hf).1
  obtain ⟨p', r', f', b1, b2, b3, b4⟩ := hF1.idx (k := .i64) (i := (i : Int)) (by omega) (by omega)
  rw [Int.toNat_natCast, hf] at b1
  cases b1
  by_cases q : k < f.length
  · have w : IntKind.i64.wrap ((k : Int) + 1) = (k : Int) + 1 := wrap64 (by omega) (by omega)
    have hm : (k + 1) % f.length < f.length := Nat.mod_lt _ (by omega)
    obtain ⟨p1, a, c1, c2, c3⟩ := Ints.idx (b4.sl i64c_len) (k := .i64) (i := (k : Int)) (by omega) (by omega)
    obtain ⟨p2, b, d1, d2, d3⟩ := Ints.idx (b4.sl i64c_len) (k := .i64) (i := (((k + 1) % f.length : Nat) : Int)) (by omega) (by omega)
    obtain ⟨p3, z, z1, z2, z3⟩ := Ints.idx (b4.sl i64c_len) (k := .i64) (i := 0) (by omega) (by omega)
    rw [Int.toNat_natCast] at c1 d1
    have he := edgesF_get c1 d1
    have fin : ∀ (τ1 : Env), Tm τ1 [(0, vF), (4, v4), (6, x6), (7, .int .i64 i), (8, .int .i64 k), (9, .int .i64 b), (10, .int .i64 0)] →
        Wp FT kj τ1 H1 (fun c τ H' => c = .next ∧ ∃ out', Pqj Hb H' vF v4 x6 F o i k out1 out' (fun u v => u = i ∧ ∃ g, F[v]? = some g ∧ rev (a, b) ∈ edgesF g) τ) := fun τ1 ht => by
      rw [← hj]
      exact parts_j h61 (s := (a, b)) S fr arr spr.inv hf c1 (List.mem_of_getElem? he) ht
    have nx : ∀ {out2 : List Int}, Spr F out1 out2 (fun u v => u = i ∧ ∃ g, F[v]? = some g ∧ rev (a, b) ∈ edgesF g) → Spr F out out2 (fun u v => u = i ∧ ∃ k' s g, k' < k + 1 ∧ (edgesF f)[k']? = some s ∧ F[v]? = some g ∧ rev s ∈ edgesF g) := fun h => spr.then h (fun {u v} q => by
      obtain ⟨q1, k', s, g, q2, q3, q4, q5⟩ := q
      by_cases e : k' = k
      · subst e; rw [he] at q3; cases q3; exact .inr ⟨q1, g, q4, q5⟩
      · exact .inl ⟨q1, k', s, g, by omega, q3, q4, q5⟩)
    by_cases e : (k : Int) + 1 < f.length
    · have d2' : indexAddrV 1 r' (.int .i64 ((k : Int) + 1)) = some p2 := by rw [← d2, Nat.mod_eq_of_lt (by omega)]; rfl
      simp [q, t0, t7, t8, hF1.len, b2, b3, b4.len, w, e, z2, z3, d2', d3]
      refine (fin _ (by simp [t0, t4, t6, t7, t8])).mono ?_
      rintro c τ2 H2 ⟨rfl, out2, ⟨f2, arr2, spr2, t⟩⟩
      simp at t
      obtain ⟨t0, t4, t6, t7, t8⟩ := t
      simp [t8, w]
      exact ⟨_, by omega, k + 1, out2, ⟨f2, arr2, nx spr2, by omega, rfl, by simp [t0, t4, t6, t7]⟩⟩
    · have ez : (k + 1) % f.length = 0 := by rw [show k + 1 = f.length by omega, Nat.mod_self]
      rw [ez] at d1
      have hzb : z = b := by
        have z1' : f[0]? = some z := z1
        rw [d1] at z1'; exact (Option.some.inj z1').symm
      subst hzb
      simp [q, t0, t7, t8, hF1.len, b2, b3, b4.len, w, e, z2, z3]
      refine (fin _ (by simp [t0, t4, t6, t7, t8])).mono ?_
      rintro c τ2 H2 ⟨rfl, out2, ⟨f2, arr2, spr2, t⟩⟩
      simp at t
      obtain ⟨t0, t4, t6, t7, t8⟩ := t
      simp [t8, w]
      exact ⟨_, by omega, k + 1, out2, ⟨f2, arr2, nx spr2, by omega, rfl, by simp [t0, t4, t6, t7]⟩⟩
  · have hkl : k = f.length := by omega
    subst hkl
    simp [t0, t7, t8, hF1.len, b2, b3, b4.len]
    refine ⟨out1, fr, arr, spr.weak (fun {u v} q => ?_), by simp [t0, t4, t6, t7]⟩
    obtain ⟨q1, f', g, s, h1, h2, h3, h4⟩ := q
    rw [hf] at h1; cases h1
    obtain ⟨k', hk'⟩ := List.getElem?_of_mem h3
    exact ⟨q1, k', s, g, by rw [← edgesF_len]; exact (List.getElem?_eq_some_iff.1 hk').1, hk', h2, h4⟩
structure Pi1 (Hb H' : Heap) (vF v4 x6 : AV) (F : List (List Int)) (o : Nat) (out out' : List Int) (τ : Env) (i m : Nat) : Prop where
  fr : Fr [o] Hb H'
  arr : Arr intV H' v4 o out'
  spr : Spr F out out' (fun u v => u < i ∧ Adj F u v)
  le : i ≤ F.length
  hm : m = F.length - i
  t : Tm τ [(0, vF), (4, v4), (6, x6), (7, .int .i64 i)]
structure Pqi (Hb H' : Heap) (vF v4 x6 : AV) (F : List (List Int)) (o : Nat) (out out' : List Int) (τ : Env) : Prop where
  fr : Fr [o] Hb H'
  arr : Arr intV H' v4 o out'
  spr : Spr F out out' (Adj F)
  t : Tm τ [(0, vF), (4, v4), (6, x6)]
theorem parts_i (h61 : FT 61 = some (.code A61)) {Hb H0 : Heap} {vF v4 x6 : AV} {F : List (List Int)} {o : Nat} {out : List Int} (S : Sit H Hb vF F o) (f0 : Fr [o] Hb H0) (ha : Arr intV H0 v4 o out) (inv : MInv F out) {τ0 : Env}
    (u : Tm τ0 [(0, vF), (4, v4), (6, x6), (7, .int .i64 0)]) :
    Wp FT k34i τ0 H0 (fun c τ H' => c = .next ∧ ∃ out', Pqi Hb H' vF v4 x6 F o out out' τ) := by
  simp at u
  obtain ⟨u0, u4, u6, u7⟩ := u
  have hl := S.sz.len
  rw [body34i]
  generalize hkk : k34k = kk
  simp [k34i, k34b, putAt, subAt, A34]
  refine Wp_loop (fun m τ H' => ∃ i out', Pi1 Hb H' vF v4 x6 F o out out' τ i m) ?_ F.length _ _ ⟨0, out, ⟨f0, ha, (Spr.start inv).weak (fun q => by omega), by omega, by omega, by simp [u0, u4, u6, u7]⟩⟩
  rintro m τ H1 ⟨i, out1, ⟨fr, arr, spr, hi, rfl, t⟩⟩
  simp at t
  obtain ⟨t0, t4, t6, t7⟩ := t
  have hF1 := S.gdAt fr
  by_cases q : i < F.length
  · have w : IntKind.i64.wrap ((i : Int) + 1) = (i : Int) + 1 := wrap64 (by omega) (by omega)
    have hf := List.getElem?_eq_getElem q
    simp [q, t0, t7, hF1.len]
    rw [← hkk]
    refine (parts_k h61 S fr arr spr.inv hf (x6 := x6) (by simp [t0, t4, t6, t7])).mono ?_
    rintro c τ2 H2 ⟨rfl, out2, ⟨f2, arr2, spr2, t⟩⟩
    simp at t
    obtain ⟨t0, t4, t6, t7⟩ := t
    simp [t7, w]
    refine ⟨_, by omega, i + 1, out2, ⟨f2, arr2, spr.then spr2 (fun {u v} q => ?_), by omega, rfl, by simp [t0, t4, t6]⟩⟩
    by_cases e : u = i
    · subst e; exact .inr ⟨rfl, q.2⟩
    · exact .inl ⟨by omega, q.2⟩
  · have hil : i = F.length := by omega
    subst hil
    simp [t0, t7, hF1.len]
    exact ⟨out1, fr, arr, spr.weak (fun {u v} q => ⟨by obtain ⟨_, _, _, h1, _⟩ := q; exact (List.getElem?_eq_some_iff.1 h1).1, q⟩), by simp [t0, t4, t6]⟩
structure Pt1 (Hb H' : Heap) (vF v4 : AV) (F : List (List Int)) (o : Nat) (out : List Int) (τ : Env) (r m : Nat) : Prop where
  fr : Fr [o] Hb H'
  arr : Arr intV H' v4 o out
  inv : MInv F out
  bad : badN F out + r ≤ F.length ∨ badN F out = 0
  le : r ≤ F.length
  hm : m = F.length - r
  t : Tm τ [(0, vF), (4, v4), (6, .int .i64 r)]
structure Pqr (Hb H' : Heap) (vF v4 : AV) (F : List (List Int)) (o : Nat) (τ : Env) : Prop where
  fr : Fr [o] Hb H'
  arr : Arr intV H' v4 o ((List.range F.length).map fun i => (mn F i : Int))
  t : Tm τ [(0, vF), (4, v4)]
theorem parts_b (h61 : FT 61 = some (.code A61)) {Hb H0 : Heap} {vF v4 : AV} {F : List (List Int)} {o : Nat} {out : List Int} (S : Sit H Hb vF F o) (f0 : Fr [o] Hb H0) (ha : Arr intV H0 v4 o out) (inv : MInv F out) {τ0 : Env}
    (u : Tm τ0 [(0, vF), (4, v4), (6, .int .i64 0)]) :
    Wp FT k34b τ0 H0 (fun c τ H' => c = .next ∧ Pqr Hb H' vF v4 F o τ) := by
  simp at u
  obtain ⟨u0, u4, u6⟩ := u
  have hl := S.sz.len
  rw [body34b]
  generalize hki : k34i = ki
  simp [k34b, putAt, subAt, A34]
  refine Wp_loop (fun m τ H' => ∃ r out', Pt1 Hb H' vF v4 F o out' τ r m) ?_ F.length _ _ ⟨0, out, ⟨f0, ha, inv, .inl (by
    classical
    unfold badN
    have := List.length_filter_le (fun i => decide (¬ goodM F out i)) (List.range F.length)
    simpa using this), by omega, by omega, by simp [u0, u4, u6]⟩⟩
  rintro m τ H1 ⟨r, out1, ⟨fr, arr, inv, bad, hr, rfl, t⟩⟩
  simp at t
  obtain ⟨t0, t4, t6⟩ := t
  have hF1 := S.gdAt fr
  by_cases q : r < F.length
  · have w : IntKind.i64.wrap ((r : Int) + 1) = (r : Int) + 1 := wrap64 (by omega) (by omega)
    simp [q, t0, t6, hF1.len]
    rw [← hki]
    refine (parts_i h61 S fr arr inv (x6 := .int .i64 r) (by simp [t0, t4, t6])).mono ?_
    rintro c τ2 H2 ⟨rfl, out2, ⟨f2, arr2, spr2, t⟩⟩
    simp at t
    obtain ⟨t0, t4, t6⟩ := t
    have hless := Met.less inv (⟨spr2.inv, spr2.keep, fun _ a g => spr2.met a g⟩ : Met F out1 out2 (fun _ _ => True)) (fun _ _ _ _ => trivial)
    simp [t6, w]
    exact ⟨_, by omega, r + 1, out2, ⟨f2, arr2, spr2.inv, by omega, by omega, rfl, by simp [t0, t4]⟩⟩
  · have hrl : r = F.length := by omega
    subst hrl
    have hz := bad_zero inv (by omega)
    subst hz
    simp [t0, t6, hF1.len]
    exact ⟨fr, arr, by simp [t0, t4]⟩
structure Pa1 (Hb H' : Heap) (vF v4 : AV) (F : List (List Int)) (o : Nat) (out : List Int) (τ : Env) (i m : Nat) : Prop where
  fr : Fr [o] Hb H'
  arr : Arr intV H' v4 o out
  ol : out.length = F.length
  ok : ∀ j : Nat, j < i → out[j]? = some (j : Int)
  le : i ≤ F.length
  hm : m = F.length - i
  t : Tm τ [(0, vF), (4, v4), (5, .int .i64 i)]
theorem parts_a {Hb H0 : Heap} {vF v4 : AV} {F : List (List Int)} {o : Nat} {out : List Int} (S : Sit H Hb vF F o) (f0 : Fr [o] Hb H0) (ha : Arr intV H0 v4 o out) (ol : out.length = F.length) {τ0 : Env}
    (u : Tm τ0 [(0, vF), (4, v4), (5, .int .i64 0)]) :
    Wp FT k34a τ0 H0 (fun c τ H' => c = .next ∧ Fr [o] Hb H' ∧ Arr intV H' v4 o ((List.range F.length).map fun (i : Nat) => (i : Int)) ∧ Tm τ [(0, vF), (4, v4)]) := by
  simp at u
  obtain ⟨u0, u4, u5⟩ := u
  have hl := S.sz.len
  simp [k34a, subAt, A34]
  refine Wp_loop (fun m τ H' => ∃ i out', Pa1 Hb H' vF v4 F o out' τ i m) ?_ F.length _ _ ⟨0, out, ⟨f0, ha, ol, by omega, by omega, by omega, by simp [u0, u4, u5]⟩⟩
  rintro m τ H1 ⟨i, out1, ⟨fr, arr, ol, ok, hi, rfl, t⟩⟩
  simp at t
  obtain ⟨t0, t4, t5⟩ := t
  have hF1 := S.gdAt fr
  by_cases q : i < F.length
  · have w : IntKind.i64.wrap ((i : Int) + 1) = (i : Int) + 1 := wrap64 (by omega) (by omega)
    obtain ⟨x, x1, x2, x3⟩ := arr.idx (i := i) (by omega)
    obtain ⟨H2, s1, s2, s3⟩ := arr.set fr.wf (i := i) (by omega) (i : Int) rfl
    have s1' : storeA H1 1 (.ptr o i) (.int .i64 i) = some (undefA, H2) := s1
    simp [q, t0, t4, t5, hF1.len, x2, s1', w]
    refine ⟨_, by omega, i + 1, _, ⟨fr.trans S.ex.wf s3 (fun o q => .inl q), s2, by simpa using ol, fun j hj => ?_, by omega, rfl, by simp [t0, t4]⟩⟩
    rw [List.getElem?_set]
    by_cases e : i = j
    · subst e; rw [if_pos rfl, if_pos (by omega)]
    · rw [if_neg e]; exact ok j (by omega)
  · have hil : i = F.length := by omega
    subst hil
    have e : out1 = (List.range F.length).map fun (i : Nat) => (i : Int) := by
      apply List.ext_getElem?
      intro j
      rw [List.getElem?_map]
      by_cases c : j < F.length
      · rw [ok j c, List.getElem?_range c]; rfl
      · rw [List.getElem?_eq_none (by omega), List.getElem?_eq_none (by simp; omega)]; rfl
    simp [t0, t5, hF1.len]
    exact ⟨fr, by rw [← e]; exact arr, t4⟩
structure Pn1 (Hb H' : Heap) (vF v4 v11 : AV) (F : List (List Int)) (o p : Nat) (names : List Int) (τ : Env) (i m : Nat) : Prop where
  fr : Fr [o, p] Hb H'
  arr : Arr intV H' v4 o ((List.range F.length).map fun i => (mn F i : Int))
  nm : Arr intV H' v11 p names
  nl : names.length = F.length
  ok : ∀ j : Nat, j < i → mn F j = j → names[j]? = some (cntR F j : Int)
  le : i ≤ F.length
  hm : m = F.length - i
  t : Tm τ [(0, vF), (4, v4), (11, v11), (12, .int .i64 (cntR F i)), (13, .int .i64 i)]
structure Pqn (Hb H' : Heap) (vF v4 v11 : AV) (F : List (List Int)) (o p : Nat) (names : List Int) (τ : Env) : Prop where
  fr : Fr [o, p] Hb H'
  arr : Arr intV H' v4 o ((List.range F.length).map fun i => (mn F i : Int))
  nm : Arr intV H' v11 p names
  nl : names.length = F.length
  ok : ∀ j : Nat, j < F.length → mn F j = j → names[j]? = some (cntR F j : Int)
  t : Tm τ [(0, vF), (4, v4), (11, v11)]
theorem cntR_le (F : List (List Int)) (i : Nat) : cntR F i ≤ i := by
  unfold cntR
  have := List.length_filter_le (fun j => decide (mn F j = j)) (List.range i)
  simpa using this
/-- Faces that stay while two rows are written. -/
theorem Sit.gd2 {H Hb H' : Heap} {vF : AV} {F : List (List Int)} {o p : Nat} (s : Sit H Hb vF F o) (hp : H.next ≤ p) (f : Fr [o, p] Hb H') : Gd H' vF F ∧ Ext H H' := by
  have e := ext_fr s.wf s.ex f (fun q hq => by
    simp at hq
    rcases hq with r | r
    · rw [r]; exact s.no
    · rw [r]; exact hp)
  exact ⟨s.gd.ext e, e⟩
theorem parts_n {Hb H0 : Heap} {vF v4 v11 : AV} {F : List (List Int)} {o p : Nat} {names : List Int} (S : Sit H Hb vF F o) (hp : H.next ≤ p) (hop : o ≠ p) (f0 : Fr [o, p] Hb H0) (ha : Arr intV H0 v4 o ((List.range F.length).map fun i => (mn F i : Int))) (hn : Arr intV H0 v11 p names) (nl : names.length = F.length) {τ0 : Env}
    (u : Tm τ0 [(0, vF), (4, v4), (11, v11), (12, .int .i64 0), (13, .int .i64 0)]) :
    Wp FT k34n τ0 H0 (fun c τ H' => c = .next ∧ ∃ names, Pqn Hb H' vF v4 v11 F o p names τ) := by
  simp at u
  obtain ⟨u0, u4, u11, u12, u13⟩ := u
  have hl := S.sz.len
  simp [k34n, subAt, A34]
  refine Wp_loop (fun m τ H' => ∃ i names, Pn1 Hb H' vF v4 v11 F o p names τ i m) ?_ F.length _ _ ⟨0, names, ⟨f0, ha, hn, nl, by omega, by omega, by omega, by simp [u0, u4, u11, u12, u13, cntR]⟩⟩
  rintro m τ H1 ⟨i, names, ⟨fr, arr, nm, nl, ok, hi, rfl, t⟩⟩
  simp at t
  obtain ⟨t0, t4, t11, t12, t13⟩ := t
  have hF1 := (S.gd2 hp fr).1
  have hcl := cntR_le F i
  have hsu := cntR_succ F i
  by_cases q : i < F.length
  · have w : IntKind.i64.wrap ((i : Int) + 1) = (i : Int) + 1 := wrap64 (by omega) (by omega)
    obtain ⟨x, x1, x2, x3⟩ := arr.idx (i := i) (by simpa using q)
    have hx : x = (mn F i : Int) := by
      rw [List.getElem?_map, List.getElem?_range q] at x1; exact (Option.some.inj x1).symm
    subst hx
    have x3' : loadA H1 none (.ptr o i) = some (.int .i64 (mn F i)) := x3
    by_cases d : mn F i = i
    · have w2 : IntKind.i64.wrap ((cntR F i : Int) + 1) = (cntR F i : Int) + 1 := wrap64 (by omega) (by omega)
      obtain ⟨y, y1, y2, y3⟩ := nm.idx (i := i) (by omega)
      obtain ⟨H2, s1, s2, s3⟩ := nm.set fr.wf (i := i) (by omega) (cntR F i : Int) rfl
      have s1' : storeA H1 1 (.ptr p i) (.int .i64 (cntR F i)) = some (undefA, H2) := s1
      rw [if_pos d] at hsu
      simp [q, t0, t4, t11, t12, t13, hF1.len, x2, x3', d, y2, s1', w, w2]
      refine ⟨_, by omega, i + 1, _, ⟨fr.trans S.ex.wf s3 (fun o q => .inl (by simp at q; simp [q])), arr.fr s3 (by simpa using hop), s2, by simpa using nl, fun j hj hjm => ?_, by omega, rfl, by rw [hsu]; simp [t0, t4, t11]⟩⟩
      rw [List.getElem?_set]
      by_cases e : i = j
      · subst e; rw [if_pos rfl, if_pos (by omega)]
      · rw [if_neg e]; exact ok j (by omega) hjm
    · rw [if_neg d] at hsu
      have d' : ((mn F i : Int) == (i : Int)) = false := by simp; omega
      simp [q, t0, t4, t13, hF1.len, x2, x3', d', w]
      refine ⟨_, by omega, i + 1, names, ⟨fr, arr, nm, nl, fun j hj hjm => ?_, by omega, rfl, by rw [hsu]; simp [t0, t4, t11, t12]⟩⟩
      by_cases e : j = i
      · subst e; exact absurd hjm d
      · exact ok j (by omega) hjm
  · have hil : i = F.length := by omega
    subst hil
    simp [t0, t13, hF1.len]
    exact ⟨names, fr, arr, nm, nl, ok, by simp [t0, t4, t11]⟩
structure Pm1 (Hb H' : Heap) (vF v4 v11 : AV) (F : List (List Int)) (o p : Nat) (names out : List Int) (τ : Env) (i m : Nat) : Prop where
  fr : Fr [o, p] Hb H'
  arr : Arr intV H' v4 o out
  nm : Arr intV H' v11 p names
  ol : out.length = F.length
  lo : ∀ j : Nat, j < i → out[j]? = (partsF F)[j]?
  hi : ∀ j : Nat, i ≤ j → j < F.length → out[j]? = some (mn F j : Int)
  le : i ≤ F.length
  hm : m = F.length - i
  t : Tm τ [(0, vF), (4, v4), (11, v11), (14, .int .i64 i)]
theorem parts_m {Hb H0 : Heap} {vF v4 v11 : AV} {F : List (List Int)} {o p : Nat} {names : List Int} (S : Sit H Hb vF F o) (hp : H.next ≤ p) (hop : o ≠ p) (f0 : Fr [o, p] Hb H0) (ha : Arr intV H0 v4 o ((List.range F.length).map fun i => (mn F i : Int))) (hn : Arr intV H0 v11 p names) (nl : names.length = F.length) (nok : ∀ j : Nat, j < F.length → mn F j = j → names[j]? = some (cntR F j : Int)) {τ0 : Env}
    (u : Tm τ0 [(0, vF), (4, v4), (11, v11), (14, .int .i64 0)]) :
    Wp FT k34m τ0 H0 (fun c τ H' => c = .next ∧ Fr [o, p] Hb H' ∧ Arr intV H' v4 o (partsF F) ∧ Tm τ [(4, v4)]) := by
  simp at u
  obtain ⟨u0, u4, u11, u14⟩ := u
  have hl := S.sz.len
  have pl : (partsF F).length = F.length := (parts_is F).len
  simp [k34m, subAt, A34]
  refine Wp_loop (fun m τ H' => ∃ i out, Pm1 Hb H' vF v4 v11 F o p names out τ i m) ?_ F.length _ _ ⟨0, _, ⟨f0, ha, hn, by simp, by omega, fun j _ hj => by rw [List.getElem?_map, List.getElem?_range hj]; rfl, by omega, by omega, by simp [u0, u4, u11, u14]⟩⟩
  rintro m τ H1 ⟨i, out, ⟨fr, arr, nm, ol, lo, hi, hle, rfl, t⟩⟩
  simp at t
  obtain ⟨t0, t4, t11, t14⟩ := t
  have hF1 := (S.gd2 hp fr).1
  by_cases q : i < F.length
  · have w : IntKind.i64.wrap ((i : Int) + 1) = (i : Int) + 1 := wrap64 (by omega) (by omega)
    have hms := mn_self F i
    obtain ⟨x, x1, x2, x3⟩ := arr.idx (i := i) (by omega)
    have hx : x = (mn F i : Int) := by
      rw [hi i (Nat.le_refl _) q] at x1; exact (Option.some.inj x1).symm
    subst hx
    have x3' : loadA H1 none (.ptr o i) = some (.int .i64 (mn F i)) := x3
    obtain ⟨y, y1, y2, y3⟩ := nm.idx (i := mn F i) (by omega)
    have hy : y = (cntR F (mn F i) : Int) := by
      rw [nok (mn F i) (by omega) (mn_mn F i)] at y1; exact (Option.some.inj y1).symm
    subst hy
    have y3' : loadA H1 none (.ptr p (mn F i)) = some (.int .i64 (cntR F (mn F i))) := y3
    obtain ⟨H2, s1, s2, s3⟩ := arr.set fr.wf (i := i) (by omega) (cntR F (mn F i) : Int) rfl
    have s1' : storeA H1 1 (.ptr o i) (.int .i64 (cntR F (mn F i))) = some (undefA, H2) := s1
    simp [q, t0, t4, t11, t14, hF1.len, x2, x3', y2, y3', s1', w]
    refine ⟨_, by omega, i + 1, _, ⟨fr.trans S.ex.wf s3 (fun o q => .inl (by simp at q; simp [q])), s2, nm.fr s3 (by simpa using hop.symm), by simpa using ol, fun j hj => ?_, fun j hj hjl => ?_, by omega, rfl, by simp [t0, t4, t11]⟩⟩
    · rw [List.getElem?_set]
      by_cases e : i = j
      · subst e
        rw [if_pos rfl, if_pos (by omega)]
        exact (partsF_get.2 ⟨q, rfl⟩).symm
      · rw [if_neg e]; exact lo j (by omega)
    · rw [List.getElem?_set, if_neg (by omega)]; exact hi j (by omega) hjl
  · have hil : i = F.length := by omega
    subst hil
    have e : out = partsF F := by
      apply List.ext_getElem?
      intro j
      by_cases c : j < F.length
      · exact lo j c
      · rw [List.getElem?_eq_none (by omega), List.getElem?_eq_none (by omega)]
    simp [t0, t14, hF1.len]
    exact ⟨fr, by rw [← e]; exact arr, t4⟩
theorem parts34 (h34 : FT 34 = some (.code A34)) (h61 : FT 61 = some (.code A61)) (h25 : FT 25 = some (.code A25)) (h59 : FT 59 = some (.code A59)) {vF : AV} {F : List (List Int)} (hF : Gd H vF F) (hs : Fsz F) (hw : H.Wf) :
    Cp FT 34 [vF] H (fun r H' => Rw 1 i64c H' r (if chkF 1048576 F = 0 then partsF F else []) ∧ Ext H H') := by
  refine Cp_code A34 h34 rfl ?_
  have hA : A34.results = [.tmp 2] := rfl
  rw [hA, body34]
  generalize hka : k34a = ka
  generalize hkb : k34b = kb
  generalize hkn : k34n = kn
  generalize hkm : k34m = km
  simp [A34, putAt]
  refine (ref25 (n := 1048576) h25 h59 hF hs.row hs.len hs.tot hw).mono ?_
  rintro _ H1 ⟨rfl, e1⟩
  have hl := hs.len
  by_cases z : chkF 1048576 F = 0
  · have hF1 := hF.ext e1
    obtain ⟨v4, H2, a1, a2, a3, a4⟩ := Arr.make (enc := intV) e1.wf 0 rfl hl (bytes := 8) (by omega)
    have a1' : makeSlA H1 1 8 [.int .i64 0] (.int .i64 F.length) (.int .i64 F.length) = some (v4, H2) := a1
    simp [z, hF1.len, a1']
    have S : Sit H1 H2 vF F H1.next := ⟨e1.wf, hF1, hs, a3, Nat.le_refl _⟩
    rw [← hka]
    refine (parts_a S (Fr.refl a3.wf) a2 (by simp) (by simp)).mono ?_
    rintro c τ H3 ⟨rfl, f3, b3, t⟩
    simp at t
    obtain ⟨t0, t4⟩ := t
    simp
    rw [← hkb]
    refine (parts_b h61 S f3 b3 (MInv.start F) (by simp [t0, t4])).mono ?_
    rintro c τ H4 ⟨rfl, ⟨f4, b4, t⟩⟩
    simp at t
    obtain ⟨t0, t4⟩ := t
    have hF4 := S.gdAt f4
    obtain ⟨v11, H5, c1, c2, c3, c4⟩ := Arr.make (enc := intV) f4.wf 0 rfl hl (bytes := 8) (by omega)
    have c1' : makeSlA H4 1 8 [.int .i64 0] (.int .i64 F.length) (.int .i64 F.length) = some (v11, H5) := c1
    have hlt := b4.lt f4.wf
    have f5 : Fr [H1.next, H4.next] H2 H5 := (f4.mono (fun o q => by simp at q; simp [q])).thenE a3.wf c3
    simp [t0, hF4.len, c1']
    rw [← hkn]
    refine (parts_n S (by omega) (by omega) f5 (b4.ext c3) c2 (by simp) (by simp [t0, t4])).mono ?_
    rintro c τ H6 ⟨rfl, names, ⟨f6, b6, n6, nl6, ok6, t⟩⟩
    simp at t
    obtain ⟨t0, t4, t11⟩ := t
    simp
    rw [← hkm]
    refine (parts_m S (by omega) (by omega) f6 b6 n6 nl6 ok6 (by simp [t0, t4, t11])).mono ?_
    rintro c τ H7 ⟨rfl, f7, b7, t⟩
    simp at t
    simp [t]
    exact ⟨b7.rw, e1.trans (S.gd2 (by omega) f7).2⟩
  · simp [z]
    exact ⟨⟨.inl ⟨rfl, rfl⟩, rfl⟩, e1⟩
end
end Go.Proofs.Ytcepchipgjpkhaa
