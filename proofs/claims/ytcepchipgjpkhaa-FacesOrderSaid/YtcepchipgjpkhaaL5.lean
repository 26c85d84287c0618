/- Faces in another order: the statement FacesOrder, walked. No claim by itself. -/
import Derived.Test.YtcepchipgjpkhaaL2
namespace Go.Proofs.Ytcepchipgjpkhaa
open Go Go.AI
section
variable {H : Heap} {FT : Nat → Option FnD}
def k5a : ACode := subAt [1, 1, 1, 1, 0, 1] A5.body
def k5b : ACode := subAt [1, 1, 1, 1, 1, 1, 1, 1, 1, 1, 1, 1, 1, 1, 0, 1] A5.body
def k5j : ACode := subAt [0, 0, 1, 0, 0, 1] k5b
def k5t : ACode := subAt [0, 0, 1, 0, 0, 1, 1, 1, 1] k5a
theorem body5a : k5a = putAt [0, 0, 1, 0, 0, 1, 1, 1, 1] k5a k5t := rfl
theorem body5 : A5.body = putAt [1, 1, 1, 1, 0, 1] (putAt [1, 1, 1, 1, 1, 1, 1, 1, 1, 1, 1, 1, 1, 1, 0, 1] A5.body k5b) k5a := rfl
theorem body5b : k5b = putAt [0, 0, 1, 0, 0, 1] k5b k5j := rfl
theorem tmodN (a b : Nat) : ((a : Int)).tmod (b : Int) = (a : Int) % (b : Int) := rfl
theorem tmodA (a c b : Nat) : ((a : Int) + (c : Int)).tmod (b : Int) = ((a : Int) + (c : Int)) % (b : Int) := rfl
structure Or1 (H H' : Heap) (n : Int) (vF vB v10 : AV) (F G : List (List Int)) (k : Nat) (τ : Env) (i m : Nat) : Prop where
  ex : Ext H H'
  rows : AI.Rows H H' v10 G
  len : G.length = i
  rot : ∀ (j : Nat) (g : List Int), G[j]? = some g → ∃ a b, F[(j + k) % F.length]? = some (a ++ b) ∧ g = b ++ a
  le : i ≤ F.length
  hm : m = F.length - i
  t : Tm τ [(0, .int .i64 n), (1, vF), (3, vB), (9, .int .i64 k), (10, v10), (11, .int .i64 i)]
structure OrQ (H H' : Heap) (n : Int) (vF v10 : AV) (F G : List (List Int)) (k : Nat) (τ : Env) : Prop where
  ex : Ext H H'
  gd : Gd H' v10 G
  rot : FRot k F G
  t : Tm τ [(0, .int .i64 n), (1, vF), (9, .int .i64 k), (10, v10)]
theorem bytc_len : ∀ x, (bytc x).length = 1 := fun _ => rfl
structure OrT (H H' : Heap) (n : Int) (vF vB v10 : AV) (G : List (List Int)) (k i : Nat) (τ : Env) : Prop where
  ex : Ext H H'
  rows : AI.Rows H H' v10 G
  t : Tm τ [(0, .int .i64 n), (1, vF), (3, vB), (9, .int .i64 k), (10, v10), (11, .int .i64 i)]
theorem order_tail {n : Int} {vF vB v10 r : AV} {G : List (List Int)} {k i b : Nat} {f : List Int} {H1 : Heap} (hw : H.Wf) (e1 : Ext H H1) (rows : AI.Rows H H1 v10 G) (hr : Rw 1 i64c H1 r f) (hb : b ≤ f.length) (hfl : f.length ≤ 1000000000) (hgl : G.length ≤ 1000000000) {τ : Env}
    (u : Tm τ [(0, .int .i64 n), (1, vF), (3, vB), (9, .int .i64 k), (10, v10), (11, .int .i64 i), (12, r), (13, .nils), (14, .int .i64 b)]) :
    Wp FT k5t τ H1 (fun c τ H' => c = .next ∧ ∃ v10, OrT H H' n vF vB v10 (G ++ [f.drop b ++ f.take b]) k i τ) := by
  simp at u
  obtain ⟨t0, t1, t3, t9, t10, t11, t12, t13, t14⟩ := u
  obtain ⟨x1, d1, d2, d3⟩ := hr.drop i64c_len (k := b) hb
  obtain ⟨x2, d4, d5, d6⟩ := hr.take i64c_len (k := b) hb
  obtain ⟨v5, H2, b1, b2, b3, b4⟩ := Mine.appS i64c_len (by omega) i64c_one (bytes := 8) e1.wf (Nat.le_refl _) (Mine.nil (e := 1) (enc := i64c) (H0 := H1) (H := H1)) d2.sw (by simp; omega)
  rw [List.nil_append] at b2
  have e2 : Ext H1 H2 := Fr.ext b3
  obtain ⟨v6, H3, c1, c2, c3, c4⟩ := Mine.appS i64c_len (by omega) i64c_one (bytes := 8) e2.wf e2.next b2 (d5.ext e2).sw (by simp; omega)
  have e3 : Ext H1 H3 := ext_fr e1.wf e2 c3 (fun p hp => b2.new p (by simpa using hp))
  have rows3 := rows.ext e3
  have hr3 : Rw 1 i64c H3 v6 (f.drop b ++ f.take b) := c2.ow.rw i64c_len
  obtain ⟨v', H4, g1, g2, g3, g4⟩ := rows3.snoc e3.wf (Nat.le_trans e1.next e3.next) hr3 (fun p hp => Nat.le_trans e1.next (c2.new p hp)) (fun p hp hv => by
    have h1 := c2.new p hp
    obtain ⟨rs, m1, _, _⟩ := rows.ex
    have h2 := m1.lt e1.wf hv
    omega) (bytes := 24) (by omega)
  have fv : ∀ (e : Opd → AV), fillV e [.nils] 0 1 v6 [] = some [v6] := fun e => by rw [fillV_val hr3.one.1 hr3.one.2]; simp [setSeg]
  have e4 : Ext H H4 := ext_fr hw (e1.trans e3) g3 (fun p hp => by
    obtain ⟨rs, m1, _, _⟩ := rows.ex
    exact m1.new p (by simpa using hp))
  simp [k5t, k5a, subAt, A5, t10, t12, t13, t14, d1, d4, b1, c1, fv, g1]
  exact ⟨v', e4, g2, by simp [t0, t1, t3, t9, t11]⟩
theorem order_build {n : Int} {vF vB : AV} {F : List (List Int)} {B : List Nat} {k : Nat} (hw : H.Wf) (hF : Gd H vF F) (hs : Fsz F) (hB : Rw 1 bytc H vB B) (hb : ∀ b, b ∈ B → b < 256) (hk : k < F.length) {τ0 : Env}
    (u : Tm τ0 [(0, .int .i64 n), (1, vF), (3, vB), (9, .int .i64 k), (10, .nils), (11, .int .i64 0)]) :
    Wp FT k5a τ0 H (fun c τ H' => c = .next ∧ ∃ v10 G, OrQ H H' n vF v10 F G k τ) := by
  simp at u
  obtain ⟨u0, u1, u3, u9, u10, u11⟩ := u
  have hl := hs.len
  rw [body5a]
  generalize hkt : k5t = kt
  simp [k5a, subAt, putAt, A5]
  refine Wp_loop (fun m τ H' => ∃ i v10 G, Or1 H H' n vF vB v10 F G k τ i m) ?_ F.length _ _ ⟨0, .nils, [], ⟨Ext.refl hw, Rows.nil, rfl, fun j g q => by simp at q, by omega, by omega, by simp [u0, u1, u3, u9, u10, u11]⟩⟩
  rintro m τ H1 ⟨i, v10, G, ⟨e1, rows, gl, rot, hi, rfl, t⟩⟩
  simp at t
  obtain ⟨t0, t1, t3, t9, t10, t11⟩ := t
  have hF1 := hF.ext e1
  have hB1 := hB.ext e1
  by_cases q : i < F.length
  · have wi : IntKind.i64.wrap ((i : Int) + 1) = (i : Int) + 1 := wrap64 (by omega) (by omega)
    have wk : IntKind.i64.wrap ((i : Int) + (k : Int)) = (i : Int) + (k : Int) := wrap64 (by omega) (by omega)
    have hml : (i + k) % F.length < F.length := Nat.mod_lt _ (by omega)
    have tm := tmodA i k F.length
    have hz : ¬ (F.length : Int) = 0 := by omega
    have hz2 : ¬ F.length = 0 := by omega
    obtain ⟨p, r, f, a1, a2, a3, a4⟩ := hF1.idx (k := .i64) (i := (((i + k) % F.length : Nat) : Int)) (by omega) (by omega)
    rw [Int.toNat_natCast] at a1
    have a2 : indexAddrV 1 vF (.int .i64 (((i : Int) + (k : Int)) % (F.length : Int))) = some p := a2
    have hfl := hs.row f (List.mem_of_getElem? a1)
    have fin : ∀ (b : Nat) (τ1 : Env), b ≤ f.length → Tm τ1 [(0, .int .i64 n), (1, vF), (3, vB), (9, .int .i64 k), (10, v10), (11, .int .i64 i), (12, r), (13, .nils), (14, .int .i64 b)] →
        Wp FT kt τ1 H1 (fun c τ H' => c = .next ∧ ∃ v10, OrT H H' n vF vB v10 (G ++ [f.drop b ++ f.take b]) k i τ) := fun b τ1 h t => by
      rw [← hkt]; exact order_tail hw e1 rows a4 h hfl (by omega) t
    have nx : ∀ b, b ≤ f.length → ∀ (j : Nat) (g : List Int), (G ++ [f.drop b ++ f.take b])[j]? = some g → ∃ a b, F[(j + k) % F.length]? = some (a ++ b) ∧ g = b ++ a := fun b h j g e => by
      rcases Nat.lt_or_ge j G.length with z | z
      · rw [List.getElem?_append_left z] at e; exact rot j g e
      · rw [List.getElem?_append_right z] at e
        have hj : j = G.length := by
          have := (List.getElem?_eq_some_iff.1 e).1; simp at this; omega
        subst hj
        simp at e
        exact ⟨f.take b, f.drop b, by rw [List.take_append_drop, gl]; exact a1, e.symm⟩
    by_cases d : i < B.length ∧ 0 < f.length
    · obtain ⟨d1, d2⟩ := d
      obtain ⟨pb, x, b1, b2, _, b4⟩ := Sl.idx (hB1.sl bytc_len) (k := .i64) (i := (i : Int)) (by omega) (by omega)
      rw [Int.toNat_natCast] at b1
      have hx := hb x (List.mem_of_getElem? b1)
      have wx : IntKind.i64.wrap (x : Int) = x := wrap64 (by omega) (by omega)
      have tx := tmodN x f.length
      have hxl : x % f.length < f.length := Nat.mod_lt _ d2
      have hf0 : ¬ (f.length : Int) = 0 := by omega
      have hf1 : (0 : Int) < f.length := by omega
      have hf2 : ¬ f.length = 0 := by omega
      have b3' : loadA H1 none pb = some (.int .u8 x) := b4 _ rfl rfl
      simp [q, t1, t3, t9, t11, hF1.len, hB1.len, wk, tm, a2, a3, a4.len, hz2, d1, d2, b2, b3', wx, tx, hf2]
      refine (fin (x % f.length) _ (by omega) (by simp [t0, t1, t3, t9, t10, t11])).mono ?_
      rintro c τ2 H2 ⟨rfl, v2, ⟨e2, rows2, t⟩⟩
      simp at t
      obtain ⟨t0, t1, t3, t9, t10, t11⟩ := t
      simp [t11, wi]
      exact ⟨_, by omega, i + 1, v2, _, ⟨e2, rows2, by simp [gl], nx _ (by omega), by omega, rfl, by simp [t0, t1, t3, t9, t10]⟩⟩
    · by_cases d1 : i < B.length
      · have d2 : ¬ 0 < f.length := fun h => d ⟨d1, h⟩
        have hf1 : ¬ (0 : Int) < f.length := by omega
        simp [q, t1, t3, t9, t11, hF1.len, hB1.len, wk, tm, a2, a3, a4.len, hz2, d1, d2]
        refine (fin 0 _ (by omega) (by simp [t0, t1, t3, t9, t10, t11])).mono ?_
        rintro c τ2 H2 ⟨rfl, v2, ⟨e2, rows2, t⟩⟩
        simp at t
        obtain ⟨t0, t1, t3, t9, t10, t11⟩ := t
        simp [t11, wi]
        exact ⟨_, by omega, i + 1, v2, _, ⟨e2, rows2, by simp [gl], nx _ (by omega), by omega, rfl, by simp [t0, t1, t3, t9, t10]⟩⟩
      · simp [q, t1, t3, t9, t11, hF1.len, hB1.len, wk, tm, a2, a3, hz2, d1]
        refine (fin 0 _ (by omega) (by simp [t0, t1, t3, t9, t10, t11])).mono ?_
        rintro c τ2 H2 ⟨rfl, v2, ⟨e2, rows2, t⟩⟩
        simp at t
        obtain ⟨t0, t1, t3, t9, t10, t11⟩ := t
        simp [t11, wi]
        exact ⟨_, by omega, i + 1, v2, _, ⟨e2, rows2, by simp [gl], nx _ (by omega), by omega, rfl, by simp [t0, t1, t3, t9, t10]⟩⟩
  · have hil : i = F.length := by omega
    simp [q, t1, t11, hF1.len]
    exact ⟨v10, G, e1, rows.gd, ⟨by omega, fun {j g} h => rot j g h⟩, by simp [t0, t1, t9, t10]⟩
theorem back_cast {i l k : Nat} (hk : k < l) : (((i + l - k) % l : Nat) : Int) = ((i : Int) + (l : Int) - (k : Int)) % (l : Int) := by
  rw [Int.natCast_emod]; congr 1; omega
structure Oj1 (H H' : Heap) (vF vp vq : AV) (P : List Int) (k i : Nat) (τ : Env) (j m : Nat) : Prop where
  eq : H = H'
  le : j ≤ P.length
  hm : m = P.length - j
  t : Tm τ [(1, vF), (9, .int .i64 k), (25, vp), (26, vq), (27, .int .i64 i), (28, .int .i64 j)]
structure Oi1 (H H' : Heap) (vF vp vq : AV) (P : List Int) (k : Nat) (τ : Env) (i m : Nat) : Prop where
  eq : H = H'
  le : i ≤ P.length
  hm : m = P.length - i
  t : Tm τ [(1, vF), (9, .int .i64 k), (25, vp), (26, vq), (27, .int .i64 i)]
/-- Two lists of parts say the same, the second one turned. -/
structure Alike (l k : Nat) (P Q : List Int) : Prop where
  len : Q.length = P.length
  lp : P = [] ∨ P.length = l
  eq : ∀ {i j : Nat} {x y z w : Int}, P[i]? = some x → P[j]? = some y → Q[(i + l - k) % l]? = some z → Q[(j + l - k) % l]? = some w → (x = y ↔ z = w)
theorem order_j {vF vp vq : AV} {F : List (List Int)} {P Q : List Int} {k i : Nat} (hF : Gd H vF F) (hs : Fsz F) (hP : Ints H vp P) (hQ : Ints H vq Q) (hk : k < F.length) (al : Alike F.length k P Q) (hi : i < P.length) {τ0 : Env}
    (u : Tm τ0 [(1, vF), (9, .int .i64 k), (25, vp), (26, vq), (27, .int .i64 i), (28, .int .i64 0)]) :
    Wp FT k5j τ0 H (fun c τ H' => c = .next ∧ H' = H ∧ Tm τ [(1, vF), (9, .int .i64 k), (25, vp), (26, vq), (27, .int .i64 i)]) := by
  simp at u
  obtain ⟨u1, u9, u25, u26, u27, u28⟩ := u
  have hl := hs.len
  have hp : P.length = F.length := by
    rcases al.lp with h | h
    · subst h; simp at hi
    · exact h
  have hql := al.len
  simp [k5j, k5b, subAt, A5]
  refine Wp_loop (fun m τ H' => ∃ j, Oj1 H H' vF vp vq P k i τ j m) ?_ P.length _ _ ⟨0, ⟨rfl, by omega, by omega, by simp [u1, u9, u25, u26, u27, u28]⟩⟩
  rintro m τ _ ⟨j, ⟨rfl, hj, rfl, t⟩⟩
  simp at t
  obtain ⟨t1, t9, t25, t26, t27, t28⟩ := t
  by_cases q : j < P.length
  · have wj : IntKind.i64.wrap ((j : Int) + 1) = (j : Int) + 1 := wrap64 (by omega) (by omega)
    have w1 : IntKind.i64.wrap ((i : Int) + (F.length : Int)) = (i : Int) + (F.length : Int) := wrap64 (by omega) (by omega)
    have w2 : IntKind.i64.wrap ((i : Int) + (F.length : Int) - (k : Int)) = (i : Int) + (F.length : Int) - (k : Int) := wrap64 (by omega) (by omega)
    have w3 : IntKind.i64.wrap ((j : Int) + (F.length : Int)) = (j : Int) + (F.length : Int) := wrap64 (by omega) (by omega)
    have w4 : IntKind.i64.wrap ((j : Int) + (F.length : Int) - (k : Int)) = (j : Int) + (F.length : Int) - (k : Int) := wrap64 (by omega) (by omega)
    have m1 : ((i : Int) + (F.length : Int) - (k : Int)).tmod (F.length : Int) = ((i : Int) + (F.length : Int) - (k : Int)) % (F.length : Int) := Int.tmod_eq_emod_of_nonneg (by omega)
    have m2 : ((j : Int) + (F.length : Int) - (k : Int)).tmod (F.length : Int) = ((j : Int) + (F.length : Int) - (k : Int)) % (F.length : Int) := Int.tmod_eq_emod_of_nonneg (by omega)
    have l1 : (i + F.length - k) % F.length < F.length := Nat.mod_lt _ (by omega)
    have l2 : (j + F.length - k) % F.length < F.length := Nat.mod_lt _ (by omega)
    have hz : ¬ (F.length : Int) = 0 := by omega
    have hz2 : ¬ F.length = 0 := by omega
    obtain ⟨p1, x, a1, a2, a3⟩ := Ints.idx hP (k := .i64) (i := (i : Int)) (by omega) (by omega)
    obtain ⟨p2, y, b1, b2, b3⟩ := Ints.idx hP (k := .i64) (i := (j : Int)) (by omega) (by omega)
    obtain ⟨p3, z, c1, c2, c3⟩ := Ints.idx hQ (k := .i64) (i := (((i + F.length - k) % F.length : Nat) : Int)) (by omega) (by omega)
    obtain ⟨p4, w, d1, d2, d3⟩ := Ints.idx hQ (k := .i64) (i := (((j + F.length - k) % F.length : Nat) : Int)) (by omega) (by omega)
    rw [Int.toNat_natCast] at a1 b1 c1 d1
    rw [back_cast hk] at c2 d2
    have he := al.eq a1 b1 c1 d1
    have hq : j < P.length := q
    by_cases e : x = y
    · have e2 := he.1 e
      simp [q, t1, t9, t25, t26, t27, t28, hP.len, hF.len, w1, w2, w3, w4, m1, m2, hz2, a2, a3, b2, b3, c2, c3, d2, d3, e, e2, wj]
      exact ⟨_, by omega, j + 1, ⟨rfl, by omega, rfl, by simp [t1, t9, t25, t26, t27]⟩⟩
    · have e2 : ¬ z = w := fun h => e (he.2 h)
      simp [q, t1, t9, t25, t26, t27, t28, hP.len, hF.len, w1, w2, w3, w4, m1, m2, hz2, a2, a3, b2, b3, c2, c3, d2, d3, wj]
      exact ⟨by rw [beq_eq_false_iff_ne.2 e, beq_eq_false_iff_ne.2 e2], _, by omega, j + 1, ⟨rfl, by omega, rfl, by simp [t1, t9, t25, t26, t27]⟩⟩
  · have hjl : j = P.length := by omega
    simp [q, t25, t28, hP.len]
    simp [t1, t9, t26, t27]
theorem order_i {vF vp vq : AV} {F : List (List Int)} {P Q : List Int} {k : Nat} (hF : Gd H vF F) (hs : Fsz F) (hP : Ints H vp P) (hQ : Ints H vq Q) (hk : k < F.length) (al : Alike F.length k P Q) {τ0 : Env}
    (u : Tm τ0 [(1, vF), (9, .int .i64 k), (25, vp), (26, vq), (27, .int .i64 0)]) :
    Wp FT k5b τ0 H (fun c _ H' => c = .next ∧ H' = H) := by
  simp at u
  obtain ⟨u1, u9, u25, u26, u27⟩ := u
  have hl := hs.len
  have hp : P.length ≤ F.length := by
    rcases al.lp with h | h
    · subst h; simp
    · omega
  rw [body5b]
  generalize hkj : k5j = kj
  simp [k5b, subAt, putAt, A5]
  refine Wp_loop (fun m τ H' => ∃ i, Oi1 H H' vF vp vq P k τ i m) ?_ P.length _ _ ⟨0, ⟨rfl, by omega, by omega, by simp [u1, u9, u25, u26, u27]⟩⟩
  rintro m τ _ ⟨i, ⟨rfl, hi, rfl, t⟩⟩
  simp at t
  obtain ⟨t1, t9, t25, t26, t27⟩ := t
  by_cases q : i < P.length
  · have wi : IntKind.i64.wrap ((i : Int) + 1) = (i : Int) + 1 := wrap64 (by omega) (by omega)
    simp [q, t25, t27, hP.len]
    rw [← hkj]
    refine (order_j hF hs hP hQ hk al q (by simp [t1, t9, t25, t26, t27])).mono ?_
    rintro c τ2 _ ⟨rfl, rfl, t⟩
    simp at t
    obtain ⟨t1, t9, t25, t26, t27⟩ := t
    simp [t27, wi]
    exact ⟨_, by omega, i + 1, ⟨rfl, by omega, rfl, by simp [t1, t9, t25, t26]⟩⟩
  · simp [q, t25, t27, hP.len]
theorem rot_sz {k : Nat} {F G : List (List Int)} (h : FRot k F G) (hk : k < F.length) (hs : Fsz F) : Fsz G :=
  ⟨(h.rows hk (P := fun f => f.length ≤ 1000000000) (fun a b q => by simp at *; omega)).1 hs.row, by rw [h.len]; exact hs.len, by rw [(h.flat hk).length_eq]; exact hs.tot⟩
theorem rot_row {k : Nat} {F G : List (List Int)} (h : FRot k F G) (hk : k < F.length) (n : Int) : rowR n F = rowR n G := by
  unfold rowR
  have hp := h.perm hk
  have hr := rimE_perm hp
  have hd : (keys (rimE (allE F))).Nodup ↔ (keys (rimE (allE G))).Nodup := by
    unfold keys
    exact (hr.map _).nodup_iff.symm
  by_cases z : chkF n F = 0 ∧ (keys (rimE (allE F))).Nodup
  · rw [if_pos z, if_pos ⟨(h.chk hk n).1 z.1, hd.1 z.2⟩]
    exact (rims_perm hp (hd.1 z.2)).symm
  · rw [if_neg z, if_neg (fun q => z ⟨(h.chk hk n).2 q.1, hd.2 q.2⟩)]
theorem rot_alike {k : Nat} {F G : List (List Int)} (h : FRot k F G) (hk : k < F.length) (n : Int) : Alike F.length k (if chkF n F = 0 then partsF F else []) (if chkF n G = 0 then partsF G else []) := by
  by_cases z : chkF n F = 0
  · rw [if_pos z, if_pos ((h.chk hk n).1 z)]
    have pF := parts_is F
    have pG := parts_is G
    refine ⟨by rw [pF.len, pG.len, h.len], .inr pF.len, fun {i j x y u v} a b c d => ?_⟩
    have hi : i < F.length := by rw [← pF.len]; exact (List.getElem?_eq_some_iff.1 a).1
    have hj : j < F.length := by rw [← pF.len]; exact (List.getElem?_eq_some_iff.1 b).1
    rw [pF.eq a b, pG.eq c d]
    exact h.hang hk hi hj
  · rw [if_neg z, if_neg (fun q => z ((h.chk hk n).2 q))]
    exact ⟨rfl, .inl rfl, fun {i j x y u v} a => by simp at a⟩
theorem wrapU {n : Int} (h0 : 0 ≤ n) (h1 : n ≤ 9223372036854775807) : IntKind.wrap .u64 n = n := by
  unfold IntKind.wrap
  simp [IntKind.bits, IntKind.signed]
  omega
theorem wrapU_nn (n : Int) : 0 ≤ IntKind.wrap .u64 n := by
  unfold IntKind.wrap
  simp [IntKind.bits, IntKind.signed]
  omega
theorem turn_mod (t : Int) {l : Nat} (h : 0 < l) (hl : l ≤ 1000000000) : ∃ k : Nat, k < l ∧ IntKind.i64.wrap ((IntKind.u64.wrap t).tmod (IntKind.u64.wrap (l : Int))) = k := by
  rw [wrapU (n := (l : Int)) (by omega) (by omega), Int.tmod_eq_emod_of_nonneg (wrapU_nn t)]
  have h1 : 0 ≤ IntKind.u64.wrap t % (l : Int) := Int.emod_nonneg _ (by omega)
  have h2 : IntKind.u64.wrap t % (l : Int) < l := Int.emod_lt_of_pos _ (by omega)
  exact ⟨(IntKind.u64.wrap t % (l : Int)).toNat, by omega, by rw [wrap64 (by omega) (by omega)]; omega⟩
theorem order5 (T : LawT FT) (h5 : FT 5 = some (.code A5)) (hw : H.Wf) {n turn : Int} {vF vB : AV} {F : List (List Int)} {B : List Nat} (hF : Gd H vF F) (hB : Rw 1 bytc H vB B) (hb : ∀ b, b ∈ B → b < 256) :
    Cp FT 5 [.int .i64 n, vF, .int .i64 turn, vB] H (fun r _ => r = .bool true) := by
  refine Cp_code A5 h5 rfl ?_
  rw [body5]
  generalize hka : k5a = ka
  generalize hkb : k5b = kb
  simp [A5, putAt]
  refine (many17 T.h17 hF).mono ?_
  rintro _ _ ⟨⟨c, rfl, hc⟩, rfl⟩
  cases c with
  | true =>
    simp
    refine (known18 T hw).mono ?_
    rintro _ _ ⟨rfl, _⟩
    simp
  | false =>
    have hs := Fsz.of (hc rfl)
    have hl := hs.len
    by_cases hz : F.length = 0
    · have hz' : (F.length : Int) = 0 := by omega
      simp [hF.len, hz']
      refine (known18 T hw).mono ?_
      rintro _ _ ⟨rfl, _⟩
      simp
    · have hz' : ¬ (F.length : Int) = 0 := by omega
      obtain ⟨k, hk, ek⟩ := turn_mod turn (l := F.length) (by omega) hl
      have hu : ¬ IntKind.u64.wrap (F.length : Int) = 0 := by rw [wrapU (by omega) (by omega)]; exact hz'
      simp [hF.len, hz, hu, ek]
      rw [← hka]
      refine (order_build (n := n) hw hF hs hB hb hk (by simp)).mono ?_
      rintro c τ H1 ⟨rfl, v10, G, ⟨e1, gd, rot, t⟩⟩
      simp at t
      obtain ⟨t0, t1, t9, t10⟩ := t
      have hF1 := hF.ext e1
      have hsG := rot_sz rot hk hs
      simp [t0, t1]
      refine (check13 T.h20 T.h56 T.h91 T.h114 T.h63 T.h58 (n := n) hF1 hs.row hs.len e1.wf).mono ?_
      rintro _ H2 ⟨rfl, e2⟩
      simp [t0, t10]
      refine (check13 T.h20 T.h56 T.h91 T.h114 T.h63 T.h58 (n := n) (gd.ext e2) hsG.row hsG.len e2.wf).mono ?_
      rintro _ H3 ⟨rfl, e3⟩
      have hch : (chkF n F == 0) = (chkF n G == 0) := by
        rw [Bool.eq_iff_iff, beq_iff_eq, beq_iff_eq]; exact rot.chk hk n
      have e13 := e2.trans e3
      have hF3 := hF1.ext e13
      have gd3 := gd.ext e13
      obtain ⟨z1, z2, _⟩ := rowR_size (n := n) (F := F) (by have := hc rfl; omega)
      simp [hch, t0, t1]
      refine (rims30 T.toFacesT (n := n) hF3 hs e3.wf).mono ?_
      rintro r1 H4 ⟨hr1, e4⟩
      obtain ⟨v1, rfl, g1⟩ := rimsR_un hr1
      simp [t0, t10]
      refine (rims30 T.toFacesT (n := n) (gd3.ext e4) hsG e4.wf).mono ?_
      rintro r2 H5 ⟨hr2, e5⟩
      obtain ⟨v2, rfl, g2⟩ := rimsR_un hr2
      rw [← rot_row rot hk] at g2
      have e35 := e4.trans e5
      have hF5 := hF3.ext e35
      have gd5 := gd3.ext e35
      have g15 := g1.ext e5
      simp [t1]
      refine (count23 T.toFacesT hF5 hs e5.wf).mono ?_
      rintro _ H6 ⟨rfl, e6⟩
      have hcnt : ∃ x y z : Int, (if chkF 1048576 F = 0 then AV.tup [.int .i64 (firsts F.flatten).length, .int .i64 (edS (allE F)).length, .int .i64 F.length] else .tup [.int .i64 0, .int .i64 0, .int .i64 0]) = .tup [.int .i64 x, .int .i64 y, .int .i64 z]
          ∧ (if chkF 1048576 G = 0 then AV.tup [.int .i64 (firsts G.flatten).length, .int .i64 (edS (allE G)).length, .int .i64 G.length] else .tup [.int .i64 0, .int .i64 0, .int .i64 0]) = .tup [.int .i64 x, .int .i64 y, .int .i64 z] := by
        by_cases z : chkF 1048576 F = 0
        · rw [if_pos z, if_pos ((rot.chk hk _).1 z)]
          refine ⟨_, _, _, rfl, ?_⟩
          rw [rot.len, edS_congr (fun s => rot.mem hk), firsts_len (fun x => (rot.flat hk).mem_iff)]
        · rw [if_neg z, if_neg (fun q => z ((rot.chk hk _).2 q))]
          exact ⟨_, _, _, rfl, rfl⟩
      obtain ⟨x, y, z, hx1, hx2⟩ := hcnt
      rw [hx1]
      simp [t10]
      refine (count23 T.toFacesT (gd5.ext e6) hsG e6.wf).mono ?_
      rintro _ H7 ⟨rfl, e7⟩
      rw [hx2]
      have e57 := e6.trans e7
      simp [t1]
      refine (edges21 T.toFacesT (hF5.ext e57) hs e7.wf).mono ?_
      rintro vE1 H8 ⟨hE1, e8⟩
      simp [t10]
      refine (edges21 T.toFacesT ((gd5.ext e57).ext e8) hsG e8.wf).mono ?_
      rintro vE2 H9 ⟨hE2, e9⟩
      have hEE : (if chkF 1048576 G = 0 then edS (allE G) else []) = (if chkF 1048576 F = 0 then edS (allE F) else []) := by
        by_cases z : chkF 1048576 F = 0
        · rw [if_pos z, if_pos ((rot.chk hk _).1 z), edS_congr (fun s => rot.mem hk)]
        · rw [if_neg z, if_neg (fun q => z ((rot.chk hk _).2 q))]
      rw [hEE] at hE2
      have hEl : (if chkF 1048576 F = 0 then edS (allE F) else []).length ≤ 1000000000 := by
        split
        · have h1 := edS_len_le (allE F)
          have h2 : (allE F).length = F.flatten.length := flat_edges F
          have := hs.tot
          omega
        · simp
      have e79 := e8.trans e9
      have e59 := e57.trans e79
      simp
      refine (same26 T.h26 ((hE1.ext e9).sl pairc_len) (hE2.sl pairc_len) hEl).mono ?_
      rintro _ _ ⟨rfl, rfl⟩
      simp
      refine (same29 T.h29 T.h32 (g15.ext e59) (g2.ext e59) z1 z2).mono ?_
      rintro _ _ ⟨rfl, rfl⟩
      simp [t1]
      refine (parts33 T.toFacesT (hF5.ext e59) hs e9.wf).mono ?_
      rintro p1 H10 ⟨hp1, e10⟩
      simp [t10]
      refine (parts33 T.toFacesT ((gd5.ext e59).ext e10) hsG e10.wf).mono ?_
      rintro p2 H11 ⟨hp2, e11⟩
      have al := rot_alike rot hk 1048576
      have hp1' := hp1.ext e11
      have hF11 := ((hF5.ext e59).ext e10).ext e11
      have hlen : ((if chkF 1048576 F = 0 then partsF F else []).length : Int) = (if chkF 1048576 G = 0 then partsF G else []).length := by rw [al.len]
      generalize (if chkF 1048576 F = 0 then partsF F else []) = P at *
      generalize (if chkF 1048576 G = 0 then partsF G else []) = Q at *
      simp [hp1'.len, hp2.len, hlen]
      rw [← hkb]
      refine (order_i hF11 hs (hp1'.sl i64c_len) (hp2.sl i64c_len) hk al (by simp [t1, t9])).mono ?_
      rintro c τ2 _ ⟨rfl, rfl⟩
      simp
      refine (known18 T e11.wf).mono ?_
      rintro _ _ ⟨rfl, _⟩
      simp
theorem law_order (hw : H.Wf) {n turn : Int} {vF vB : AV} {F : List (List Int)} {B : List Nat} {p q : Prop} (_ : p) (hF : Gd H vF F) (_ : q) (hB : Rw 1 bytc H vB B ∧ ∀ b, b ∈ B → b < 256) : Cp FZ 5 [.int .i64 n, vF, .int .i64 turn, vB] H (fun r _ => r = .bool true) := order5 lawT rfl hw hF hB.1 hB.2
end
end Go.Proofs.Ytcepchipgjpkhaa
