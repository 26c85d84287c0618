/- Are two meshes the same, as the document asks it. No claim by itself. -/
import Derived.Test.YtacfhbhfgbjleaaDoorFA
namespace Go.Proofs.YtacfhbhfgbjleaaDoor
open Go Go.AI
theorem take_eq_succ {α : Type} {a b : List α} {i : Nat} {x y : α} (h : a.take i = b.take i) (ha : a[i]? = some x) (hb : b[i]? = some y) (e : x = y) : a.take (i + 1) = b.take (i + 1) := by
  rw [List.take_add_one, List.take_add_one, h, ha, hb, e]
theorem ne_of_at {α : Type} {a b : List α} {i : Nat} {x y : α} (ha : a[i]? = some x) (hb : b[i]? = some y) (e : x ≠ y) : a ≠ b := fun q => e (by rw [q, hb] at ha; exact (Option.some.inj ha).symm)
section
variable {FT : Nat → Option FnD} {H : Heap}
theorem nePair (x y : Int × Int) : binA .neq (.flat [.int, .int]) (.agg (pairc x)) (.agg (pairc y)) = some (.bool (!decide (x = y))) := by
  have e : binA .neq (.flat [.int, .int]) (.agg (pairc x)) (.agg (pairc y)) = (eqA (.flat [.int, .int]) (.agg (pairc x)) (.agg (pairc y))).map fun b => .bool !b := rfl
  rw [e, cells_pair]; rfl
structure SmI (H H' : Heap) (n : Nat) (va vb : AV) (eq : Nat → Prop) (τ : Env) (i m : Nat) : Prop where
  hh : H = H'
  le : i ≤ n
  hm : m = n - i
  eq : eq i
  t0 : Env.at τ 0 = va
  t1 : Env.at τ 1 = vb
  t5 : Env.at τ 5 = .int .i64 i
theorem same34 (h34 : FT 34 = some (.code A34)) {va vb : AV} {a b : List (Int × Int)} (ha : Pairs H va a) (hb : Pairs H vb b) (hl : a.length ≤ 1000000000) :
    Cp FT 34 [va, vb] H (fun r H' => r = .bool (decide (a = b)) ∧ H' = H) := by
  refine Cp_code A34 h34 rfl ?_
  by_cases hn : a.length = b.length
  rotate_left
  · have hne : a ≠ b := fun q => hn (by rw [q])
    have hn' : ((a.length : Int) != (b.length : Int)) = true := by simp; omega
    simp [A34, ha.len, hb.len, hn', hne]
  simp [A34, ha.len, hb.len, hn]
  refine Wp_loop (fun m τ H' => ∃ i, SmI H H' b.length va vb (fun i => a.take i = b.take i) τ i m) ?_ b.length _ _ ⟨0, ⟨rfl, by omega, by omega, by simp, by simp, by simp, by simp⟩⟩
  rintro m τ _ ⟨i, ⟨rfl, hi, rfl, heq, t0, t1, t5⟩⟩
  simp only [Wp_seq, Wp_region]
  have hla := ha.len
  rw [hn] at hla
  by_cases c : i < b.length
  · obtain ⟨p, x, a1, a2, a3, _⟩ := Sl.idx ha (k := .i64) (i := (i : Int)) (by omega) (by omega)
    obtain ⟨q, y, b1, b2, b3, _⟩ := Sl.idx hb (k := .i64) (i := (i : Int)) (by omega) (by omega)
    rw [Int.toNat_natCast] at a1 b1
    have hne := nePair x y
    by_cases e : x = y
    · rw [decide_eq_true e] at hne
      have w : IntKind.i64.wrap ((i : Int) + 1) = ((i + 1 : Nat) : Int) := wrap64 (by omega) (by omega)
      simp [c, t0, t1, t5, hla, a2, a3, b2, b3, hne, w]
      exact ⟨_, by omega, i + 1, ⟨rfl, by omega, rfl, take_eq_succ heq a1 b1 e, by simp [t0], by simp [t1], by simp⟩⟩
    · rw [decide_eq_false e] at hne
      have hab := ne_of_at a1 b1 e
      simp [c, t0, t1, t5, hla, a2, a3, b2, b3, hne, hab]
  · have hil : i = b.length := by omega
    subst hil
    have hab : a = b := by
      have h1 : a.take b.length = a := List.take_of_length_le (by omega)
      rw [h1, List.take_length] at heq; exact heq
    simp [t0, t5, hla, hab]
theorem same35 (h35 : FT 35 = some (.code A35)) {va vb : AV} {a b : List Int} (ha : Ints H va a) (hb : Ints H vb b) (hl : a.length ≤ 1000000000) :
    Cp FT 35 [va, vb] H (fun r H' => r = .bool (decide (a = b)) ∧ H' = H) := by
  refine Cp_code A35 h35 rfl ?_
  by_cases hn : a.length = b.length
  rotate_left
  · have hne : a ≠ b := fun q => hn (by rw [q])
    have hn' : ((a.length : Int) != (b.length : Int)) = true := by simp; omega
    simp [A35, ha.len, hb.len, hn', hne]
  simp [A35, ha.len, hb.len, hn]
  refine Wp_loop (fun m τ H' => ∃ i, SmI H H' b.length va vb (fun i => a.take i = b.take i) τ i m) ?_ b.length _ _ ⟨0, ⟨rfl, by omega, by omega, by simp, by simp, by simp, by simp⟩⟩
  rintro m τ _ ⟨i, ⟨rfl, hi, rfl, heq, t0, t1, t5⟩⟩
  simp only [Wp_seq, Wp_region]
  have hla := ha.len
  rw [hn] at hla
  by_cases c : i < b.length
  · obtain ⟨p, x, a1, a2, a3⟩ := Ints.idx ha (k := .i64) (i := (i : Int)) (by omega) (by omega)
    obtain ⟨q, y, b1, b2, b3⟩ := Ints.idx hb (k := .i64) (i := (i : Int)) (by omega) (by omega)
    rw [Int.toNat_natCast] at a1 b1
    by_cases e : x = y
    · have w : IntKind.i64.wrap ((i : Int) + 1) = ((i + 1 : Nat) : Int) := wrap64 (by omega) (by omega)
      simp [c, t0, t1, t5, hla, a2, a3, b2, b3, e, w]
      exact ⟨_, by omega, i + 1, ⟨rfl, by omega, rfl, take_eq_succ heq a1 b1 e, by simp [t0], by simp [t1], by simp⟩⟩
    · have e' : (x != y) = true := by simpa using e
      have hab := ne_of_at a1 b1 e
      simp [c, t0, t1, t5, hla, a2, a3, b2, b3, e', hab]
  · have hil : i = b.length := by omega
    subst hil
    have hab : a = b := by
      have h1 : a.take b.length = a := List.take_of_length_le (by omega)
      rw [h1, List.take_length] at heq; exact heq
    simp [t0, t5, hla, hab]
structure SoI (H H' : Heap) (n o1 o2 : Nat) (eq : Nat → Prop) (τ : Env) (i m : Nat) : Prop where
  hh : H = H'
  le : i ≤ n
  hm : m = n - i
  eq : eq i
  t2 : Env.at τ 2 = .ptr o1 0
  t3 : Env.at τ 3 = .ptr o2 0
  t5 : Env.at τ 5 = .int .i64 i
abbrev H17 (FT : Nat → Option FnD) : Prop := FT 17 = some (.code A17) ∧ FT 34 = some (.code A34) ∧ FT 35 = some (.code A35)
theorem same17 (hh : H17 FT) (hw : H.Wf) {vP vF : AV} {P : List (Int × Int)} {W : Int} {F : List (List Int)} {vP' vF' : AV} {P' : List (Int × Int)} {W' : Int} {F' : List (List Int)} (h : Mo H vP vF P F) (h' : Mo H vP' vF' P' F') (hz : Sz P F) :
    Cp FT 17 [.agg [vP, .int .i64 W, vF], .agg [vP', .int .i64 W', vF']] H (fun r H' => r = .bool (decide ((P, W, F) = (P', W', F'))) ∧ Ext H H') := by
  obtain ⟨h17, h34, h35⟩ := hh
  refine Cp_code A17 h17 rfl ?_
  have hone := h.one W
  have hone' := h'.one W'
  have e0 := Ext.push hw (.cells [vP, .int .i64 W, vF])
  have g0 : (H.push (.cells [vP, .int .i64 W, vF])).get H.next = some (.cells [vP, .int .i64 W, vF]) := get_pushN.trans (if_pos rfl)
  have e1 := Ext.push e0.wf (.cells [vP', .int .i64 W', vF'])
  have g1 : ((H.push (.cells [vP, .int .i64 W, vF])).push (.cells [vP', .int .i64 W', vF'])).get (H.next + 1) = some (.cells [vP', .int .i64 W', vF']) := get_pushN.trans (if_pos rfl)
  have g0' := e1.keep _ _ g0
  have ex := e0.trans e1
  generalize hP0 : (H.push (.cells [vP, .int .i64 W, vF])).push (.cells [vP', .int .i64 W', vF']) = H0 at *
  have l0 : loadA H0 none (.ptr H.next 0) = some vP := load_get g0' rfl
  have l1 : loadA H0 none (.ptr H.next 1) = some (.int .i64 W) := load_get g0' rfl
  have l2 : loadA H0 none (.ptr H.next 2) = some vF := load_get g0' rfl
  have m0 : loadA H0 none (.ptr (H.next + 1) 0) = some vP' := load_get g1 rfl
  have m1 : loadA H0 none (.ptr (H.next + 1) 1) = some (.int .i64 W') := load_get g1 rfl
  have m2 : loadA H0 none (.ptr (H.next + 1) 2) = some vF' := load_get g1 rfl
  have b := h.ext ex
  have b' := h'.ext ex
  have hlF := b.f.len
  have hlF' := b'.f.len
  simp [A17, hone, hone', hP0, l0, m0]
  refine (same34 h34 b.p b'.p hz.p).mono ?_
  rintro _ H5 ⟨rfl, rfl⟩
  by_cases c1 : P = P'
  rotate_left
  · have hne : ¬ (P, W, F) = (P', W', F') := fun q => c1 (by cases q; rfl)
    simp [c1]
    exact ex
  by_cases c2 : W = W'
  rotate_left
  · have hne : ¬ (P, W, F) = (P', W', F') := fun q => c2 (by cases q; rfl)
    have c2' : (W != W') = true := by simpa using c2
    simp [c1, c2, c2', l1, m1]
    exact ex
  by_cases c3 : F.length = F'.length
  rotate_left
  · have hne : ¬ F = F' := fun q => c3 (by rw [q])
    have c3' : ((F.length : Int) != (F'.length : Int)) = true := by simp; omega
    simp [c1, c2, l1, m1, l2, m2, hlF, hlF', c3', hne]
    exact ex
  have hlF2 := hlF
  rw [c3] at hlF2
  have hfz := hz.f
  simp [c1, c2, l1, m1, l2, m2, hlF2, hlF']
  refine Wp_loop (fun m τ H' => ∃ i, SoI H5 H' F'.length H.next (H.next + 1) (fun i => F.take i = F'.take i) τ i m) ?_ F'.length _ _ ⟨0, ⟨rfl, by omega, by omega, by simp, by simp, by simp, by simp⟩⟩
  rintro m τ _ ⟨i, ⟨rfl, hi, rfl, heq, t2, t3, t5⟩⟩
  simp only [Wp_seq, Wp_region]
  by_cases c : i < F'.length
  · obtain ⟨p, r, f, a1, a2, a3, a4⟩ := b.f.idx (k := .i64) (i := (i : Int)) (by omega) (by omega)
    obtain ⟨p', r', f', b1, b2, b3, b4⟩ := b'.f.idx (k := .i64) (i := (i : Int)) (by omega) (by omega)
    rw [Int.toNat_natCast] at a1 b1
    simp [c, t2, t3, t5, l2, m2, hlF2, a2, a3, b2, b3]
    refine (same35 h35 (a4.sl i64c_len) (b4.sl i64c_len) (hz.r f (List.mem_of_getElem? a1))).mono ?_
    rintro _ _ ⟨rfl, rfl⟩
    by_cases e : f = f'
    · have w : IntKind.i64.wrap ((i : Int) + 1) = ((i + 1 : Nat) : Int) := wrap64 (by omega) (by omega)
      simp [e, t5, w]
      exact ⟨_, by omega, i + 1, ⟨rfl, by omega, rfl, take_eq_succ heq a1 b1 e, by simp [t2], by simp [t3], by simp⟩⟩
    · have hab := ne_of_at a1 b1 e
      simp [e, hab]
      exact ex
  · have hil : i = F'.length := by omega
    subst hil
    have hab : F = F' := by
      have h1 : F.take F'.length = F := List.take_of_length_le (by omega)
      rw [h1, List.take_length] at heq; exact heq
    simp [t2, t5, l2, hlF2, hab]
    exact ex
end
end Go.Proofs.YtacfhbhfgbjleaaDoor
