/- The law ObjectReads, over the interpreter. No claim by itself. -/
import Derived.Test.YtacfhbhfgbjleaaDoorX2
import Derived.Test.YtacfhbhfgbjleaaDoorGB
import Derived.Test.YtacfhbhfgbjleaaDoorG7
import Derived.Test.YtacfhbhfgbjleaaDoorEE
namespace Go.Proofs.YtacfhbhfgbjleaaDoor
open Go Go.AI
theorem j13 : H13 FK := ⟨rfl, rfl, rfl, rfl, rfl, rfl, rfl, rfl, rfl, rfl, rfl, rfl, rfl, rfl⟩
theorem j14 : H14 FK := ⟨rfl, rfl, rfl, rfl⟩
theorem j11 : H11 FK := ⟨rfl, j13, ⟨rfl, rfl, rfl, rfl⟩, rfl⟩
theorem j15 : H15 FK := ⟨rfl, rfl, ⟨rfl, rfl, ⟨rfl, rfl, rfl, rfl, rfl⟩⟩, j13⟩
theorem j16 : H16 FK := ⟨rfl, rfl, rfl, rfl, ⟨rfl, rfl, ⟨rfl, rfl, rfl, rfl, rfl, rfl, rfl, rfl, rfl, rfl⟩⟩, j14⟩
theorem j17 : H17 FK := ⟨rfl, rfl, rfl⟩
theorem nil_sz : Sz [] [] := ⟨by simp, by simp, by simp, by simp⟩
theorem parO_sz {s : List Nat} {P : List (Int × Int)} {W : Int} {F : List (List Int)} {a e : Int} (h : parO s = ((P, W, F), a, e)) : Sz P F := by
  by_cases he : e = 0
  · subst he
    obtain ⟨_, hl, hv, ht⟩ := parO_ok h
    have h1 := txtO_len P W F
    have h2 : (wordsN s).length = (txtO P W F).length := by rw [← ht]; simp
    have h3 := words_len s
    have h4 := flat4 hv.f4
    exact ⟨by omega, by omega, fun f hf => by have := hv.f4 f hf; omega, by omega⟩
  · have := (parO_no h he).1
    unfold nilO at this
    simp only [Prod.mk.injEq] at this
    obtain ⟨rfl, _, rfl⟩ := this
    exact nil_sz
def r4b : ACode := subAt [1,1,1,1,1,0] A4.body
theorem body4 : A4.body = putAt [1,1,1,1,1,0] A4.body r4b := rfl
structure Sev (H1 H' : Heap) (vP : AV) (n o3 : Nat) (v : AV) (τ0 τ : Env) (i m : Nat) : Prop where
  fr : Fr (rowObj vP).toList H1 H'
  cs : ∀ p, rowObj vP = some p → ∃ cs, H'.get p = some (.cells cs) ∧ cs.length = n * 2
  le : i ≤ n
  hm : m = n - i
  t0 : Env.at τ 0 = Env.at τ0 0
  t6 : Env.at τ 6 = Env.at τ0 6
  t3 : Env.at τ 3 = .ptr o3 0
  t9 : Env.at τ 9 = .int .i64 i
/-- All places of what was read are written over. -/
theorem sevens {H0 H1 : Heap} (hw : H1.Wf) {vP v : AV} {P : List (Int × Int)} {o3 : Nat} {c1 c2 : AV} (hm : Mine 2 pairc H0 H1 vP P) (hl : P.length ≤ 1000000000) (g3 : H1.get o3 = some (.cells [vP, c1, c2])) (h3 : ∀ p, rowObj vP = some p → p ≠ o3) {τ0 : Env} (u3 : Env.at τ0 3 = .ptr o3 0) :
    Wp FK r4b τ0 H1 (fun s τ H' => s = .next ∧ Fr (rowObj vP).toList H1 H' ∧ Env.at τ 0 = Env.at τ0 0 ∧ Env.at τ 6 = Env.at τ0 6) := by
  simp [r4b, subAt, A4]
  refine Wp_loop (fun m τ H' => ∃ i, Sev H1 H' vP P.length o3 v τ0 τ i m) ?_ P.length _ _ ⟨0, ⟨Fr.refl hw, fun p hp => ?_, by omega, by omega, by simp, by simp, by simp [u3], by simp⟩⟩
  rotate_left
  · rcases hm.ow with ⟨q, _⟩ | ⟨o, q, _, q2, _⟩
    · rw [q] at hp; cases hp
    · rw [q] at hp; cases hp
      exact ⟨_, q2, by rw [flat_len pairc_len]⟩
  rintro m τ H2 ⟨i, ⟨fr, cs, hi, rfl, t0, t6, t3, t9⟩⟩
  simp only [Wp_seq, Wp_region]
  have g3' := fr.keep _ _ (fun q => by
    cases hr : rowObj vP with
    | none => rw [hr] at q; simp at q
    | some z => rw [hr] at q; simp at q; exact h3 z hr q.symm) g3
  have l3 : loadA H2 none (.ptr o3 0) = some vP := load_get g3' rfl
  have hlen := (hm.ow.rw pairc_len).len
  by_cases c : i < P.length
  · rcases hm.ow with ⟨q, q2⟩ | ⟨o, q, _, q2, q3⟩
    · rw [q2] at c; simp at c
    · subst q
      obtain ⟨cs', k1, k2⟩ := cs o rfl
      obtain ⟨H3, s1, s2, s3⟩ := store_cell (o := o) (off := i * 2) (x := .int .i64 7) fr.wf (by rw [fr.floor]; exact q3) k1 (by omega) rfl
      have w : IntKind.i64.wrap ((i : Int) + 1) = ((i + 1 : Nat) : Int) := wrap64 (by omega) (by omega)
      simp [c, t3, t9, l3, s1, w]
      refine ⟨_, by omega, i + 1, ⟨fr.trans hw s3 (fun p hp => .inl (by simp at hp; subst hp; simp [rowObj])), fun p hp => ?_, by omega, rfl, by simp [t0], by simp [t6], by simp [t3], by simp⟩⟩
      cases hp
      exact ⟨_, s2, by rw [List.length_set]; exact k2⟩
  · have hil : i = P.length := by omega
    subst hil
    simp [t3, t9, l3, hlen]
    exact ⟨fr, t0, t6⟩
theorem reads4 {H : Heap} (hw : H.Wf) {v : AV} {s : List Nat} (hs : bytesA H v = some s) (hcap : capOk v = true) : Cp FK 4 [v] H (fun r _ => r = .bool true) := by
  refine Cp_code A4 rfl rfl ?_
  have hA : A4.results = [.tmp 2] := rfl
  rw [hA, body4]
  have hlen := bytesA_len hs
  generalize hrb : r4b = rb
  by_cases cl : 4000 < s.length
  · have cl' : (4000 : Int) < s.length := by omega
    simp [A4, putAt, hlen, cl']
    apply hk10
    simp
  have cl' : ¬ (4000 : Int) < s.length := by omega
  simp [A4, putAt, hlen, cl']
  refine (read15 j15 hw hs).mono ?_
  rintro _ H1 ⟨⟨vP, vF, P, W, F, a, e, hp, rfl, mo, mi⟩, e1⟩
  have hz := parO_sz hp
  have hone := mo.mo.one W
  obtain ⟨H2, st2, g2, e2, n2⟩ := store_new e1.wf (z := [.nils, .int .i64 0, .nils]) (n := 3) (x := .agg [vP, .int .i64 W, vF]) (cs := [vP, .int .i64 W, vF]) rfl rfl rfl hone
  have x2 := e1.trans e2
  simp [st2]
  refine (read16 j16 x2.wf (bytesA_ext x2 hs) hcap).mono ?_
  rintro _ H3 ⟨⟨vP', vF', P', W', F', a', e', hp', rfl, mo'⟩, e3⟩
  rw [hp] at hp'
  simp only [Prod.mk.injEq] at hp'
  obtain ⟨⟨rfl, rfl, rfl⟩, rfl, rfl⟩ := hp'
  have hone' := mo'.mo.one W
  obtain ⟨H4, st4, g4, e4, n4⟩ := store_new e3.wf (z := [.nils, .int .i64 0, .nils]) (n := 3) (x := .agg [vP', .int .i64 W, vF']) (cs := [vP', .int .i64 W, vF']) rfl rfl rfl hone'
  have x34 := e3.trans e4
  have g2' := x34.keep _ _ g2
  have l3 : loadA H4 (some 3) (.ptr H1.next 0) = some (.agg [vP, .int .i64 W, vF]) := load_agg g2' (by simp [seg])
  have l6 : loadA H4 (some 3) (.ptr H3.next 0) = some (.agg [vP', .int .i64 W, vF']) := load_agg g4 (by simp [seg])
  have mo4 := (mo.mo.ext e2).ext x34
  have mo4' := mo'.mo.ext e4
  simp [st4, l3, l6]
  refine (same17 j17 e4.wf (W := W) (W' := W) mo4 mo4' hz).mono ?_
  rintro _ H5 ⟨rfl, e5⟩
  have x25 := x34.trans e5
  have g2'' := e5.keep _ _ g2'
  have mi5 := (mi.ext e2).ext x25
  have hP1 : ∀ p, rowObj vP = some p → p < H1.next := fun p hp => mi.lt e1.wf hp
  simp
  rw [← hrb]
  refine (sevens (v := v) e5.wf mi5 hz.p g2'' (fun p hp => by have := hP1 p hp; omega) (by simp)).mono ?_
  rintro sg τ H6 ⟨rfl, fr6, t0, t6⟩
  have t0' : Env.at τ 0 = v := by rw [t0]; simp
  have t6' : Env.at τ 6 = .ptr H3.next 0 := by rw [t6]; simp
  have x5 : Ext H H5 := x2.trans x25
  have hout : ∀ p, p ∈ (rowObj vP).toList → H.next ≤ p ∧ p < H1.next := fun p q => by
    cases hr : rowObj vP with
    | none => rw [hr] at q; simp at q
    | some z => rw [hr] at q; simp at q; subst q; exact ⟨mi.new p hr, hP1 p hr⟩
  have hs6 : bytesA H6 v = some s := bytesA_fr fr6 (bytesA_ext x5 hs) (fun p hp q => by have := bytesA_row hw hs hp; have := (hout p q).1; omega)
  have g6 := fr6.keep _ _ (fun q => by have := (hout _ q).2; have := e2.next; have := e3.next; omega) (e5.keep _ _ g4)
  have mo6' := ((mo'.ext e4).ext e5).fr fr6 (fun p hp => by have := (hout p hp).2; have := e2.next; omega)
  simp [t0']
  refine (read15 j15 fr6.wf hs6).mono ?_
  rintro _ H7 ⟨⟨vP2, vF2, P2, W2, F2, a2, e2', hp2, rfl, mo2, mi2⟩, e7⟩
  rw [hp] at hp2
  simp only [Prod.mk.injEq] at hp2
  obtain ⟨⟨rfl, rfl, rfl⟩, rfl, rfl⟩ := hp2
  have hone2 := mo2.mo.one W
  obtain ⟨H8, st8, g8, e8, n8⟩ := store_new e7.wf (z := [.nils, .int .i64 0, .nils]) (n := 3) (x := .agg [vP2, .int .i64 W, vF2]) (cs := [vP2, .int .i64 W, vF2]) rfl rfl rfl hone2
  have l10 : loadA H8 (some 3) (.ptr H7.next 0) = some (.agg [vP2, .int .i64 W, vF2]) := load_agg g8 (by simp [seg])
  have l6' : loadA H8 (some 3) (.ptr H3.next 0) = some (.agg [vP', .int .i64 W, vF']) := load_agg (e8.keep _ _ (e7.keep _ _ g6)) (by simp [seg])
  simp [st8, t6', l10, l6']
  refine (same17 j17 e8.wf (W := W) (W' := W) (mo2.mo.ext e8) ((mo6'.ext e7).ext e8).mo hz).mono ?_
  rintro _ H9 ⟨rfl, e9⟩
  simp
  apply hk10
  simp
end Go.Proofs.YtacfhbhfgbjleaaDoor
