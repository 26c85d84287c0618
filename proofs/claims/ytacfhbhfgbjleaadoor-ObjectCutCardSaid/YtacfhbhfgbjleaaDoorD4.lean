/- The cutting into words, as the document does it. No claim by itself. -/
import Derived.Test.YtacfhbhfgbjleaaDoorTab
import Derived.Test.YtacfhbhfgbjleaaDoorED
namespace Go.Proofs.YtacfhbhfgbjleaaDoor
open Go Go.AI
theorem tokA_len' (t : Nat × List Nat) : (tokA t).length = 2 := rfl
theorem tokA_one' (t : Nat × List Nat) : allOne (tokA t) = true := rfl
def stOf (s : List Nat) (i : Nat) (com : Bool) : Option Nat → SS Nat
  | none => if com = true then .com else .out
  | some f => .word f ((s.drop f).take (i - f)).reverse
def frV : Option Nat → Int
  | none => -1
  | some f => f
structure St20 (H0 H' : Heap) (v : AV) (s : List Nat) (i : Nat) (com : Bool) (fr : Option Nat) (τ : Env) : Prop where
  ex : Ext H0 H'
  cf : com = true → fr = none
  fi : ∀ f, fr = some f → f < i ∧ i ≤ s.length
  ri : ∃ (xs : List (Nat × List Nat)) (lv : AV), Mine 2 tokA H0 H' lv xs ∧ wordsN s = xs ++ scanW idN ((s ++ [10]).drop i) i (stOf s i com fr) ∧ xs.length ≤ i ∧
    Env.at τ 0 = v ∧ Env.at τ 4 = lv ∧ Env.at τ 5 = .bool com ∧ Env.at τ 6 = .int .i64 (frV fr)
structure Inv20 (H0 : Heap) (v : AV) (s : List Nat) (k : Nat) (τ : Env) (H' : Heap) : Prop where
  ri : ∃ (i : Nat) (com : Bool) (fr : Option Nat), i ≤ s.length + 1 ∧ k = s.length + 1 - i ∧ St20 H0 H' v s i com fr τ ∧ Env.at τ 7 = .int .i64 i
def r20 : ACode := subAt [1,1,1,1,1,0,1,0,0,1,0,0,1,1] A18.body
theorem body18 : A18.body = putAt [1,1,1,1,1,0,1,0,0,1,0,0,1,1] A18.body r20 := rfl
section
variable {FT : Nat → Option FnD} {H : Heap}
theorem r20_ok {H0 H' : Heap} (hw0 : H0.Wf) {v : AV} {s : List Nat} (hs : bytesA H' v = some s) (hcap : capOk v = true) (hlen : s.length ≤ 1048576) {i : Nat} {com : Bool} {fr : Option Nat} {τ : Env} (h : St20 H0 H' v s i com fr τ) (t7 : Env.at τ 7 = .int .i64 i) {c : Nat} (hc : (s ++ [10])[i]? = some c) (hil : i ≤ s.length)
    (t8 : Env.at τ 8 = .int .u8 c) {Q : Post} (hQ : ∀ τ' H'' com' fr', St20 H0 H'' v s (i + 1) com' fr' τ' → Env.at τ' 7 = .int .i64 i → Q .next τ' H'') : Wp FT r20 τ H' Q := by
  obtain ⟨ex, hcf, hfi, xs, lv, mi, hsp, hxl, t0, t4, t5, t6⟩ := h
  have hdrop := drop_get hc
  by_cases hbl : isBl c = true
  · have hcc : c = 32 ∨ c = 9 ∨ c = 13 ∨ c = 10 := by
      simp [isBl] at hbl; omega
    cases com with
    | true =>
      have hfr := hcf rfl
      subst hfr
      by_cases h10 : c = 10
      · subst h10
        have hstep : wordsN s = xs ++ scanW idN ((s ++ [10]).drop (i + 1)) (i + 1) (stOf s (i + 1) false none) := by
          rw [hsp, hdrop]; simp [stOf, scanW, idN]
        simp [r20, subAt, A18, t5, t6, t7, t8, frV]
        exact hQ _ _ false none ⟨ex, by simp, by simp, xs, lv, mi, hstep, by omega, by simp [t0], by simp [t4], by simp, by simp [t6, frV]⟩ (by simp [t7])
      · have hstep : wordsN s = xs ++ scanW idN ((s ++ [10]).drop (i + 1)) (i + 1) (stOf s (i + 1) true none) := by
          rw [hsp, hdrop]; simp [stOf, scanW, idN, h10]
        have done : ∀ τ', Env.at τ' 0 = v → Env.at τ' 4 = lv → Env.at τ' 5 = .bool true → Env.at τ' 6 = .int .i64 (-1) → Env.at τ' 7 = .int .i64 i → Q .next τ' H' := fun τ' a b d e f =>
          hQ _ _ true none ⟨ex, by simp, by simp, xs, lv, mi, hstep, by omega, a, b, d, e⟩ f
        rcases hcc with rfl | rfl | rfl | rfl
        · simp [r20, subAt, A18, t5, t6, t7, t8, frV]
          exact done _ (by simp [t0]) (by simp [t4]) (by simp) (by simp [t6, frV]) (by simp [t7])
        · simp [r20, subAt, A18, t5, t6, t7, t8, frV]
          exact done _ (by simp [t0]) (by simp [t4]) (by simp) (by simp [t6, frV]) (by simp [t7])
        · simp [r20, subAt, A18, t5, t6, t7, t8, frV]
          exact done _ (by simp [t0]) (by simp [t4]) (by simp) (by simp [t6, frV]) (by simp [t7])
        · exact absurd rfl h10
    | false =>
      cases fr with
      | none =>
        have hstep : wordsN s = xs ++ scanW idN ((s ++ [10]).drop (i + 1)) (i + 1) (stOf s (i + 1) false none) := by
          rw [hsp, hdrop]; simp [stOf, scanW, idN, hbl]
        have done : ∀ τ', Env.at τ' 0 = v → Env.at τ' 4 = lv → Env.at τ' 5 = .bool false → Env.at τ' 6 = .int .i64 (-1) → Env.at τ' 7 = .int .i64 i → Q .next τ' H' := fun τ' a b d e f =>
          hQ _ _ false none ⟨ex, by simp, by simp, xs, lv, mi, hstep, by omega, a, b, d, e⟩ f
        rcases hcc with rfl | rfl | rfl | rfl <;>
        · simp [r20, subAt, A18, t5, t6, t7, t8, frV]
          exact done _ (by simp [t0]) (by simp [t4]) (by simp [t5]) (by simp [t6, frV]) (by simp [t7])
      | some f =>
        obtain ⟨hf1, hf2⟩ := hfi f rfl
        have hstep : wordsN s = (xs ++ [(f, (s.drop f).take (i - f))]) ++ scanW idN ((s ++ [10]).drop (i + 1)) (i + 1) (stOf s (i + 1) false none) := by
          rw [hsp, hdrop]; simp [stOf, scanW, idN, hbl]
        obtain ⟨v', sl, hb', _⟩ := bytesA_cut hs hcap (f := f) (i := i) (by omega) hf2
        have hstr := toStr_bytes hb'
        obtain ⟨lv', H2, ap, mi2, f2, _⟩ := mi.app1 tokA_len' (by omega) tokA_one' ex.wf ex.next (f, (s.drop f).take (i - f)) (bytes := 24) (by omega)
        have ex2 : Ext H0 H2 := ((ex.fr (S := [])).trans hw0 f2 (by intro p hp; right; simp at hp; exact mi.new p hp)).ext
        simp only [tokA] at ap
        have t6' : Env.at τ 6 = .int .i64 (f : Int) := t6
        have hfn : (0 : Int) ≤ (f : Int) := by omega
        have done : ∀ τ', Env.at τ' 0 = v → Env.at τ' 4 = lv' → Env.at τ' 5 = .bool false → Env.at τ' 6 = .int .i64 (-1) → Env.at τ' 7 = .int .i64 i → Q .next τ' H2 := fun τ' a b d e f =>
          hQ _ _ false none ⟨ex2, by simp, by simp, _, lv', mi2, hstep, by simp; omega, a, b, d, e⟩ f
        rcases hcc with rfl | rfl | rfl | rfl <;>
        · simp [r20, subAt, A18, t0, t4, t5, t6', t7, t8, sl, hstr, ap]
          exact done _ (by simp [t0]) (by simp) (by simp [t5]) (by simp) (by simp [t7])
  · have hbl' : isBl c = false := by simpa using hbl
    have n32 : c ≠ 32 := fun q => by subst q; cases hbl'
    have n9 : c ≠ 9 := fun q => by subst q; cases hbl'
    have n13 : c ≠ 13 := fun q => by subst q; cases hbl'
    have n10 : c ≠ 10 := fun q => by subst q; cases hbl'
    have b32 : ((c : Int) == 32) = false := by rw [beq_eq_false_iff_ne]; omega
    have b9 : ((c : Int) == 9) = false := by rw [beq_eq_false_iff_ne]; omega
    have b13 : ((c : Int) == 13) = false := by rw [beq_eq_false_iff_ne]; omega
    have b10 : ((c : Int) == 10) = false := by rw [beq_eq_false_iff_ne]; omega
    have b10' : ((c : Int) != 10) = true := by rw [bne_iff_ne]; omega
    have hi2 : i + 1 ≤ s.length := by
      refine Classical.byContradiction fun q => ?_
      have : i = s.length := by omega
      subst this
      simp at hc; exact n10 hc.symm
    have hc2 : s[i]? = some c := by
      rw [List.getElem?_append_left (by omega)] at hc; exact hc
    cases com with
    | true =>
      have hfr := hcf rfl
      subst hfr
      have hstep : wordsN s = xs ++ scanW idN ((s ++ [10]).drop (i + 1)) (i + 1) (stOf s (i + 1) true none) := by
        rw [hsp, hdrop]; simp [stOf, scanW, idN, n10]
      simp [r20, subAt, A18, t5, t6, t7, t8, frV, b32, b9, b13, b10, b10']
      exact hQ _ _ true none ⟨ex, by simp, by simp, xs, lv, mi, hstep, by omega, by simp [t0], by simp [t4], by simp, by simp [t6, frV]⟩ (by simp [t7])
    | false =>
      cases fr with
      | none =>
        by_cases h35 : c = 35
        · subst h35
          have hstep : wordsN s = xs ++ scanW idN ((s ++ [10]).drop (i + 1)) (i + 1) (stOf s (i + 1) true none) := by
            rw [hsp, hdrop]; simp [stOf, scanW, idN, hbl']
          simp [r20, subAt, A18, t5, t6, t7, t8, frV]
          exact hQ _ _ true none ⟨ex, by simp, by simp, xs, lv, mi, hstep, by omega, by simp [t0], by simp [t4], by simp, by simp [t6, frV]⟩ (by simp [t7])
        · have b35 : ((c : Int) == 35) = false := by rw [beq_eq_false_iff_ne]; omega
          have htk : (s.drop i).take (i + 1 - i) = [c] := by
            rw [drop_get hc2, show i + 1 - i = 1 from by omega]; rfl
          have hstep : wordsN s = xs ++ scanW idN ((s ++ [10]).drop (i + 1)) (i + 1) (stOf s (i + 1) false (some i)) := by
            rw [hsp, hdrop]; simp only [stOf, htk]; simp [scanW, idN, hbl', h35]
          simp [r20, subAt, A18, t5, t6, t7, t8, frV, b32, b9, b13, b10, b35]
          exact hQ _ _ false (some i) ⟨ex, by simp, by simp; omega, xs, lv, mi, hstep, by omega, by simp [t0], by simp [t4], by simp [t5], by simp [frV]⟩ (by simp [t7])
      | some f =>
        obtain ⟨hf1, hf2⟩ := hfi f rfl
        have hstep : wordsN s = xs ++ scanW idN ((s ++ [10]).drop (i + 1)) (i + 1) (stOf s (i + 1) false (some f)) := by
          rw [hsp, hdrop]; simp only [stOf]; rw [take_drop_succ hc2 (by omega)]; simp [scanW, idN, hbl']
        have t6' : Env.at τ 6 = .int .i64 (f : Int) := t6
        have hfn : ¬ ((f : Int) < 0) := by omega
        simp [r20, subAt, A18, t5, t6', t7, t8, b32, b9, b13, b10, hfn]
        exact hQ _ _ false (some f) ⟨ex, by simp, by simp; omega, xs, lv, mi, hstep, by omega, by simp [t0], by simp [t4], by simp [t5], by simp [t6', frV]⟩ (by simp [t7])
theorem all18 (h18 : FT 18 = some (.code A18)) (hw : H.Wf) {v : AV} {s : List Nat} (hs : bytesA H v = some s) (hcap : capOk v = true) :
    Cp FT 18 [v] H (fun r H' => ∃ u, r = .tup [u, .int .i64 (if 1048576 < s.length then 3 else 0)] ∧ Sl 2 tokA H' u (if 1048576 < s.length then [] else wordsN s) ∧ Ext H H') := by
  refine Cp_code A18 h18 rfl ?_
  rw [body18]
  have hA : A18.results = [.tmp 2, .tmp 3] := rfl
  rw [hA]
  have hlen := bytesA_len hs
  by_cases hl : 1048576 < s.length
  · have hl' : (1048576 : Int) < s.length := by omega
    simp [A18, putAt, hlen, hl, hl']
    exact ⟨.inl ⟨rfl, rfl⟩, Ext.refl hw⟩
  · have hl' : ¬ (1048576 : Int) < s.length := by omega
    simp [A18, putAt, hlen, hl, hl']
    refine Wp_loop (Inv20 H v s) ?_ (s.length + 1) _ _ ⟨0, false, none, by omega, rfl, ⟨Ext.refl hw, by simp, by simp, [], .nils, Mine.nil, ?_, by simp, by simp, by simp, by simp, by simp [frV]⟩, by simp⟩
    · rintro k τ H1 ⟨i, com, fr, hi, rfl, st, t7⟩
      have t0 : Env.at τ 0 = v := by obtain ⟨_, _, _, _, _, _, _, _, t0, _⟩ := st; exact t0
      have hs1 := bytesA_ext st.ex hs
      simp only [Wp_seq, Wp_region]
      have fin : ∀ c : Nat, (s ++ [10])[i]? = some c → i ≤ s.length → ∀ τ', Env.at τ' 8 = .int .u8 (c : Int) → (∀ j, j ≠ 8 → (j = 0 ∨ j = 4 ∨ j = 5 ∨ j = 6 ∨ j = 7) → Env.at τ' j = Env.at τ j) → ∀ {Q : Post},
          (∀ τ'' H'', Inv20 H v s (s.length + 1 - (i + 1)) (Tr.set (Tr.set (Tr.set τ'' 17 (.int .i64 i)) 18 (.int .i64 ((i + 1 : Nat) : Int))) 7 (.int .i64 ((i + 1 : Nat) : Int))) H'' → Env.at τ'' 7 = .int .i64 i → Q .next τ'' H'') → Wp FT r20 τ' H1 Q := by
        intro c hc hil τ' t8 hkeep Q hQ
        obtain ⟨ex, cf, fi, xs, lv, mi, hsp, hxl, u0, u4, u5, u6⟩ := st
        refine r20_ok hw hs1 hcap (by omega) (com := com) (fr := fr) ⟨ex, cf, fi, xs, lv, mi, hsp, hxl, by rw [hkeep 0 (by omega) (by omega), u0], by rw [hkeep 4 (by omega) (by omega), u4], by rw [hkeep 5 (by omega) (by omega), u5], by rw [hkeep 6 (by omega) (by omega), u6]⟩ (by rw [hkeep 7 (by omega) (by omega), t7]) hc hil t8 ?_
        intro τ'' H'' com' fr' st' t7'
        obtain ⟨ex', cf', fi', xs', lv', mi', hsp', hxl', w0, w4, w5, w6⟩ := st'
        exact hQ _ _ ⟨i + 1, com', fr', by omega, rfl, ⟨ex', cf', fi', xs', lv', mi', hsp', hxl', by simp [w0], by simp [w4], by simp [w5], by simp [w6]⟩, by simp⟩ t7'
      have wi : IntKind.i64.wrap ((i : Int) + 1) = ((i + 1 : Nat) : Int) := wrap64 (by omega) (by omega)
      by_cases hc : i ≤ s.length
      · have hc' : (i : Int) ≤ s.length := by omega
        by_cases hc2 : i < s.length
        · obtain ⟨p, b, hb, hp, hld⟩ := bytesA_idx hs1 hc2 (k := .i64)
          simp [hc, t0, t7, hlen, hc2, hp, hld]
          refine fin b (by rw [List.getElem?_append_left hc2]; exact hb) hc _ (by simp) (fun j h8 hj => by rcases hj with rfl | rfl | rfl | rfl | rfl <;> simp) ?_
          intro τ'' H'' inv t7'
          simp [-Int.natCast_add, t7', wi]
          exact ⟨_, by omega, inv⟩
        · have hin : i = s.length := by omega
          have hc3 : ¬ ((i : Int) < s.length) := by omega
          simp [hc, t0, t7, hlen, hc2]
          refine fin 10 (by rw [hin]; simp) hc _ (by simp) (fun j h8 hj => by rcases hj with rfl | rfl | rfl | rfl | rfl <;> simp) ?_
          intro τ'' H'' inv t7'
          simp [-Int.natCast_add, t7', wi]
          exact ⟨_, by omega, inv⟩
      · have hin : i = s.length + 1 := by omega
        have hc' : ¬ ((i : Int) ≤ s.length) := by omega
        obtain ⟨ex, cf, fi, xs, lv, mi, hsp, hxl, u0, u4, u5, u6⟩ := st
        have hd : (s ++ [10]).drop i = [] := List.drop_eq_nil_of_le (by simp; omega)
        have hws : wordsN s = xs := by
          rw [hsp, hd]
          cases fr with
          | none => cases com <;> simp [stOf, scanW]
          | some f => have := fi f rfl; omega
        simp [hc, t0, t7, hlen, u4]
        rw [hws]
        exact ⟨mi.sl tokA_len', ex⟩
    · have := scan_nl s 0 .out
      simp only [List.drop_zero, List.nil_append]
      exact this.symm
end
end Go.Proofs.YtacfhbhfgbjleaaDoor
