/- An input's text, as the program writes it. No claim by itself. -/
import Derived.Test.YtmgaaieofdjfdaaDoorC1
import Derived.Test.YtmgaaieofdjfdaaDoorE31
namespace Go.Proofs.YtmgaaieofdjfdaaDoor
open Go Go.AI
def joinP : List (List Nat) → List Nat
  | [] => []
  | x :: r => x ++ r.flatMap (fun y => 32 :: y)
def joinS (l : List (List Nat)) : List Nat := if l = [] then [] else joinP l ++ [10]
theorem joinP_snoc (l : List (List Nat)) (x : List Nat) : joinP (l ++ [x]) = if l = [] then x else joinP l ++ [32] ++ x := by
  cases l with
  | nil => simp [joinP]
  | cons y r => simp [joinP]
def tot (l : List (List Nat)) : Nat := (l.map fun x => x.length + 1).sum
theorem tot_snoc (l : List (List Nat)) (x : List Nat) : tot (l ++ [x]) = tot l + (x.length + 1) := by simp [tot]
theorem tot_take_le (l : List (List Nat)) (i : Nat) : tot (l.take i) ≤ tot l := by
  have := List.take_append_drop i l
  have h : tot (l.take i ++ l.drop i) = tot (l.take i) + tot (l.drop i) := by simp only [tot, List.map_append, List.sum_append]
  rw [this] at h; omega
theorem joinP_len : ∀ (l : List (List Nat)), (joinP l).length ≤ tot l
  | [] => by simp [joinP, tot]
  | x :: r => by
    have : (r.flatMap (fun y => 32 :: y)).length = tot r := by
      induction r with
      | nil => simp [tot]
      | cons y r ih => simp [tot] at ih ⊢; omega
    have e : tot (x :: r) = x.length + 1 + tot r := by simp [tot]
    simp only [joinP, List.length_append, this, e]; omega
section
variable {FT : Nat → Option FnD} {H : Heap}
theorem join41 (h41 : FT 41 = some (.code A41)) {v : AV} {l : List (List Nat)} (h : Strs H v l) (ht : tot l ≤ 1099511627776) :
    Cp FT 41 [v] H (fun r H' => r = .str (joinS l) ∧ H' = H) := by
  refine Cp_code A41 h41 rfl ?_
  simp [A41, h.len]
  have hl : l.length ≤ tot l := by
    clear h ht
    induction l with
    | nil => simp
    | cons x l ih => simp [tot] at ih ⊢; omega
  refine Wp_loop (fun m τ H' => H' = H ∧ ∃ i : Nat, i ≤ l.length ∧ m = l.length - i ∧ Env.at τ 0 = v ∧ Env.at τ 3 = .str (joinP (l.take i)) ∧ Env.at τ 6 = v ∧ Env.at τ 7 = .int .i64 l.length ∧ Env.at τ 8 = .int .i64 i) ?_ l.length _ _ ⟨rfl, 0, by omega, by simp, by simp, by simp [joinP], by simp, by simp, by simp⟩
  rintro m τ _ ⟨rfl, i, hi, rfl, t0, t3, t6, t7, t8⟩
  simp only [Wp_seq, Wp_region]
  by_cases hc : i < l.length
  · obtain ⟨p, x, hx, hp, hld⟩ := Strs.idx h (k := .i64) (i := i) (by omega) (by omega)
    rw [Int.toNat_natCast] at hx
    have w : IntKind.i64.wrap ((i : Int) + 1) = ((i + 1 : Nat) : Int) := wrap64 (by omega) (by omega)
    have hsn : l.take (i + 1) = l.take i ++ [x] := by rw [List.take_add_one, hx]; rfl
    have hj := joinP_snoc (l.take i) x
    have hb1 := joinP_len (l.take i)
    have hb2 := tot_take_le l (i + 1)
    rw [hsn, tot_snoc] at hb2
    have hmax : IntKind.max .i64 = 9223372036854775807 := rfl
    rw [← hsn] at hj
    by_cases h0 : i = 0
    · subst h0
      simp at hj
      have hp0 : indexAddrV 1 v (.int .i64 0) = some p := by simpa using hp
      have w0 : IntKind.i64.wrap 1 = 1 := rfl
      have hb : ¬ (9223372036854775807 : Int) < x.length := by omega
      have t3' : Env.at τ 3 = .str [] := by simpa [joinP] using t3
      simp [hc, t0, t3', t6, t7, t8, hp0, hld, hmax, hb, w0]
      exact ⟨_, by omega, 1, by omega, rfl, by rw [hj], rfl⟩
    · have hi0 : 0 < i := by omega
      have hne : l.take i ≠ [] := fun q => by
        have := congrArg List.length q; rw [List.length_take] at this; simp only [List.length_nil] at this; omega
      rw [if_neg hne] at hj
      generalize joinP (l.take i) = J at t3 hj hb1
      have hb3 : ¬ (9223372036854775807 : Int) < ((J.length : Nat) : Int) + 1 := by omega
      have hb4 : ¬ (9223372036854775807 : Int) < ((J.length : Nat) : Int) + 1 + (x.length : Int) := by omega
      simp [hc, t0, t3, t6, t7, t8, hp, hld, hi0, hmax, hb3, hb4, w]
      exact ⟨_, by omega, i + 1, by omega, rfl, by rw [hj]; simp, by simp⟩
  · have hc' : ¬ ((i : Int) < l.length) := by omega
    have : i = l.length := by omega
    subst this
    rw [List.take_length] at t3
    by_cases h0 : l = []
    · subst h0
      simp [t0, t3, t7, t8, h.len, joinS, joinP]
    · have h1 : 0 < l.length := by
        have : l.length ≠ 0 := fun q => h0 (List.length_eq_zero_iff.1 q)
        omega
      have hb1 := joinP_len l
      have hmax : IntKind.max .i64 = 9223372036854775807 := rfl
      have hb3 : ¬ (9223372036854775807 : Int) < ((joinP l).length : Int) + 1 := by omega
      simp [t0, t3, t7, t8, h.len, joinS, h0, h1, hmax, hb3]
def wordsOf (word : List Nat) (ns : List Int) : List (List Nat) := (if word = [] then [] else [word]) ++ ns.map itoaN
def lineS (word : List Nat) (ns : List Int) : List Nat := joinS (wordsOf word ns)
theorem tot_words (word : List Nat) (ns : List Int) : tot (wordsOf word ns) ≤ word.length + 1 + ns.length * 27 := by
  have h : tot (ns.map itoaN) ≤ ns.length * 27 := by
    induction ns with
    | nil => simp [tot]
    | cons n ns ih => have := itoaN_len n; simp [tot] at ih ⊢; omega
  unfold wordsOf
  split
  · simp; omega
  · have : tot ([word] ++ ns.map itoaN) = word.length + 1 + tot (ns.map itoaN) := by simp [tot]
    rw [this]; omega
theorem joinS_len (l : List (List Nat)) : (joinS l).length ≤ tot l + 1 := by
  unfold joinS
  split
  · simp
  · have := joinP_len l; simp; omega
theorem lineS_len (word : List Nat) (ns : List Int) : (lineS word ns).length ≤ word.length + 2 + ns.length * 27 := by
  have := tot_words word ns
  have := joinS_len (wordsOf word ns)
  unfold lineS; omega
def part1 : ACode → ACode
  | .seq a _ => a
  | c => c
def part2 : ACode → ACode
  | .seq _ b => b
  | c => c
theorem body24 : A24.body = .seq (part1 A24.body) (.seq (part1 (part2 A24.body)) (part2 (part2 A24.body))) := rfl
def itoaTo (ns : List Int) (i : Nat) : List (List Nat) := (ns.take i).map itoaN
theorem line_rest (h41 : FT 41 = some (.code A41)) (h39 : FT 39 = some (.ext itoaG)) (h40 : FT 40 = some (.ext (writeG 67 5))) {H0 : Heap} (hw : H.Wf) {o : Nat} {bs : List Nat} {v v0 : AV} {ns : List Int} {ws : List (List Nat)} {τ0 : Env}
    (hb : Bld 67 5 H o bs) (h : Ints H v ns) (hn : ∀ n, n ∈ ns → -9223372036854775808 ≤ n ∧ n ≤ 9223372036854775807) (hl : ns.length ≤ 10) (hbl : bs.length ≤ 1099511627776) (hws : ws.length ≤ 1) (htot : tot (ws ++ ns.map itoaN) ≤ 1000000)
    (bd : Bd 1 strc H H0 v0 ws) (u0 : Env.at τ0 0 = .ptr o 0) (u2 : Env.at τ0 2 = v) (u6 : Env.at τ0 6 = v0) :
    Wp FT (part2 (part2 A24.body)) τ0 H0 (finQ [] fun _ H' => Bld 67 5 H' o (bs ++ joinS (ws ++ ns.map itoaN)) ∧ ExtC H H') := by
  have hlen := h.len
  simp [A24, part2, u2, hlen]
  refine Wp_loop (fun m τ H' => ∃ (i : Nat) (v1 : AV), i ≤ ns.length ∧ m = ns.length - i ∧ Bd 1 strc H H' v1 (ws ++ itoaTo ns i) ∧ Env.at τ 0 = .ptr o 0 ∧ Env.at τ 6 = v1 ∧ Env.at τ 15 = v ∧ Env.at τ 16 = .int .i64 ns.length ∧ Env.at τ 17 = .int .i64 i) ?_ ns.length _ _ ⟨0, v0, by omega, by omega, by simpa [itoaTo] using bd, by simp [u0], by simp [u6], by simp, by simp, by simp⟩
  rintro m τ H1 ⟨i, v1, hi, rfl, bd, t0, t6, t15, t16, t17⟩
  simp only [Wp_seq, Wp_region]
  by_cases hc : i < ns.length
  · obtain ⟨p, x, hx, hp, hld⟩ := Ints.idx (h.ext (bd.ext hw)) (k := .i64) (i := i) (by omega) (by omega)
    rw [Int.toNat_natCast] at hx
    obtain ⟨hx0, hx1⟩ := hn x (List.mem_of_getElem? hx)
    have w : IntKind.i64.wrap ((i : Int) + 1) = ((i + 1 : Nat) : Int) := wrap64 (by omega) (by omega)
    obtain ⟨v2, H2, ap, bd2, _⟩ := bd.app1 (bytes := 16) strc_len (by omega) strc_one (itoaN x) (by simp [itoaTo]; omega)
    have hlst : ws ++ itoaTo ns (i + 1) = ws ++ itoaTo ns i ++ [itoaN x] := by unfold itoaTo; rw [List.take_add_one, hx]; simp
    rw [← hlst] at bd2
    have ap' : appendA 1 16 (H1.push (.cells [.str (itoaN x)])) v1 (.slc H1.next 0 1 1 1 true) = some (v2, H2) := ap
    simp [hc, t0, t6, t15, t16, t17, hp, hld]
    refine Cp_ext itoaG h39 (itoaG_some hx0 hx1) ?_
    simp [ap', t0, t15, t16, t17, w]
    exact ⟨_, by omega, i + 1, by omega, rfl, v2, bd2, rfl, by simp⟩
  · have hc' : ¬ ((i : Int) < ns.length) := by omega
    have hin : i = ns.length := by omega
    subst hin
    unfold itoaTo at bd
    rw [List.take_length] at bd
    simp [t0, t6, t15, t16, t17]
    refine (join41 h41 (bd.sl strc_len) (by omega)).mono ?_
    rintro r H2 ⟨rfl, rfl⟩
    have hjl := joinS_len (ws ++ ns.map itoaN)
    obtain ⟨H3, hw3, hb3, hx3⟩ := (hb.ext (bd.ext hw)).write bd.wf (s := joinS (ws ++ ns.map itoaN)) (by omega)
    simp
    refine Cp_ext (writeG 67 5) h40 hw3 ?_
    simp
    exact ⟨hb3, (bd.ext hw).c.trans hx3⟩
theorem line24 (h24 : FT 24 = some (.code A24)) (h41 : FT 41 = some (.code A41)) (h39 : FT 39 = some (.ext itoaG)) (h40 : FT 40 = some (.ext (writeG 67 5))) (hw : H.Wf) {o : Nat} {bs word : List Nat} {v : AV} {ns : List Int}
    (hb : Bld 67 5 H o bs) (h : Ints H v ns) (hn : ∀ n, n ∈ ns → -9223372036854775808 ≤ n ∧ n ≤ 9223372036854775807) (hl : ns.length ≤ 10) (hwl : word.length ≤ 100) (hbl : bs.length ≤ 1099511627776) :
    Cp FT 24 [.ptr o 0, .str word, v] H (fun _ H' => Bld 67 5 H' o (bs ++ lineS word ns) ∧ ExtC H H') := by
  refine Cp_code A24 h24 rfl ?_
  rw [body24]
  have ht := tot_words word ns
  by_cases c0 : word = []
  · subst c0
    have e : lineS [] ns = joinS ([] ++ ns.map itoaN) := by simp [lineS, wordsOf]
    have ht' : tot ([] ++ ns.map itoaN) ≤ 1000000 := by simp [wordsOf] at ht ⊢; omega
    rw [e]
    have hA : A24.results = [] := rfl
    rw [hA]
    generalize hr : part2 (part2 A24.body) = R
    simp [A24, part1, part2]
    rw [← hr]
    exact line_rest h41 h39 h40 hw hb h hn hl hbl (by simp) ht' (Bd.init hw) (by simp) (by simp) (by simp)
  · have e1 : word.isEmpty = false := by simpa using c0
    have e : lineS word ns = joinS ([word] ++ ns.map itoaN) := by simp [lineS, wordsOf, c0]
    have ht' : tot ([word] ++ ns.map itoaN) ≤ 1000000 := by simp [wordsOf, c0] at ht ⊢; omega
    rw [e]
    have hA : A24.results = [] := rfl
    rw [hA]
    obtain ⟨v2, H2, ap, bd2, _⟩ := (Bd.init (e := 1) (enc := strc) hw).app1 (bytes := 16) strc_len (by omega) strc_one word (by simp)
    have ap' : appendA 1 16 (H.push (.cells [.str word])) .nils (.slc H.next 0 1 1 1 true) = some (v2, H2) := ap
    generalize hr : part2 (part2 A24.body) = R
    simp [A24, part1, part2, e1, ap']
    rw [← hr]
    exact line_rest h41 h39 h40 hw hb h hn hl hbl (by simp) ht' bd2 (by simp) (by simp) (by simp)
end
end Go.Proofs.YtmgaaieofdjfdaaDoor
