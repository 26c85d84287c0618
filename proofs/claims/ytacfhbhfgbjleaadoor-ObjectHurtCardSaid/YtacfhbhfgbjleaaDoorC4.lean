/- An input's text, as the program writes it. No claim by itself. -/
import Derived.Test.YtacfhbhfgbjleaaDoorTab
import Derived.Test.YtacfhbhfgbjleaaDoorED
import Derived.Test.YtacfhbhfgbjleaaDoorEE
namespace Go.Proofs.YtacfhbhfgbjleaaDoor
open Go Go.AI
def joinP : List (List Nat) → List Nat
  | [] => []
  | x :: r => x ++ r.flatMap (fun y => 32 :: y)
def joinS (l : List (List Nat)) : List Nat := if l = [] then [] else joinP l ++ [10]
theorem joinP_snoc (l : List (List Nat)) (x : List Nat) : joinP (l ++ [x]) = if l = [] then x else joinP l ++ [32] ++ x := by
  cases l with
  | nil => simp [joinP]
  | cons y r => simp [joinP]
def tot (l : List (List Nat)) : Nat := (l.map fun x => x.length + 1).sum
theorem tot_snoc (l : List (List Nat)) (x : List Nat) : tot (l ++ [x]) = tot l + (x.length + 1) := by simp [tot]
theorem tot_take_le (l : List (List Nat)) (i : Nat) : tot (l.take i) ≤ tot l := by
  have := List.take_append_drop i l
  have h : tot (l.take i ++ l.drop i) = tot (l.take i) + tot (l.drop i) := by simp only [tot, List.map_append, List.sum_append]
  rw [this] at h; omega
theorem joinP_len : ∀ (l : List (List Nat)), (joinP l).length ≤ tot l
  | [] => by simp [joinP, tot]
  | x :: r => by
    have : (r.flatMap (fun y => 32 :: y)).length = tot r := by
      induction r with
      | nil => simp [tot]
      | cons y r ih => simp [tot] at ih ⊢; omega
    have e : tot (x :: r) = x.length + 1 + tot r := by simp [tot]
    simp only [joinP, List.length_append, this, e]; omega
section
variable {FT : Nat → Option FnD} {H : Heap}
theorem join38 (h38 : FT 38 = some (.code A38)) {v : AV} {l : List (List Nat)} (h : Strs H v l) (ht : tot l ≤ 1099511627776) :
    Cp FT 38 [v] H (fun r H' => r = .str (joinS l) ∧ H' = H) := by
  refine Cp_code A38 h38 rfl ?_
  simp [A38, h.len]
  have hl : l.length ≤ tot l := by
    clear h ht
    induction l with
    | nil => simp
    | cons x l ih => simp [tot] at ih ⊢; omega
  refine Wp_loop (fun m τ H' => H' = H ∧ ∃ i : Nat, i ≤ l.length ∧ m = l.length - i ∧ Env.at τ 0 = v ∧ Env.at τ 3 = .str (joinP (l.take i)) ∧ Env.at τ 6 = v ∧ Env.at τ 7 = .int .i64 l.length ∧ Env.at τ 8 = .int .i64 i) ?_ l.length _ _ ⟨rfl, 0, by omega, by simp, by simp, by simp [joinP], by simp, by simp, by simp⟩
  rintro m τ _ ⟨rfl, i, hi, rfl, t0, t3, t6, t7, t8⟩
  simp only [Wp_seq, Wp_region]
  by_cases hc : i < l.length
  · obtain ⟨p, x, hx, hp, hld⟩ := Strs.idx h (k := .i64) (i := i) (by omega) (by omega)
    rw [Int.toNat_natCast] at hx
    have w : IntKind.i64.wrap ((i : Int) + 1) = ((i + 1 : Nat) : Int) := wrap64 (by omega) (by omega)
    have hsn : l.take (i + 1) = l.take i ++ [x] := by rw [List.take_add_one, hx]; rfl
    have hj := joinP_snoc (l.take i) x
    have hb1 := joinP_len (l.take i)
    have hb2 := tot_take_le l (i + 1)
    rw [hsn, tot_snoc] at hb2
    have hmax : IntKind.max .i64 = 9223372036854775807 := rfl
    rw [← hsn] at hj
    by_cases h0 : i = 0
    · subst h0
      simp at hj
      have hp0 : indexAddrV 1 v (.int .i64 0) = some p := by simpa using hp
      have w0 : IntKind.i64.wrap 1 = 1 := rfl
      have hb : ¬ (9223372036854775807 : Int) < x.length := by omega
      have t3' : Env.at τ 3 = .str [] := by simpa [joinP] using t3
      simp [hc, t0, t3', t6, t7, t8, hp0, hld, hmax, hb, w0]
      exact ⟨_, by omega, 1, by omega, rfl, by rw [hj], rfl⟩
    · have hi0 : 0 < i := by omega
      have hne : l.take i ≠ [] := fun q => by
        have := congrArg List.length q; rw [List.length_take] at this; simp only [List.length_nil] at this; omega
      rw [if_neg hne] at hj
      generalize joinP (l.take i) = J at t3 hj hb1
      have hb3 : ¬ (9223372036854775807 : Int) < ((J.length : Nat) : Int) + 1 := by omega
      have hb4 : ¬ (9223372036854775807 : Int) < ((J.length : Nat) : Int) + 1 + (x.length : Int) := by omega
      simp [hc, t0, t3, t6, t7, t8, hp, hld, hi0, hmax, hb3, hb4, w]
      exact ⟨_, by omega, i + 1, by omega, rfl, by rw [hj]; simp, by simp⟩
  · have hc' : ¬ ((i : Int) < l.length) := by omega
    have : i = l.length := by omega
    subst this
    rw [List.take_length] at t3
    by_cases h0 : l = []
    · subst h0
      simp [t0, t3, t7, t8, h.len, joinS, joinP]
    · have h1 : 0 < l.length := by
        have : l.length ≠ 0 := fun q => h0 (List.length_eq_zero_iff.1 q)
        omega
      have hb1 := joinP_len l
      have hmax : IntKind.max .i64 = 9223372036854775807 := rfl
      have hb3 : ¬ (9223372036854775807 : Int) < ((joinP l).length : Int) + 1 := by omega
      simp [t0, t3, t7, t8, h.len, joinS, h0, h1, hmax, hb3]
def wordsOf (word : List Nat) (ns : List Int) : List (List Nat) := (if word = [] then [] else [word]) ++ ns.map itoaN
def lineS (word : List Nat) (ns : List Int) : List Nat := joinS (wordsOf word ns)
theorem joinS_len (l : List (List Nat)) : (joinS l).length ≤ tot l + 1 := by
  unfold joinS
  split
  · simp
  · have := joinP_len l; simp; omega
def part1 : ACode → ACode
  | .seq a _ => a
  | c => c
def part2 : ACode → ACode
  | .seq _ b => b
  | c => c
def itoaTo (ns : List Int) (i : Nat) : List (List Nat) := (ns.take i).map itoaN
theorem _root_.Go.AI.Bd.of {α : Type} {e : Nat} {enc : α → List AV} {H0 H : Heap} {v : AV} {xs : List α} (h : Ext H0 H) (ow : Ow e enc H v xs) (fr : ∀ o, rowObj v = some o → H0.next ≤ o ∧ o < H.next) : Bd e enc H0 H v xs :=
  ⟨h.wf, h.floor, h.next, fun _ _ _ _ q => h.keep _ _ q, ow, fun o q => ⟨.inr (fr o q).1, (fr o q).2⟩⟩
/-- A literal of one item, and one more item. -/
theorem lit_app1 {α : Type} {e : Nat} {enc : α → List AV} (hn : ∀ x, (enc x).length = e) (_he : 1 ≤ e) (h1 : ∀ x, allOne (enc x) = true) {H0 H : Heap} {o : Nat} {a b : α} {bytes : Nat} (_hw : H0.Wf) (hx : Ext H0 H) (hg : H.get o = some (.cells (enc a))) (hb : 1028 * bytes ≤ 2 ^ 48) :
    ∃ v' H', appendA e bytes (H.push (.cells (enc b))) (.slc o 0 1 e 1 true) (.slc H.next 0 1 e 1 true) = some (v', H') ∧ Bd e enc H0 H' v' [a, b] := by
  have hw1 := hx.wf
  have e1 := Ext.push hw1 (.cells (enc b))
  have hy : srcA e (H.push (.cells (enc b))) (.slc H.next 0 1 e 1 true) = some (1, enc b) := by
    unfold srcA
    simp only [nat_beq, decide_true, cond_true, Nat.one_mul]
    unfold Heap.readSeg
    rw [cellsAt_push]
    simp only [Option.bind_some]
    rw [seg_all (hn b)]
    rfl
  have hr : (H.push (.cells (enc b))).readSeg o 0 (1 * e) = some (enc a) := by
    unfold Heap.readSeg
    rw [cellsAt_get (e1.keep _ _ hg)]
    simp only [Option.bind_some, Nat.one_mul]
    exact seg_all (hn a)
  refine ⟨.slc (H.next + 1) 0 2 e 2 false, ((H.push (.cells (enc b))).push (.cells (enc a ++ enc b))), ?_, ?_⟩
  · unfold appendA
    rw [hy]
    simp only [h1, cond_true, nat_beq, nat_ble, decide_true]
    rw [hr]
    simp [hb]
  · have e2 := Ext.push e1.wf (.cells (enc a ++ enc b))
    have h2 := (hx.trans e1).trans e2
    have hnx := hx.next
    refine Bd.of h2 (.inr ⟨H.next + 1, rfl, by simp, ?_, ?_⟩) ?_
    · have : (H.push (.cells (enc b))).next = H.next + 1 := rfl
      rw [get_pushN, if_pos (show H.next + 1 = (H.push (.cells (enc b))).next from rfl)]; simp
    · show H.floor ≤ H.next + 1
      have := hw1.1; omega
    · intro p q; cases q
      show _ ∧ _ < H.next + 1 + 1
      omega
theorem row19 (h19 : FT 19 = some (.code A19)) (h38 : FT 38 = some (.code A38)) (h36 : FT 36 = some (.ext itoaG)) (h37 : FT 37 = some (.ext (writeG 58 5))) (hw : H.Wf) {o : Nat} {bs word : List Nat} {v : AV} {ns : List Int}
    (hb : Bld 58 5 H o bs) (h : Ints H v ns) (hn : ∀ n, n ∈ ns → -9223372036854775808 ≤ n ∧ n ≤ 9223372036854775807) (hl : ns.length ≤ 10) (h0 : ns ≠ []) (hwl : word.length ≤ 100) (hbl : bs.length ≤ 1099511627776) :
    Cp FT 19 [.ptr o 0, .str word, v] H (fun _ H' => Bld 58 5 H' o (bs ++ joinS (word :: ns.map itoaN)) ∧ ExtC H H') := by
  refine Cp_code A19 h19 rfl ?_
  have htot : tot (word :: ns.map itoaN) ≤ 1000000 := by
    have h : tot (ns.map itoaN) ≤ ns.length * 27 := by
      clear hn h h0 hl
      induction ns with
      | nil => simp [tot]
      | cons n ns ih => have := itoaN_len n; simp [tot] at ih ⊢; omega
    have : tot (word :: ns.map itoaN) = word.length + 1 + tot (ns.map itoaN) := by simp [tot]
    omega
  have hlen := h.len
  have e0 := Ext.push hw (.cells [.str word])
  have g0 : (H.push (.cells [.str word])).get H.next = some (.cells (strc word)) := get_pushN.trans (if_pos rfl)
  have hpos : 0 < ns.length := List.length_pos_iff.2 h0
  simp [A19, hlen]
  refine Wp_unroll ?_
  obtain ⟨p, x, hx, hp, hld⟩ := Ints.idx (h.ext e0) (k := .i64) (i := 0) (by omega) (by omega)
  obtain ⟨hx0, hx1⟩ := hn x (List.mem_of_getElem? hx)
  obtain ⟨v2, H2, ap, bd2⟩ := lit_app1 (bytes := 16) (a := word) (b := itoaN x) strc_len (by omega) strc_one hw e0 g0 (by omega)
  have ap' : appendA 1 16 ((H.push (.cells [.str word])).push (.cells [.str (itoaN x)])) (.slc H.next 0 1 1 1 true) (.slc (H.next + 1) 0 1 1 1 true) = some (v2, H2) := ap
  have w1 : IntKind.i64.wrap 1 = 1 := rfl
  simp [hpos, hp, hld]
  refine Cp_ext itoaG h36 (itoaG_some hx0 hx1) ?_
  simp [ap', w1]
  have hx' : ns[0]? = some x := by simpa using hx
  have hlst1 : [word, itoaN x] = word :: itoaTo ns 1 := by
    unfold itoaTo
    rw [show (1 : Nat) = 0 + 1 from rfl, List.take_add_one, hx']; simp
  rw [hlst1] at bd2
  refine Wp_loop (fun m τ H' => ∃ (i : Nat) (v1 : AV), i ≤ ns.length ∧ m = ns.length - i ∧ Bd 1 strc H H' v1 (word :: itoaTo ns i) ∧ Env.at τ 0 = .ptr o 0 ∧ Env.at τ 6 = v1 ∧ Env.at τ 11 = v ∧ Env.at τ 12 = .int .i64 ns.length ∧ Env.at τ 13 = .int .i64 i) ?_ (ns.length - 1) _ _ ⟨1, v2, by omega, by omega, bd2, by simp, by simp, by simp, by simp, by simp⟩
  rintro m τ H1 ⟨i, v1, hi, rfl, bd, t0, t6, t15, t16, t17⟩
  simp only [Wp_seq, Wp_region]
  by_cases hc : i < ns.length
  · obtain ⟨p, x, hx, hp, hld⟩ := Ints.idx (h.ext (bd.ext hw)) (k := .i64) (i := i) (by omega) (by omega)
    rw [Int.toNat_natCast] at hx
    obtain ⟨hx0, hx1⟩ := hn x (List.mem_of_getElem? hx)
    have w : IntKind.i64.wrap ((i : Int) + 1) = ((i + 1 : Nat) : Int) := wrap64 (by omega) (by omega)
    obtain ⟨v2, H2, ap, bd2, _⟩ := bd.app1 (bytes := 16) strc_len (by omega) strc_one (itoaN x) (by simp [itoaTo]; omega)
    have hlst : word :: itoaTo ns (i + 1) = (word :: itoaTo ns i) ++ [itoaN x] := by unfold itoaTo; rw [List.take_add_one, hx]; simp
    rw [← hlst] at bd2
    have ap' : appendA 1 16 (H1.push (.cells [.str (itoaN x)])) v1 (.slc H1.next 0 1 1 1 true) = some (v2, H2) := ap
    simp [hc, t0, t6, t15, t16, t17, hp, hld]
    refine Cp_ext itoaG h36 (itoaG_some hx0 hx1) ?_
    simp [ap', t0, t15, t16, t17, w]
    exact ⟨_, by omega, i + 1, by omega, rfl, v2, bd2, rfl, by simp⟩
  · have hc' : ¬ ((i : Int) < ns.length) := by omega
    have hin : i = ns.length := by omega
    subst hin
    unfold itoaTo at bd
    rw [List.take_length] at bd
    simp [t0, t6, t15, t16, t17]
    refine (join38 h38 (bd.sl strc_len) (by omega)).mono ?_
    rintro r H2 ⟨rfl, rfl⟩
    have hjl := joinS_len (word :: ns.map itoaN)
    obtain ⟨H3, hw3, hb3, hx3⟩ := (hb.ext (bd.ext hw)).write bd.wf (s := joinS (word :: ns.map itoaN)) (by omega)
    simp
    refine Cp_ext (writeG 58 5) h37 hw3 ?_
    simp
    exact ⟨hb3, (bd.ext hw).c.trans hx3⟩
end
end Go.Proofs.YtacfhbhfgbjleaaDoor
