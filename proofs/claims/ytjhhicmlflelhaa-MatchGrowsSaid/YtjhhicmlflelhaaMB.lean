/- The graph of a list of edges, and its greatest matching. No claim by itself. -/
import Derived.Test.YtjhhicmlflelhaaWB
import Derived.Test.YtjhhicmlflelhaaS1
namespace Go.Proofs.Ytjhhicmlflelhaa.Gr
open Go Go.AI
def natE (l : List (Int × Int)) : List (Nat × Nat) := l.map fun p => (p.1.toNat, p.2.toNat)
def Adj (L : List (Nat × Nat)) (a b : Nat) : Prop := b ∈ nextTo L a
theorem Adj_iff {L : List (Nat × Nat)} {a b : Nat} : Adj L a b ↔ (a, b) ∈ L ∨ (b, a) ∈ L := nextTo_mem
theorem right_mem {n : Int} {l : List (Int × Int)} (h : rightM n l = true) : 0 ≤ n ∧ n ≤ 1000 ∧ ∀ a b, (a, b) ∈ l → 0 ≤ a ∧ 0 ≤ b ∧ a < n ∧ b < n ∧ a ≠ b := by
  unfold rightM at h
  simp only [Bool.and_eq_true, decide_eq_true_eq, List.all_eq_true] at h
  obtain ⟨⟨h1, h2⟩, h3⟩ := h
  refine ⟨h1, h2, fun a b hm => ?_⟩
  have := h3 _ hm
  simp only [badE, Bool.not_or, Bool.and_eq_true, Bool.not_eq_true', decide_eq_false_iff_not] at this
  omega
theorem right_of {n : Int} {l : List (Int × Int)} (h1 : 0 ≤ n) (h2 : n ≤ 1000) (h : ∀ a b, (a, b) ∈ l → 0 ≤ a ∧ 0 ≤ b ∧ a < n ∧ b < n ∧ a ≠ b) : rightM n l = true := by
  unfold rightM
  simp only [Bool.and_eq_true, decide_eq_true_eq, List.all_eq_true]
  refine ⟨⟨h1, h2⟩, fun p hp => ?_⟩
  obtain ⟨a, b⟩ := p
  have := h a b hp
  simp only [badE, Bool.not_or, Bool.and_eq_true, Bool.not_eq_true', decide_eq_false_iff_not]
  omega
theorem natE_up {n : Int} {l : List (Int × Int)} (h : rightM n l = true) : (natE l).map up2 = l := by
  unfold natE
  rw [List.map_map]
  refine (List.map_congr_left fun p hp => ?_).trans (List.map_id l)
  obtain ⟨a, b⟩ := p
  have := (right_mem h).2.2 a b hp
  simp only [Function.comp, up2, id]
  rw [Prod.mk.injEq]; omega
theorem natE_mem {n : Int} {l : List (Int × Int)} (h : rightM n l = true) {a b : Nat} : (a, b) ∈ natE l ↔ ((a : Int), (b : Int)) ∈ l := by
  conv => rhs; rw [← natE_up h]
  rw [List.mem_map]
  constructor
  · intro q; exact ⟨_, q, rfl⟩
  · rintro ⟨⟨x, y⟩, q, e⟩
    simp only [up2, Prod.mk.injEq] at e
    have e1 : x = a := by omega
    have e2 : y = b := by omega
    subst e1; subst e2; exact q
theorem natE_lt {n : Int} {l : List (Int × Int)} (h : rightM n l = true) : ∀ a b, (a, b) ∈ natE l → a < n.toNat ∧ b < n.toNat := by
  intro a b hm
  have := (right_mem h).2.2 _ _ ((natE_mem h).1 hm)
  omega
theorem gph_of {n : Int} {l : List (Int × Int)} (h : rightM n l = true) : Gph n.toNat (Adj (natE l)) := by
  have key : ∀ {a b}, Adj (natE l) a b → a < n.toNat ∧ a ≠ b := by
    intro a b q
    rcases Adj_iff.1 q with q | q
    · have := (right_mem h).2.2 _ _ ((natE_mem h).1 q); omega
    · have := (right_mem h).2.2 _ _ ((natE_mem h).1 q); omega
  exact ⟨fun q => Adj_iff.2 (Adj_iff.1 q).symm, fun q => (key q).1, fun q => (key q).2⟩
def maxOf (n : Nat) (L : List (Nat × Nat)) : Nat → Option Nat := (maxM n (nextTo L) (n + 2) (List.range n) fun _ => none).getD fun _ => none
theorem maxOf_ok {n : Int} {l : List (Int × Int)} (h : rightM n l = true) : maxM n.toNat (nextTo (natE l)) (n.toNat + 2) (List.range n.toNat) (fun _ => none) = some (maxOf n.toNat (natE l)) ∧ Mt (Adj (natE l)) (maxOf n.toNat (natE l)) ∧ ∀ m2, Mt (Adj (natE l)) m2 → cnt n.toNat m2 ≤ cnt n.toNat (maxOf n.toNat (natE l)) := by
  have hr := right_mem h
  obtain ⟨m', k1, k2, k3⟩ := maxM_most (gph_of h) (next := nextTo (natE l)) (fun {a b} => Iff.rfl) (F := n.toNat + 2) (by omega) (by omega)
  have e : maxOf n.toNat (natE l) = m' := by unfold maxOf; rw [k1]; rfl
  rw [e]; exact ⟨k1, k2, k3⟩
/-- The numbers of a matching. -/
def mateL (n : Nat) (m : Nat → Option Nat) : List Int := (List.range n).map fun i => oi (m i)
theorem mateL_len {n : Nat} {m : Nat → Option Nat} : (mateL n m).length = n := by simp [mateL]
theorem mateL_get {n i : Nat} {m : Nat → Option Nat} (h : i < n) : (mateL n m)[i]? = some (oi (m i)) := by simp [mateL, h]
theorem cnt_mateL {n : Nat} {m : Nat → Option Nat} : Go.Proofs.Ytjhhicmlflelhaa.cnt (mateL n m) = cnt n m := by
  unfold Go.Proofs.Ytjhhicmlflelhaa.cnt cnt mateL
  rw [List.filter_map, List.length_map]
  congr 1
  refine List.filter_congr fun i _ => ?_
  have : ∀ o : Option Nat, decide (oi o ≥ 0) = o.isSome := by
    intro o
    cases o with
    | none => rfl
    | some k => simp
  exact this (m i)
theorem hasT_iff {l : List (Int × Int)} {a b : Int} : hasT (hasE a b) l = true ↔ (a, b) ∈ l ∨ (b, a) ∈ l := by
  unfold hasT
  rw [List.any_eq_true]
  constructor
  · rintro ⟨⟨x, y⟩, hm, he⟩
    simp only [hasE, Bool.or_eq_true, Bool.and_eq_true, beq_iff_eq] at he
    rcases he with ⟨rfl, rfl⟩ | ⟨rfl, rfl⟩
    · exact .inl hm
    · exact .inr hm
  · rintro (h | h)
    · exact ⟨_, h, by simp [hasE]⟩
    · exact ⟨_, h, by simp [hasE]⟩
theorem isM_of {n : Int} {l : List (Int × Int)} (h : rightM n l = true) {m : Nat → Option Nat} (hm : Mt (Adj (natE l)) m) : isM n l (mateL n.toNat m) = true := by
  have hr := right_mem h
  unfold isM
  rw [h, mateL_len]
  have e : (((n.toNat : Nat) : Int) == n) = true := by rw [beq_iff_eq]; omega
  rw [e]
  simp only [Bool.true_and]
  unfold allTo
  rw [List.all_eq_true]
  intro i hi
  have hi := List.mem_range.1 hi
  unfold okAt
  rw [mateL_get hi]
  simp only
  cases hmi : m i with
  | none => simp
  | some k =>
    have hE := hm.edge hmi
    have hk := (gph_of h).lt ((gph_of h).sym hE)
    have hki := hm.sym hmi
    have ht : hasT (hasE (i : Int) (k : Int)) l = true := by
      rw [hasT_iff]
      rcases Adj_iff.1 hE with q | q
      · exact .inl ((natE_mem h).1 q)
      · exact .inr ((natE_mem h).1 q)
    have h1 : ¬ ((k : Int) < 0) := by omega
    have h2 : ¬ (n ≤ (k : Int)) := by omega
    simp [mateL_get hk, hki, ht, h1, h2]
/-- A list of numbers as mates. -/
def mateF (mate : List Int) (i : Nat) : Option Nat := match mate[i]? with | some k => if k < 0 then none else some k.toNat | none => none
theorem isM_mt {n : Int} {l : List (Int × Int)} {mate : List Int} (h : isM n l mate = true) : rightM n l = true ∧ mate = mateL n.toNat (mateF mate) ∧ Mt (Adj (natE l)) (mateF mate) := by
  unfold isM at h
  simp only [Bool.and_eq_true, beq_iff_eq] at h
  obtain ⟨⟨h1, h2⟩, h3⟩ := h
  have hr := right_mem h1
  unfold allTo at h3
  rw [List.all_eq_true] at h3
  have at_ : ∀ (i : Nat) (k : Int), mate[i]? = some k → k = -1 ∨ (0 ≤ k ∧ k < n ∧ mate[k.toNat]? = some (i : Int) ∧ (((i : Int), k) ∈ l ∨ (k, (i : Int)) ∈ l)) := by
    intro i k hk
    have hi := (List.getElem?_eq_some_iff.1 hk).1
    have := h3 i (List.mem_range.2 hi)
    unfold okAt at this
    rw [hk] at this
    simp only [Bool.or_eq_true, Bool.and_eq_true, beq_iff_eq, Bool.not_eq_true', decide_eq_false_iff_not] at this
    rcases this with q | ⟨⟨⟨q1, q2⟩, q3⟩, q4⟩
    · exact .inl q
    · refine .inr ⟨by omega, by omega, ?_, hasT_iff.1 q4⟩
      have hk' : k.toNat < mate.length := by omega
      rw [List.getD, List.getElem?_eq_getElem hk'] at q3
      rw [List.getElem?_eq_getElem hk']
      simp only [Option.getD_some] at q3
      rw [q3]
  refine ⟨h1, ?_, ?_, ?_⟩
  · apply List.ext_getElem?
    intro i
    by_cases hi : i < n.toNat
    · rw [mateL_get hi]
      have hi' : i < mate.length := by omega
      have hg : mate[i]? = some mate[i] := List.getElem?_eq_getElem hi'
      unfold mateF
      rw [hg]
      simp only
      rcases at_ i _ hg with q | q
      · rw [q]; rfl
      · rw [if_neg (by omega), oi_some]; congr 1; omega
    · rw [List.getElem?_eq_none (by omega), List.getElem?_eq_none (by rw [mateL_len]; omega)]
  · intro i k hik
    unfold mateF at hik ⊢
    cases hg : mate[i]? with
    | none => rw [hg] at hik; cases hik
    | some x =>
      rw [hg] at hik; simp only at hik
      split at hik
      · cases hik
      · rename_i hx
        cases hik
        rcases at_ i x hg with q | ⟨_, _, q, _⟩
        · omega
        · rw [q]; simp
  · intro i k hik
    unfold mateF at hik
    cases hg : mate[i]? with
    | none => rw [hg] at hik; cases hik
    | some x =>
      rw [hg] at hik; simp only at hik
      split at hik
      · cases hik
      · rename_i hx
        cases hik
        rcases at_ i x hg with q | ⟨q0, _, _, q⟩
        · omega
        · have e : ((x.toNat : Nat) : Int) = x := by omega
          rw [Adj_iff, natE_mem h1, natE_mem h1, e]; exact q
end Go.Proofs.Ytjhhicmlflelhaa.Gr

/- The greatest matching, and one pair more: the program's functions. No claim by itself. -/
namespace Go.Proofs.Ytjhhicmlflelhaa.Gr
open Go Go.AI
/-- The table has the program's functions. -/
structure TB (FT : Nat → Option FnD) : Prop where
  h3 : FT 3 = some (.code A3)
  h5 : FT 5 = some (.code A5)
  h6 : FT 6 = some (.code A6)
  h7 : FT 7 = some (.code A7)
  h8 : FT 8 = some (.code A8)
  h10 : FT 10 = some (.code A10)
  h11 : FT 11 = some (.code A11)
  h12 : FT 12 = some (.code A12)
  h13 : FT 13 = some (.code A13)
  h14 : FT 14 = some (.code A14)
  h15 : FT 15 = some (.code A15)
  h17 : FT 17 = some (.code A17)
  h18 : FT 18 = some (.code A18)
  h19 : FT 19 = some (.code A19)
  h20 : FT 20 = some (.code A20)
  h21 : FT 21 = some (.code A21)
  h22 : FT 22 = some (.code A22)
  h23 : FT 23 = some (.code A23)
  h24 : FT 24 = some (.code A24)
  h25 : FT 25 = some (.code A25)
  h26 : FT 26 = some (.code A26)
  h27 : FT 27 = some (.code A27)
  h28 : FT 28 = some (.code A28)
  h29 : FT 29 = some (.code A29)
  h30 : FT 30 = some (.code A30)
  h31 : FT 31 = some (.code A31)
  h32 : FT 32 = some (.code A32)
  h33 : FT 33 = some (.code A33)
  h34 : FT 34 = some (.code A34)
  h35 : FT 35 = some (.code A35)
  h36 : FT 36 = some (.code A36)
  h37 : FT 37 = some (.code A37)
  h39 : FT 39 = some (.code A39)
  h40 : FT 40 = some (.code A40)
  h41 : FT 41 = some (.code A41)
theorem turnM_lt {n : Nat} {par : Nat → Option Nat} : ∀ {f x : Nat} {m m' : Nat → Option Nat}, (∀ {y w}, m y = some w → w < n) → turnM n par f x m = some m' → ∀ {y w}, m' y = some w → w < n
  | 0, _, _, _, _, h => by cases h
  | f + 1, x, m, m', hm, h => by
    unfold turnM at h
    by_cases hx : x < n
    · rw [if_pos hx] at h
      cases hp : par x with
      | none => rw [hp] at h; cases h
      | some p =>
        rw [hp] at h; simp only at h
        by_cases hpn : p < n
        · rw [if_pos hpn] at h
          have hu : ∀ {y w}, upd (upd m x (some p)) p (some x) y = some w → w < n := by
            intro y w e
            by_cases e1 : y = p
            · subst e1; rw [upd_same] at e; cases e; exact hx
            · rw [upd_ne e1] at e
              by_cases e2 : y = x
              · subst e2; rw [upd_same] at e; cases e; exact hpn
              · rw [upd_ne e2] at e; exact hm e
          cases ha : m p with
          | none => rw [ha] at h; cases h; exact hu
          | some a => rw [ha] at h; exact turnM_lt hu h
        · rw [if_neg hpn] at h; cases h
    · rw [if_neg hx] at h; cases h
section
variable {FT : Nat → Option FnD} {S : Nat → Prop} {H0 H : Heap} {n : Nat} {c : FC} {m : Nat → Option Nat} {s : St} {ks : List Nat} {next : Nat → List Nat}
theorem FS.ints (fs : FS S H0 H n c m s ks) : Ints H (.slc c.om 0 n 1 c.lm c.xm) (mateL n m) := by
  refine .inr ⟨c.om, 0, c.lm, c.xm, mateC n m, by rw [mateL_len], cellsAt_get fs.gm, ?_⟩
  intro i x hx
  have hi : i < n := by have := (List.getElem?_eq_some_iff.1 hx).1; rwa [mateL_len] at this
  rw [mateL_get hi] at hx; cases hx
  have hb : Nat.ble (0 + i * 1 + 1) (mateC n m).length = true := Nat.ble_eq_true_of_le (by rw [mateC, arr_len]; omega)
  simp only [seg, hb, cond_true]
  congr 1
  have hl : i < (mateC n m).length := by rw [mateC, arr_len]; exact hi
  rw [Nat.zero_add, Nat.mul_one, List.drop_eq_getElem_cons hl]
  have : (mateC n m)[i]? = some (.int .i64 (oi (m i))) := arr_get hi
  rw [List.getElem?_eq_getElem hl] at this
  rw [Option.some.inj this]
  rfl
/-- One root: searched from, and turned. -/
theorem drop_range {n i : Nat} (h : i < n) : (List.range n).drop i = i :: (List.range n).drop (i + 1) := by
  rw [List.drop_eq_getElem_cons (by simpa using h)]; simp
theorem max10 (tb : TB FT) (hw : H.Wf) {n : Int} {v : AV} {l : List (Int × Int)} (h : Pairs H v l) (hll : l.length ≤ 1000000) :
    Cp FT 10 [.int .i64 n, v] H (fun r H' => Ext H H' ∧ ((rightM n l = true ∧ ∃ u, r = .tup [u, .int .i64 0] ∧ Ints H' u (mateL n.toNat (maxOf n.toNat (natE l))) ∧ ∀ o, rowObj u = some o → H.next ≤ o) ∨ (rightM n l = false ∧ r = .tup [.nils, .int .i64 2]))) := by
  refine Cp_code A10 tb.h10 rfl ?_
  simp [A10]
  refine (right21 tb.h21 tb.h30 tb.h31 tb.h37 h hw (by omega)).mono ?_
  rintro r H1 ⟨rfl, he1⟩
  cases hr : rightM n l with
  | false => simp; exact he1
  | true =>
    have hrm := right_mem hr
    obtain ⟨N, rfl⟩ : ∃ N : Nat, n = (N : Int) := ⟨n.toNat, by omega⟩
    obtain ⟨k1, k2, k3⟩ := maxOf_ok hr
    rw [Int.toNat_natCast] at *
    generalize hmx : maxOf N (natE l) = mx at k1 k2 k3
    simp
    have hw1 := he1.wf
    have gq : (H1.push (.cells [.int .i64 (-1)])).get H1.next = some (.cells [.int .i64 (-1)]) := get_pushN.trans (if_pos rfl)
    refine (repeat23 tb.h23 tb.h33 tb.h39 (hw1.push _) gq (n := N) (by omega)).mono ?_
    rintro r H2 ⟨rfl, g2, n2, he2⟩
    simp
    have heH2 : Ext H H2 := (he1.trans (Ext.push hw1 _)).trans he2
    have hP : Pairs H2 v ((natE l).map up2) := by rw [natE_up hr]; exact h.ext heH2
    have hlt := natE_lt hr
    rw [Int.toNat_natCast] at hlt
    have hsg : seg (mateC N fun _ => none) 0 N = some (mateC N fun _ => none) := by
      have hb : Nat.ble (0 + N) (mateC N fun _ => none).length = true := Nat.ble_eq_true_of_le (by rw [mateC, arr_len]; omega)
      simp only [seg, hb, cond_true, List.drop_zero]
      rw [List.take_of_length_le (by rw [mateC, arr_len]; omega)]
    refine (start22 tb.h22 tb.h32 (n := N) he2.wf hP hlt g2 hsg (by omega) (by unfold natE; rw [List.length_map]; exact hll)).mono ?_
    rintro r H3 ⟨c, S, rfl, fs, nx, he3, hS⟩
    simp
    have heH3 := heH2.trans he3
    refine Wp_loop (fun f τ H' => ∃ (i : Nat) (m0 : Nat → Option Nat) (s : St) (ks : List Nat), i ≤ N ∧ f = N - i ∧ maxM N (nextTo (natE l)) (N + 2) ((List.range N).drop i) m0 = some mx ∧ (∀ {y w}, m0 y = some w → w < N) ∧ FS S H3 H' N c m0 s ks ∧ Env.at τ 6 = .ptr c.f 0 ∧ Env.at τ 19 = .int .i64 (N : Int) ∧ Env.at τ 20 = .int .i64 (i : Int)) ?_ N _ _ ⟨0, _, s00, [], by omega, rfl, k1, (by intro y w e; cases e), fs, by simp, by simp, by simp⟩
    rintro f τ H4 ⟨i, m0, s, ks, hi, rfl, hmM, hm0, fs4, t6, t19, t20⟩
    simp only [Wp_seq, Wp_region]
    by_cases hc : i < N
    · have w : IntKind.i64.wrap ((i : Int) + 1) = ((i + 1 : Nat) : Int) := wrap64 (by omega) (by omega)
      rw [drop_range hc] at hmM
      unfold maxM at hmM
      cases hmi : m0 i with
      | some k =>
        rw [hmi] at hmM
        simp only [Option.isSome_some, if_true] at hmM
        simp [t6, t19, t20, hc, fs4.f1, fs4.lm hc, hmi, w]
        exact ⟨_, by omega, i + 1, by omega, rfl, m0, hmM, hm0, ⟨s, ks, fs4⟩, by simp⟩
      | none =>
        rw [hmi] at hmM
        simp only [Option.isSome_none] at hmM
        rw [if_neg (by simp)] at hmM
        unfold step at hmM
        cases hf : findM N m0 (nextTo (natE l)) i (N + 2) (N + 2) (plantS i) with
        | none => rw [hf] at hmM; cases hmM
        | some x =>
          obtain ⟨r, s'⟩ := x
          rw [hf] at hmM
          simp [t6, t19, t20, hc, fs4.f1, fs4.lm hc, hmi]
          refine (find24 tb.h24 tb.h34 tb.h35 tb.h40 tb.h41 fs4 nx (by omega) (fun e => hm0 e) (fun {x y} hy => by
            rcases nextTo_mem.1 hy with q | q
            · exact (hlt _ _ q).2
            · exact (hlt _ _ q).1) (fun x => by have := nextTo_len (l := natE l) (a := x); have : (natE l).length = l.length := by unfold natE; rw [List.length_map]
                                                omega) hc hf).mono ?_
          rintro _ H5 ⟨rfl, ks5, fs5⟩
          cases r with
          | none =>
            simp only at hmM
            simp [t6, t19, t20, w]
            exact ⟨_, by omega, i + 1, by omega, rfl, m0, hmM, hm0, ⟨s', ks5, fs5⟩, by simp⟩
          | some t =>
            simp only at hmM
            cases ht : turnM N s'.par (N + 2) t m0 with
            | none => rw [ht] at hmM; cases hmM
            | some m1 =>
              rw [ht] at hmM; simp only at hmM
              simp [t6, t19, t20]
              refine (turn25 tb.h25 fs5 ht).mono ?_
              rintro _ H6 fs6
              simp [t6, t19, t20, w]
              exact ⟨_, by omega, i + 1, by omega, rfl, m1, hmM, turnM_lt hm0 ht, ⟨s', ks5, fs6⟩, by simp⟩
    · have : i = N := by omega
      subst this
      rw [List.drop_eq_nil_of_le (by simp)] at hmM
      cases hmM
      simp [t6, t19, t20, fs4.f1]
      refine ⟨⟨fs4.fl.trans heH3.floor, ?_, ?_, fs4.wf⟩, fs4.ints, fun o q => ?_⟩
      · refine Classical.byContradiction fun q => ?_
        have := (fs4.frz H4.next (hS _ (by have := heH2.next; omega))).2
        omega
      · intro o x e
        have ho : o < H.next := Classical.byContradiction fun q => by
          have := hw.2 o (by omega); rw [this] at e; cases e
        rw [(fs4.frz o (hS o (by have := heH2.next; omega))).1]; exact heH3.keep o x e
      · cases q
        refine Classical.byContradiction fun k => ?_
        exact (fs4.ge c.om (by simp [FC.own])).2.2 (hS _ (by have := heH2.next; omega))
end
end Go.Proofs.Ytjhhicmlflelhaa.Gr

