/- Faces of some places, and others of others: the statement FacesJoin, walked. No claim by itself. -/
import Derived.Test.YtcepchipgjpkhaaL7
namespace Go.Proofs.Ytcepchipgjpkhaa
open Go Go.AI
section
variable {H : Heap} {FT : Nat → Option FnD}
def k9a : ACode := subAt [1, 1, 1, 0, 1] A9.body
def k9b : ACode := subAt [1, 1, 1, 1, 1, 1, 1, 1, 1, 1, 1, 1, 0, 1] A9.body
def k9c : ACode := subAt [1, 1, 1, 1, 1, 1, 1, 1, 1, 1, 1, 1, 1, 0, 1] A9.body
def k9i : ACode := subAt [0, 0, 1, 0, 0, 1, 0, 1] k9a
theorem body9 : A9.body = putAt [1, 1, 1, 0, 1] (putAt [1, 1, 1, 1, 1, 1, 1, 1, 1, 1, 1, 1, 0, 1] (putAt [1, 1, 1, 1, 1, 1, 1, 1, 1, 1, 1, 1, 1, 0, 1] A9.body k9c) k9b) k9a := rfl
theorem body9a : k9a = putAt [0, 0, 1, 0, 0, 1, 0, 1] k9a k9i := rfl
structure Jn1 (H H' : Heap) (n : Int) (vF vG v7 v9 : AV) (g : List Int) (i : Nat) (τ : Env) (k m : Nat) : Prop where
  ex : Ext H H'
  mi : Mine 1 i64c H H' v9 ((g.take k).map (· + n))
  le : k ≤ g.length
  hm : m = g.length - k
  t : Tm τ [(0, .int .i64 n), (1, vF), (2, vG), (7, v7), (8, .int .i64 i), (9, v9), (10, .int .i64 k)]
structure JnQ (H H' : Heap) (n : Int) (vF vG v7 v9 : AV) (g : List Int) (i : Nat) (τ : Env) : Prop where
  ex : Ext H H'
  mi : Mine 1 i64c H H' v9 (g.map (· + n))
  t : Tm τ [(0, .int .i64 n), (1, vF), (2, vG), (7, v7), (8, .int .i64 i), (9, v9)]
theorem join_i {n : Int} {vF vG v7 : AV} {G : List (List Int)} {g : List Int} {i : Nat} (hw : H.Wf) (hG : Gd H vG G) (hs : Fsz G) (hg : G[i]? = some g) (hn : 0 ≤ n ∧ n ≤ 1000) (hb : ∀ x, x ∈ g → 0 ≤ x ∧ x < n) {τ0 : Env}
    (u : Tm τ0 [(0, .int .i64 n), (1, vF), (2, vG), (7, v7), (8, .int .i64 i), (9, .nils), (10, .int .i64 0)]) :
    Wp FT k9i τ0 H (fun c τ H' => c = .next ∧ ∃ v9, JnQ H H' n vF vG v7 v9 g i τ) := by
  simp at u
  obtain ⟨u0, u1, u2, u7, u8, u9, u10⟩ := u
  have hl := hs.len
  have hfl := hs.row g (List.mem_of_getElem? hg)
  have il : i < G.length := (List.getElem?_eq_some_iff.1 hg).1
  simp [k9i, k9a, subAt, A9]
  refine Wp_loop (fun m τ H' => ∃ k v9, Jn1 H H' n vF vG v7 v9 g i τ k m) ?_ g.length _ _ ⟨0, .nils, ⟨Ext.refl hw, by simpa using Mine.nil, by omega, by omega, by simp [u0, u1, u2, u7, u8, u9, u10]⟩⟩
  rintro m τ H1 ⟨k, v9, ⟨e1, mi, hk, rfl, t⟩⟩
  simp at t
  obtain ⟨t0, t1, t2, t7, t8, t9, t10⟩ := t
  have hG1 := hG.ext e1
  obtain ⟨p, r, g', a1, a2, a3, a4⟩ := hG1.idx (k := .i64) (i := (i : Int)) (by omega) (by omega)
  rw [Int.toNat_natCast, hg] at a1
  cases a1
  by_cases q : k < g.length
  · have w : IntKind.i64.wrap ((k : Int) + 1) = (k : Int) + 1 := wrap64 (by omega) (by omega)
    obtain ⟨p1, x, b1, b2, b3⟩ := Ints.idx (a4.sl i64c_len) (k := .i64) (i := (k : Int)) (by omega) (by omega)
    rw [Int.toNat_natCast] at b1
    have hx := hb x (List.mem_of_getElem? b1)
    have wx : IntKind.i64.wrap (x + n) = x + n := wrap64 (by omega) (by omega)
    obtain ⟨v', H2, c1, c2, c3, c4⟩ := mi.app1 i64c_len (by omega) i64c_one (bytes := 8) e1.wf e1.next (x + n) (by simp; omega)
    have c1' : appendA 1 8 (H1.push (.cells [.int .i64 (x + n)])) v9 (.slc H1.next 0 1 1 1 true) = some (v', H2) := c1
    have e2 : Ext H H2 := ext_fr hw e1 c3 (fun p hp => mi.new p (by simpa using hp))
    have htk : (g.take (k + 1)).map (· + n) = (g.take k).map (· + n) ++ [x + n] := by rw [List.take_add_one, b1]; simp
    simp [setSeg, q, t0, t2, t8, t9, t10, a2, a3, a4.len, b2, b3, wx, c1', w]
    exact ⟨_, by omega, k + 1, v', ⟨e2, by rw [htk]; exact c2, by omega, rfl, by simp [t0, t1, t2, t7, t8]⟩⟩
  · have hkl : k = g.length := by omega
    subst hkl
    rw [List.take_length] at mi
    simp [t2, t8, t10, a2, a3, a4.len]
    exact ⟨v9, e1, mi, by simp [t0, t1, t2, t7, t8, t9]⟩
structure Jn2 (H H' : Heap) (n : Int) (vF vG v7 : AV) (F G : List (List Int)) (τ : Env) (i m : Nat) : Prop where
  ex : Ext H H'
  rows : AI.Rows H H' v7 (F ++ shiftF n (G.take i))
  le : i ≤ G.length
  hm : m = G.length - i
  t : Tm τ [(0, .int .i64 n), (1, vF), (2, vG), (7, v7), (8, .int .i64 i)]
structure JnR (H H' : Heap) (n : Int) (vF vG v7 : AV) (F G : List (List Int)) (τ : Env) : Prop where
  ex : Ext H H'
  gd : Gd H' v7 (F ++ shiftF n G)
  t : Tm τ [(0, .int .i64 n), (1, vF), (2, vG), (7, v7)]
theorem join_a {H0 : Heap} {n : Int} {vF vG v7 : AV} {F G : List (List Int)} (hw : H.Wf) (e0 : Ext H H0) (hG : Gd H vG G) (hs : Fsz G) (hfl : F.length ≤ 1000) (hgl : G.length ≤ 1000) (hn : 0 ≤ n ∧ n ≤ 1000) (hc : chkF n G = 0) (rows : AI.Rows H H0 v7 F) {τ0 : Env}
    (u : Tm τ0 [(0, .int .i64 n), (1, vF), (2, vG), (7, v7), (8, .int .i64 0)]) :
    Wp FT k9a τ0 H0 (fun c τ H' => c = .next ∧ ∃ v7, JnR H H' n vF vG v7 F G τ) := by
  simp at u
  obtain ⟨u0, u1, u2, u7, u8⟩ := u
  rw [body9a]
  generalize hki : k9i = ki
  simp [k9a, subAt, putAt, A9]
  refine Wp_loop (fun m τ H' => ∃ i v7, Jn2 H H' n vF vG v7 F G τ i m) ?_ G.length _ _ ⟨0, v7, ⟨e0, by simpa [shiftF] using rows, by omega, by omega, by simp [u0, u1, u2, u7, u8]⟩⟩
  rintro m τ H1 ⟨i, v7, ⟨e1, rows, hi, rfl, t⟩⟩
  simp at t
  obtain ⟨t0, t1, t2, t7, t8⟩ := t
  have hG1 := hG.ext e1
  by_cases q : i < G.length
  · have w : IntKind.i64.wrap ((i : Int) + 1) = (i : Int) + 1 := wrap64 (by omega) (by omega)
    have hg := List.getElem?_eq_getElem q
    have hm := List.mem_of_getElem? hg
    simp [q, t2, t8, hG1.len]
    rw [← hki]
    refine (join_i (vF := vF) (v7 := v7) (n := n) e1.wf hG1 hs hg hn ((chkF_zero hc).2.1 _ hm).2.2 (by simp [t0, t1, t2, t7, t8])).mono ?_
    rintro c τ2 H2 ⟨rfl, v9, ⟨e2, mi, t⟩⟩
    simp at t
    obtain ⟨t0, t1, t2, t7, t8, t9⟩ := t
    have hr : Rw 1 i64c H2 v9 (G[i].map (· + n)) := mi.ow.rw i64c_len
    obtain ⟨v', H3, g1, g2, g3, g4⟩ := (rows.ext e2).snoc e2.wf (Nat.le_trans e1.next e2.next) hr (fun p hp => Nat.le_trans e1.next (mi.new p hp)) (fun p hp hv => by
      have h1 := mi.new p hp
      obtain ⟨rs, m1, _, _⟩ := rows.ex
      have h2 := m1.lt e1.wf hv
      omega) (bytes := 24) (by simp [shiftF]; omega)
    have fv : ∀ (e : Opd → AV), fillV e [.nils] 0 1 v9 [] = some [v9] := fun e => by rw [fillV_val hr.one.1 hr.one.2]; simp [setSeg]
    have e3 : Ext H H3 := ext_fr hw (e1.trans e2) g3 (fun p hp => by
      obtain ⟨rs, m1, _, _⟩ := rows.ex
      exact m1.new p (by simpa using hp))
    have htk : F ++ shiftF n (G.take (i + 1)) = F ++ shiftF n (G.take i) ++ [G[i].map (· + n)] := by
      rw [List.take_add_one, hg]; unfold shiftF; rw [List.map_append, ← List.append_assoc]; rfl
    simp [t7, t8, t9, fv, g1, w]
    exact ⟨_, by omega, i + 1, v', ⟨e3, by rw [htk]; exact g2, by omega, rfl, by simp [t0, t1, t2]⟩⟩
  · have hil : i = G.length := by omega
    subst hil
    rw [List.take_length] at rows
    simp [t2, t8, hG1.len]
    exact ⟨v7, e1, rows.gd, by simp [t0, t1, t2, t7]⟩
structure Jb1 (H H' : Heap) (vF vG vP vQ vR : AV) (P : List Int) (τ : Env) (i m : Nat) : Prop where
  eq : H = H'
  le : i ≤ P.length
  hm : m = P.length - i
  t : Tm τ [(1, vF), (2, vG), (20, vP), (21, vQ), (22, vR), (23, .int .i64 (topI (P.take i))), (24, .int .i64 i)]
theorem join_b {vF vG vP vQ vR : AV} {F : List (List Int)} {S : List Int} (hF : Gd H vF F) (hs : Fsz F) (hP : Ints H vP (partsF F)) (hR : Ints H vR (partsF F ++ S)) {τ0 : Env}
    (u : Tm τ0 [(1, vF), (2, vG), (20, vP), (21, vQ), (22, vR), (23, .int .i64 0), (24, .int .i64 0)]) :
    Wp FT k9b τ0 H (fun c τ H' => c = .next ∧ H' = H ∧ Tm τ [(1, vF), (2, vG), (21, vQ), (22, vR), (23, .int .i64 (topI (partsF F)))]) := by
  simp at u
  obtain ⟨u1, u2, u20, u21, u22, u23, u24⟩ := u
  have hl := hs.len
  have pl := (parts_is F).len
  simp [k9b, subAt, A9]
  refine Wp_loop (fun m τ H' => ∃ i, Jb1 H H' vF vG vP vQ vR (partsF F) τ i m) ?_ F.length _ _ ⟨0, ⟨rfl, by omega, by omega, by simp [u1, u2, u20, u21, u22, u23, u24, topI]⟩⟩
  rintro m τ _ ⟨i, ⟨rfl, hi, rfl, t⟩⟩
  simp at t
  obtain ⟨t1, t2, t20, t21, t22, t23, t24⟩ := t
  by_cases q : i < F.length
  · have w : IntKind.i64.wrap ((i : Int) + 1) = (i : Int) + 1 := wrap64 (by omega) (by omega)
    obtain ⟨p1, x, a1, a2, a3⟩ := Ints.idx hP (k := .i64) (i := (i : Int)) (by omega) (by omega)
    obtain ⟨p2, y, b1, b2, b3⟩ := Ints.idx hR (k := .i64) (i := (i : Int)) (by omega) (by simp; omega)
    rw [Int.toNat_natCast] at a1 b1
    rw [List.getElem?_append_left (by omega), a1] at b1
    cases b1
    obtain ⟨x0, x1'⟩ := part_nn a1
    obtain ⟨y0, y1⟩ := top_le F (show i ≤ F.length by omega)
    have htk : topI ((partsF F).take (i + 1)) = max (topI ((partsF F).take i)) (x + 1) := by
      rw [List.take_add_one, a1]; exact topI_snoc _ _
    generalize topI ((partsF F).take i) = n at *
    have wx : IntKind.i64.wrap (x + 1) = x + 1 := wrap64 (by omega) (by omega)
    have hmax : maxA true (.int .i64 n) [.int .i64 (x + 1)] = some (.int .i64 (max n (x + 1))) := by
      simp [maxA]
      split <;> omega
    simp [q, t1, t20, t22, t23, t24, hF.len, a2, a3, b2, b3, wx, hmax, w]
    exact ⟨_, by omega, i + 1, ⟨rfl, by omega, rfl, by simp [t1, t2, t20, t21, t22, htk]⟩⟩
  · have hil : i = (partsF F).length := by omega
    rw [hil, List.take_length] at t23
    simp [q, t1, t24, hF.len]
    simp [t2, t21, t22, t23]
structure Jc1 (H H' : Heap) (vF vG vQ vR : AV) (t : Int) (Q : List Int) (τ : Env) (i m : Nat) : Prop where
  eq : H = H'
  le : i ≤ Q.length
  hm : m = Q.length - i
  t : Tm τ [(1, vF), (2, vG), (21, vQ), (22, vR), (23, .int .i64 t), (25, .int .i64 i)]
theorem join_c {vF vG vQ vR : AV} {F G : List (List Int)} {P : List Int} {t : Int} (hF : Gd H vF F) (hs : Fsz F) (hG : Gd H vG G) (hsG : Fsz G) (hQ : Ints H vQ (partsF G)) (hl : P.length = F.length) (ht : 0 ≤ t ∧ t ≤ 1000000000) (hR : Ints H vR (P ++ (partsF G).map (· + t))) {τ0 : Env}
    (u : Tm τ0 [(1, vF), (2, vG), (21, vQ), (22, vR), (23, .int .i64 t), (25, .int .i64 0)]) :
    Wp FT k9c τ0 H (fun c _ H' => c = .next ∧ H' = H) := by
  simp at u
  obtain ⟨u1, u2, u21, u22, u23, u25⟩ := u
  have hfl := hs.len
  have hgl := hsG.len
  have pl := (parts_is G).len
  simp [k9c, subAt, A9]
  refine Wp_loop (fun m τ H' => ∃ i, Jc1 H H' vF vG vQ vR t (partsF G) τ i m) ?_ G.length _ _ ⟨0, ⟨rfl, by omega, by omega, by simp [u1, u2, u21, u22, u23, u25]⟩⟩
  rintro m τ _ ⟨i, ⟨rfl, hi, rfl, tt⟩⟩
  simp at tt
  obtain ⟨t1, t2, t21, t22, t23, t25⟩ := tt
  by_cases q : i < G.length
  · have w : IntKind.i64.wrap ((i : Int) + 1) = (i : Int) + 1 := wrap64 (by omega) (by omega)
    have w2 : IntKind.i64.wrap ((F.length : Int) + (i : Int)) = (F.length : Int) + (i : Int) := wrap64 (by omega) (by omega)
    obtain ⟨p1, x, a1, a2, a3⟩ := Ints.idx hQ (k := .i64) (i := (i : Int)) (by omega) (by omega)
    obtain ⟨p2, y, b1, b2, b3⟩ := Ints.idx hR (k := .i64) (i := ((F.length + i : Nat) : Int)) (by omega) (by simp; omega)
    rw [Int.toNat_natCast] at a1 b1
    rw [List.getElem?_append_right (by omega), show F.length + i - P.length = i by omega, List.getElem?_map, a1] at b1
    cases b1
    have b2 : indexAddrV 1 vR (.int .i64 ((F.length : Int) + (i : Int))) = some p2 := b2
    obtain ⟨x0, x1'⟩ := part_nn a1
    obtain ⟨y0, y1⟩ := top_le G (show i ≤ G.length by omega)
    have wx : IntKind.i64.wrap (x + t) = x + t := wrap64 (by omega) (by omega)
    simp [q, t1, t2, t21, t22, t23, t25, hF.len, hG.len, w2, a2, a3, b2, b3, wx, w]
    exact ⟨_, by omega, i + 1, ⟨rfl, by omega, rfl, by simp [t1, t2, t21, t22, t23]⟩⟩
  · simp [q, t2, t25, hG.len]
theorem known_then (T : LawT FT) (hw : H.Wf) {K : AV → Heap → Prop} (hk : ∀ r H2, r = .bool true → K r H2) : Cp FT 18 [] H K := (known18 T hw).mono fun r H2 h => hk r H2 h.1
theorem join9 (T : LawT FT) (h9 : FT 9 = some (.code A9)) (hw : H.Wf) {n : Int} {vF vG : AV} {F G : List (List Int)} (hF : Gd H vF F) (hG : Gd H vG G) :
    Cp FT 9 [.int .i64 n, vF, vG] H (fun r _ => r = .bool true) := by
  refine Cp_code A9 h9 rfl ?_
  rw [body9]
  generalize hka : k9a = ka
  generalize hkb : k9b = kb
  generalize hkc : k9c = kc
  simp [A9, putAt]
  refine (many17 T.h17 hF).mono ?_
  rintro _ _ ⟨⟨c, rfl, hc⟩, rfl⟩
  cases c with
  | true =>
    simp
    refine known_then T hw ?_
    rintro _ _ rfl
    simp
  | false =>
    have hs := Fsz.of (hc rfl)
    have hfl : F.length ≤ 200 := by have := hc rfl; omega
    simp
    refine (many17 T.h17 hG).mono ?_
    rintro _ _ ⟨⟨d, rfl, hd⟩, rfl⟩
    cases d with
    | true =>
      simp
      refine known_then T hw ?_
      rintro _ _ rfl
      simp
    | false =>
      have hsG := Fsz.of (hd rfl)
      have hgl : G.length ≤ 200 := by have := hd rfl; omega
      by_cases n0 : n < 0
      · simp [n0]
        refine known_then T hw ?_
        rintro _ _ rfl
        simp
      by_cases n1 : 1000 < n
      · simp [n0, n1]
        refine known_then T hw ?_
        rintro _ _ rfl
        simp
      simp [n0, n1]
      refine (ref25 (n := n) T.h25 T.h59 hF hs.row hs.len hs.tot hw).mono ?_
      rintro _ H1 ⟨rfl, e1⟩
      by_cases z1 : chkF n F = 0
      · simp [z1]
        refine (ref25 (n := n) T.h25 T.h59 (hG.ext e1) hsG.row hsG.len hsG.tot e1.wf).mono ?_
        rintro _ H2 ⟨rfl, e2⟩
        by_cases z2 : chkF n G = 0
        · have hJ := join_chk z1 z2 (by omega)
          have e12 := e1.trans e2
          have hn : 0 ≤ n ∧ n ≤ 1000 := by omega
          simp [z2]
          refine (copiedR19 T.h19 (hF.ext e12) hs e2.wf).mono ?_
          rintro v7 H3 ⟨rows, e3⟩
          have hF2 := hF.ext e12
          have hG2 := hG.ext e12
          simp
          rw [← hka]
          refine (join_a (n := n) (vF := vF) (v7 := v7) e2.wf e3 hG2 hsG (by omega) (by omega) hn z2 rows (by simp)).mono ?_
          rintro c τ H4 ⟨rfl, v7, ⟨e4, gd, t⟩⟩
          simp at t
          obtain ⟨t0, t1, t2, t7⟩ := t
          have hF4 := hF2.ext e4
          have hG4 := hG2.ext e4
          have hsJ : Fsz (F ++ shiftF n G) := by
            have h1 := hs.tot
            have h2 := hsG.tot
            have hfla : F.flatten.length ≤ 200 := by have := hc rfl; omega
            have hflb : G.flatten.length ≤ 200 := by have := hd rfl; omega
            have e : (shiftF n G).flatten = G.flatten.map (· + n) := by unfold shiftF; rw [List.map_flatten]
            refine ⟨fun f hf => ?_, by simp [shiftF]; omega, by rw [List.flatten_append, List.length_append, e, List.length_map]; omega⟩
            rcases List.mem_append.1 hf with q | q
            · exact hs.row f q
            · obtain ⟨g, hg, rfl⟩ := List.mem_map.1 q
              have := hsG.row g hg
              simpa using this
          have jl : (F ++ shiftF n G).length = F.length + G.length := by simp [shiftF]
          have jp := join_places z1 z2
          have je := join_edges z1 z2 (by omega)
          have jr := join_parts z1 z2
          have zF := chkF_up z1
          have zG := chkF_up z2
          have zJ := chkF_up hJ
          have f1 : (firsts F.flatten).length ≤ 1000000000 := Nat.le_trans (firsts_le _) hs.tot
          have f2 : (firsts G.flatten).length ≤ 1000000000 := Nat.le_trans (firsts_le _) hsG.tot
          have f3 : (edS (allE F)).length ≤ 1000000000 := Nat.le_trans (edS_len_le _) (by rw [show (allE F).length = F.flatten.length from flat_edges F]; exact hs.tot)
          have f4 : (edS (allE G)).length ≤ 1000000000 := Nat.le_trans (edS_len_le _) (by rw [show (allE G).length = G.flatten.length from flat_edges G]; exact hsG.tot)
          have pF := (parts_is F).len
          have pG := (parts_is G).len
          have pJ := (parts_is (F ++ shiftF n G)).len
          simp [t1]
          refine (count23 T.toFacesT hF4 hs e4.wf).mono ?_
          rintro _ H5 ⟨rfl, e5⟩
          rw [if_pos zF]
          simp [t2]
          refine (count23 T.toFacesT (hG4.ext e5) hsG e5.wf).mono ?_
          rintro _ H6 ⟨rfl, e6⟩
          rw [if_pos zG]
          have e46 := e5.trans e6
          simp [t7]
          refine (count23 T.toFacesT (gd.ext e46) hsJ e6.wf).mono ?_
          rintro _ H7 ⟨rfl, e7⟩
          rw [if_pos zJ, jp, je, jl]
          have e47 := e46.trans e7
          simp [t1]
          refine (parts33 T.toFacesT (hF4.ext e47) hs e7.wf).mono ?_
          rintro vP H8 ⟨hP, e8⟩
          rw [if_pos zF] at hP
          simp [t2]
          refine (parts33 T.toFacesT ((hG4.ext e47).ext e8) hsG e8.wf).mono ?_
          rintro vQ H9 ⟨hQ, e9⟩
          rw [if_pos zG] at hQ
          have e79 := e8.trans e9
          simp [t7]
          refine (parts33 T.toFacesT ((gd.ext e47).ext e79) hsJ e9.wf).mono ?_
          rintro vR H10 ⟨hR, e10⟩
          rw [if_pos zJ] at hR
          have w2n : IntKind.i64.wrap (2 * n) = 2 * n := wrap64 (by omega) (by omega)
          have e410 := (e47.trans e79).trans e10
          have gdJ := gd.ext e410
          have hF10 := hF4.ext e410
          have hG10 := hG4.ext e410
          have hP10 := (hP.ext e9).ext e10
          have hQ10 := hQ.ext e10
          simp [t0, t7, w2n]
          refine (check13 T.h20 T.h56 T.h91 T.h114 T.h63 T.h58 (n := 2 * n) gdJ hsJ.row hsJ.len e10.wf).mono ?_
          rintro _ H11 ⟨rfl, e11⟩
          have w1 : IntKind.i64.wrap (((firsts F.flatten).length : Int) + (firsts G.flatten).length) = ((firsts F.flatten).length : Int) + (firsts G.flatten).length := wrap64 (by omega) (by omega)
          have w3 : IntKind.i64.wrap (((edS (allE F)).length : Int) + (edS (allE G)).length) = ((edS (allE F)).length : Int) + (edS (allE G)).length := wrap64 (by omega) (by omega)
          have w4 : IntKind.i64.wrap ((F.length : Int) + G.length) = (F.length : Int) + G.length := wrap64 (by omega) (by omega)
          have lJ : lenA v7 = some (.int .i64 ((F.length : Int) + G.length)) := by
            have := gdJ.len; rw [jl] at this; exact this
          have lR : lenA vR = some (.int .i64 ((F.length : Int) + G.length)) := by
            have := hR.len; rw [pJ, jl] at this; exact this
          have lP : lenA vP = some (.int .i64 (F.length : Int)) := by have := hP.len; rw [pF] at this; exact this
          have lQ : lenA vQ = some (.int .i64 (G.length : Int)) := by have := hQ.len; rw [pG] at this; exact this
          rw [jr] at hR
          have ht := top_le F (Nat.le_refl F.length)
          rw [← pF, List.take_length, pF] at ht
          simp [hJ, t1, t2, t7, w1, w3, w4, lJ, lR, lP, lQ, hF10.len, hG10.len]
          rw [← hkb]
          refine (join_b (vG := vG) (vQ := vQ) (hF10.ext e11) hs ((hP10.ext e11).sl i64c_len) ((hR.ext e11).sl i64c_len) (by simp [t1, t2])).mono ?_
          rintro c τ2 _ ⟨rfl, rfl, t⟩
          simp at t
          obtain ⟨t1, t2, t21, t22, t23⟩ := t
          simp
          rw [← hkc]
          refine (join_c (vF := vF) (hF10.ext e11) hs (hG10.ext e11) hsG ((hQ10.ext e11).sl i64c_len) pF (by omega) ((hR.ext e11).sl i64c_len) (by simp [t1, t2, t21, t22, t23])).mono ?_
          rintro c τ3 _ ⟨rfl, rfl⟩
          simp
          refine known_then T e11.wf ?_
          rintro _ _ rfl
          simp
        · simp [z2]
          refine known_then T e2.wf ?_
          rintro _ _ rfl
          simp
      · simp [z1]
        refine known_then T e1.wf ?_
        rintro _ _ rfl
        simp
theorem law_join (hw : H.Wf) {n : Int} {vF vG : AV} {F G : List (List Int)} {p : Prop} (_ : p) (hF : Gd H vF F) (hG : Gd H vG G) : Cp FZ 9 [.int .i64 n, vF, vG] H (fun r _ => r = .bool true) := join9 lawT rfl hw hF hG
end
end Go.Proofs.Ytcepchipgjpkhaa
