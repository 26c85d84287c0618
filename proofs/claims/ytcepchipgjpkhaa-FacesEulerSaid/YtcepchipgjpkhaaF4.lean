/- The rims of faces, as the program tells them. No claim by itself. -/
import Derived.Test.YtcepchipgjpkhaaF3
import Derived.Test.YtcepchipgjpkhaaG3
import Derived.Test.YtcepchipgjpkhaaEH
namespace Go.Proofs.Ytcepchipgjpkhaa
open Go Go.AI
def nL : NC → NC
  | .seq a _ => a
  | c => c
def nR : NC → NC
  | .seq _ b => b
  | c => c
def nD : NC → ACode
  | .det c => c
  | _ => .skip
def k30 : ACode := nD (nR (nR (nR (nR (nR (nR N30.body))))))
def k30o : ACode := subAt [1, 1, 0, 1] k30
def k30i : ACode := subAt [0, 0, 1, 1, 0, 0, 1, 1, 0, 1] k30o
theorem body30 : N30.body = .seq (nL N30.body) (.seq (nL (nR N30.body)) (.seq (nL (nR (nR N30.body))) (.seq (nL (nR (nR (nR N30.body)))) (.seq (nL (nR (nR (nR (nR N30.body))))) (.seq (nL (nR (nR (nR (nR (nR N30.body)))))) (.det k30)))))) := rfl
theorem body30k : k30 = putAt [1, 1, 0, 1] k30 k30o := rfl
theorem body30o : k30o = putAt [0, 0, 1, 1, 0, 0, 1, 1, 0, 1] k30o k30i := rfl
section
variable {H : Heap} {FT : Nat → Option FnD}
/-- Where the way stands. -/
def WayP (M : Nx) (a : Int) (has : Bool) (ring R : List Int) (N : Nx) : Prop :=
  if has = true then ring ++ (goes M a).1 = R ∧ (goes M a).2 = N else ring = R ∧ M = N
structure Ri1 (H H' : Heap) (o8 : Nat) (M : Nx) (v16 x13 x67 x68 x69 : AV) (a : Int) (has : Bool) (ring R : List Int) (N : Nx) (B : Nat) (τ : Env) (m : Nat) : Prop where
  fr : Fr [o8] H H'
  gm : H'.get o8 = some (.map (M.map (entK intV)))
  nd : (keys M).Nodup
  mine : Mine 1 i64c H H' v16 ring
  way : WayP M a has ring R N
  nx : H'.next + 4 * M.length + 2 * ring.length ≤ B
  rl : ring.length + M.length ≤ 1000000000
  hm : m = 2 * M.length + (if has = true then 1 else 0)
  t : Tm τ [(8, .map o8), (13, x13), (16, v16), (17, .int .i64 a), (18, .bool has), (67, x67), (68, x68), (69, x69)]
structure Riq (H H' : Heap) (o8 : Nat) (v16 x13 x67 x68 x69 : AV) (R : List Int) (N : Nx) (B : Nat) (τ : Env) : Prop where
  fr : Fr [o8] H H'
  gm : H'.get o8 = some (.map (N.map (entK intV)))
  nd : (keys N).Nodup
  mine : Mine 1 i64c H H' v16 R
  nx : H'.next + 4 * N.length + 2 * R.length ≤ B
  rl : R.length + N.length ≤ 1000000000
  t : Tm τ [(8, .map o8), (13, x13), (16, v16), (67, x67), (68, x68), (69, x69)]
theorem ring_in (hw : H.Wf) {o8 : Nat} {M : Nx} {a : Int} (hf : H.floor ≤ o8) (hg : H.get o8 = some (.map (M.map (entK intV)))) (hn : (keys M).Nodup) (hl : M.length ≤ 1000000000) {x13 x67 x68 x69 : AV} {τ0 : Env}
    (u : Tm τ0 [(8, .map o8), (13, x13), (16, .nils), (17, .int .i64 a), (18, .bool true), (67, x67), (68, x68), (69, x69)]) :
    Wp FT k30i τ0 H (fun c τ H' => c = .next ∧ ∃ v16, Riq H H' o8 v16 x13 x67 x68 x69 (goes M a).1 (goes M a).2 (H.next + 4 * M.length) τ) := by
  simp at u
  obtain ⟨u8, u13, u16, u17, u18, u67, u68, u69⟩ := u
  simp [k30i, k30o, k30, nD, nR, subAt, N30]
  refine Wp_loop (fun m τ H' => ∃ M' v16 a' has ring, Ri1 H H' o8 M' v16 x13 x67 x68 x69 a' has ring (goes M a).1 (goes M a).2 (H.next + 4 * M.length) τ m) ?_ _ _ _ ⟨M, .nils, a, true, [], ⟨Fr.refl hw, hg, hn, Mine.nil, by simp [WayP], by simp, by simpa using hl, rfl, by simp [u8, u13, u16, u17, u18, u67, u68, u69]⟩⟩
  rintro m τ H1 ⟨M1, v16, a1, has, ring, ⟨fr, gm, nd, mine, way, nx, rl, rfl, t⟩⟩
  simp only [Tm_cons, Tm_nil, and_true] at t
  obtain ⟨t8, t13, t16, t17, t18, t67, t68, t69⟩ := t
  have hlt := hw.lt hg
  cases has with
  | false =>
    simp only [WayP, Bool.false_eq_true, if_false] at way
    obtain ⟨rfl, rfl⟩ := way
    simp [t18]
    exact ⟨v16, fr, gm, nd, mine, nx, rl, by simp [t8, t13, t16, t67, t68, t69]⟩
  | true =>
    simp only [WayP, if_true] at way
    obtain ⟨w1, w2⟩ := way
    rcases lookA_int (enc := intV) (a := a1) gm with ⟨q, i, hq, hlk⟩ | ⟨hq, hlk⟩
    · have hq1 : at1 M1 a1 = some q := hq
      have hlk' : lookA H1 (.prim .int) (.map o8) (.int .i64 a1) = some (some (i, .int .i64 q.2)) := hlk
      rw [goes_some hq1] at w1 w2
      obtain ⟨v', H2, b1, b2, b3, b4⟩ := mine.app1 i64c_len (by omega) i64c_one (bytes := 8) fr.wf fr.next a1 (by omega)
      have b1' : appendA 1 8 (H1.push (.cells [.int .i64 a1])) v16 (.slc H1.next 0 1 1 1 true) = some (v', H2) := b1
      have bn := append_next b1
      rw [next_push] at bn
      have ho8 : o8 ∉ (rowObj v16).toList := fun r => by have := mine.new o8 (by simpa using r); omega
      have gm2 := b3.keep _ _ ho8 gm
      have fr2 : Fr [o8] H H2 := fr.trans hw b3 (fun o r => .inr (mine.new o (by simpa using r)))
      have hfl : H2.floor ≤ o8 := by rw [fr2.floor]; exact hf
      have hd := delA_int (enc := intV) hfl gm2 nd hq
      have hwl := without_len hq1
      have fr3 : Fr [o8] H2 (H2.set o8 (.map ((without M1 a1).map (entK intV)))) := Fr.set fr2.wf (fr2.wf.lt gm2) _
      have hd' : delA H2 (.prim .int) (.map o8) (.int .i64 a1) = some (undefA, H2.set o8 (.map ((without M1 a1).map (entK intV)))) := hd
      simp [-Bool.exists_bool, t8, t16, t17, t18, hlk', lookV, b1', hd']
      refine ⟨_, ?_, without M1 a1, v', q.2, true, ring ++ [a1], ⟨fr2.trans hw fr3 (fun o r => .inl r), get_setH.trans (if_pos rfl), without_nodup nd a1, b2.fr fr3 (fun p hp r => by have := b2.new p hp; simp at r; omega), ?_, ?_, ?_, rfl, by simp [t8, t13, t67, t68, t69]⟩⟩
      · simp only [if_true]; omega
      · simp only [WayP, if_true, List.append_assoc]; exact ⟨w1, w2⟩
      · show H2.next + _ + _ ≤ _
        simp only [List.length_append, List.length_singleton]; omega
      · simp only [List.length_append, List.length_singleton]; omega
    · have hq1 : a1 ∉ keys M1 := at1_none.1 hq
      rw [goes_none hq1, List.append_nil] at w1
      rw [goes_none hq1] at w2
      simp [-Bool.exists_bool, t8, t17, t18, hlk, lookV]
      exact ⟨2 * M1.length, by simp, M1, v16, a1, false, ring, ⟨fr, gm, nd, mine, by simp only [WayP, Bool.false_eq_true, if_false]; exact ⟨w1, w2⟩, nx, rl, by simp, by simp [t8, t13, t16, t17, t67, t68, t69]⟩⟩
structure Ro1 (Hb H' : Heap) (o8 : Nat) (v9 v13 : AV) (ps : List Nat) (l : List Int) (M : Nx) (out R : List (List Int)) (B : Nat) (τ : Env) (i m : Nat) : Prop where
  fr : Fr [o8] Hb H'
  gm : H'.get o8 = some (.map (M.map (entK intV)))
  nd : (keys M).Nodup
  rows : RowsX Hb H' v13 ps out
  ok : out ++ ringsF (l.drop i) M = R
  nx : H'.next + 4 * M.length ≤ B
  rl : out.length + M.length ≤ 1000000000
  le : i ≤ l.length
  hm : m = l.length - i
  t : Tm τ [(8, .map o8), (13, v13), (67, v9), (68, .int .i64 l.length), (69, .int .i64 i)]
structure Roq (Hb H' : Heap) (o8 : Nat) (v13 : AV) (ps : List Nat) (R : List (List Int)) (B : Nat) (τ : Env) : Prop where
  fr : Fr [o8] Hb H'
  rows : RowsX Hb H' v13 ps R
  nx : H'.next ≤ B
  t : Tm τ [(13, v13)]
theorem rings_out (hw : H.Wf) {o8 : Nat} {M : Nx} {l : List Int} {v9 : AV} (hf : H.floor ≤ o8) (hg : H.get o8 = some (.map (M.map (entK intV)))) (hn : (keys M).Nodup) (hl : M.length ≤ 1000000000) (h9 : Ints H v9 l) (hd9 : rowObj v9 ≠ some o8) (hll : l.length ≤ 1000000000) {τ0 : Env}
    (u : Tm τ0 [(8, .map o8), (13, .nils), (67, v9), (68, .int .i64 l.length), (69, .int .i64 0)]) :
    Wp FT k30o τ0 H (fun c τ H' => c = .next ∧ ∃ v13 ps, Roq H H' o8 v13 ps (ringsF l M) (H.next + 4 * M.length) τ) := by
  simp at u
  obtain ⟨u8, u13, u67, u68, u69⟩ := u
  rw [body30o]
  generalize hki : k30i = ki
  simp [k30o, k30, nD, nR, putAt, subAt, N30]
  refine Wp_loop (fun m τ H' => ∃ i v13 ps M' out, Ro1 H H' o8 v9 v13 ps l M' out (ringsF l M) (H.next + 4 * M.length) τ i m) ?_ l.length _ _ ⟨0, .nils, [], M, [], ⟨Fr.refl hw, hg, hn, RowsX.nil, rfl, Nat.le_refl _, by simpa using hl, by omega, by omega, by simp [u8, u13, u67, u68, u69]⟩⟩
  rintro m τ H1 ⟨i, v13, ps, M1, out, ⟨fr, gm, nd, rows, ok, nx, rl, hi, rfl, t⟩⟩
  simp at t
  obtain ⟨t8, t13, t67, t68, t69⟩ := t
  have hlt := hw.lt hg
  have h91 := h9.fr fr (fun o r q => hd9 (by simp at q; rw [← q]; exact r))
  by_cases q : i < l.length
  · have w : IntKind.i64.wrap ((i : Int) + 1) = (i : Int) + 1 := wrap64 (by omega) (by omega)
    obtain ⟨p, a, a1, a2, a3⟩ := Ints.idx h91 (k := .i64) (i := (i : Int)) (by omega) (by omega)
    rw [Int.toNat_natCast] at a1
    rw [drop_get a1, rings_cons] at ok
    simp [q, t67, t68, t69, a2, a3]
    rw [← hki]
    refine (ring_in fr.wf (by rw [fr.floor]; exact hf) gm nd (by omega) (a := a) (x13 := v13) (x67 := v9) (x68 := .int .i64 l.length) (x69 := .int .i64 i) (by simp [t8, t13, t67, t68, t69])).mono ?_
    rintro c τ2 H2 ⟨rfl, v16, ⟨fr2, gm2, nd2, mine2, nx2, rl2, t⟩⟩
    simp at t
    obtain ⟨t8, t13, t16, t67, t68, t69⟩ := t
    have hlen16 := (mine2.sl i64c_len).len
    have f02 : Fr [o8] H H2 := fr.trans hw fr2 (fun o r => .inl r)
    have rows2 := rows.fr fr2 (fun p r => by simp at r; omega)
    by_cases z : (goes M1 a).1 = []
    · rw [if_pos z] at ok
      have hM : (goes M1 a).2 = M1 := by rw [goes_none (goes_nil.1 z)]
      rw [hM] at gm2 nd2 nx2 rl2
      rw [z] at hlen16 nx2
      simp [t16, hlen16, t69, w]
      exact ⟨_, by omega, i + 1, v13, ps, M1, out, ⟨f02, gm2, nd2, rows2, ok, by simp at nx2; omega, rl, by omega, rfl, by simp [t8, t13, t67, t68]⟩⟩
    · rw [if_neg z] at ok
      have hpos : 0 < (goes M1 a).1.length := List.length_pos_iff.2 z
      have hlt' : ∀ p, p ∈ ps → p < H1.next := fun p hp => by
        obtain ⟨j, hj⟩ := List.getElem?_of_mem hp
        have hjl : j < out.length := by rw [← rows.len]; exact (List.getElem?_eq_some_iff.1 hj).1
        exact fr.wf.lt (rows.get hj (List.getElem?_eq_getElem hjl)).1
      have hkey : a ∈ keys M1 := Classical.byContradiction fun r => z (by rw [goes_none r])
      obtain ⟨e, he⟩ : ∃ e, at1 M1 a = some e := by
        cases r : at1 M1 a with
        | none => exact absurd hkey (at1_none.1 r)
        | some e => exact ⟨e, rfl⟩
      have hdec : (goes M1 a).2.length < M1.length := by
        rw [goes_some he]
        have h1 := without_len he
        have h2 := (goes_sub (without M1 a) e.2).length_le
        simp only; omega
      obtain ⟨p', v', H3, c0, c1, c2, c3, c4⟩ := rows2.snoc fr2.wf (Nat.le_trans fr.next fr2.next) mine2 z fr.next hlt' (fun p hp => rows.mine.lt fr.wf hp) (bytes := 24) (by omega)
      have fv : ∀ (e : Opd → AV), fillV e [.nils] 0 1 v16 [] = some [v16] := fun e => by rw [c0, fillV_val rfl rfl]; simp [setSeg]
      have hc : (0 : Int) < ((goes M1 a).1.length : Int) := by omega
      have ho8 : o8 ∉ (rowObj v13).toList := fun r => by have := rows.mine.new o8 (by simpa using r); omega
      simp [t13, t16, hlen16, t69, w, hpos, fv, c1]
      refine ⟨_, by omega, i + 1, v', ps ++ [p'], (goes M1 a).2, out ++ [(goes M1 a).1], ⟨?_, c3.keep _ _ ho8 gm2, nd2, c2, by rw [List.append_assoc]; exact ok, by omega, by simp; omega, by omega, rfl, by simp [t8, t67, t68]⟩⟩
      exact f02.trans hw c3 (fun o r => .inr (rows.mine.new o (by simpa using r)))
  · have hil : i = l.length := by omega
    subst hil
    rw [List.drop_length] at ok
    have ok' : out = ringsF l M := by simpa [ringsF] using ok
    simp [t68, t69]
    exact ⟨v13, ps, fr, by rw [← ok']; exact rows, by omega, by simp [t13]⟩
theorem rings_ne : ∀ (l : List Int) (M : Nx) (r : List Int), r ∈ ringsF l M → r ≠ []
  | [], M, r, h => by cases h
  | a :: l, M, r, h => by
    rw [rings_cons] at h
    split at h
    · exact rings_ne l _ r h
    · rename_i z
      rcases List.mem_cons.1 h with q | q
      · rw [q]; exact z
      · exact rings_ne l _ r q
theorem came_notin {E : List Ent} (hn : (E.map (·.1)).Nodup) {seen : List Nat} {i : Nat} {q : Ent} (hi : E[i]? = some q) (hs : i ∉ seen) : q.1 ∉ (came E seen).map (·.1) := fun h => by
  obtain ⟨r, hr, e⟩ := List.mem_map.1 h
  unfold came at hr
  obtain ⟨j, hj, hjr⟩ := List.mem_filterMap.1 hr
  have h1 : (E.map (·.1))[i]? = some q.1 := by rw [List.getElem?_map, hi]; rfl
  have h2 : (E.map (·.1))[j]? = some q.1 := by rw [List.getElem?_map, hjr, ← e]; rfl
  have := nod_inj hn h1 h2
  subst this
  exact hs hj
structure Pr1 (Hs H' : Heap) (L : List (Int × Int)) (E : List Ent) (o6 o8 : Nat) (v9 : AV) (M : Nx) (it : Nat) (seen : List Nat) (τ : Env) : Prop where
  fr : Fr [o8] Hs H'
  gm : H'.get o8 = some (.map (M.map (entK intV)))
  mine : Mine 1 i64c Hs H' v9 (keys M)
  perm : M.Perm (((came E seen).map (·.1)).filter fun s => decide (rev s ∉ L))
  kd : (keys M).Nodup
  nx : H'.next ≤ Hs.next + 4 * seen.length
  nd : seen.Nodup
  lt : ∀ i, i ∈ seen → i < E.length
  t : Tm τ [(6, .ptr o6 0), (8, .map o8), (9, v9), (34, .ptr it 0)]
theorem came_len {E : List Ent} : ∀ {l : List Nat}, (∀ i, i ∈ l → i < E.length) → (came E l).length = l.length
  | [], _ => rfl
  | i :: l, h => by rw [came_cons (List.getElem?_eq_getElem (h i (by simp))), List.length_cons, List.length_cons, came_len fun j hj => h j (List.mem_cons_of_mem _ hj)]
open Classical in
theorem rims_wp {n : Int} {vF : AV} {F : List (List Int)} (hF : Gd H vF F) (hs : Fsz F) (hw : H.Wf) :
    ∃ v H', WpN FS N30.body (enterEnv 0 [.int .i64 n, vF] .leaf) H (finQ N30.results fun r H1 => Outs r H1 v H') ∧ (∀ o, o < H.floor → H'.get o = H.get o) ∧ rimsR n F H' v ∧ Ext H H' := by
  have h58 : FS 58 = some (.code A58) := rfl
  obtain ⟨N, r1, H1, hcall, ⟨m, rfl, hm2, hm3, hm4, hm5⟩, e1⟩ := known29 (FT := FS) rfl rfl rfl rfl rfl (n := n) hF hs.row hs.len hw
  have hk : Cp FS 56 [.int .i64 n, vF] H (fun r H' => r = .tup [m, .int .i64 (chkF n F)] ∧ H' = H1) := ⟨N, _, _, hcall, rfl, rfl⟩
  generalize hL : allE F = L
  have hEf : (tabF 0 F).map (·.1) = L := by rw [← hL]; exact tabF_fst 0 F
  have hEp := tabF_nonneg 0 F
  generalize hE : tabF 0 F = E at hEf hm4 hEp
  have hEl : E.length ≤ 1000000000 := by
    have h1 : E.length = L.length := by rw [← hEf, List.length_map]
    have h2 : L.length = F.flatten.length := by rw [← hL]; exact flat_edges F
    have := hs.tot
    omega
  have hwf := hw.1
  let nn : Nat := H1.next + 100 + 16 * E.length
  let RR : List (List Int) := if chkF n F = 0 ∧ (keys (rimE L)).Nodup then rimsF L else []
  let ee : Int := if chkF n F = 0 then (if (keys (rimE L)).Nodup then 0 else 81) else chkF n F
  have hnn : H.next ≤ nn := by have := e1.next; show H.next ≤ H1.next + 100 + 16 * E.length; omega
  have hRne : ∀ f, f ∈ RR → f ≠ [] := fun f hf => by
    have hf : f ∈ (if _ then _ else _) := hf
    split at hf
    · exact rings_ne _ _ f hf
    · cases hf
  refine ⟨.tup [canonV nn RR, .int .i64 ee], canonH H nn RR, ?_, fun o ho => canon_low _ (by omega), ?_, canon_ext hw hnn _⟩
  rotate_left
  · unfold rimsR
    rw [hL]
    by_cases z : chkF n F = 0
    · by_cases d : (keys (rimE L)).Nodup
      · right; right
        have h1 : RR = rimsF L := if_pos ⟨z, d⟩
        have h2 : ee = 0 := by show (if _ then _ else _) = _; rw [if_pos z, if_pos d]
        exact ⟨z, d, canonV nn RR, by rw [h2], by have := canon_gd (H := H) nn RR hRne; rw [h1] at this ⊢; exact this⟩
      · right; left
        have h1 : RR = [] := if_neg (fun q => d q.2)
        have h2 : ee = 81 := by show (if _ then _ else _) = _; rw [if_pos z, if_neg d]
        exact ⟨z, d, by rw [h1, h2]; rfl⟩
    · left
      have h1 : RR = [] := if_neg (fun q => z q.1)
      have h2 : ee = chkF n F := if_neg z
      exact ⟨z, by rw [h1, h2]; rfl⟩
  -- what comes out early
  have early : ∀ (H2 : Heap) (e : Int), RR = [] → ee = e → H2.floor = H.floor → H2.next ≤ nn → (∀ o x, H.get o = some x → H2.get o = some x) → Outs (.tup [.nils, .int .i64 e]) H2 (.tup [canonV nn RR, .int .i64 ee]) (canonH H nn RR) := fun H2 e h1 h2 h3 h4 h5 => by
    rw [h1, h2]
    exact Outs.same h3.symm h4 (fun o ho => hw.2 o (Nat.le_trans hnn ho)) h5
  rw [body30]
  generalize htl : k30 = tl
  simp [N30, nL, nR]
  refine hk.mono ?_
  rintro _ K ⟨rfl, hK⟩
  have hK := hK.symm
  subst hK
  obtain ⟨H2, st, g2, e2, n2⟩ := store_new e1.wf (z := [.nilm, .nils]) (n := 2) (x := m) (cs := m.cells) rfl hm2 rfl hm3
  have e02 := e1.trans e2
  by_cases z : chkF n F = 0
  · obtain ⟨om, rfl, gom⟩ := hm4 z
    have hn : (E.map (·.1)).Nodup := by rw [hEf, ← hL]; exact (chkF_zero z).2.2
    simp [z, st]
    have o6e : H1.next < H2.next := e2.wf.lt g2
    have e3 := Ext.push e2.wf (.map [])
    have g3 := (push_new e2.wf (.map [])).1
    have hH3n : (H2.push (.map [])).next = H2.next + 1 := rfl
    have hH3f : (H2.push (.map [])).floor = H.floor := e02.floor
    have gom3 := e3.keep _ _ (e2.keep _ _ gom)
    have g63 := e3.keep _ _ g2
    have homl : om < H1.next := e1.wf.lt gom
    generalize hH3 : H2.push (.map []) = H3 at e3 g3 hH3n hH3f gom3 g63
    have e03 := e02.trans e3
    have e4 := Ext.push e3.wf .dead
    generalize hHs : ({ H3.push .dead with floor := H2.next } : Heap) = Hs
    have ns : Hs.next = H2.next + 2 := by rw [← hHs]; show (H3.push .dead).next = _; rw [next_push, hH3n]
    have fs : Hs.floor = H2.next := by rw [← hHs]
    have ws : Hs.Wf := by rw [← hHs]; exact ⟨by show H2.next ≤ (H3.push .dead).next; rw [next_push, hH3n]; omega, e4.wf.2⟩
    have gs : ∀ o x, H3.get o = some x → Hs.get o = some x := fun o x q => by rw [← hHs]; exact e4.keep o x q
    have l6 : loadA H3 none (.ptr H1.next 0) = some (.map om) := load_get g63 rfl
    have hmc : AV.cells (.agg [.map om, vF]) = [.map om, vF] := rfl
    rw [WpN_rng]
    unfold RngW
    simp [l6]
    refine ⟨E.map entc, H2.next, fun seen τ H' => ∃ v9 M, Pr1 Hs H' L E H1.next H2.next v9 M H3.next seen τ, ?_⟩
    refine ⟨by rw [hH3f]; have := e02.next; omega, by omega, by omega, gom3, ?_, fun ⟨v9, M, p⟩ => by have := p.t; simp at this; exact this.2.2.2, ?_, ?_⟩
    · refine ⟨.nils, [], ?_⟩
      rw [hHs]
      exact ⟨Fr.refl ws, gs _ _ g3, Mine.nil, by simp [came], by simp [keys], by simp, by simp, by simp, by simp⟩
    · rintro seen τ H4 i e ⟨v9, M, ⟨fr, gm, mine, perm, kd, nx, nd, lt, t⟩⟩ hi he
      simp at t
      obtain ⟨t6, t8, t9, t34⟩ := t
      rw [List.getElem?_map] at he
      cases hEi : E[i]? with
      | none => rw [hEi] at he; cases he
      | some q =>
        rw [hEi] at he
        cases he
        have hil : i < E.length := (List.getElem?_eq_some_iff.1 hEi).1
        have hqm : q.1 ∈ L := by rw [← hEf]; exact List.mem_map.2 ⟨q, List.mem_of_getElem? hEi, rfl⟩
        have hcame := came_cons (seen := seen) hEi
        have nd' : (i :: seen).Nodup := List.nodup_cons.2 ⟨hi, nd⟩
        have lt' : ∀ j, j ∈ i :: seen → j < E.length := fun j hj => by
          rcases List.mem_cons.1 hj with r | r
          · rw [r]; exact hil
          · exact lt j r
        have hseen : seen.length + 1 ≤ E.length := by
          have hsub : i :: seen ⊆ List.range E.length := fun x hx => List.mem_range.2 (lt' x hx)
          have := List.Nodup.length_le_of_subset nd' hsub
          simpa using this
        have hMl : M.length ≤ 1000000000 := by
          have h1 := perm.length_eq
          have h2 := List.length_filter_le (fun s => decide (rev s ∉ L)) ((came E seen).map (·.1))
          rw [List.length_map, came_len lt] at h2
          omega
        obtain ⟨H5, st5, g5, e5, n5⟩ := store_new fr.wf (z := [.int .i64 0, .int .i64 0]) (n := 2) (x := .agg (pairc q.1)) (cs := pairc q.1) rfl rfl rfl rfl
        have fr5 : Fr [H2.next] Hs H5 := fr.thenE ws e5
        have lp1 : loadA H5 none (.ptr H4.next 0) = some (.int .i64 q.1.1) := load_get g5 rfl
        have lp2 : loadA H5 none (.ptr H4.next 1) = some (.int .i64 q.1.2) := load_get g5 rfl
        have keep5 : ∀ o x, o ≠ H2.next → H3.get o = some x → H5.get o = some x := fun o x ho hx => fr5.keep o x (by simpa using ho) (gs o x hx)
        have lb : loadA H5 (some 1) (.ptr H1.next 0) = some (.agg [.map om]) := load_agg (keep5 _ _ (by omega) g63) (by simp [seg, hmc])
        have hg5 := keep5 _ _ (show om ≠ H2.next by omega) gom3
        simp [entc, st5, lp1, lp2, t6, lb]
        refine (left58n h58 e5.wf (s := (q.1.2, q.1.1)) hg5).mono ?_
        rintro _ H6 ⟨rfl, e6, n6⟩
        have fr6 : Fr [H2.next] Hs H6 := fr5.thenE ws e6
        have e46 := e5.trans e6
        have gm6 := e46.keep _ _ gm
        have hlk := look_lt hEp (q.1.2, q.1.1)
        rw [hEf] at hlk
        by_cases d : (q.1.2, q.1.1) ∈ L
        · have h0 : 0 ≤ lookE E (q.1.2, q.1.1) := by
            rcases Int.lt_or_le (lookE E (q.1.2, q.1.1)) 0 with r | r
            · exact absurd d (hlk.1 r)
            · exact r
          simp [h0]
          refine ⟨v9, M, ⟨fr6, gm6, mine.ext e46, ?_, kd, by rw [List.length_cons]; omega, nd', lt', by simp [t6, t8, t9, t34]⟩⟩
          rw [hcame, List.map_cons, List.filter_cons, if_neg (by simp [rev, d])]; exact perm
        · have h0 : ¬ 0 ≤ lookE E (q.1.2, q.1.1) := fun r => by have := hlk.2 d; omega
          have hrm : q.1 ∈ rimE L := rimE_mem.2 ⟨hqm, d⟩
          have lp1' := load_ext lp1 e6
          have lp2' := load_ext lp2 e6
          rcases lookA_int (enc := intV) (a := q.1.1) gm6 with ⟨x, k, hx, hlk6⟩ | ⟨hx, hlk6⟩
          · -- a place that is left twice
            have hno : ¬ (keys (rimE L)).Nodup := fun hnd => by
              obtain ⟨x1, x2⟩ := at1_some (show at1 M q.1.1 = some x from hx)
              have hxm := perm.mem_iff.1 x1
              obtain ⟨y1, y2⟩ := List.mem_filter.1 hxm
              have hxL : x ∈ L := by
                rw [← hEf]
                obtain ⟨z', hz1, hz2⟩ := List.mem_map.1 y1
                unfold came at hz1
                obtain ⟨j, _, hj2⟩ := List.mem_filterMap.1 hz1
                exact List.mem_map.2 ⟨z', List.mem_of_getElem? hj2, hz2⟩
              have := key_inj hnd (rimE_mem.2 ⟨hxL, by simpa using y2⟩) hrm x2
              rw [this] at y1
              exact came_notin hn hEi hi y1
            have hRR : RR = [] := if_neg (fun r => hno r.2)
            have hee : ee = 81 := by show (if _ then _ else _) = _; rw [if_pos z, if_neg hno]
            have hlk6' : lookA H6 (.prim .int) (.map H2.next) (.int .i64 q.1.1) = some (some (k, .int .i64 x.2)) := hlk6
            simp [h0, t8, lp1', hlk6', lookV]
            refine early { H6 with floor := H3.floor } 81 hRR hee hH3f ?_ fun o y hy => ?_
            · show H6.next ≤ H1.next + 100 + 16 * E.length
              omega
            · have hol := hw.lt hy
              have := e02.next
              exact fr6.keep o y (by simp; omega) (gs o y (e03.keep o y hy))
          · have hfl6 : H6.floor ≤ H2.next := by rw [fr6.floor, fs]; exact Nat.le_refl _
            have hup := updA_new (enc := intV) (x := q.1.2) hfl6 gm6 hx
            have hup' : mapUpdA H6 (.prim .int) (.map H2.next) (.int .i64 q.1.1) (.int .i64 q.1.2) = some (undefA, H6.set H2.next (.map ((M ++ [(q.1.1, q.1.2)]).map (entK intV)))) := hup
            have fr7 : Fr [H2.next] H6 (H6.set H2.next (.map ((M ++ [(q.1.1, q.1.2)]).map (entK intV)))) := Fr.set fr6.wf (fr6.wf.lt gm6) _
            have gm7 : (H6.set H2.next (.map ((M ++ [(q.1.1, q.1.2)]).map (entK intV)))).get H2.next = _ := get_setH.trans (if_pos rfl)
            have hn7 : (H6.set H2.next (.map ((M ++ [(q.1.1, q.1.2)]).map (entK intV)))).next = H6.next := rfl
            have f07 : Fr [H2.next] Hs (H6.set H2.next (.map ((M ++ [(q.1.1, q.1.2)]).map (entK intV)))) := fr6.trans ws fr7 (fun o r => .inl r)
            have mine7 := (mine.ext e46).fr fr7 (fun p hp r => by have := mine.new p hp; simp at r; omega)
            have lp17 : loadA (H6.set H2.next (.map ((M ++ [(q.1.1, q.1.2)]).map (entK intV)))) none (.ptr H4.next 0) = some (.int .i64 q.1.1) := by
              have hne : H4.next ≠ H2.next := by have := fr.next; omega
              exact load_get (fr7.keep _ _ (by simpa using hne) (e6.keep _ _ g5)) rfl
            generalize hH7 : H6.set H2.next (.map ((M ++ [(q.1.1, q.1.2)]).map (entK intV))) = H7 at hup' fr7 gm7 hn7 f07 mine7 lp17
            obtain ⟨v', H8, b1, b2, b3, b4⟩ := mine7.app1 i64c_len (by omega) i64c_one (bytes := 8) f07.wf f07.next q.1.1 (by rw [keys_len]; omega)
            have b1' : appendA 1 8 (H7.push (.cells [.int .i64 q.1.1])) v9 (.slc H7.next 0 1 1 1 true) = some (v', H8) := b1
            have bn := append_next b1
            rw [next_push] at bn
            have ho8 : H2.next ∉ (rowObj v9).toList := fun r => by have := mine.new H2.next (by simpa using r); omega
            have hkn : q.1.1 ∉ keys M := at1_none.1 hx
            simp [h0, t8, t9, lp1', lp2', hlk6, lookV, hup', lp17, b1']
            refine ⟨v', M ++ [(q.1.1, q.1.2)], ⟨f07.trans ws b3 (fun o r => .inr (mine.new o (by simpa using r))), b3.keep _ _ ho8 gm7, by unfold keys at b2 ⊢; rw [List.map_append]; exact b2, ?_, ?_, by rw [List.length_cons]; omega, nd', lt', by simp [t6, t8, t34]⟩⟩
            · rw [hcame, List.map_cons, List.filter_cons, if_pos (by simp [rev, d])]
              exact (List.perm_append_singleton _ _).trans (perm.cons _)
            · unfold keys
              rw [List.map_append, List.nodup_append]
              exact ⟨kd, by simp, fun a ha b hb => by simp at hb; subst hb; exact fun r => hkn (r ▸ ha)⟩
    · rintro seen τ H4 ⟨v9, M, ⟨fr, gm, mine, perm, kd, nx, nd, lt, t⟩⟩ hall
      simp at t
      obtain ⟨t6, t8, t9, t34⟩ := t
      rw [List.length_map] at hall
      have hca := came_all nd lt hall
      have hperm : M.Perm (rimE L) := by
        refine perm.trans ?_
        unfold rimE
        rw [← hEf]
        exact (hca.map _).filter _
      have hkd : (keys (rimE L)).Nodup := (hperm.map (fun x : Int × Int => x.1)).nodup_iff.1 kd
      have hRR : RR = ringsF (srtI (keys M)) M := by
        have h1 : RR = rimsF L := if_pos ⟨z, hkd⟩
        rw [h1]
        unfold rimsF
        rw [rings_perm _ kd hperm]
        congr 1
        exact srtB_congr stoI (hperm.map (fun x : Int × Int => x.1)).symm
      have hee : ee = 0 := by show (if _ then _ else _) = _; rw [if_pos z, if_pos hkd]
      have hsl : seen.length ≤ E.length := by have := hca.length_eq; rw [came_len lt] at this; omega
      have hMl : M.length ≤ E.length := by
        have h1 := perm.length_eq
        have h2 := List.length_filter_le (fun s => decide (rev s ∉ L)) ((came E seen).map (·.1))
        rw [List.length_map, came_len lt] at h2
        omega
      have hold4 : ∀ o x, H.get o = some x → H4.get o = some x := fun o x hx => by
        have := hw.lt hx
        have := e02.next
        exact fr.keep o x (by simp; omega) (gs o x (e03.keep o x hx))
      have hn4 : H4.next ≤ H2.next + 2 + 4 * E.length := by omega
      have hnn2 : H2.next + 2 + 8 * E.length ≤ nn := by show _ ≤ H1.next + 100 + 16 * E.length; omega
      have hl4 : H2.next ≤ H4.next := by have := fr.next; omega
      have hhn := e02.next
      have hf2 : H.next ≤ H2.next := hhn
      have wf4 := fr.wf
      simp only [nseqQ_next]
      rw [← htl, body30k]
      generalize hko : k30o = ko
      generalize hH9 : ({ H4 with floor := H3.floor } : Heap) = H9
      have g9 : ∀ o, H9.get o = H4.get o := fun o => by rw [← hH9]; rfl
      have n9 : H9.next = H4.next := by rw [← hH9]
      have f9 : H9.floor = H.floor := by rw [← hH9]; exact hH3f
      have w9 : H9.Wf := ⟨by rw [f9, n9]; omega, fun o ho => by rw [g9]; exact wf4.2 o (by omega)⟩
      -- behind the sort
      have behind : ∀ (H10 : Heap), H10.Wf → H10.floor = H.floor → H10.next = H4.next → H10.get H2.next = some (.map (M.map (entK intV))) → Ints H10 v9 (srtI (keys M)) → (∀ o x, H.get o = some x → H10.get o = some x) → ∀ (τ1 : Env), Tm τ1 [(8, .map H2.next), (13, .nils), (67, v9), (68, .int .i64 (srtI (keys M)).length), (69, .int .i64 0)] →
          Wp FS ko τ1 H10 (fun c τ' H11 => c = .next ∧ ∃ v13, Outs (.tup [v13, .int .i64 0]) H11 (.tup [canonV nn RR, .int .i64 ee]) (canonH H nn RR) ∧ Tm τ' [(13, v13)]) := by
        intro H10 w10 f10 n10 gm10 hi10 hold10 τ1 ht
        rw [← hko]
        have hd9 : rowObj v9 ≠ some H2.next := fun r => by have := mine.new _ r; omega
        refine (rings_out w10 (by rw [f10]; omega) gm10 kd (by omega) hi10 hd9 (by rw [show (srtI (keys M)).length = (keys M).length from srtB_len _, keys_len]; omega) ht).mono ?_
        rintro c τ' H11 ⟨rfl, v13, ps, ⟨fr11, rows, nx11, t⟩⟩
        refine ⟨rfl, v13, ?_, t⟩
        rw [← hRR] at rows
        rw [hee]
        exact rows.out hw (fun o x hx => fr11.keep o x (by have := hw.lt hx; simp; omega) (hold10 o x hx)) (fr11.floor.trans f10) (by omega) (by omega) hnn _
      rcases mine.ow with ⟨rfl, hk0⟩ | ⟨o9, rfl, hk1, hk2, hk3⟩
      · simp [k30, nD, nR, putAt, N30, t9]
        refine (sort62n rfl).mono ?_
        rintro _ _ ⟨rfl, rfl⟩
        have hs0 : srtI (keys M) = [] := by rw [hk0]; exact List.length_eq_zero_iff.1 (srtB_len [])
        simp [t9]
        refine (behind _ w9 f9 n9 (by rw [g9]; exact gm) (.inl ⟨rfl, hs0⟩) (fun o x hx => by rw [g9]; exact hold4 o x hx) _ (by simp [t8, hs0])).mono ?_
        rintro c τ' H11 ⟨rfl, v13, ho, t13⟩
        simp at t13
        simp [t13]
        exact ho
      · have hcv : (keys M).flatMap i64c = (keys M).map (.int .i64 ·) := by
          rw [← List.flatMap_singleton' ((keys M).map _), List.flatMap_map]; rfl
        have hk2' : H9.get o9 = some (.cells ((keys M).map (.int .i64 ·))) := by rw [g9, ← hcv]; exact hk2
        have ho9 : Hs.next ≤ o9 := mine.new o9 rfl
        have hol9 : o9 < H9.next := w9.lt hk2'
        simp [k30, nD, nR, putAt, N30, t9]
        refine (sort62 rfl hk2' (by rw [f9]; omega) hk1 (by rw [keys_len]; omega)).mono ?_
        rintro _ _ ⟨rfl, rfl⟩
        have hsl2 : (srtI (keys M)).length = (keys M).length := srtB_len _
        have hi10 : Ints (H9.set o9 (.cells ((srtI (keys M)).map (.int .i64 ·)))) (.slc o9 0 (keys M).length 1 (keys M).length false) (srtI (keys M)) := by
          have hcs : (srtI (keys M)).flatMap i64c = (srtI (keys M)).map (.int .i64 ·) := by
            rw [← List.flatMap_singleton' ((srtI (keys M)).map _), List.flatMap_map]; rfl
          rw [← hsl2]
          refine Sw.slw i64c_len (.inr ⟨o9, 0, _, false, rfl, ?_⟩)
          unfold Heap.readSeg
          rw [cellsAt_get (get_setH.trans (if_pos rfl)), ← hcs]
          exact seg_all (flat_len i64c_len _)
        simp [t9]
        refine (behind _ (Wf.set w9 hol9) f9 n9 (by rw [get_setH, if_neg (by omega), g9]; exact gm) hi10 (fun o x hx => by rw [get_setH, if_neg (by have := hw.lt hx; omega), g9]; exact hold4 o x hx) _ (by simp [t8, hsl2])).mono ?_
        rintro c τ' H11 ⟨rfl, v13, ho, t13⟩
        simp at t13
        simp [t13]
        exact ho
  · have h1 : RR = [] := if_neg (fun q => z q.1)
    have h2 : ee = chkF n F := if_neg z
    simp [z, st]
    exact early H2 _ h1 h2 e02.floor (by show H2.next ≤ H1.next + 100 + 16 * E.length; omega) e02.keep
def K30 (args : List AV) (H : Heap) (v : AV) (H' : Heap) : Prop :=
  ∀ (n : Int) (vF : AV) (F : List (List Int)), args = [.int .i64 n, vF] → Gd H vF F → Fsz F → H.Wf → rimsR n F H' v ∧ Ext H H'
theorem gd_inj {v : AV} {F G : List (List Int)} (h : Gd H v F) (k : Gd H v G) : F = G := by
  have hl : F.length = G.length := by
    have h1 := h.len
    rw [k.len] at h1
    have := congrArg (fun x : Option AV => match x with | some (.int _ n) => n | _ => 0) h1
    simp at this
    omega
  apply List.ext_getElem hl
  intro i h1 h2
  obtain ⟨p, r, f, a1, a2, a3, a4⟩ := h.idx (k := .i64) (i := (i : Int)) (by omega) (by omega)
  obtain ⟨p', r', g, b1, b2, b3, b4⟩ := k.idx (k := .i64) (i := (i : Int)) (by omega) (by omega)
  rw [a2] at b2; cases b2
  rw [a3] at b3; cases b3
  rw [Int.toNat_natCast, List.getElem?_eq_getElem h1] at a1
  rw [Int.toNat_natCast, List.getElem?_eq_getElem h2] at b1
  cases a1; cases b1
  have hm : F[i].length = G[i].length := by
    have h1 := a4.len
    rw [b4.len] at h1
    have := congrArg (fun x : Option AV => match x with | some (.int _ n) => n | _ => 0) h1
    simp at this
    omega
  apply List.ext_getElem hm
  intro j h3 h4
  obtain ⟨p, x, c1, c2, c3⟩ := Ints.idx (a4.sl i64c_len) (k := .i64) (i := (j : Int)) (by omega) (by omega)
  obtain ⟨p', y, d1, d2, d3⟩ := Ints.idx (b4.sl i64c_len) (k := .i64) (i := (j : Int)) (by omega) (by omega)
  rw [c2] at d2; cases d2
  rw [c3] at d3; cases d3
  rw [Int.toNat_natCast, List.getElem?_eq_getElem h3] at c1
  rw [Int.toNat_natCast, List.getElem?_eq_getElem h4] at d1
  cases c1; exact (Option.some.inj d1).symm
theorem good30 {n : Int} {vF : AV} {F : List (List Int)} (hF : Gd H vF F) (hs : Fsz F) (hw : H.Wf) :
    ∃ v H', AI.Good Try.prog 30 [.int .i64 n, vF] H v H' ∧ K30 [.int .i64 n, vF] H v H' := by
  obtain ⟨v, H', h1, h2, h3, h4⟩ := rims_wp (n := n) hF hs hw
  refine ⟨v, H', good_ofM (FT := FS) (fun G => FS_ok) okN30 (by show 2 ≤ 99; omega) h2 h1, ?_⟩
  intro n' vF' F' ha hF' _ _
  simp only [List.cons.injEq, AV.int.injEq, and_true, true_and] at ha
  obtain ⟨rfl, rfl⟩ := ha
  have := gd_inj hF hF'
  subst this
  exact ⟨h3, h4⟩
end
end Go.Proofs.Ytcepchipgjpkhaa
