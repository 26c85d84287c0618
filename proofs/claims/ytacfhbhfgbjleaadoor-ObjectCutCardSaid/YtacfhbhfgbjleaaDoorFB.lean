/- A mesh under way, as the program reads it: a place. No claim by itself. -/
import Derived.Test.YtacfhbhfgbjleaaDoorC7
import Derived.Test.YtacfhbhfgbjleaaDoorFA
import Derived.Test.YtacfhbhfgbjleaaDoorEE
namespace Go.Proofs.YtacfhbhfgbjleaaDoor
open Go Go.AI
theorem er_zero (s : Int × Int) (p : Nat) : er s p 0 = s := by unfold er; rw [if_neg]; simp
theorem er_stick {s : Int × Int} (h : s.2 ≠ 0) (p : Nat) (q : Int) : er s p q = s := by unfold er; rw [if_neg]; exact fun k => h k.1
theorem er_new {s : Int × Int} (h : s.2 = 0) (p : Nat) {q : Int} (hq : q ≠ 0) : er s p q = ((p : Int), q) := by unfold er; rw [if_pos ⟨h, hq⟩]
theorem er_two {s : Int × Int} {p : Nat} {q r : Int} (h : q ≠ 0 → r = q) (k : q = 0 → True) (z : Int) (hz : q = 0 → r = z) : er (er s p q) p z = er s p r := by
  by_cases hq : q = 0
  · subst hq; rw [er_zero, hz rfl]
  · rw [h hq]
    by_cases hs : s.2 = 0
    · rw [er_new hs p hq, er_stick hq]
    · rw [er_stick hs, er_stick hs]
/-- What is wrong with a row's words, if nothing was before. -/
def erC (en : Nat) : List Wc → List Tok → Int × Int → Int × Int
  | [], _, s => s
  | c :: cs, ts, s => erC en cs ts.tail (er s (wordAt en ts).1 (c (wordAt en ts).2).2)
theorem erC_stick (en : Nat) : ∀ (cs : List Wc) (ts : List Tok) (s : Int × Int), s.2 ≠ 0 → erC en cs ts s = s
  | [], _, _, _ => rfl
  | c :: cs, ts, s, h => by unfold erC; rw [er_stick h]; exact erC_stick en cs _ s h
theorem erC_ok (en : Nat) : ∀ (cs : List Wc) (ts : List Tok) (s : Int × Int) (x : List Int × List Tok), rdC en cs ts = .ok x → erC en cs ts s = s
  | [], _, _, _, _ => rfl
  | c :: cs, ts, s, x, h => by
    unfold rdC at h
    split at h
    · rename_i h0
      cases hq : rdC en cs ts.tail with
      | error e => rw [hq] at h; cases h
      | ok p => unfold erC; rw [h0, er_zero]; exact erC_ok en cs _ s p hq
    · cases h
theorem erC_err (en : Nat) : ∀ (cs : List Wc) (ts : List Tok) (s : Int × Int) (e : Nat × Int), s.2 = 0 → rdC en cs ts = .error e → erC en cs ts s = ((e.1 : Int), e.2)
  | [], _, _, _, _, h => by simp [rdC] at h
  | c :: cs, ts, s, e, hs, h => by
    unfold rdC at h
    split at h
    · rename_i h0
      cases hq : rdC en cs ts.tail with
      | error e' => rw [hq] at h; cases h; unfold erC; rw [h0, er_zero]; exact erC_err en cs _ s _ hs hq
      | ok p => rw [hq] at h; cases h
    · rename_i h0
      cases h
      unfold erC; rw [er_new hs _ h0]; exact erC_stick en cs _ _ h0
theorem num_zero (s : List Nat) : (s = [48] ∧ numT s 0 = (0, 0)) ∨ (s ≠ [48] ∧ (numT s 0).2 ≠ 0) := by
  by_cases h : s = [48]
  · subst h; exact .inl ⟨rfl, by decide⟩
  · refine .inr ⟨h, ?_⟩
    unfold numT
    cases hw : wfN s with
    | false => simp
    | true =>
      have hw' := hw
      unfold wfN at hw
      simp only [Bool.and_eq_true, Bool.not_eq_true', decide_eq_false h, Bool.not_false, Bool.and_true] at hw
      obtain ⟨⟨a, b⟩, c⟩ := hw
      have hne : digsOf s ≠ [] := fun q => by rw [q] at a; simp at a
      have hh : (digsOf s).head? ≠ some 48 := by simpa using c
      obtain ⟨n, hn⟩ : ∃ n, (digsOf s).length = n + 1 := ⟨(digsOf s).length - 1, by have := List.length_pos_iff.2 hne; omega⟩
      have hge := digV_ge n (digsOf s) hn (List.all_eq_true.1 b) hh
      have hpos : 0 < digV (digsOf s) := Nat.lt_of_lt_of_le (Nat.pos_of_ne_zero (by simp)) hge
      rw [if_neg (by simp), if_pos (.inr (by omega))]
      simp
section
variable {FT : Nat → Option FnD} {H H0 H' : Heap}
theorem Rd.frS {S : List Nat} {o : Nat} {tw : Option Nat} {rest : List Tok} {en : Nat} {a e : Int} (h : Rd H o tw rest en a e) (k : Fr S H H') (h1 : o ∉ S) (h2 : ∀ p, tw = some p → p ∉ S) : Rd H' o tw rest en a e := by
  obtain ⟨q1, v, q2, q3, q4⟩ := h
  exact ⟨by rw [k.floor]; exact q1, v, k.keep _ _ h1 q2, q3.fr k (fun p hp => h2 p (q4 p hp).1), q4⟩
/-- A mesh that this run builds, its object om; the reader's is o. -/
structure MB (H0 H : Heap) (o om : Nat) (vP vF : AV) (P : List (Int × Int)) (W : Int) (F : List (List Int)) : Prop where
  fr : Fr [o, om] H0 H
  h0 : H0.Wf
  fl : H0.floor ≤ om
  o1 : o < H0.next
  o2 : om < H0.next
  ne : o ≠ om
  g : H.get om = some (.cells [vP, .int .i64 W, vF])
  mp : Mine 2 pairc H0 H vP P
  pf : ∀ p, rowObj vP = some p → rowObj vF ≠ some p
  ex : ∃ rs : List OneV, Mine 1 onec H0 H vF rs ∧ rs.length = F.length ∧ ∀ (i : Nat) (r : OneV) (f : List Int), rs[i]? = some r → F[i]? = some f → Rw 1 i64c H r.1 f ∧ ∀ p, rowObj r.1 = some p → H0.next ≤ p ∧ rowObj vP ≠ some p ∧ rowObj vF ≠ some p
variable {o om : Nat} {vP vF : AV} {P : List (Int × Int)} {W : Int} {F : List (List Int)}
theorem MB.wf (h : MB H0 H o om vP vF P W F) : H.Wf := h.fr.wf
theorem MB.mo (h : MB H0 H o om vP vF P W F) : Mo H vP vF P F := by
  obtain ⟨rs, a, b, c⟩ := h.ex
  exact ⟨h.mp.sl pairc_len, ⟨rs, a.ow.rw onec_len, b, fun i r f q1 q2 => (c i r f q1 q2).1⟩⟩
theorem MB.one (h : MB H0 H o om vP vF P W F) : allOne [vP, .int .i64 W, vF] = true := h.mo.one W
/-- Whatever leaves the mesh's own objects keeps it. -/
theorem MB.keep {S : List Nat} (h : MB H0 H o om vP vF P W F) (k : Fr S H H') (hs : ∀ p, p ∈ S → p = o ∨ H.next ≤ p) : MB H0 H' o om vP vF P W F := by
  obtain ⟨rs, a, b, c⟩ := h.ex
  have hw := h.wf
  have hnx := h.fr.next
  have ho1 := h.o1
  have ho2 := h.o2
  have out : ∀ p, p < H.next → p ≠ o → p ∉ S := fun p h1 h2 q => by
    rcases hs p q with r | r
    · exact h2 r
    · omega
  have hP : ∀ p, rowObj vP = some p → p ∉ S := fun p hp => out p (h.mp.lt hw hp) (by have := h.mp.new p hp; omega)
  have hF : ∀ p, rowObj vF = some p → p ∉ S := fun p hp => out p (a.lt hw hp) (by have := a.new p hp; omega)
  refine ⟨h.fr.trans h.h0 k (fun p hp => ?_), h.h0, h.fl, h.o1, h.o2, h.ne, k.keep _ _ (out om (by omega) (fun q => h.ne q.symm)) h.g, h.mp.fr k hP, h.pf, rs, a.fr k hF, b, fun i r f q1 q2 => ?_⟩
  · rcases hs p hp with q | q
    · exact .inl (by simp [q])
    · exact .inr (by omega)
  · obtain ⟨c1, c2⟩ := c i r f q1 q2
    exact ⟨c1.fr k (fun p hp => out p (c1.rowLt i64c_len hw hp) (by have := (c2 p hp).1; omega)), c2⟩
theorem MB.ext (h : MB H0 H o om vP vF P W F) (k : Ext H H') : MB H0 H' o om vP vF P W F := h.keep (S := []) k.fr (fun p q => by cases q)
theorem MB.extR (h : MB H0 H o om vP vF P W F) (k : ExtR o H H') : MB H0 H' o om vP vF P W F := h.keep k.fr (fun p q => .inl (by simpa using q))
/-- A cell of the mesh's object is written. -/
theorem MB.addP (h : MB H0 H o om vP vF P W F) (x : Int × Int) (W' : Int) (hl : P.length ≤ 1000000000) :
    ∃ v' H1 H2 H3, appendA 2 16 (H.push (.cells (pairc x))) vP (.slc H.next 0 1 2 1 true) = some (v', H1) ∧ storeA H1 1 (.ptr om 0) v' = some (undefA, H2) ∧ storeA H2 1 (.ptr om 1) (.int .i64 W') = some (undefA, H3) ∧
      MB H0 H3 o om v' vF (P ++ [x]) W' F ∧ Fr (om :: (rowObj vP).toList) H H3 := by
  obtain ⟨rs, a, b, c⟩ := h.ex
  have hw := h.wf
  have hnx := h.fr.next
  have ho2 := h.o2
  have ho1 := h.o1
  obtain ⟨v', H1, k1, k2, k3, k4⟩ := h.mp.app1 (bytes := 16) pairc_len (by omega) pairc_one hw hnx x (by omega)
  have out : ∀ p, (∀ q, rowObj vP = some q → p ≠ q) → p ∉ (rowObj vP).toList := fun p hp q => by
    cases hr : rowObj vP with
    | none => rw [hr] at q; simp at q
    | some z => rw [hr] at q; simp at q; exact hp z hr q
  have hom : om ∉ (rowObj vP).toList := out om fun q hq => by have := h.mp.new q hq; omega
  have g1 := k3.keep _ _ hom h.g
  have f1 : H1.floor ≤ om := by rw [k3.floor, h.fr.floor]; exact h.fl
  have v1 : v'.one = true := ((k2.sl pairc_len).one).1
  obtain ⟨H2, s1, s2, s3⟩ := store_cell (o := om) (off := 0) (x := v') k3.wf f1 g1 (by simp) v1
  simp only [List.set_cons_zero] at s2
  obtain ⟨H3, u1, u2, u3⟩ := store_cell (o := om) (off := 1) (x := .int .i64 W') s3.wf (by rw [s3.floor]; exact f1) s2 (by simp) rfl
  simp only [List.set_cons_succ, List.set_cons_zero] at u2
  have om_ne : ∀ p, H0.next ≤ p → p ∉ [om] := fun p hp q => by simp at q; omega
  have hF1 : ∀ p, rowObj vF = some p → p ∉ (rowObj vP).toList := fun p hp => out p fun q hq e => h.pf q hq (by rw [← e]; exact hp)
  have a3 : Mine 1 onec H0 H3 vF rs := ((a.fr k3 hF1).fr s3 (fun p hp => om_ne p (a.new p hp))).fr u3 (fun p hp => om_ne p (a.new p hp))
  have p3 : Mine 2 pairc H0 H3 v' (P ++ [x]) := (k2.fr s3 (fun p hp => om_ne p (k2.new p hp))).fr u3 (fun p hp => om_ne p (k2.new p hp))
  have fr1 : Fr (om :: (rowObj vP).toList) H H3 := by
    refine ((k3.mono (T := om :: (rowObj vP).toList) (fun p hp => List.mem_cons_of_mem _ hp)).trans hw s3 (fun p hp => .inl (by simp at hp; simp [hp]))).trans hw u3 (fun p hp => .inl (by simp at hp; simp [hp]))
  refine ⟨v', H1, H2, H3, k1, s1, u1, ⟨h.fr.trans h.h0 fr1 (fun p hp => ?_), h.h0, h.fl, h.o1, h.o2, h.ne, u2, p3, fun p hp => ?_, rs, a3, b, fun i r f q1 q2 => ?_⟩, fr1⟩
  · rcases List.mem_cons.1 hp with q | q
    · exact .inl (by simp [q])
    · cases hr : rowObj vP with
      | none => rw [hr] at q; simp at q
      | some z => rw [hr] at q; simp at q; subst q; exact .inr (h.mp.new p hr)
  · rcases k4 p hp with q | q
    · exact h.pf p q
    · exact fun e => by have := a.lt hw e; omega
  · obtain ⟨c1, c2⟩ := c i r f q1 q2
    have hr : ∀ p, rowObj r.1 = some p → p ∉ om :: (rowObj vP).toList := fun p hp q => by
      obtain ⟨e1, e2, _⟩ := c2 p hp
      rcases List.mem_cons.1 q with q | q
      · omega
      · exact out p (fun z hz e => e2 (by rw [e]; exact hz)) q
    refine ⟨c1.fr fr1 hr, fun p hp => ⟨(c2 p hp).1, fun e => ?_, (c2 p hp).2.2⟩⟩
    rcases k4 p e with q | q
    · exact (c2 p hp).2.1 q
    · have := c1.rowLt i64c_len hw hp; omega
abbrev H45 (FT : Nat → Option FnD) : Prop := FT 45 = some (.code A45) ∧ FT 28 = some (.code A28) ∧ FT 47 = some (.code A47) ∧ FT 31 = some (.code A31) ∧ FT 46 = some (.code A46)
def plW (P : List (Int × Int)) (W : Int) : List Wc := [coordW, coordW, zeroW, denW P W]
structure Pl2 (H0 H : Heap) (o om : Nat) (tw : Option Nat) (en : Nat) (rest : List Tok) (s : Int × Int) (P : List (Int × Int)) (W : Int) (F : List (List Int)) : Prop where
  ex : ∃ vP vF, MB H0 H o om vP vF P W F
  rd : Rd H o tw rest en s.1 s.2
theorem den_er (s : Int × Int) (p : Nat) (P : List (Int × Int)) (W : Int) (w : List Nat) :
    er (er s p (numR w 1 1048576).2) p (if P ≠ [] ∧ valN w 1 1048576 ≠ W then 11 else 0) = er s p (denW P W w).2 := by
  apply er_two
  · intro h
    unfold denW; rw [if_neg (fun q => h q.1)]
  · exact fun _ => trivial
  · intro h
    have hv : valN w 1 1048576 = (numR w 1 1048576).1 := by unfold valN; rw [if_pos h]
    unfold denW
    rw [hv]
    by_cases q : P ≠ [] ∧ (numR w 1 1048576).1 ≠ W
    · rw [if_pos ⟨h, q⟩, if_pos q]
    · rw [if_neg (fun k => q k.2), if_neg q, h]
/-- The values that a place's words come to. -/
def plX (en : Nat) (ts : List Tok) : (Int × Int) × Int := ((valN (wordAt en ts).2 (-4294967296) 4294967296, valN (wordAt en ts.tail).2 (-4294967296) 4294967296), valN (wordAt en ts.tail.tail.tail).2 1 1048576)
theorem wordAt_head (en : Nat) (rest : List Tok) : wordAt en rest = rest.head?.getD (en, []) := rfl
def r29b : ACode := subAt [1,1,1] A29.body
def r29c : ACode := subAt [1,1,1,1,1,1,1] A29.body
theorem body29 : A29.body = putAt [1,1,1] A29.body r29b := rfl
theorem body29b : r29b = putAt [1,1,1,1] r29b r29c := rfl
theorem place29c {tw : Option Nat} {en : Nat} {rest : List Tok} {s : Int × Int} (mb : MB H0 H o om vP vF P W F) (rd : Rd H o tw rest en s.1 s.2) (htw : ∀ p, tw = some p → p < H0.next ∧ p ≠ om) (hl : P.length ≤ 1000000000) {pt : Nat} {x : Int × Int} {w : Int} (gp : H.get pt = some (.cells (pairc x))) {τ : Env} (u1 : Env.at τ 1 = .ptr om 0) (u4 : Env.at τ 4 = .ptr pt 0) (u9 : Env.at τ 9 = .int .i64 w) :
    Wp FT r29c τ H (finQ [] fun _ H' => Pl2 H0 H' o om tw en rest s (P ++ [x]) w F) := by
  have l0 : loadA H none (.ptr om 0) = some vP := load_get mb.g rfl
  have lx : loadA H (some 2) (.ptr pt 0) = some (.agg [.int .i64 x.1, .int .i64 x.2]) := load_agg gp (by simp [seg, pairc])
  obtain ⟨v', H1, H2, H3, k1, k2, k3, mb3, fr3⟩ := mb.addP x w hl
  have k1' : appendA 2 16 (H.push (.cells [.int .i64 x.1, .int .i64 x.2])) vP (.slc H.next 0 1 2 1 true) = some (v', H1) := k1
  simp [r29c, subAt, A29, u1, u4, u9, l0, lx, k1', k2, k3]
  refine ⟨⟨v', vF, mb3⟩, rd.frS fr3 (fun q => ?_) (fun p hp q => ?_)⟩
  · rcases List.mem_cons.1 q with r | r
    · exact mb.ne r
    · cases hr : rowObj vP with
      | none => rw [hr] at r; simp at r
      | some z => rw [hr] at r; simp at r; subst r; have := mb.mp.new o hr; have := mb.o1; omega
  · obtain ⟨h1, h2⟩ := htw p hp
    rcases List.mem_cons.1 q with r | r
    · exact h2 r
    · cases hr : rowObj vP with
      | none => rw [hr] at r; simp at r
      | some z => rw [hr] at r; simp at r; subst r; have := mb.mp.new p hr; omega
theorem place29b (hh : H45 FT) {tw : Option Nat} {en : Nat} {rest : List Tok} {s : Int × Int} (mb : MB H0 H o om vP vF P W F) (rd : Rd H o tw rest en s.1 s.2) (hb : Byt rest) (htw : ∀ p, tw = some p → p < H0.next ∧ p ≠ om) (hl : P.length ≤ 1000000000) {pt : Nat} {x : Int × Int} (hpt : pt ≠ o) (gp : H.get pt = some (.cells (pairc x))) {τ : Env} (u0 : Env.at τ 0 = .ptr o 0) (u1 : Env.at τ 1 = .ptr om 0) (u4 : Env.at τ 4 = .ptr pt 0) :
    Wp FT r29b τ H (finQ [] fun _ H' => Pl2 H0 H' o om tw en rest.tail.tail (er s (wordAt en rest.tail).1 (denW P W (wordAt en rest.tail).2).2) (P ++ [x]) (valN (wordAt en rest.tail).2 1 1048576) F) := by
  obtain ⟨h45, h28, h47, h31, h46⟩ := hh
  rw [body29b]
  generalize hrc : r29c = rc
  simp [r29b, subAt, putAt, A29, u0]
  refine (next28 h28 mb.wf rd).mono ?_
  rintro _ H1 ⟨_, rd1, x1⟩
  have mb1 := mb.extR x1
  have gp1 := x1.keep _ _ hpt gp
  simp [u0]
  refine (peek46 h46 mb1.wf rd1).mono ?_
  rintro _ H2 ⟨rfl, e2⟩
  have mb2 := mb1.ext e2
  have rd2 := rd1.ext e2
  generalize hT : wordAt en rest.tail = t
  obtain ⟨H3, st3, g3, e3, n3⟩ := store_new mb2.wf (z := [.int .i64 0, .str []]) (n := 2) (x := .agg (tokA t)) (cs := tokA t) rfl rfl rfl rfl
  have mb3 := mb2.ext e3
  have rd3 := rd2.ext e3
  simp [st3, u0]
  refine (number45 h45 h28 h47 h31 mb3.wf (lo := 1) (hi := 1048576) rd3 hb.tail (by omega) (by omega)).mono ?_
  rintro _ H4 ⟨rfl, rd4, x4⟩
  have mb4 := mb3.extR x4
  rw [hT] at rd4
  have hno : H2.next ≠ o := fun q => by
    have := mb2.fr.next; have := mb2.o1; omega
  have g4 := x4.keep _ _ hno g3
  have gp4 := x4.keep _ _ hpt (e3.keep _ _ (e2.keep _ _ gp1))
  have l0 : loadA H4 none (.ptr om 0) = some vP := load_get mb4.g rfl
  have l1 : loadA H4 none (.ptr om 1) = some (.int .i64 W) := load_get mb4.g rfl
  have lt : loadA H4 (some 2) (.ptr H2.next 0) = some (.agg (tokA t)) := load_agg g4 (by simp [seg, tokA])
  have hde := den_er s t.1 P W t.2
  rw [hT]
  generalize valN t.2 1 1048576 = w at *
  have hlp := mb4.mo.p.len
  by_cases c0 : P = []
  · rw [if_neg (fun q => q.1 c0), er_zero] at hde
    rw [← hde]
    subst c0
    have hlp0 : lenA vP = some (.int .i64 0) := by simpa using hlp
    simp [u1, l0, hlp0]
    rw [← hrc]
    exact place29c mb4 rd4 htw hl gp4 (by simp [u1]) (by simp [u4]) (by simp)
  · have hpos : 0 < P.length := List.length_pos_iff.2 c0
    by_cases c1 : w = W
    · rw [if_neg (fun q => q.2 c1), er_zero] at hde
      rw [← hde]
      simp [u1, l0, l1, hlp, hpos, c1]
      rw [← hrc]
      exact place29c mb4 rd4 htw hl gp4 (by simp [u1]) (by simp [u4]) (by simp)
    · rw [if_pos ⟨c0, c1⟩] at hde
      rw [← hde]
      have c1' : (w != W) = true := by simpa using c1
      simp [u0, u1, l0, l1, hlp, hpos, c1', lt]
      refine (wrong31 h31 mb4.wf rd4 (t := t) (q := 11) (by omega)).mono ?_
      rintro _ H5 ⟨rd5, x5⟩
      have mb5 := mb4.extR x5
      have gp5 := x5.keep _ _ hpt gp4
      simp
      rw [← hrc]
      exact place29c mb5 rd5 htw hl gp5 (by simp [u1]) (by simp [u4]) (by simp)
theorem place29 (h29 : FT 29 = some (.code A29)) (hh : H45 FT) {tw : Option Nat} {en : Nat} {rest : List Tok} {s : Int × Int} (mb : MB H0 H o om vP vF P W F) (rd : Rd H o tw rest en s.1 s.2) (hb : Byt rest) (htw : ∀ p, tw = some p → p < H0.next ∧ p ≠ om) (hl : P.length ≤ 1000000000) :
    Cp FT 29 [.ptr o 0, .ptr om 0] H (fun _ H' => Pl2 H0 H' o om tw en (rest.drop 4) (erC en (plW P W) rest s) (P ++ [(plX en rest).1]) (plX en rest).2 F) := by
  have hh' := hh
  obtain ⟨h45, h28, h47, h31, h46⟩ := hh
  refine Cp_code A29 h29 rfl ?_
  have hA : A29.results = [] := rfl
  rw [hA, body29]
  generalize hrb : r29b = rb
  have hd4 : rest.drop 4 = rest.tail.tail.tail.tail := by simp [← List.drop_one]
  simp [A29, putAt]
  refine (number45 h45 h28 h47 h31 mb.wf (lo := -4294967296) (hi := 4294967296) rd hb (by omega) (by omega)).mono ?_
  rintro _ H1 ⟨rfl, rd1, x1⟩
  have mb1 := mb.extR x1
  simp
  refine (number45 h45 h28 h47 h31 mb1.wf (lo := -4294967296) (hi := 4294967296) rd1 hb.tail (by omega) (by omega)).mono ?_
  rintro _ H2 ⟨rfl, rd2, x2⟩
  have mb2 := mb1.extR x2
  have hfin : erC en (plW P W) rest s = er (er (er (er (s.1, s.2) (wordAt en rest).1 (numR (wordAt en rest).2 (-4294967296) 4294967296).2) (wordAt en rest.tail).1 (numR (wordAt en rest.tail).2 (-4294967296) 4294967296).2) (wordAt en rest.tail.tail).1 (zeroW (wordAt en rest.tail.tail).2).2) (wordAt en rest.tail.tail.tail).1 (denW P W (wordAt en rest.tail.tail.tail).2).2 := rfl
  rw [hd4, hfin]
  generalize hx : (plX en rest).1 = xy
  have hx' : xy = (valN (wordAt en rest).2 (-4294967296) 4294967296, valN (wordAt en rest.tail).2 (-4294967296) 4294967296) := hx.symm
  have hx1 : valN (wordAt en rest).2 (-4294967296) 4294967296 = xy.1 := by rw [hx']
  have hx2 : valN (wordAt en rest.tail).2 (-4294967296) 4294967296 = xy.2 := by rw [hx']
  have hw2 : (plX en rest).2 = valN (wordAt en rest.tail.tail.tail).2 1 1048576 := rfl
  rw [hw2]
  clear hx hx'
  rw [hx1, hx2]
  obtain ⟨H3, st3, g3, e3, n3⟩ := store_new mb2.wf (z := [.int .i64 0, .int .i64 0]) (n := 2) (x := .agg [.int .i64 xy.1, .int .i64 xy.2]) (cs := [.int .i64 xy.1, .int .i64 xy.2]) rfl rfl rfl rfl
  have mb3 := mb2.ext e3
  have rd3 := rd2.ext e3
  have hbt := hb.tail.tail
  generalize hs2 : er (er (s.1, s.2) (wordAt en rest).1 (numR (wordAt en rest).2 (-4294967296) 4294967296).2) (wordAt en rest.tail).1 (numR (wordAt en rest.tail).2 (-4294967296) 4294967296).2 = s2 at *
  generalize rest.tail.tail = ts at *
  have hpt : H2.next ≠ o := fun q => by
    have := mb2.fr.next; have := mb2.o1; omega
  simp [st3]
  refine (peek46 h46 mb3.wf rd3).mono ?_
  rintro _ H4 ⟨rfl, e4⟩
  have mb4 := mb3.ext e4
  have rd4 := rd3.ext e4
  have gp4 : H4.get H2.next = some (.cells (pairc xy)) := e4.keep _ _ g3
  have hbh := hbt.head (en := en)
  rw [← wordAt_head] at hbh
  generalize hT : wordAt en ts = t at *
  obtain ⟨H5, st5, g5, e5, n5⟩ := store_new mb4.wf (z := [.int .i64 0, .str []]) (n := 2) (x := .agg (tokA t)) (cs := tokA t) rfl rfl rfl rfl
  have mb5 := mb4.ext e5
  have rd5 := rd4.ext e5
  have lt1 : loadA H5 none (.ptr H4.next 1) = some (.str t.2) := load_get g5 rfl
  simp [st5, lt1]
  refine (number47 h47 mb5.wf hbh.1 hbh.2 (most := 0) (by omega) (by omega)).mono ?_
  rintro _ H6 ⟨rfl, e6⟩
  have mb6 := mb5.ext e6
  have rd6 := rd5.ext e6
  have gp6 := e6.keep _ _ (e5.keep _ _ gp4)
  have lt2 : loadA H6 (some 2) (.ptr H4.next 0) = some (.agg (tokA t)) := load_agg (e6.keep _ _ g5) (by simp [seg, tokA])
  rcases num_zero t.2 with ⟨hz, hn⟩ | ⟨hz, hn⟩
  · have hzw : (zeroW t.2).2 = 0 := by unfold zeroW; rw [if_pos hz]
    rw [hzw, er_zero]
    simp [hn]
    rw [← hrb]
    exact place29b hh' mb6 rd6 hbt htw hl hpt gp6 (by simp) (by simp) (by simp)
  · have hzw : (zeroW t.2).2 = 11 := by unfold zeroW; rw [if_neg hz]
    rw [hzw]
    generalize numT t.2 0 = q at hn
    obtain ⟨qv, qe⟩ := q
    have hqe : ¬ qe = 0 := hn
    have hqe' : (qe != 0) = true := by simpa using hqe
    by_cases cv : qv = 0
    · subst cv
      simp [hqe', lt2]
      refine (wrong31 h31 mb6.wf rd6 (t := t) (q := 11) (by omega)).mono ?_
      rintro _ H7 ⟨rd7, x7⟩
      simp
      rw [← hrb]
      exact place29b hh' (mb6.extR x7) rd7 hbt htw hl hpt (x7.keep _ _ hpt gp6) (by simp) (by simp) (by simp)
    · have cv' : (qv != 0) = true := by simpa using cv
      simp [cv', lt2]
      refine (wrong31 h31 mb6.wf rd6 (t := t) (q := 11) (by omega)).mono ?_
      rintro _ H7 ⟨rd7, x7⟩
      simp
      rw [← hrb]
      exact place29b hh' (mb6.extR x7) rd7 hbt htw hl hpt (x7.keep _ _ hpt gp6) (by simp) (by simp) (by simp)
end
end Go.Proofs.YtacfhbhfgbjleaaDoor

/- A mesh under way, as the program reads it: a face. No claim by itself. -/
namespace Go.Proofs.YtacfhbhfgbjleaaDoor
open Go Go.AI
theorem erC_snoc (en : Nat) : ∀ (cs : List Wc) (c : Wc) (ts : List Tok) (s : Int × Int), erC en (cs ++ [c]) ts s = er (erC en cs ts s) (wordAt en (ts.drop cs.length)).1 (c (wordAt en (ts.drop cs.length)).2).2
  | [], c, ts, s => rfl
  | d :: cs, c, ts, s => by
    simp only [List.cons_append, erC, List.length_cons]
    rw [erC_snoc en cs c ts.tail, List.drop_tail]
theorem num_idx (s : List Nat) (n : Nat) : ((numT s n).2 = 11 ↔ (idxW n s).2 = 11) := by
  unfold idxW numT numR
  cases hw : wfN s with
  | false => simp
  | true =>
    simp only [Bool.true_eq_false, if_false]
    constructor
    · intro h; split at h <;> simp at h
    · intro h; split at h <;> simp at h
section
variable {FT : Nat → Option FnD} {H H0 H' : Heap} {o om : Nat} {vP vF : AV} {P : List (Int × Int)} {W : Int} {F : List (List Int)}
theorem MB.addF (h : MB H0 H o om vP vF P W F) {r : AV} {f : List Int} (hr : Rw 1 i64c H r f) (hn : ∀ p, rowObj r = some p → H0.next ≤ p ∧ rowObj vP ≠ some p ∧ rowObj vF ≠ some p) (hl : F.length ≤ 1000000000) :
    ∃ v' H1 H2, appendA 1 24 (H.push (.cells [r])) vF (.slc H.next 0 1 1 1 true) = some (v', H1) ∧ storeA H1 1 (.ptr om 2) v' = some (undefA, H2) ∧
      MB H0 H2 o om vP v' P W (F ++ [f]) ∧ Fr (om :: (rowObj vF).toList) H H2 := by
  obtain ⟨rs, a, b, c⟩ := h.ex
  have hw := h.wf
  have hnx := h.fr.next
  have ho2 := h.o2
  have ho1 := h.o1
  obtain ⟨v', H1, k1, k2, k3, k4⟩ := a.app1 (bytes := 24) onec_len (by omega) onec_one hw hnx (⟨r, hr.one.1⟩ : OneV) (by omega)
  have out : ∀ p, (∀ q, rowObj vF = some q → p ≠ q) → p ∉ (rowObj vF).toList := fun p hp q => by
    cases hq : rowObj vF with
    | none => rw [hq] at q; simp at q
    | some z => rw [hq] at q; simp at q; exact hp z hq q
  have hom : om ∉ (rowObj vF).toList := out om fun q hq => by have := a.new q hq; omega
  have g1 := k3.keep _ _ hom h.g
  have f1 : H1.floor ≤ om := by rw [k3.floor, h.fr.floor]; exact h.fl
  have v1 : v'.one = true := ((k2.sl onec_len).one).1
  obtain ⟨H2, s1, s2, s3⟩ := store_cell (o := om) (off := 2) (x := v') k3.wf f1 g1 (by simp) v1
  simp only [List.set_cons_succ, List.set_cons_zero] at s2
  have om_ne : ∀ p, H0.next ≤ p → p ∉ [om] := fun p hp q => by simp at q; omega
  have hP1 : ∀ p, rowObj vP = some p → p ∉ (rowObj vF).toList := fun p hp => out p fun q hq e => h.pf p hp (by rw [e]; exact hq)
  have p2 : Mine 2 pairc H0 H2 vP P := (h.mp.fr k3 hP1).fr s3 (fun p hp => om_ne p (h.mp.new p hp))
  have a2 : Mine 1 onec H0 H2 v' (rs ++ [⟨r, hr.one.1⟩]) := k2.fr s3 (fun p hp => om_ne p (k2.new p hp))
  have fr1 : Fr (om :: (rowObj vF).toList) H H2 :=
    (k3.mono (T := om :: (rowObj vF).toList) (fun p hp => List.mem_cons_of_mem _ hp)).trans hw s3 (fun p hp => .inl (by simp at hp; simp [hp]))
  have rowOk' : ∀ (r' : AV) (f' : List Int), Rw 1 i64c H r' f' → (∀ p, rowObj r' = some p → H0.next ≤ p ∧ rowObj vP ≠ some p ∧ rowObj vF ≠ some p) → Rw 1 i64c H2 r' f' ∧ ∀ p, rowObj r' = some p → H0.next ≤ p ∧ rowObj vP ≠ some p ∧ rowObj v' ≠ some p := by
    intro r' f' c1 c2
    have hr' : ∀ p, rowObj r' = some p → p ∉ om :: (rowObj vF).toList := fun p hp q => by
      obtain ⟨e1, _, e2⟩ := c2 p hp
      rcases List.mem_cons.1 q with q | q
      · omega
      · exact out p (fun z hz e => e2 (by rw [e]; exact hz)) q
    refine ⟨c1.fr fr1 hr', fun p hp => ⟨(c2 p hp).1, (c2 p hp).2.1, fun e => ?_⟩⟩
    rcases k4 p e with q | q
    · exact (c2 p hp).2.2 q
    · have := c1.rowLt i64c_len hw hp; omega
  refine ⟨v', H1, H2, k1, s1, ⟨h.fr.trans h.h0 fr1 (fun p hp => ?_), h.h0, h.fl, h.o1, h.o2, h.ne, s2, p2, fun p hp e => ?_, rs ++ [⟨r, hr.one.1⟩], a2, by simp [b], fun i x f' q1 q2 => ?_⟩, fr1⟩
  · rcases List.mem_cons.1 hp with q | q
    · exact .inl (by simp [q])
    · cases hq : rowObj vF with
      | none => rw [hq] at q; simp at q
      | some z => rw [hq] at q; simp at q; subst q; exact .inr (a.new p hq)
  · rcases k4 p e with q | q
    · exact h.pf p hp q
    · have := h.mp.lt hw hp; omega
  · by_cases hi : i < rs.length
    · rw [List.getElem?_append_left hi] at q1
      rw [List.getElem?_append_left (by omega)] at q2
      obtain ⟨c1, c2⟩ := c i x f' q1 q2
      exact rowOk' x.1 f' c1 c2
    · have hi2 : i = rs.length := by
        have := (List.getElem?_eq_some_iff.1 q1).1; simp at this; omega
      subst hi2
      rw [List.getElem?_append_right (Nat.le_refl _)] at q1
      rw [b, List.getElem?_append_right (Nat.le_refl _)] at q2
      simp at q1 q2
      subst q1 q2
      exact rowOk' r f hr hn
/-- The state behind j numbers of a face. -/
def fcS (en n : Nat) (rest : List Tok) (s : Int × Int) (j : Nat) : Int × Int := erC en (List.replicate j (idxW n)) rest s
def fcV (en n : Nat) (rest : List Tok) (j : Nat) : Int := valN (wordAt en (rest.drop j)).2 1 n - 1
def fcX (en n : Nat) (rest : List Tok) (j : Nat) : List Int := (List.range j).map (fcV en n rest)
theorem fcS_succ (en n : Nat) (rest : List Tok) (s : Int × Int) (j : Nat) : fcS en n rest s (j + 1) = er (fcS en n rest s j) (wordAt en (rest.drop j)).1 (idxW n (wordAt en (rest.drop j)).2).2 := by
  unfold fcS
  rw [List.replicate_succ', erC_snoc, List.length_replicate]
theorem fcX_succ (en n : Nat) (rest : List Tok) (j : Nat) : fcX en n rest (j + 1) = fcX en n rest j ++ [fcV en n rest j] := by
  unfold fcX; rw [List.range_succ]; simp
theorem Byt.drop {rest : List Tok} (h : Byt rest) (j : Nat) : Byt (rest.drop j) := fun t ht => h t (List.mem_of_mem_drop ht)
theorem valN_bd (w : List Nat) (n : Nat) (hn : n ≤ 1000000000) : 0 ≤ valN w 1 n ∧ valN w 1 n ≤ 1000000000 := by
  unfold valN
  split
  · rename_i h
    unfold numR at h ⊢
    split
    · simp
    · split
      · rename_i h2; simp only; omega
      · simp
  · omega
structure Fc (H1 H' : Heap) (o om : Nat) (tw : Option Nat) (en n : Nat) (rest : List Tok) (s : Int × Int) (v : AV) (τ : Env) (j m : Nat) : Prop where
  fr : Fr [o] H1 H'
  rd : Rd H' o tw (rest.drop j) en (fcS en n rest s j).1 (fcS en n rest s j).2
  fl : Mine 1 i64c H1 H' v (fcX en n rest j)
  le : j ≤ 3
  hm : m = 3 - j
  t0 : Env.at τ 0 = .ptr o 0
  t1 : Env.at τ 1 = .ptr om 0
  t4 : Env.at τ 4 = v
  t7 : Env.at τ 7 = .int .i64 j
structure Fa2 (H0 H : Heap) (o om : Nat) (tw : Option Nat) (en : Nat) (rest : List Tok) (s : Int × Int) (P : List (Int × Int)) (W : Int) (F : List (List Int)) : Prop where
  sh : (idxW P.length (wordAt en (rest.drop 3)).2).2 = 11 → Pl2 H0 H o om tw en (rest.drop 3) (fcS en P.length rest s 3) P W (F ++ [fcX en P.length rest 3])
  lo : (idxW P.length (wordAt en (rest.drop 3)).2).2 ≠ 11 → Pl2 H0 H o om tw en (rest.drop 4) (fcS en P.length rest s 4) P W (F ++ [fcX en P.length rest 4])
def r30 : ACode := subAt [1,1,1] A30.body
theorem body30 : A30.body = putAt [1,1,1] A30.body r30 := rfl
theorem face30c {tw : Option Nat} {en : Nat} {rest' : List Tok} {s' : Int × Int} (mb : MB H0 H o om vP vF P W F) (rd : Rd H o tw rest' en s'.1 s'.2) (htw : ∀ p, tw = some p → p < H0.next ∧ p ≠ om) (hl : F.length ≤ 1000000000) {v : AV} {f : List Int} (hr : Rw 1 i64c H v f) (hn : ∀ p, rowObj v = some p → H0.next ≤ p ∧ rowObj vP ≠ some p ∧ rowObj vF ≠ some p) {τ : Env} (u1 : Env.at τ 1 = .ptr om 0) (u4 : Env.at τ 4 = v) :
    Wp FT r30 τ H (finQ [] fun _ H' => Pl2 H0 H' o om tw en rest' s' P W (F ++ [f])) := by
  have l0 : loadA H none (.ptr om 2) = some vF := load_get mb.g rfl
  obtain ⟨v', H1, H2, k1, k2, mb2, fr2⟩ := mb.addF hr hn hl
  have hv := hr.one
  have hf : ∀ (e : Opd → AV) (r : List (Nat × Nat × Opd)), fillV e [.nils] 0 1 v r = fillA e [v] r := fun e r => by
    simp [fillV, hv.2, allOne_of hv.1]
  simp [r30, subAt, A30, u1, u4, l0, hf, k1, k2]
  refine ⟨⟨vP, v', mb2⟩, rd.frS fr2 (fun q => ?_) (fun p hp q => ?_)⟩
  · rcases List.mem_cons.1 q with r | r
    · exact mb.ne r
    · obtain ⟨rs, a, _, _⟩ := mb.ex
      cases hr : rowObj vF with
      | none => rw [hr] at r; simp at r
      | some z => rw [hr] at r; simp at r; subst r; have := a.new o hr; have := mb.o1; omega
  · obtain ⟨h1, h2⟩ := htw p hp
    rcases List.mem_cons.1 q with r | r
    · exact h2 r
    · obtain ⟨rs, a, _, _⟩ := mb.ex
      cases hr : rowObj vF with
      | none => rw [hr] at r; simp at r
      | some z => rw [hr] at r; simp at r; subst r; have := a.new p hr; omega
theorem face30 (h30 : FT 30 = some (.code A30)) (hh : H45 FT) {tw : Option Nat} {en : Nat} {rest : List Tok} {s : Int × Int} (mb : MB H0 H o om vP vF P W F) (rd : Rd H o tw rest en s.1 s.2) (hb : Byt rest) (htw : ∀ p, tw = some p → p < H0.next ∧ p ≠ om) (hp : P.length ≤ 1000000000) (hl : F.length ≤ 1000000000) :
    Cp FT 30 [.ptr o 0, .ptr om 0] H (fun _ H' => Fa2 H0 H' o om tw en rest s P W F) := by
  obtain ⟨h45, h28, h47, h31, h46⟩ := hh
  refine Cp_code A30 h30 rfl ?_
  have hA : A30.results = [] := rfl
  rw [hA, body30]
  generalize hrc : r30 = rc
  have hw := mb.wf
  have ho1 := mb.o1
  have ho2 := mb.o2
  have hnx := mb.fr.next
  -- one number more
  have more : ∀ {H' : Heap} {v : AV} {j : Nat}, Fr [o] H H' → Rd H' o tw (rest.drop j) en (fcS en P.length rest s j).1 (fcS en P.length rest s j).2 → Mine 1 i64c H H' v (fcX en P.length rest j) → j ≤ 3 → ∀ {K : AV → Heap → Prop},
      (∀ H2, Fr [o] H H2 → Rd H2 o tw (rest.drop (j + 1)) en (fcS en P.length rest s (j + 1)).1 (fcS en P.length rest s (j + 1)).2 → (∃ v' H3, appendA 1 8 (H2.push (.cells [.int .i64 (fcV en P.length rest j)])) v (.slc H2.next 0 1 1 1 true) = some (v', H3) ∧ Fr [o] H H3 ∧ Rd H3 o tw (rest.drop (j + 1)) en (fcS en P.length rest s (j + 1)).1 (fcS en P.length rest s (j + 1)).2 ∧ Mine 1 i64c H H3 v' (fcX en P.length rest (j + 1))) → K (.int .i64 (fcV en P.length rest j + 1)) H2) →
      Cp FT 45 [.ptr o 0, .int .i64 1, .int .i64 (P.length : Int)] H' K := by
    intro H' v j fr rd fl hj K k
    refine (number45 h45 h28 h47 h31 fr.wf (lo := 1) (hi := (P.length : Int)) rd (hb.drop j) (by omega) (by omega)).mono ?_
    rintro _ H2 ⟨rfl, rd2, x2⟩
    have e1 : (rest.drop j).tail = rest.drop (j + 1) := by rw [List.tail_drop]
    rw [e1] at rd2
    have e2 : er ((fcS en P.length rest s j).1, (fcS en P.length rest s j).2) (wordAt en (rest.drop j)).1 (numR (wordAt en (rest.drop j)).2 1 (P.length : Int)).2 = fcS en P.length rest s (j + 1) := (fcS_succ en P.length rest s j).symm
    rw [e2] at rd2
    have hv : valN (wordAt en (rest.drop j)).2 1 (P.length : Int) = fcV en P.length rest j + 1 := by unfold fcV; omega
    rw [hv]
    have fr2 : Fr [o] H H2 := fr.trans hw x2.fr (fun p q => .inl q)
    have fl2 := fl.fr x2.fr (fun p q r => by simp at r; have := fl.new p q; omega)
    refine k H2 fr2 rd2 ?_
    obtain ⟨v', H3, a1, a2, a3, a4⟩ := fl2.app1 (bytes := 8) i64c_len (by omega) i64c_one fr2.wf fr2.next (fcV en P.length rest j) (by simp [fcX]; omega)
    have ns : ∀ p, p < H.next → p ∉ (rowObj v).toList := fun p hp q => by
      cases hr : rowObj v with
      | none => rw [hr] at q; simp at q
      | some z => rw [hr] at q; simp at q; subst q; have := fl.new p hr; omega
    refine ⟨v', H3, a1, fr2.trans hw a3 (fun p q => ?_), rd2.frS a3 (ns o (by omega)) (fun p q => ns p (by have := (htw p q).1; omega)), by rw [fcX_succ]; exact a2⟩
    cases hr : rowObj v with
    | none => rw [hr] at q; simp at q
    | some z => rw [hr] at q; simp at q; subst q; exact .inr (fl.new p hr)
  simp [A30, putAt]
  refine Wp_loop (fun m τ H' => ∃ j v, Fc H H' o om tw en P.length rest s v τ j m) ?_ 3 _ _ ⟨0, .nils, ⟨Fr.refl hw, by simpa [fcS, erC] using rd, by simpa [fcX] using Mine.nil, by omega, by omega, by simp, by simp, by simp, by simp⟩⟩
  rintro m τ H1 ⟨j, v, ⟨fr, rd, fl, hj, rfl, t0, t1, t4, t7⟩⟩
  simp only [Wp_seq, Wp_region]
  have mb1 := mb.keep fr (fun p q => .inl (by simpa using q))
  have l0 : loadA H1 none (.ptr om 0) = some vP := load_get mb1.g rfl
  have hlp := mb1.mo.p.len
  have hvb : ∀ k, -1 ≤ fcV en P.length rest k ∧ fcV en P.length rest k ≤ 1000000000 := fun k => by
    have := valN_bd (wordAt en (rest.drop k)).2 P.length hp; unfold fcV; omega
  by_cases c : j < 3
  · have c' : (j : Int) < 3 := by omega
    simp [c', t0, t1, t4, t7, l0, hlp]
    refine more fr rd fl (by omega) ?_
    rintro H2 fr2 rd2 ⟨v', H3, k1, fr3, rd3, fl3⟩
    have w1 : IntKind.i64.wrap (fcV en P.length rest j) = fcV en P.length rest j := by have := hvb j; exact wrap64 (by omega) (by omega)
    have w : IntKind.i64.wrap ((j : Int) + 1) = ((j + 1 : Nat) : Int) := wrap64 (by omega) (by omega)
    simp [w1, k1, t7, w]
    exact ⟨_, by omega, j + 1, v', ⟨fr3, rd3, fl3, by omega, rfl, by simp [t0], by simp [t1], by simp, by simp⟩⟩
  · have hj3 : j = 3 := by omega
    subst hj3
    have c' : ¬ ((3 : Nat) : Int) < 3 := by omega
    simp [t0, t7]
    have rd0 := rd
    obtain ⟨_, tv, tg, th, _⟩ := rd
    refine (peek46r h46 fr.wf.up (H := H1.up) tg th).quiet (H := H1) ?_
    rintro _ H2 ⟨rfl, e2'⟩
    have e2 := e2'.back fr.wf
    generalize hH2 : ({ H2 with floor := H1.floor } : Heap) = H3 at *
    have fr3 : Fr [o] H H3 := fr.trans hw (e2.fr (S := [])) (fun p q => by cases q)
    have rd3 := rd0.ext e2
    have fl3 := fl.ext e2
    have mb3 := mb.keep fr3 (fun p q => .inl (by simpa using q))
    have m0 : loadA H3 none (.ptr om 0) = some vP := load_get mb3.g rfl
    have hbh := (hb.drop 3).head (en := en)
    rw [← wordAt_head] at hbh
    have hni := num_idx (wordAt en (rest.drop 3)).2 P.length
    simp [t1, m0, hlp, tokA, partA]
    refine (number47 h47 mb3.wf hbh.1 hbh.2 (most := (P.length : Int)) (by omega) (by omega)).mono ?_
    rintro _ H4 ⟨rfl, e4⟩
    have fr4 : Fr [o] H H4 := fr3.trans hw (e4.fr (S := [])) (fun p q => by cases q)
    have rd4 := rd3.ext e4
    have fl4 := fl3.ext e4
    have mb4 := mb.keep fr4 (fun p q => .inl (by simpa using q))
    have n0 : loadA H4 none (.ptr om 0) = some vP := load_get mb4.g rfl
    have sep : ∀ {Hx : Heap} {v' : AV} {xs : List Int}, Mine 1 i64c H Hx v' xs → ∀ p, rowObj v' = some p → H0.next ≤ p ∧ rowObj vP ≠ some p ∧ rowObj vF ≠ some p := by
      intro Hx v' xs hm p hp'
      have h1 := hm.new p hp'
      obtain ⟨rs, a, _, _⟩ := mb.ex
      exact ⟨by omega, fun q => by have := mb.mp.lt hw q; omega, fun q => by have := a.lt hw q; omega⟩
    by_cases ce : (numT (wordAt en (rest.drop 3)).2 (P.length : Int)).2 = 11
    · have hi := hni.1 ce
      simp [ce]
      rw [← hrc]
      refine (face30c mb4 rd4 htw hl (fl4.ow.rw i64c_len) (sep fl4) (by simp [t1]) (by simp [t4])).fin ?_
      intro _ H5 q
      exact ⟨fun _ => q, fun k => absurd hi k⟩
    · have hi : ¬ (idxW P.length (wordAt en (rest.drop 3)).2).2 = 11 := fun k => ce (hni.2 k)
      simp [ce, t0, t1, t4, n0, hlp]
      refine more fr4 rd4 fl4 (by omega) ?_
      rintro H5 fr5 rd5 ⟨v', H6, k1, fr6, rd6, fl6⟩
      have w1 : IntKind.i64.wrap (fcV en P.length rest 3) = fcV en P.length rest 3 := by have := hvb 3; exact wrap64 (by omega) (by omega)
      have mb6 := mb.keep fr6 (fun p q => .inl (by simpa using q))
      simp [w1, k1]
      rw [← hrc]
      refine (face30c mb6 rd6 htw hl (fl6.ow.rw i64c_len) (sep fl6) (by simp [t1]) (by simp)).fin ?_
      intro _ H7 q
      exact ⟨fun k => absurd k hi, fun _ => q⟩
end
end Go.Proofs.YtacfhbhfgbjleaaDoor

/- A mesh's reading, as the program does it. No claim by itself. -/
namespace Go.Proofs.YtacfhbhfgbjleaaDoor
open Go Go.AI
theorem rdC_get (en : Nat) : ∀ (cs : List Wc) (ts : List Tok) (xs : List Int) (r : List Tok), rdC en cs ts = .ok (xs, r) → r = ts.drop cs.length ∧ ∀ (i : Nat) (c : Wc), cs[i]? = some c → (c (wordAt en (ts.drop i)).2).2 = 0 ∧ xs[i]? = some (c (wordAt en (ts.drop i)).2).1
  | [], ts, xs, r, h => by
    simp [rdC] at h; obtain ⟨rfl, rfl⟩ := h
    exact ⟨rfl, fun i c h => by simp at h⟩
  | c :: cs, ts, xs, r, h => by
    unfold rdC at h
    split at h
    · rename_i h0
      cases hq : rdC en cs ts.tail with
      | error e => rw [hq] at h; cases h
      | ok p =>
        obtain ⟨ys, r'⟩ := p
        rw [hq] at h
        simp only [Except.ok.injEq, Prod.mk.injEq] at h
        obtain ⟨rfl, rfl⟩ := h
        obtain ⟨q1, q2⟩ := rdC_get en cs ts.tail ys r' hq
        refine ⟨by rw [q1, List.drop_tail]; rfl, fun i d hd => ?_⟩
        match i with
        | 0 => simp at hd; subst hd; exact ⟨h0, rfl⟩
        | i + 1 =>
          obtain ⟨k1, k2⟩ := q2 i d (by simpa using hd)
          rw [List.drop_tail] at k1 k2
          exact ⟨k1, by simpa using k2⟩
    · cases h
theorem valN_ok {w : List Nat} {lo hi : Int} (h : (numR w lo hi).2 = 0) : valN w lo hi = (numR w lo hi).1 := by unfold valN; rw [if_pos h]
/-- A place's words read. -/
theorem step_place {en : Nat} {P : List (Int × Int)} {W : Int} {r : List Tok} {a : Int} :
    (∃ xs, rdC en [coordW, coordW, zeroW, denW P W] r = .ok (xs, r.drop 4) ∧ erC en (plW P W) r (a, 0) = (a, 0) ∧ (plX en r).1 = (xs[0]?.getD 0, xs[1]?.getD 0) ∧ (plX en r).2 = xs[3]?.getD 0) ∨
    (∃ e, rdC en [coordW, coordW, zeroW, denW P W] r = .error e ∧ e.2 ≠ 0 ∧ erC en (plW P W) r (a, 0) = ((e.1 : Int), e.2)) := by
  cases hq : rdC en [coordW, coordW, zeroW, denW P W] r with
  | error e => exact .inr ⟨e, rfl, rdC_err hq, erC_err en _ _ _ e rfl hq⟩
  | ok p =>
    obtain ⟨xs, r'⟩ := p
    obtain ⟨q1, q2⟩ := rdC_get en _ _ _ _ hq
    obtain ⟨a1, a2⟩ := q2 0 coordW rfl
    obtain ⟨b1, b2⟩ := q2 1 coordW rfl
    obtain ⟨d1, d2⟩ := q2 3 (denW P W) rfl
    simp only [List.length_cons, List.length_nil] at q1
    refine .inl ⟨xs, by rw [q1], erC_ok en _ _ _ _ hq, ?_, ?_⟩
    · rw [a2, b2]
      simp only [Option.getD_some, plX]
      have e1 : r.tail = r.drop 1 := List.drop_one.symm
      rw [e1]
      exact Prod.ext (valN_ok a1) (valN_ok b1)
    · rw [d2]
      simp only [Option.getD_some, plX]
      have e3 : r.tail.tail.tail = r.drop 3 := by simp only [← List.drop_one, List.drop_drop]
      rw [e3]
      generalize (wordAt en (r.drop 3)).2 = w at *
      have hd : (numR w 1 1048576).2 = 0 ∧ denW P W w = numR w 1 1048576 := by
        unfold denW at d1 ⊢
        split at d1
        · simp at d1
        · rename_i h; rw [if_neg h]; exact ⟨d1, rfl⟩
      rw [hd.2, valN_ok hd.1]
/-- A face's words read. -/
theorem step_face {en n : Nat} {r : List Tok} {a : Int} :
    (∃ xs, rdC en [idxW n, idxW n, idxW n] r = .ok (xs, r.drop 3) ∧ fcS en n r (a, 0) 3 = (a, 0) ∧ fcX en n r 3 = dec1 xs) ∨
    (∃ e, rdC en [idxW n, idxW n, idxW n] r = .error e ∧ e.2 ≠ 0 ∧ fcS en n r (a, 0) 3 = ((e.1 : Int), e.2) ∧ fcS en n r (a, 0) 4 = ((e.1 : Int), e.2)) := by
  cases hq : rdC en [idxW n, idxW n, idxW n] r with
  | error e =>
    have h3 : fcS en n r (a, 0) 3 = ((e.1 : Int), e.2) := erC_err en _ _ _ e rfl hq
    have he := rdC_err hq
    exact .inr ⟨e, rfl, he, h3, by rw [fcS_succ, h3, er_stick he]⟩
  | ok p =>
    obtain ⟨xs, r'⟩ := p
    obtain ⟨q1, q2⟩ := rdC_get en _ _ _ _ hq
    have hl := (rdC_len en _ _ _ _ hq).2
    obtain ⟨x0, x1, x2, rfl⟩ := int_three hl
    obtain ⟨a1, a2⟩ := q2 0 (idxW n) rfl
    obtain ⟨b1, b2⟩ := q2 1 (idxW n) rfl
    obtain ⟨c1, c2⟩ := q2 2 (idxW n) rfl
    simp only [List.length_cons, List.length_nil] at q1
    have a2 : x0 = _ := Option.some.inj a2
    have b2 : x1 = _ := Option.some.inj b2
    have c2 : x2 = _ := Option.some.inj c2
    refine .inl ⟨[x0, x1, x2], by rw [q1], erC_ok en _ _ _ _ hq, ?_⟩
    have e : fcX en n r 3 = [fcV en n r 0, fcV en n r 1, fcV en n r 2] := rfl
    rw [e]
    unfold fcV
    rw [valN_ok a1, valN_ok b1, valN_ok c1]
    simp only [dec1, List.map_cons, List.map_nil]
    rw [a2, b2, c2]
    rfl
/-- A mesh in memory that is new since H0. -/
structure MoN (H0 H : Heap) (vP vF : AV) (P : List (Int × Int)) (F : List (List Int)) : Prop where
  p : Rw 2 pairc H vP P
  pn : ∀ q, rowObj vP = some q → H0.next ≤ q
  ex : ∃ rs : List OneV, Rw 1 onec H vF rs ∧ (∀ q, rowObj vF = some q → H0.next ≤ q) ∧ rs.length = F.length ∧ ∀ (i : Nat) (r : OneV) (f : List Int), rs[i]? = some r → F[i]? = some f → Rw 1 i64c H r.1 f ∧ ∀ q, rowObj r.1 = some q → H0.next ≤ q
theorem MoN.mo {H0 H : Heap} {vP vF : AV} {P : List (Int × Int)} {F : List (List Int)} (h : MoN H0 H vP vF P F) : Mo H vP vF P F := by
  obtain ⟨rs, a, _, b, c⟩ := h.ex
  exact ⟨h.p.sl pairc_len, ⟨rs, a, b, fun i r f q1 q2 => (c i r f q1 q2).1⟩⟩
theorem MoN.fr {H0 H H' : Heap} {vP vF : AV} {P : List (Int × Int)} {F : List (List Int)} {S : List Nat} (h : MoN H0 H vP vF P F) (k : Fr S H H') (hs : ∀ p, p ∈ S → p < H0.next) : MoN H0 H' vP vF P F := by
  have out : ∀ q, H0.next ≤ q → q ∉ S := fun q hq r => by have := hs q r; omega
  obtain ⟨rs, a, a2, b, c⟩ := h.ex
  exact ⟨h.p.fr k fun q hq => out q (h.pn q hq), h.pn, rs, a.fr k (fun q hq => out q (a2 q hq)), a2, b, fun i r f q1 q2 => ⟨(c i r f q1 q2).1.fr k (fun q hq => out q ((c i r f q1 q2).2 q hq)), (c i r f q1 q2).2⟩⟩
theorem MoN.ext {H0 H H' : Heap} {vP vF : AV} {P : List (Int × Int)} {F : List (List Int)} (h : MoN H0 H vP vF P F) (k : Ext H H') : MoN H0 H' vP vF P F := h.fr (S := []) k.fr (fun p q => by cases q)
theorem MoN.weak {H0 H1 H : Heap} {vP vF : AV} {P : List (Int × Int)} {F : List (List Int)} (h : MoN H1 H vP vF P F) (k : H0.next ≤ H1.next) : MoN H0 H vP vF P F := by
  obtain ⟨rs, a, a2, b, c⟩ := h.ex
  exact ⟨h.p, fun q hq => Nat.le_trans k (h.pn q hq), rs, a, fun q hq => Nat.le_trans k (a2 q hq), b, fun i r f q1 q2 => ⟨(c i r f q1 q2).1, fun q hq => Nat.le_trans k ((c i r f q1 q2).2 q hq)⟩⟩
theorem MoN.nil (H0 H : Heap) : MoN H0 H .nils .nils [] [] := ⟨⟨.inl ⟨rfl, rfl⟩, rfl⟩, fun q h => (by cases h), [], ⟨.inl ⟨rfl, rfl⟩, rfl⟩, fun q h => (by cases h), rfl, fun i r f h => (by simp at h)⟩
theorem MB.mon {H0 H : Heap} {o om : Nat} {vP vF : AV} {P : List (Int × Int)} {W : Int} {F : List (List Int)} (h : MB H0 H o om vP vF P W F) : MoN H0 H vP vF P F := by
  obtain ⟨rs, a, b, c⟩ := h.ex
  exact ⟨h.mp.ow.rw pairc_len, h.mp.new, rs, a.ow.rw onec_len, a.new, b, fun i r f q1 q2 => ⟨(c i r f q1 q2).1, fun q hq => ((c i r f q1 q2).2 q hq).1⟩⟩
/-- What reading bytes comes to. -/
structure ReR (H H' : Heap) (s : List Nat) (r : AV) : Prop where
  ex : ∃ vP vF P W F, ∃ (a e : Int), parO s = ((P, W, F), a, e) ∧ r = .tup [.agg [vP, .int .i64 W, vF], .int .i64 a, .int .i64 e] ∧ MoN H H' vP vF P F ∧ Mine 2 pairc H H' vP P
structure RdI (H0 H' : Heap) (o om : Nat) (tw : Option Nat) (en N : Nat) (R : Ob × Int × Int) (rest : List Tok) (P : List (Int × Int)) (W : Int) (F : List (List Int)) (s : Int × Int) (τ : Env) (m : Nat) : Prop where
  mb : ∃ vP vF, MB H0 H' o om vP vF P W F
  rd : Rd H' o tw rest en s.1 s.2
  hb : Byt rest
  hm : m = rest.length
  pn : P.length + rest.length ≤ N
  fn : F.length + rest.length ≤ N
  f4 : ∀ f, f ∈ F → f.length ≤ 4
  ok : s.2 = 0 → R = readO en rest.length P W F rest
  no : s.2 ≠ 0 → R = (nilO, s.1, s.2)
  t2 : Env.at τ 2 = Env.at τ 2
  t7 : Env.at τ 7 = .ptr o 0
  t8 : Env.at τ 8 = .ptr om 0
theorem byt_words {s : List Nat} (h : ∀ b, b ∈ s → b < 256) (hl : s.length ≤ 1048576) : Byt (wordsN s) := fun t ht =>
  ⟨scan_mem (fun b => b < 256) s 0 .out h trivial t ht, by have := scan_wlen s 0 .out t ht; simp at this; omega⟩
theorem words_len (s : List Nat) : (wordsN s).length ≤ s.length := by
  have := scan_len (val := idN) s 0 .out; simpa [wordsN] using this
end Go.Proofs.YtacfhbhfgbjleaaDoor

/- A mesh's reading, as the program does it: the whole. No claim by itself. -/
namespace Go.Proofs.YtacfhbhfgbjleaaDoor
open Go Go.AI
section
variable {FT : Nat → Option FnD} {H H0 : Heap}
abbrev H29 (FT : Nat → Option FnD) : Prop := FT 29 = some (.code A29) ∧ FT 30 = some (.code A30) ∧ H45 FT
def r15l : ACode := subAt [1,0,1,1,1,1,1,0] A15.body
def r15e : ACode := subAt [1,0,1,1,1,1,1,1] A15.body
theorem body15 : A15.body = putAt [1,0,1,1,1,1,1,0] (putAt [1,0,1,1,1,1,1,1] A15.body r15e) r15l := rfl
structure Qrd (H0 H' : Heap) (o om : Nat) (tw : Option Nat) (en N : Nat) (R : Ob × Int × Int) (τ0 τ : Env) : Prop where
  ex : ∃ rest P W F s m, RdI H0 H' o om tw en N R rest P W F s τ m ∧ (rest = [] ∨ s.2 ≠ 0)
  t2 : Env.at τ 2 = Env.at τ0 2
structure LpI (H0 H' : Heap) (o om : Nat) (tw : Option Nat) (en N : Nat) (R : Ob × Int × Int) (τ0 τ : Env) (m : Nat) : Prop where
  ex : ∃ rest P W F s, RdI H0 H' o om tw en N R rest P W F s τ m
  t2 : Env.at τ 2 = Env.at τ0 2
theorem read15l (hh : H29 FT) {o om : Nat} {tw : Option Nat} {en N : Nat} (htw : ∀ p, tw = some p → p < H0.next ∧ p ≠ om) (hN : N ≤ 1000000000) {R : Ob × Int × Int} {rest0 : List Tok} {P0 : List (Int × Int)} {W0 : Int} {F0 : List (List Int)} {s0 : Int × Int} {τ0 : Env} {m0 : Nat} {H1 : Heap}
    (h0 : RdI H0 H1 o om tw en N R rest0 P0 W0 F0 s0 τ0 m0) :
    Wp FT r15l τ0 H1 (fun s τ H' => s = .next ∧ Qrd H0 H' o om tw en N R τ0 τ) := by
  obtain ⟨h29, h30, h45⟩ := hh
  simp [r15l, subAt, A15]
  refine Wp_loop (fun m τ H' => LpI H0 H' o om tw en N R τ0 τ m) ?_ m0 _ _ ⟨⟨rest0, P0, W0, F0, s0, h0⟩, rfl⟩
  rintro m τ H1 ⟨⟨rest, P, W, F, s, hi⟩, t2⟩
  have hi0 := hi
  obtain ⟨⟨vP, vF, mb⟩, rd, hb, rfl, pn, fn, f4, ok, no, _, t7, t8⟩ := hi
  simp only [Wp_seq, Wp_region]
  have rd0 := rd
  obtain ⟨_, tv, tg, th, _⟩ := rd0
  have l0 : loadA H1 none (.ptr o 0) = some tv := load_get tg rfl
  have l3 : loadA H1 none (.ptr o 3) = some (.int .i64 s.2) := load_get tg rfl
  have hlen := th.len
  cases rest with
  | nil =>
    have hlen0 : lenA tv = some (.int .i64 0) := by simpa using hlen
    simp [t7, l0, hlen0]
    exact ⟨⟨[], P, W, F, s, _, ⟨hi0.mb, hi0.rd, hi0.hb, hi0.hm, hi0.pn, hi0.fn, hi0.f4, hi0.ok, hi0.no, rfl, by simp [t7], by simp [t8]⟩, .inl rfl⟩, by simp [t2]⟩
  | cons t r =>
    simp only [List.length_cons] at hlen pn fn
    have hpos : (0 : Int) < (r.length : Int) + 1 := by omega
    by_cases ce : s.2 = 0
    · have hs : s = (s.1, 0) := Prod.ext rfl ce
      simp [t7, l0, l3, hlen, hpos, ce]
      refine (next28 h45.2.1 mb.wf rd).mono ?_
      rintro _ H2 ⟨rfl, rd2, x2⟩
      have mb2 := mb.extR x2
      simp only [List.head?_cons, Option.getD_some, List.tail_cons] at rd2 ⊢
      obtain ⟨H3, st3, g3, e3, n3⟩ := store_new mb2.wf (z := [.int .i64 0, .str []]) (n := 2) (x := .agg (tokA t)) (cs := tokA t) rfl rfl rfl rfl
      have mb3 := mb2.ext e3
      have rd3 := rd2.ext e3
      have lt1 : loadA H3 none (.ptr H2.next 1) = some (.str t.2) := load_get g3 rfl
      have lt2 : loadA H3 (some 2) (.ptr H2.next 0) = some (.agg (tokA t)) := load_agg g3 (by simp [seg, tokA])
      have lf : loadA H3 none (.ptr om 2) = some vF := load_get mb3.g rfl
      have hlf := mb3.mo.f.len
      have hbr : Byt r := fun x hx => hb x (List.mem_cons_of_mem _ hx)
      have hR := ok ce
      simp only [List.length_cons] at hR
      have fuel : ∀ (P' : List (Int × Int)) (W' : Int) (F' : List (List Int)) (r' : List Tok), r'.length ≤ r.length → readO en r.length P' W' F' r' = readO en r'.length P' W' F' r' := fun P' W' F' r' h => readO_fuel en _ _ _ _ _ _ h (Nat.le_refl _)
      by_cases c1 : t.2 = vS ∧ F = []
      · obtain ⟨cv, cF⟩ := c1
        subst cF
        have hlf0 : lenA vF = some (.int .i64 0) := by simpa using hlf
        have lt1' : loadA H3 none (.ptr H2.next 1) = some (.str [118]) := by rw [lt1, cv]; rfl
        simp [st3, lt1', lf, hlf0, t7, t8]
        have hstep := step_place (en := en) (P := P) (W := W) (r := r) (a := s.1)
        rw [← hs] at hstep
        refine (place29 h29 h45 mb3 rd3 hbr htw (by omega)).mono ?_
        rintro _ H4 ⟨⟨vP', vF', mb4⟩, rd4⟩
        have hdl : (r.drop 4).length ≤ r.length := by simp
        simp
        refine ⟨(r.drop 4).length, by simp only [List.length_drop]; omega, ⟨⟨r.drop 4, P ++ [(plX en r).1], (plX en r).2, [], erC en (plW P W) r s, ⟨⟨vP', vF', mb4⟩, rd4, hbr.drop 4, rfl, by simp; omega, by simp; omega, by simp, ?_, ?_, rfl, by simp [t7], by simp [t8]⟩⟩, by simp [t2]⟩⟩
        · intro hz
          rcases hstep with ⟨xs, q1, q2, q3, q4⟩ | ⟨e, q1, q2, q3⟩
          · rw [hR]
            conv => lhs; unfold readO
            rw [if_pos ⟨cv, rfl⟩, q1]
            simp only
            rw [fuel _ _ _ _ hdl, q3, q4]
          · rw [q3] at hz; exact absurd hz q2
        · intro hz
          rcases hstep with ⟨xs, q1, q2, q3, q4⟩ | ⟨e, q1, q2, q3⟩
          · rw [q2] at hz; exact absurd ce hz
          · rw [hR, q3]
            conv => lhs; unfold readO
            rw [if_pos ⟨cv, rfl⟩, q1]
      · have hv : ∀ (K : Prop), (t.2 = [118] → F ≠ [] → K) → (t.2 ≠ [118] → K) → K := fun K k1 k2 => by
          by_cases q : t.2 = [118]
          · exact k1 q (fun r => c1 ⟨q, r⟩)
          · exact k2 q
        by_cases c2 : t.2 = fS
        · have lt1' : loadA H3 none (.ptr H2.next 1) = some (.str [102]) := by rw [lt1, c2]; rfl
          have hne : ([102] == ([118] : List Nat)) = false := by decide
          simp [st3, lt1', t7, t8]
          have hstep := step_face (en := en) (n := P.length) (r := r) (a := s.1)
          rw [← hs] at hstep
          refine (face30 h30 h45 mb3 rd3 hbr htw (by omega) (by omega)).mono ?_
          rintro _ H4 ⟨hsh, hlo⟩
          simp
          have hd3 : (r.drop 3).length ≤ r.length := by simp
          have hd4 : (r.drop 4).length ≤ r.length := by simp
          have h34 : (r.drop 3).tail = r.drop 4 := by simp
          by_cases c11 : (idxW P.length (wordAt en (r.drop 3)).2).2 = 11
          · obtain ⟨⟨vP', vF', mb4⟩, rd4⟩ := hsh c11
            refine ⟨(r.drop 3).length, by simp only [List.length_drop]; omega, ⟨⟨r.drop 3, P, W, F ++ [fcX en P.length r 3], fcS en P.length r s 3, ⟨⟨vP', vF', mb4⟩, rd4, hbr.drop 3, rfl, by simp; omega, by simp; omega, ?_, ?_, ?_, rfl, by simp [t7], by simp [t8]⟩⟩, by simp [t2]⟩⟩
            · intro f hf
              rcases List.mem_append.1 hf with q | q
              · exact f4 f q
              · simp at q; subst q; simp [fcX]
            · intro hz
              rcases hstep with ⟨xs, q1, q2, q3⟩ | ⟨e, q1, q2, q3, q4⟩
              · rw [hR]
                conv => lhs; unfold readO
                rw [if_neg c1, if_pos c2, q1]
                simp only
                rw [if_pos c11, fuel _ _ _ _ hd3, q3]
              · rw [q3] at hz; exact absurd hz q2
            · intro hz
              rcases hstep with ⟨xs, q1, q2, q3⟩ | ⟨e, q1, q2, q3, q4⟩
              · rw [q2] at hz; exact absurd ce hz
              · rw [hR, q3]
                conv => lhs; unfold readO
                rw [if_neg c1, if_pos c2, q1]
          · obtain ⟨⟨vP', vF', mb4⟩, rd4⟩ := hlo c11
            refine ⟨(r.drop 4).length, by simp only [List.length_drop]; omega, ⟨⟨r.drop 4, P, W, F ++ [fcX en P.length r 4], fcS en P.length r s 4, ⟨⟨vP', vF', mb4⟩, rd4, hbr.drop 4, rfl, by simp; omega, by simp; omega, ?_, ?_, ?_, rfl, by simp [t7], by simp [t8]⟩⟩, by simp [t2]⟩⟩
            · intro f hf
              rcases List.mem_append.1 hf with q | q
              · exact f4 f q
              · simp at q; subst q; simp [fcX]
            · intro hz
              rcases hstep with ⟨xs, q1, q2, q3⟩ | ⟨e, q1, q2, q3, q4⟩
              · rw [fcS_succ, q2] at hz
                have h0 : (idxW P.length (wordAt en (r.drop 3)).2).2 = 0 := Classical.byContradiction fun k => by
                  rw [er_new ce _ k] at hz; exact k hz
                rw [hR]
                conv => lhs; unfold readO
                rw [if_neg c1, if_pos c2, q1]
                simp only
                rw [if_neg c11, if_pos h0, h34, fuel _ _ _ _ hd4, fcX_succ, q3]
                have hv4 : fcV en P.length r 3 = (idxW P.length (wordAt en (r.drop 3)).2).1 - 1 := by unfold fcV; rw [valN_ok h0]; rfl
                rw [hv4]
              · rw [q4] at hz; exact absurd hz q2
            · intro hz
              rcases hstep with ⟨xs, q1, q2, q3⟩ | ⟨e, q1, q2, q3, q4⟩
              · rw [fcS_succ, q2] at hz ⊢
                have h0 : ¬ (idxW P.length (wordAt en (r.drop 3)).2).2 = 0 := fun k => by
                  rw [k, er_zero] at hz; exact hz ce
                rw [er_new ce _ h0, hR]
                conv => lhs; unfold readO
                rw [if_neg c1, if_pos c2, q1]
                simp only
                rw [if_neg c11, if_neg h0]
              · rw [hR, q4]
                conv => lhs; unfold readO
                rw [if_neg c1, if_pos c2, q1]
        · have hRe : R = (nilO, (t.1 : Int), 11) := by
            rw [hR]
            conv => lhs; unfold readO
            rw [if_neg c1, if_neg c2]
          have fin : ∀ τ' : Env, Env.at τ' 2 = Env.at τ0 2 → Env.at τ' 7 = .ptr o 0 → Env.at τ' 8 = .ptr om 0 → ∀ H4, Rd H4 o tw r en (er (s.1, s.2) t.1 11).1 (er (s.1, s.2) t.1 11).2 → ExtR o H3 H4 → Qrd H0 H4 o om tw en N R τ0 τ' := by
            intro τ' u2 u7 u8 H4 rd4 x4
            have he : er (s.1, s.2) t.1 11 = ((t.1 : Int), 11) := er_new ce _ (by decide)
            rw [he] at rd4
            exact ⟨⟨r, P, W, F, ((t.1 : Int), 11), _, ⟨⟨vP, vF, mb3.extR x4⟩, rd4, hbr, rfl, by omega, by omega, f4, fun k => absurd (show (11 : Int) = 0 from k) (by decide), fun _ => hRe, rfl, u7, u8⟩, .inr (by show (11 : Int) ≠ 0; decide)⟩, u2⟩
          have cf : (t.2 == [102]) = false := by simpa [fS] using c2
          refine hv _ (fun q hF => ?_) (fun q => ?_)
          · have lt1' : loadA H3 none (.ptr H2.next 1) = some (.str [118]) := by rw [lt1, q]
            have hFl : ¬ F.length = 0 := fun k => hF (List.length_eq_zero_iff.1 k)
            simp [st3, lt1', lf, hlf, hFl, t7, t8, lt2]
            refine (wrong31 h45.2.2.2.1 mb3.wf rd3 (t := t) (q := 11) (by omega)).mono ?_
            rintro _ H4 ⟨rd4, x4⟩
            simp
            exact fin _ (by simp [t2]) (by simp [t7]) (by simp [t8]) H4 rd4 x4
          · have cv : (t.2 == [118]) = false := by simpa using q
            simp [st3, lt1, cv, cf, t7, t8, lt2]
            refine (wrong31 h45.2.2.2.1 mb3.wf rd3 (t := t) (q := 11) (by omega)).mono ?_
            rintro _ H4 ⟨rd4, x4⟩
            simp
            exact fin _ (by simp [t2]) (by simp [t7]) (by simp [t8]) H4 rd4 x4
    · have ce' : (s.2 == 0) = false := by simpa using ce
      simp [t7, l0, l3, hlen, hpos, ce']
      exact ⟨⟨t :: r, P, W, F, s, _, ⟨hi0.mb, hi0.rd, hi0.hb, hi0.hm, hi0.pn, hi0.fn, hi0.f4, hi0.ok, hi0.no, rfl, by simp [t7], by simp [t8]⟩, .inr ce⟩, by simp [t2]⟩
theorem flat4 {F : List (List Int)} (h : ∀ f, f ∈ F → f.length ≤ 4) : F.flatten.length ≤ 4 * F.length := by
  induction F with
  | nil => simp
  | cons f F ih =>
    have h1 := h f (by simp)
    have h2 := ih fun g hg => h g (by simp [hg])
    rw [List.flatten_cons, List.length_append, List.length_cons]; omega
abbrev H15 (FT : Nat → Option FnD) : Prop := FT 15 = some (.code A15) ∧ FT 27 = some (.ext allG) ∧ H29 FT ∧ H13 FT
theorem read15 (hh : H15 FT) (hw : H.Wf) {v : AV} {s : List Nat} (hs : bytesA H v = some s) :
    Cp FT 15 [v] H (fun r H' => ReR H H' s r ∧ Ext H H') := by
  obtain ⟨h15, h27, h29, h13⟩ := hh
  refine Cp_code A15 h15 rfl ?_
  have hA : A15.results = [.cell 2 (some 3), .tmp 3, .tmp 4] := rfl
  rw [hA, body15]
  generalize hrl : r15l = rl
  generalize hre : r15e = re
  obtain ⟨g1, e1⟩ := push_new hw (.cells [.nils, .int .i64 0, .nils])
  have hlen := bytesA_len hs
  have hnxH : (H.push (.cells [.nils, .int .i64 0, .nils])).next = H.next + 1 := rfl
  generalize hH1 : H.push (.cells [.nils, .int .i64 0, .nils]) = H1 at *
  -- the answer's object written
  have put : ∀ {H' : Heap} (vP vF : AV) (W : Int), vP.one = true → vF.one = true → Ext H H' → H'.get H.next = some (.cells [.nils, .int .i64 0, .nils]) → ∃ H2, storeA H' 3 (.ptr H.next 0) (.agg [vP, .int .i64 W, vF]) = some (undefA, H2) ∧ H2.get H.next = some (.cells [vP, .int .i64 W, vF]) ∧ Ext H H2 ∧ Fr [H.next] H' H2 := by
    intro H' vP vF W hp hf ex g
    obtain ⟨H2, a, b, c⟩ := store_whole (n := 3) (x := .agg [vP, .int .i64 W, vF]) (xs := [vP, .int .i64 W, vF]) ex.wf rfl rfl (by rw [ex.floor]; exact hw.1) g rfl (by rw [allOne_of hp, allOne_int, allOne_of hf]; rfl)
    exact ⟨H2, a, b, ⟨c.floor.trans ex.floor, Nat.le_trans ex.next c.next, fun o x e => c.keep o x (by simp; have := hw.lt e; omega) (ex.keep _ _ e), c.wf⟩, c⟩
  rcases all_words e1.wf (bytesA_ext e1 hs) with ⟨hlong, hall⟩ | ⟨hle, tv, H2, hall, ex2, htok, hrow⟩
  · have hx : parO s = (nilO, 0, 3) := by unfold parO; rw [if_pos hlong]
    obtain ⟨H3, st, g3, e3, _⟩ := put .nils .nils 0 rfl rfl e1 g1
    have g3' := cellsAt_get g3
    simp [A15, putAt, hH1]
    refine Cp_ext allG h27 hall ?_
    simp [st, resultsA, resultA, g3', partA, seg, packA]
    exact ⟨⟨.nils, .nils, [], 0, [], 0, 3, hx, rfl, MoN.nil _ _, Mine.nil⟩, e3⟩
  · have hbyt := byt_words (bytesA_lt hs) hle
    have hwl := words_len s
    have hn2 := ex2.next
    have hx : parO s = readO s.length (wordsN s).length [] 0 [] (wordsN s) := by unfold parO; rw [if_neg (by omega)]
    generalize hWS : wordsN s = ws at *
    obtain ⟨tv1, tvc⟩ := htok.one
    obtain ⟨g3, e3⟩ := push_new ex2.wf (.cells [tv, .int .i64 s.length, .int .i64 0, .int .i64 0])
    have nx3 : (H2.push (.cells [tv, .int .i64 s.length, .int .i64 0, .int .i64 0])).next = H2.next + 1 := rfl
    generalize hH3 : H2.push (.cells [tv, .int .i64 s.length, .int .i64 0, .int .i64 0]) = H3 at *
    obtain ⟨g4, e4⟩ := push_new e3.wf (.cells [.nils, .int .i64 0, .nils])
    have nx4 : (H3.push (.cells [.nils, .int .i64 0, .nils])).next = H3.next + 1 := rfl
    have f4 : (H3.push (.cells [.nils, .int .i64 0, .nils])).floor = H3.floor := rfl
    generalize hH4 : H3.push (.cells [.nils, .int .i64 0, .nils]) = H4 at *
    have exH3 : Ext H H3 := (e1.trans ex2).trans e3
    have exH4 : Ext H H4 := exH3.trans e4
    have hfl3 : H3.floor ≤ H2.next := by rw [exH3.floor]; have := hw.1; omega
    have rd4 : Rd H4 H2.next (rowObj tv) ws s.length 0 0 := ⟨by rw [f4]; exact hfl3, tv, e4.keep _ _ g3, (htok.ext e3).ext e4, fun p q => ⟨q, by have := hrow p q; omega⟩⟩
    have mb4 : MB H4 H4 H2.next H3.next .nils .nils [] 0 [] := ⟨Fr.refl e4.wf, e4.wf, by rw [f4]; omega, by omega, by omega, by omega, g4, Mine.nil, fun p q => (by cases q), [], Mine.nil, rfl, fun i r f h => (by simp at h)⟩
    have htw : ∀ p, rowObj tv = some p → p < H4.next ∧ p ≠ H3.next := fun p q => by have := hrow p q; omega
    have g14 := e4.keep _ _ (e3.keep _ _ (ex2.keep _ _ g1))
    simp [A15, putAt, hH1]
    refine Cp_ext allG h27 hall ?_
    simp [hlen, fillV_val tv1 tvc, setSeg, allOne_of tv1, hH3, hH4]
    rw [← hrl]
    refine (read15l (H0 := H4) h29 (tw := rowObj tv) (en := s.length) (N := ws.length) htw (by omega) (R := parO s) (o := H2.next) (om := H3.next) (rest0 := ws) (P0 := []) (W0 := 0) (F0 := []) (s0 := (0, 0)) (m0 := ws.length) ⟨⟨.nils, .nils, mb4⟩, rd4, hbyt, rfl, by simp, by simp, by simp, fun _ => hx, fun k => absurd rfl k, rfl, by simp, by simp⟩).mono ?_
    rintro sg τ H5 ⟨rfl, ⟨rest, P, W, F, st, m, hi, hend⟩, t2⟩
    have t2' : Env.at τ 2 = .ptr H.next 0 := by rw [t2]; simp
    obtain ⟨⟨vP, vF, mb⟩, rd, hb, rfl, pn, fn, ff4, ok, no, _, t7, t8⟩ := hi
    have exH5 : Ext H H5 := ⟨mb.fr.floor.trans exH4.floor, by have := mb.fr.next; have := exH4.next; omega, fun p x e => mb.fr.keep p x (by have := hw.lt e; simp; omega) (exH4.keep _ _ e), mb.fr.wf⟩
    have g15 := mb.fr.keep _ _ (by simp; omega) g14
    obtain ⟨_, tv', tg, th, _⟩ := rd
    have l2 : loadA H5 none (.ptr H2.next 2) = some (.int .i64 st.1) := load_get tg rfl
    have l3 : loadA H5 none (.ptr H2.next 3) = some (.int .i64 st.2) := load_get tg rfl
    have lm : loadA H5 (some 3) (.ptr H3.next 0) = some (.agg [vP, .int .i64 W, vF]) := load_agg mb.g (by simp [seg])
    simp
    rw [← hre]
    by_cases ce : st.2 = 0
    · have hr : rest = [] := hend.resolve_right (fun k => k ce)
      subst hr
      have hR := ok ce
      have hfin : readO s.length ([] : List Tok).length P W F [] = finO P W F := rfl
      rw [hfin] at hR
      simp only [List.length_nil, Nat.add_zero] at pn fn
      have hzf := flat4 ff4
      have hz : Sz P F := ⟨by omega, by omega, fun f hf => by have := ff4 f hf; omega, by omega⟩
      simp [r15e, subAt, A15, t7, t8, l3, ce, lm]
      refine (check13 h13 mb.wf (W := W) mb.mo hz).mono ?_
      rintro _ H6 ⟨rfl, e6⟩
      have g16 := e6.keep _ _ g15
      by_cases hv : ValidO P W F
      · have mb6 := mb.ext e6
        have lm6 := load_ext lm e6
        obtain ⟨H7, st7, g7, e7, fr7⟩ := put vP vF W mb.mo.p.one.1 mb.mo.f.one.1 (exH5.trans e6) g16
        have g7' := cellsAt_get g7
        have hs7 : ∀ p, p ∈ [H.next] → p < H4.next := fun p hp => by simp at hp; omega
        simp [chkO_ok hv, t2', t8, lm6, st7, resultsA, resultA, g7', partA, seg, packA]
        refine ⟨⟨vP, vF, P, W, F, 0, 0, by rw [hR, finO_ok hv], rfl, (mb6.mon.fr fr7 hs7).weak (by omega), ?_⟩, e7⟩
        have hm := mb6.mp.fr fr7 (fun p hp => by simp; have := mb6.mp.new p hp; omega)
        exact ⟨hm.ow, fun p hp => by have := hm.new p hp; omega⟩
      · obtain ⟨H7, st7, g7, e7, _⟩ := put .nils .nils 0 rfl rfl (exH5.trans e6) g16
        have g7' := cellsAt_get g7
        have hf2 : finO P W F = (nilO, 0, 2) := by unfold finO; rw [if_neg hv]
        simp [chkO_no hv, t2', st7, resultsA, resultA, g7', partA, seg, packA]
        exact ⟨⟨.nils, .nils, [], 0, [], 0, 2, by rw [hR, hf2]; rfl, rfl, MoN.nil _ _, Mine.nil⟩, e7⟩
    · have hR := no ce
      have ce' : (st.2 != 0) = true := by simpa using ce
      obtain ⟨H7, st7, g7, e7, _⟩ := put .nils .nils 0 rfl rfl exH5 g15
      have g7' := cellsAt_get g7
      have hno : ¬ H2.next = H.next := by omega
      simp [r15e, subAt, A15, t2', t7, l2, l3, ce', hno, st7, resultsA, resultA, g7', partA, seg, packA]
      exact ⟨⟨.nils, .nils, [], 0, [], st.1, st.2, by rw [hR]; rfl, rfl, MoN.nil _ _, Mine.nil⟩, e7⟩
end
end Go.Proofs.YtacfhbhfgbjleaaDoor
