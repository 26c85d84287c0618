/- The statement FacesEuler, walked. No claim by itself. -/
import Derived.Test.YtcepchipgjpkhaaL8
namespace Go.Proofs.Ytcepchipgjpkhaa
open Go Go.AI
section
variable {H : Heap} {FT : Nat → Option FnD}
theorem strip_succ (k : Nat) (c : Bool) : stripF (k + 1) c = stripF k c ++ if c then [[2 * (k : Int), 2 * (k : Int) + 2, 2 * (k : Int) + 3], [2 * (k : Int), 2 * (k : Int) + 3, 2 * (k : Int) + 1]] else [[2 * (k : Int), 2 * (k : Int) + 2, 2 * (k : Int) + 3, 2 * (k : Int) + 1]] := by
  unfold stripF
  rw [List.range_succ, List.flatMap_append]
  simp
theorem strip_len (k : Nat) (c : Bool) : (stripF k c).length ≤ 2 * k := by
  induction k with
  | zero => simp [stripF]
  | succ k ih => rw [strip_succ, List.length_append]; cases c <;> simp <;> omega
theorem strip_row {k : Nat} {c : Bool} {f : List Int} (h : f ∈ stripF k c) : f.length ≤ 4 ∧ ∀ x, x ∈ f → 0 ≤ x ∧ x ≤ 2 * (k : Int) + 1 := by
  unfold stripF at h
  obtain ⟨i, hi, h⟩ := List.mem_flatMap.1 h
  have hi := List.mem_range.1 hi
  cases c with
  | true =>
    simp at h
    rcases h with rfl | rfl
    · exact ⟨by simp, fun x hx => by simp at hx; omega⟩
    · exact ⟨by simp, fun x hx => by simp at hx; omega⟩
  | false =>
    simp at h
    subst h
    exact ⟨by simp, fun x hx => by simp at hx; omega⟩
structure St1 (H H' : Heap) (k : Nat) (c : Bool) (v5 : AV) (os : List Nat) (τ : Env) (i m : Nat) : Prop where
  ex : Ext H H'
  ind : Ind H H' v5 os (stripF i c)
  le : i ≤ k
  hm : m = k - i
  t : Tm τ [(0, .int .i64 k), (1, .bool c), (5, v5), (6, .int .i64 i)]
theorem strip35 (h35 : FT 35 = some (.code A35)) (hw : H.Wf) {k : Nat} {c : Bool} (hk : k ≤ 22) :
    Cp FT 35 [.int .i64 k, .bool c] H (fun r H' => (∃ os, Ind H H' r os (stripF k c)) ∧ Ext H H') := by
  refine Cp_code A35 h35 rfl ?_
  simp [A35]
  refine Wp_loop (fun m τ H' => ∃ i v5 os, St1 H H' k c v5 os τ i m) ?_ k _ _ ⟨0, .nils, [], ⟨Ext.refl hw, by simpa [stripF] using Ind.nil, by omega, by omega, by simp⟩⟩
  rintro m τ H1 ⟨i, v5, os, ⟨e1, ind, hi, rfl, t⟩⟩
  simp at t
  obtain ⟨t0, t1, t5, t6⟩ := t
  have sl := strip_len i c
  by_cases q : i < k
  · have w : IntKind.i64.wrap ((i : Int) + 1) = (i : Int) + 1 := wrap64 (by omega) (by omega)
    have w0 : IntKind.i64.wrap (2 * (i : Int)) = 2 * (i : Int) := wrap64 (by omega) (by omega)
    have w1 : IntKind.i64.wrap (2 * (i : Int) + 1) = 2 * (i : Int) + 1 := wrap64 (by omega) (by omega)
    have w2 : IntKind.i64.wrap (2 * (i : Int) + 2) = 2 * (i : Int) + 2 := wrap64 (by omega) (by omega)
    have w3 : IntKind.i64.wrap (2 * (i : Int) + 3) = 2 * (i : Int) + 3 := wrap64 (by omega) (by omega)
    have hs := strip_succ i c
    cases c with
    | true =>
      obtain ⟨v', H2, a1, a2, a3⟩ := ind.snoc hw e1 [2 * (i : Int), 2 * (i : Int) + 2, 2 * (i : Int) + 3] (by omega)
      obtain ⟨v2, H3, b1, b2, b3⟩ := a2.snoc hw a3 [2 * (i : Int), 2 * (i : Int) + 3, 2 * (i : Int) + 1] (by simp; omega)
      simp [intV] at a1 b1
      rw [List.append_assoc (stripF i true)] at b2
      simp [setSeg, q, t0, t1, t5, t6, w, w0, w1, w2, w3, a1, b1]
      exact ⟨_, by omega, i + 1, v2, _, ⟨b3, by rw [hs]; exact b2, by omega, rfl, by simp [t0, t1]⟩⟩
    | false =>
      obtain ⟨v', H2, a1, a2, a3⟩ := ind.snoc hw e1 [2 * (i : Int), 2 * (i : Int) + 2, 2 * (i : Int) + 3, 2 * (i : Int) + 1] (by omega)
      simp [intV] at a1
      simp [setSeg, q, t0, t1, t5, t6, w, w0, w1, w2, w3, a1]
      exact ⟨_, by omega, i + 1, v', _, ⟨a3, by rw [hs]; exact a2, by omega, rfl, by simp [t0, t1]⟩⟩
  · have hil : i = k := by omega
    subst hil
    simp [t0, t5, t6]
    exact ⟨⟨os, ind⟩, e1⟩
theorem Ind_idx {Hb H : Heap} {v : AV} {os : List Nat} {F : List (List Int)} (h : Ind Hb H v os F) {i o : Nat} {f : List Int} (hi : F[i]? = some f) (ho : os[i]? = some o) :
    ∃ p, indexAddrV 1 v (.int .i64 i) = some p ∧ loadA H none p = some (.slc o 0 f.length 1 f.length true) := by
  obtain ⟨rs, a, b, c⟩ := h.ex
  have il : i < F.length := (List.getElem?_eq_some_iff.1 hi).1
  obtain ⟨p, x, q1, q2, _, q4⟩ := Sl.idx ((a.ow.rw onec_len).sl onec_len) (k := .i64) (i := (i : Int)) (by omega) (by omega)
  rw [Int.toNat_natCast] at q1
  have := c i x f o q1 hi ho
  exact ⟨p, q2, by rw [← this]; exact q4 _ rfl rfl⟩
/-- A row whose first j places are told anew. -/
def rowJ (k : Nat) (f : List Int) (j : Nat) : List Int := (f.take j).map (fun x => x % (2 * (k : Int))) ++ f.drop j
theorem rowJ_len {k : Nat} {f : List Int} {j : Nat} (h : j ≤ f.length) : (rowJ k f j).length = f.length := by simp [rowJ]; omega
theorem rowJ_get {k : Nat} {f : List Int} {j : Nat} {x : Int} (h : f[j]? = some x) : (rowJ k f j)[j]? = some x := by
  have hj : j < f.length := (List.getElem?_eq_some_iff.1 h).1
  unfold rowJ
  rw [List.getElem?_append_right (by simp; omega)]
  simp [Nat.min_eq_left (Nat.le_of_lt hj), h]
theorem rowJ_set {k : Nat} {f : List Int} {j : Nat} {x : Int} (h : f[j]? = some x) : (rowJ k f j).set j (x % (2 * (k : Int))) = rowJ k f (j + 1) := by
  have hj : j < f.length := (List.getElem?_eq_some_iff.1 h).1
  have hx : f[j] = x := by rw [List.getElem?_eq_getElem hj] at h; exact Option.some.inj h
  unfold rowJ
  rw [List.set_append_right _ _ (by simp; omega), List.take_add_one, h]
  have hl : ((f.take j).map fun x => x % (2 * (k : Int))).length = j := by simp; omega
  rw [hl, Nat.sub_self, List.drop_eq_getElem_cons hj, hx]
  simp
theorem set_self {α : Type} {l : List α} {i : Nat} {x : α} (h : l[i]? = some x) : l.set i x = l := by
  have hi : i < l.length := (List.getElem?_eq_some_iff.1 h).1
  have hx : l[i] = x := by rw [List.getElem?_eq_getElem hi] at h; exact Option.some.inj h
  subst hx
  exact List.set_getElem_self hi
def k8a : ACode := subAt [1, 1, 1, 1, 1, 1, 0, 1] A8.body
def k8j : ACode := subAt [0, 0, 1, 0, 0, 1] k8a
theorem body8 : A8.body = putAt [1, 1, 1, 1, 1, 1, 0, 1] A8.body k8a := rfl
theorem body8a : k8a = putAt [0, 0, 1, 0, 0, 1] k8a k8j := rfl
structure Cl1 (Hb H' : Heap) (k : Nat) (v6 : AV) (os : List Nat) (C : List (List Int)) (f : List Int) (i : Nat) (τ : Env) (j m : Nat) : Prop where
  ex : Ext Hb H'
  ind : Ind Hb H' v6 os (C.set i (rowJ k f j))
  le : j ≤ f.length
  hm : m = f.length - j
  t : Tm τ [(5, .int .i64 k), (6, v6), (12, .int .i64 i), (13, .int .i64 j)]
structure ClQ (Hb H' : Heap) (k : Nat) (v6 : AV) (os : List Nat) (C : List (List Int)) (f : List Int) (i : Nat) (τ : Env) : Prop where
  ex : Ext Hb H'
  ind : Ind Hb H' v6 os (C.set i (closeR k f))
  t : Tm τ [(5, .int .i64 k), (6, v6), (12, .int .i64 i)]
theorem close_j {Hb : Heap} {k : Nat} {v6 : AV} {os : List Nat} {C : List (List Int)} {f : List Int} {i : Nat} (hb : Hb.Wf) (e0 : Ext Hb H) (ind : Ind Hb H v6 os C) (hk : 3 ≤ k ∧ k ≤ 22) (hf : C[i]? = some f) (hfl : f.length ≤ 4) (_hcl : C.length ≤ 1000) (hr : ∀ x, x ∈ f → 0 ≤ x ∧ x ≤ 1000) {τ0 : Env}
    (u : Tm τ0 [(5, .int .i64 k), (6, v6), (12, .int .i64 i), (13, .int .i64 0)]) :
    Wp FT k8j τ0 H (fun c τ H' => c = .next ∧ ClQ Hb H' k v6 os C f i τ) := by
  simp at u
  obtain ⟨u5, u6, u12, u13⟩ := u
  have il : i < C.length := (List.getElem?_eq_some_iff.1 hf).1
  have ho : os[i]? = some (os[i]'(by rw [ind.len]; exact il)) := List.getElem?_eq_getElem _
  generalize os[i]'(by rw [ind.len]; exact il) = o at ho
  have hom := List.mem_of_getElem? ho
  simp [k8j, k8a, subAt, A8]
  refine Wp_loop (fun m τ H' => ∃ j, Cl1 Hb H' k v6 os C f i τ j m) ?_ f.length _ _ ⟨0, ⟨e0, by simpa [rowJ, set_self hf] using ind, by omega, by omega, by simp [u5, u6, u12, u13]⟩⟩
  rintro m τ H1 ⟨j, ⟨e1, ind1, hj, rfl, t⟩⟩
  simp at t
  obtain ⟨t5, t6, t12, t13⟩ := t
  have hgi : (C.set i (rowJ k f j))[i]? = some (rowJ k f j) := by rw [List.getElem?_set, if_pos rfl, if_pos il]
  obtain ⟨p, a2, a3⟩ := Ind_idx ind1 hgi ho
  have rl := rowJ_len (k := k) hj
  rw [rl] at a3
  by_cases q : j < f.length
  · have w : IntKind.i64.wrap ((j : Int) + 1) = (j : Int) + 1 := wrap64 (by omega) (by omega)
    have w2 : IntKind.i64.wrap (2 * (k : Int)) = 2 * (k : Int) := wrap64 (by omega) (by omega)
    have hfj := List.getElem?_eq_getElem q
    generalize f[j] = x at hfj
    obtain ⟨x0, x1⟩ := hr x (List.mem_of_getElem? hfj)
    obtain ⟨y, y1, y2, y3⟩ := (ind1.arr i o _ ho hgi).idx (i := j) (by rw [rl]; exact q)
    rw [rowJ_get hfj] at y1
    cases y1
    have y3' : loadA H1 none (.ptr o j) = some (.int .i64 x) := y3
    rw [rl] at y2
    have tm : x.tmod (2 * (k : Int)) = x % (2 * (k : Int)) := Int.tmod_eq_emod_of_nonneg x0
    have hz : ¬ (2 * (k : Int)) = 0 := by omega
    have hz2 : ¬ k = 0 := by omega
    obtain ⟨H2, s1, s2, s3⟩ := ind1.set e1.wf hgi ho (j := j) (by rw [rl]; exact q) (x % (2 * (k : Int)))
    rw [rowJ_set hfj, List.set_set] at s2
    have e2 : Ext Hb H2 := ext_fr hb e1 s3 (fun p hp => by simp at hp; subst hp; exact (ind1.new p hom).1)
    have s1' : storeA H1 1 (.ptr o j) (.int .i64 (x % (2 * (k : Int)))) = some (undefA, H2) := s1
    simp [q, t5, t6, t12, t13, a2, a3, y2, y3', w, w2, tm, hz, s1']
    exact ⟨_, by omega, j + 1, ⟨e2, s2, by omega, rfl, by simp [t5, t6, t12]⟩⟩
  · have hjl : j = f.length := by omega
    subst hjl
    simp [t6, t12, t13, a2, a3]
    have : rowJ k f f.length = closeR k f := by simp [rowJ, closeR]
    rw [this] at ind1
    exact ⟨e1, ind1, by simp [t5, t6, t12]⟩
structure Cl2 (Hb H' : Heap) (k : Nat) (v6 : AV) (os : List Nat) (S : List (List Int)) (τ : Env) (i m : Nat) : Prop where
  ex : Ext Hb H'
  ind : Ind Hb H' v6 os ((S.take i).map (closeR k) ++ S.drop i)
  le : i ≤ S.length
  hm : m = S.length - i
  t : Tm τ [(5, .int .i64 k), (6, v6), (12, .int .i64 i)]
structure ClR (Hb H' : Heap) (k : Nat) (v6 : AV) (os : List Nat) (S : List (List Int)) (τ : Env) : Prop where
  ex : Ext Hb H'
  ind : Ind Hb H' v6 os (S.map (closeR k))
  t : Tm τ [(5, .int .i64 k), (6, v6)]
theorem close_a {Hb : Heap} {k : Nat} {v6 : AV} {os : List Nat} {S : List (List Int)} (hb : Hb.Wf) (e0 : Ext Hb H) (ind : Ind Hb H v6 os S) (hk : 3 ≤ k ∧ k ≤ 22) (hr : ∀ f, f ∈ S → f.length ≤ 4 ∧ ∀ x, x ∈ f → 0 ≤ x ∧ x ≤ 1000) (hcl : S.length ≤ 1000) {τ0 : Env}
    (u : Tm τ0 [(5, .int .i64 k), (6, v6), (12, .int .i64 0)]) :
    Wp FT k8a τ0 H (fun c τ H' => c = .next ∧ ClR Hb H' k v6 os S τ) := by
  simp at u
  obtain ⟨u5, u6, u12⟩ := u
  rw [body8a]
  generalize hkj : k8j = kj
  simp [k8a, subAt, putAt, A8]
  refine Wp_loop (fun m τ H' => ∃ i, Cl2 Hb H' k v6 os S τ i m) ?_ S.length _ _ ⟨0, ⟨e0, by simpa using ind, by omega, by omega, by simp [u5, u6, u12]⟩⟩
  rintro m τ H1 ⟨i, ⟨e1, ind1, hi, rfl, t⟩⟩
  simp at t
  obtain ⟨t5, t6, t12⟩ := t
  have hl : ((S.take i).map (closeR k) ++ S.drop i).length = S.length := by simp; omega
  have hlen := ind1.gd.len
  rw [hl] at hlen
  by_cases q : i < S.length
  · have w : IntKind.i64.wrap ((i : Int) + 1) = (i : Int) + 1 := wrap64 (by omega) (by omega)
    have hf := List.getElem?_eq_getElem q
    generalize hfe : S[i] = f at hf
    obtain ⟨r1, r2⟩ := hr f (List.mem_of_getElem? hf)
    have hml : ((S.take i).map (closeR k)).length = i := by simp; omega
    have hg : ((S.take i).map (closeR k) ++ S.drop i)[i]? = some f := by
      rw [List.getElem?_append_right (by omega), hml, Nat.sub_self, List.getElem?_drop]; simpa using hf
    have hset : ((S.take i).map (closeR k) ++ S.drop i).set i (closeR k f) = (S.take (i + 1)).map (closeR k) ++ S.drop (i + 1) := by
      rw [List.set_append_right _ _ (by omega), hml, Nat.sub_self, List.drop_eq_getElem_cons q, List.take_add_one, hf, List.map_append, List.append_assoc]
      rfl
    simp [q, t6, t12, hlen]
    rw [← hkj]
    refine (close_j hb e1 ind1 hk hg r1 (by omega) r2 (by simp [t5, t6, t12])).mono ?_
    rintro c τ2 H2 ⟨rfl, ⟨e2, ind2, t⟩⟩
    rw [hset] at ind2
    simp at t
    obtain ⟨t5, t6, t12⟩ := t
    simp [t12, w]
    exact ⟨_, by omega, i + 1, ⟨e2, ind2, by omega, rfl, by simp [t5, t6]⟩⟩
  · have hil : i = S.length := by omega
    subst hil
    simp at ind1
    simp [t6, t12, hlen]
    exact ⟨e1, ind1, by simp [t5, t6]⟩
theorem strip_sz {S : List (List Int)} (hl : S.length ≤ 1000) (hr : ∀ f, f ∈ S → f.length ≤ 4) : Fsz S := by
  have : S.flatten.length ≤ 4 * S.length := by
    clear hl
    induction S with
    | nil => simp
    | cons f S ih =>
      rw [List.flatten_cons, List.length_append, List.length_cons]
      have := hr f (by simp)
      have := ih (fun g hg => hr g (List.mem_cons_of_mem _ hg))
      omega
  exact ⟨fun f hf => by have := hr f hf; omega, by omega, by omega⟩
theorem euler8 (T : LawT FT) (h35 : FT 35 = some (.code A35)) (h8 : FT 8 = some (.code A8)) (hw : H.Wf) {n : Int} {c : Bool} :
    Cp FT 8 [.int .i64 n, .bool c] H (fun r _ => r = .bool true) := by
  refine Cp_code A8 h8 rfl ?_
  rw [body8]
  generalize hka : k8a = ka
  obtain ⟨j, hj, ej⟩ := turn_mod n (l := 20) (by omega) (by omega)
  have w20 : IntKind.u64.wrap ((20 : Nat) : Int) = 20 := by decide
  rw [w20] at ej
  obtain ⟨k, rfl⟩ : ∃ k, k = j + 3 := ⟨_, rfl⟩
  have hk : 3 ≤ j + 3 ∧ j + 3 ≤ 22 := by omega
  generalize hkk : j + 3 = k at hk
  have w3 : IntKind.i64.wrap (3 + (j : Int)) = (k : Int) := by rw [wrap64 (by omega) (by omega)]; omega
  have sl := strip_len k c
  have sr : ∀ f, f ∈ stripF k c → f.length ≤ 4 ∧ ∀ x, x ∈ f → 0 ≤ x ∧ x ≤ 1000 := fun f hf => by
    obtain ⟨a, b⟩ := strip_row hf
    exact ⟨a, fun x hx => by have := b x hx; omega⟩
  have hs : Fsz (stripF k c) := strip_sz (by omega) (fun f hf => (sr f hf).1)
  have so := strip_open (by omega : 3 ≤ k) (by omega) c
  have ss := strip_shut (by omega : 3 ≤ k) (by omega) c
  have hs2 : Fsz ((stripF k c).map (closeR k)) := strip_sz (by rw [List.length_map]; omega) (fun f hf => by
    obtain ⟨g, hg, rfl⟩ := List.mem_map.1 hf
    have := (sr g hg).1
    simpa [closeR] using this)
  have co := so.chk (by omega)
  have cs := ss.chk (by omega)
  have co2 := chkF_up co
  have cs2 := chkF_up cs
  simp [A8, putAt, ej, w3]
  refine (strip35 h35 hw (c := c) hk.2).mono ?_
  rintro v6 H1 ⟨⟨os, ind⟩, e1⟩
  simp
  refine (count23 T.toFacesT ind.gd hs e1.wf).mono ?_
  rintro _ H2 ⟨rfl, e2⟩
  rw [if_pos co2]
  have ind2 := ind.ext e2
  have w2k : IntKind.i64.wrap (2 * (k : Int)) = 2 * (k : Int) := wrap64 (by omega) (by omega)
  have w2k2 : IntKind.i64.wrap (2 * (k : Int) + 2) = 2 * (k : Int) + 2 := wrap64 (by omega) (by omega)
  simp [w2k, w2k2]
  refine (rims30 T.toFacesT (n := 2 * (k : Int) + 2) ind2.gd hs e2.wf).mono ?_
  rintro r1 H3 ⟨hr1, e3⟩
  obtain ⟨v10, rfl, g1⟩ := rimsR_un hr1
  have eo : errR (2 * (k : Int) + 2) (stripF k c) = 0 := errR_zero.2 ⟨co, so.kd⟩
  have ro : rowR (2 * (k : Int) + 2) (stripF k c) = rimsF (allE (stripF k c)) := by unfold rowR; rw [if_pos ⟨co, so.kd⟩]
  have lo := so.rims
  rw [ro] at g1
  obtain ⟨ring, er, lr⟩ : ∃ r, rimsF (allE (stripF k c)) = [r] ∧ r.length = 2 * k + 2 := by
    generalize rimsF (allE (stripF k c)) = R at lo
    cases R with
    | nil => simp at lo
    | cons r R =>
      cases R with
      | nil => exact ⟨r, rfl, by simpa using lo⟩
      | cons r' R => simp at lo
  rw [er] at g1
  obtain ⟨p, rv, f, a1, a2, a3, a4⟩ := g1.idx (k := .i64) (i := 0) (by omega) (by simp)
  have hfe : f = ring := by simpa using a1.symm
  subst hfe
  have cnt := so.cnt
  have f1 : (firsts (stripF k c).flatten).length ≤ 1000000000 := Nat.le_trans (firsts_le _) hs.tot
  have f2 : (edS (allE (stripF k c))).length ≤ 1000000000 := Nat.le_trans (edS_len_le _) (by rw [show (allE (stripF k c)).length = (stripF k c).flatten.length from flat_edges _]; exact hs.tot)
  have l10 : lenA v10 = some (.int .i64 1) := g1.len
  have lr' : lenA rv = some (.int .i64 (2 * (k : Int) + 2)) := by rw [a4.len, lr]; congr 2
  have ws : IntKind.i64.wrap (((firsts (stripF k c).flatten).length : Int) - (edS (allE (stripF k c))).length) = ((firsts (stripF k c).flatten).length : Int) - (edS (allE (stripF k c))).length := wrap64 (by omega) (by omega)
  have wt : IntKind.i64.wrap (((firsts (stripF k c).flatten).length : Int) - (edS (allE (stripF k c))).length + (stripF k c).length) = 1 := by rw [wrap64 (by omega) (by omega)]; omega
  simp [eo, w2k, w2k2, l10, a2, a3, lr', ws, wt]
  rw [← hka]
  have e03 := (e1.trans e2).trans e3
  refine (close_a hw e03 (ind2.ext e3) hk sr (by omega) (by simp)).mono ?_
  rintro s τ H4 ⟨rfl, ⟨e4, ind4, t⟩⟩
  simp at t
  obtain ⟨t5, t6⟩ := t
  simp [t6]
  refine (count23 T.toFacesT ind4.gd hs2 e4.wf).mono ?_
  rintro _ H5 ⟨rfl, e5⟩
  rw [if_pos cs2]
  simp [t5, t6, w2k]
  refine (rims30 T.toFacesT (n := 2 * (k : Int)) (ind4.ext e5).gd hs2 e5.wf).mono ?_
  rintro r2 H6 ⟨hr2, e6⟩
  obtain ⟨v17, rfl, g2⟩ := rimsR_un hr2
  have es : errR (2 * (k : Int)) ((stripF k c).map (closeR k)) = 0 := errR_zero.2 ⟨cs, ss.kd⟩
  have rs : rowR (2 * (k : Int)) ((stripF k c).map (closeR k)) = rimsF (allE ((stripF k c).map (closeR k))) := by unfold rowR; rw [if_pos ⟨cs, ss.kd⟩]
  have ls := ss.rims
  rw [rs] at g2
  obtain ⟨x, y, exy, lx, ly⟩ : ∃ x y, rimsF (allE ((stripF k c).map (closeR k))) = [x, y] ∧ x.length = k ∧ y.length = k := by
    generalize rimsF (allE ((stripF k c).map (closeR k))) = R at ls
    cases R with
    | nil => simp at ls
    | cons x R =>
      cases R with
      | nil => simp at ls
      | cons y R =>
        cases R with
        | nil => exact ⟨x, y, rfl, by simpa using ls⟩
        | cons z R => simp at ls
  rw [exy] at g2
  obtain ⟨p0, rv0, f0, b1, b2, b3, b4⟩ := g2.idx (k := .i64) (i := 0) (by omega) (by simp)
  obtain ⟨p1, rv1, f1', c1, c2, c3, c4⟩ := g2.idx (k := .i64) (i := 1) (by omega) (by simp)
  have h0 : f0 = x := by simpa using b1.symm
  have h1 : f1' = y := by simpa using c1.symm
  subst h0 h1
  have cnt2 := ss.cnt
  have ml : ((stripF k c).map (closeR k)).length = (stripF k c).length := by simp
  generalize hM : (stripF k c).map (closeR k) = M at *
  have m1 : (firsts M.flatten).length ≤ 1000000000 := Nat.le_trans (firsts_le _) hs2.tot
  have m2 : (edS (allE M)).length ≤ 1000000000 := Nat.le_trans (edS_len_le _) (by rw [show (allE M).length = M.flatten.length from flat_edges _]; exact hs2.tot)
  have m3 := hs2.len
  have l17 : lenA v17 = some (.int .i64 2) := g2.len
  have l0 : lenA rv0 = some (.int .i64 k) := by rw [b4.len, lx]
  have l1 : lenA rv1 = some (.int .i64 k) := by rw [c4.len, ly]
  have ws2 : IntKind.i64.wrap (((firsts M.flatten).length : Int) - (edS (allE M)).length) = ((firsts M.flatten).length : Int) - (edS (allE M)).length := wrap64 (by omega) (by omega)
  have wt2 : IntKind.i64.wrap (((firsts M.flatten).length : Int) - (edS (allE M)).length + M.length) = 0 := by rw [wrap64 (by omega) (by omega)]; omega
  rw [ml] at wt2
  simp [es, t5, l17, b2, b3, c2, c3, l0, l1, ws2, wt2]
  refine known_then T e6.wf ?_
  rintro _ _ rfl
  simp
theorem law_euler (hw : H.Wf) {n : Int} {c : Bool} {p : Prop} (_ : p) : Cp FZ 8 [.int .i64 n, .bool c] H (fun r _ => r = .bool true) := euler8 lawT rfl rfl hw
end
end Go.Proofs.Ytcepchipgjpkhaa
