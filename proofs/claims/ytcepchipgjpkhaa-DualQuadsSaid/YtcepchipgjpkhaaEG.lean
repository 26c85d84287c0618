/- Literals, and rows that grow, once more. No claim by itself. -/
import Derived.Test.YtcepchipgjpkhaaEE
namespace Go.AI
section
variable {α : Type} {e : Nat} {enc : α → List AV}
theorem rw_lits (hn : ∀ x, (enc x).length = e) {H : Heap} {o : Nat} {xs : List α} (hg : H.get o = some (.cells (xs.flatMap enc))) : Rw e enc H (.slc o 0 xs.length e xs.length true) xs := by
  refine ⟨.inr ⟨o, 0, xs.length, true, rfl, ?_⟩, by simp [capOk]⟩
  unfold Heap.readSeg
  rw [cellsAt_get hg]
  exact seg_all (flat_len hn xs)
theorem ext_fr {S : List Nat} {H H1 H2 : Heap} (hw : H.Wf) (h : Ext H H1) (k : Fr S H1 H2) (hs : ∀ p, p ∈ S → H.next ≤ p) : Ext H H2 :=
  ⟨k.floor.trans h.floor, Nat.le_trans h.next k.next, fun o x q => k.keep o x (fun r => by have := hs o r; have := hw.lt q; omega) (h.keep o x q), k.wf⟩
end
end Go.AI

/- Rising lists without repeats, and the edges of faces, each once. No claim by itself. -/
namespace Go.AI
/-! ### Strict orders of all -/
structure STO {α : Type} (lt : α → α → Bool) : Prop where
  irr : ∀ x, lt x x = false
  tr : ∀ {x y z}, lt x y = true → lt y z = true → lt x z = true
  tri : ∀ {x y}, lt x y = false → lt y x = false → x = y
section
variable {α : Type} {lt : α → α → Bool}
abbrev Rise (lt : α → α → Bool) (l : List α) : Prop := l.Pairwise fun x y => lt x y = true
theorem STO.ne (h : STO lt) {x y : α} (q : lt x y = true) : x ≠ y := fun e => by rw [e, h.irr] at q; cases q
theorem STO.asym (h : STO lt) {x y : α} (q : lt x y = true) : lt y x = false := by
  cases r : lt y x with
  | false => rfl
  | true => have := h.tr q r; rw [h.irr] at this; cases this
theorem rise_eq (h : STO lt) : ∀ {a b : List α}, Rise lt a → Rise lt b → (∀ x, x ∈ a ↔ x ∈ b) → a = b
  | [], [], _, _, _ => rfl
  | [], y :: b, _, _, e => by have := (e y).2 (by simp); simp at this
  | x :: a, [], _, _, e => by have := (e x).1 (by simp); simp at this
  | x :: a, y :: b, ha, hb, e => by
    have ha' := List.pairwise_cons.1 ha
    have hb' := List.pairwise_cons.1 hb
    have hxy : x = y := by
      rcases List.mem_cons.1 ((e x).1 (by simp)) with q | q
      · exact q
      · rcases List.mem_cons.1 ((e y).2 (by simp)) with r | r
        · exact r.symm
        · have := h.asym (hb'.1 x q); rw [ha'.1 y r] at this; cases this
    subst hxy
    have : a = b := rise_eq h ha'.2 hb'.2 fun z => by
      constructor
      · intro hz
        rcases List.mem_cons.1 ((e z).1 (List.mem_cons_of_mem _ hz)) with q | q
        · exact absurd q.symm (h.ne (ha'.1 z hz))
        · exact q
      · intro hz
        rcases List.mem_cons.1 ((e z).2 (List.mem_cons_of_mem _ hz)) with q | q
        · exact absurd q.symm (h.ne (hb'.1 z hz))
        · exact q
    rw [this]
/-- Sorted by the library. -/
def srtB (lt : α → α → Bool) (l : List α) : List α := l.mergeSort fun x y => !lt y x
theorem srtB_perm (l : List α) : (srtB lt l).Perm l := List.mergeSort_perm _ _
theorem srtB_mem {l : List α} {x : α} : x ∈ srtB lt l ↔ x ∈ l := (srtB_perm l).mem_iff
theorem srtB_len (l : List α) : (srtB lt l).length = l.length := (srtB_perm l).length_eq
theorem srtB_le (h : STO lt) (l : List α) : (srtB lt l).Pairwise fun x y => lt y x = false := by
  have := List.pairwise_mergeSort (le := fun x y => !lt y x) (fun a b c h1 h2 => by
    simp only [Bool.not_eq_true'] at h1 h2 ⊢
    cases q : lt c a with
    | false => rfl
    | true =>
      cases r : lt a b with
      | true => rw [h.tr q r] at h2; cases h2
      | false => have := h.tri r h1; subst this; rw [q] at h2; cases h2) (fun a b => by
    cases q : lt b a with
    | false => simp
    | true => simp [h.asym q]) l
  exact this.imp fun q => by simpa using q
theorem srtB_rise (h : STO lt) {l : List α} (hn : l.Nodup) : Rise lt (srtB lt l) := by
  have h1 := srtB_le h l
  have h2 : (srtB lt l).Nodup := (srtB_perm l).nodup_iff.2 hn
  refine (h1.and h2).imp fun {x y} q => ?_
  cases r : lt x y with
  | true => rfl
  | false => exact absurd (h.tri r q.1) q.2
theorem Rise.nodup (h : STO lt) {l : List α} (hl : Rise lt l) : l.Nodup := hl.imp fun q => h.ne q
theorem srtB_eq (h : STO lt) {a b : List α} (ha : a.Nodup) (hb : Rise lt b) (e : ∀ x, x ∈ a ↔ x ∈ b) : srtB lt a = b :=
  rise_eq h (srtB_rise h ha) hb fun x => srtB_mem.trans (e x)
variable [DecidableEq α]
/-- Laid at its place, once. -/
def insU (lt : α → α → Bool) : List α → α → List α
  | [], s => [s]
  | x :: l, s => if lt x s = true then x :: insU lt l s else if x = s then x :: l else s :: x :: l
def layU (lt : α → α → Bool) (acc l : List α) : List α := l.foldl (insU lt) acc
end
/-! ### Segments -/
def ltS (x y : Int × Int) : Bool := decide (x.1 < y.1 ∨ x.1 = y.1 ∧ x.2 < y.2)
theorem stoS : STO ltS where
  irr x := by simp [ltS]
  tr h1 h2 := by simp only [ltS, decide_eq_true_eq] at *; omega
  tri h1 h2 := by simp only [ltS, decide_eq_false_iff_not] at *; exact Prod.ext (by omega) (by omega)
abbrev srtS (l : List (Int × Int)) : List (Int × Int) := srtB ltS l
def ltI (x y : Int) : Bool := decide (x < y)
/-- A below B. -/
def upE (s : Int × Int) : Int × Int := if s.1 < s.2 then s else (s.2, s.1)
def rev (s : Int × Int) : Int × Int := (s.2, s.1)
theorem rev_rev (s : Int × Int) : rev (rev s) = s := rfl
/-- All edges, rising. -/
def edS (L : List (Int × Int)) : List (Int × Int) := layU ltS [] (L.map upE)
/-- Those that the program takes. -/
def edT (L : List (Int × Int)) (s : Int × Int) : Bool := decide (s.1 < s.2) || decide (rev s ∉ L)
def edL (L : List (Int × Int)) : List (Int × Int) := (L.filter (edT L)).map upE
/-! ### The edges of faces -/
theorem nod_inj {α : Type} {l : List α} (hn : l.Nodup) {i j : Nat} {x : α} (h1 : l[i]? = some x) (h2 : l[j]? = some x) : i = j := by
  obtain ⟨a, b⟩ := List.getElem?_eq_some_iff.1 h1
  obtain ⟨c, d⟩ := List.getElem?_eq_some_iff.1 h2
  rcases Nat.lt_trichotomy i j with q | q | q
  · exact absurd (b.trans d.symm) (List.pairwise_iff_getElem.1 hn i j a c q)
  · exact q
  · exact absurd (d.trans b.symm) (List.pairwise_iff_getElem.1 hn j i c a q)
def allE (F : List (List Int)) : List (Int × Int) := F.flatMap edgesF
/-- The face on the left of an edge. -/
def leftF : List (List Int) → Int × Int → Int
  | [], _ => -1
  | f :: F, s => if s ∈ edgesF f then 0 else if leftF F s < 0 then -1 else leftF F s + 1
theorem leftF_neg {s : Int × Int} : ∀ {F : List (List Int)}, leftF F s < 0 → leftF F s = -1
  | [], _ => rfl
  | f :: F, h => by
    unfold leftF at h ⊢
    split at h
    · omega
    · split at h
      · rename_i h1 h2; rw [if_neg h1, if_pos h2]
      · rename_i h1 h2; omega
theorem lookE_app {s : Int × Int} {A B : List Ent} : lookE (A ++ B) s = if s ∈ A.map (·.1) then lookE A s else lookE B s := by
  unfold lookE
  rw [List.find?_append]
  by_cases h : s ∈ A.map (·.1)
  · rw [if_pos h]
    cases q : A.find? (fun q => decide (s = q.1)) with
    | none => exact absurd h (look_none.1 q)
    | some x => rfl
  · rw [if_neg h, look_none.2 h]; rfl
theorem lookE_row {s : Int × Int} {i : Int} : ∀ {l : List (Int × Int)}, s ∈ l → lookE (l.map fun t => (t, i)) s = i
  | [], h => by simp at h
  | t :: l, h => by
    unfold lookE
    by_cases q : s = t
    · simp [q]
    · have : s ∈ l := by simpa [q] using h
      have := lookE_row (i := i) this
      unfold lookE at this
      simp only [List.map_cons]
      rw [List.find?_cons_of_neg (by simpa using q)]
      exact this
theorem look_tab {s : Int × Int} : ∀ (F : List (List Int)) (i : Nat), lookE (tabF i F) s = if leftF F s < 0 then -1 else leftF F s + i
  | [], i => by simp [tabF, lookE, leftF]
  | f :: F, i => by
    rw [tabF, lookE_app]
    have e : ((edgesF f).map fun t => (t, (i : Int))).map (·.1) = edgesF f := by simp [Function.comp_def]
    rw [e]
    unfold leftF
    by_cases h : s ∈ edgesF f
    · rw [if_pos h, if_pos h, lookE_row h]; simp
    · rw [if_neg h, if_neg h, look_tab F (i + 1)]
      by_cases q : leftF F s < 0
      · simp [q]
      · rw [if_neg q, if_neg q, if_neg (by omega)]; push_cast; omega
theorem look_left (F : List (List Int)) (s : Int × Int) : lookE (tabF 0 F) s = leftF F s := by
  rw [look_tab]
  by_cases q : leftF F s < 0
  · rw [if_pos q]; exact (leftF_neg q).symm
  · rw [if_neg q]; simp
theorem leftF_mem {s : Int × Int} : ∀ {F : List (List Int)}, 0 ≤ leftF F s ↔ s ∈ allE F
  | [] => by simp [leftF, allE]
  | f :: F => by
    have ih := leftF_mem (s := s) (F := F)
    unfold allE at ih ⊢
    rw [List.flatMap_cons, List.mem_append]
    unfold leftF
    by_cases h : s ∈ edgesF f
    · simp [h]
    · by_cases q : leftF F s < 0
      · rw [if_neg h, if_pos q]
        constructor
        · intro r; omega
        · rintro (r | r)
          · exact absurd r h
          · have := ih.2 r; omega
      · rw [if_neg h, if_neg q]
        constructor
        · intro r; exact .inr (ih.1 (by omega))
        · intro r; omega
theorem leftF_get {s : Int × Int} : ∀ {F : List (List Int)} {i : Nat}, leftF F s = i → ∃ f, F[i]? = some f ∧ s ∈ edgesF f
  | [], i, h => by unfold leftF at h; omega
  | f :: F, i, h => by
    unfold leftF at h
    split at h
    · rename_i h1
      have : i = 0 := by omega
      subst this
      exact ⟨f, rfl, h1⟩
    · split at h
      · omega
      · cases i with
        | zero => omega
        | succ i =>
          obtain ⟨g, h1, h2⟩ := leftF_get (s := s) (F := F) (i := i) (by omega)
          exact ⟨g, by simpa using h1, h2⟩
theorem leftF_at {s : Int × Int} : ∀ {F : List (List Int)} {i : Nat} {f : List Int}, (allE F).Nodup → F[i]? = some f → s ∈ edgesF f → leftF F s = i
  | [], i, f, _, h, _ => by simp at h
  | g :: F, 0, f, hn, h, hs => by
    simp at h; subst h
    unfold leftF; rw [if_pos hs]; rfl
  | g :: F, i + 1, f, hn, h, hs => by
    have h : F[i]? = some f := by simpa using h
    unfold allE at hn
    rw [List.flatMap_cons, List.nodup_append] at hn
    have hm : s ∈ allE F := List.mem_flatMap.2 ⟨f, List.mem_of_getElem? h, hs⟩
    have hng : s ∉ edgesF g := fun q => hn.2.2 s q s hm rfl
    have := leftF_at (s := s) (F := F) hn.2.1 h hs
    unfold leftF
    rw [this, if_neg hng, if_neg (by omega)]
    push_cast; rfl
/-- Each but once, as they come. -/
def firsts (l : List Int) : List Int := l.foldl (fun acc x => if x ∈ acc then acc else acc ++ [x]) []
end Go.AI

/- Loops of rim edges, and what follows what. No claim by itself. -/
namespace Go.AI
abbrev Nx := List (Int × Int)
def keys (M : Nx) : List Int := M.map (·.1)
def without (M : Nx) (a : Int) : Nx := M.filter fun q => decide (q.1 ≠ a)
def at1 (M : Nx) (a : Int) : Option (Int × Int) := M.find? fun e => decide (e.1 = a)
def follow : Nat → Nx → Int → List Int × Nx
  | 0, M, _ => ([], M)
  | n + 1, M, a => match at1 M a with
    | none => ([], M)
    | some e => (a :: (follow n (without M a) e.2).1, (follow n (without M a) e.2).2)
def ringsF : List Int → Nx → List (List Int)
  | [], _ => []
  | a :: l, M => if (follow M.length M a).1 = [] then ringsF l M else (follow M.length M a).1 :: ringsF l (follow M.length M a).2
def rimE (L : List (Int × Int)) : Nx := L.filter fun s => decide (rev s ∉ L)
def srtI (l : List Int) : List Int := srtB ltI l
def rimsF (L : List (Int × Int)) : List (List Int) := ringsF (srtI (keys (rimE L))) (rimE L)
/-- From a place on, as far as it goes. -/
def goes (M : Nx) (a : Int) : List Int × Nx := follow M.length M a
/-! ### What a ring is -/
/-- The edges of a way. -/
def wayE : List Int → Int → List (Int × Int)
  | [], _ => []
  | [a], b => [(a, b)]
  | a :: c :: l, b => (a, c) :: wayE (c :: l) b
/-- Each place is gone to as often as it is left. -/
def Bal (M : Nx) : Prop := (keys M).Perm (M.map (·.2))
/-! ### Rims of faces -/
end Go.AI

/- Which faces hang together. No claim by itself. -/
namespace Go.AI
inductive Con (R : Nat → Nat → Prop) : Nat → Nat → Prop
  | refl (i : Nat) : Con R i i
  | step {i j k : Nat} (h : Con R i j) (r : R j k) : Con R i k
theorem Con.one {R : Nat → Nat → Prop} {i j : Nat} (r : R i j) : Con R i j := .step (.refl i) r
theorem Con.trans {R : Nat → Nat → Prop} {i j k : Nat} (h : Con R i j) (g : Con R j k) : Con R i k := by
  induction g with
  | refl => exact h
  | step _ r ih => exact .step ih r
theorem Con.symm {R : Nat → Nat → Prop} (hs : ∀ {i j}, R i j → R j i) {i j : Nat} (h : Con R i j) : Con R j i := by
  induction h with
  | refl => exact .refl _
  | step _ r ih => exact (Con.one (hs r)).trans ih
/-- A set that all neighbours of its own are in holds all that hangs together. -/
theorem Con.closed {R : Nat → Nat → Prop} {S : Nat → Prop} (hc : ∀ {i j}, S i → R i j → S j) {i j : Nat} (h : Con R i j) (hi : S i) : S j := by
  induction h with
  | refl => exact hi
  | step _ r ih => exact hc ih r
/-- On the way from one that is to one that is not there is a step out. -/
theorem Con.out {R : Nat → Nat → Prop} {S : Nat → Prop} {i j : Nat} (h : Con R i j) (hi : S i) (hj : ¬ S j) : ∃ u v, Con R i u ∧ R u v ∧ S u ∧ ¬ S v := by
  induction h with
  | refl => exact absurd hi hj
  | @step u v g r ih =>
    by_cases c : S u
    · exact ⟨u, v, g, r, c, hj⟩
    · exact ih c
theorem Con.map {R S : Nat → Nat → Prop} {f : Nat → Nat} (hf : ∀ {i j}, R i j → Con S (f i) (f j)) {i j : Nat} (h : Con R i j) : Con S (f i) (f j) := by
  induction h with
  | refl => exact .refl _
  | step _ r ih => exact ih.trans (hf r)
def Adj (F : List (List Int)) (i j : Nat) : Prop := ∃ f g s, F[i]? = some f ∧ F[j]? = some g ∧ s ∈ edgesF f ∧ rev s ∈ edgesF g
theorem Adj.symm {F : List (List Int)} {i j : Nat} (h : Adj F i j) : Adj F j i := by
  obtain ⟨f, g, s, h1, h2, h3, h4⟩ := h
  exact ⟨g, f, rev s, h2, h1, h4, by rw [rev_rev]; exact h3⟩
abbrev Hang (F : List (List Int)) : Nat → Nat → Prop := Con (Adj F)
theorem Hang.symm {F : List (List Int)} {i j : Nat} (h : Hang F i j) : Hang F j i := Con.symm (fun r => r.symm) h
theorem Hang.lt {F : List (List Int)} {i j : Nat} (h : Hang F i j) (hi : i < F.length) : j < F.length :=
  Con.closed (S := fun k => k < F.length) (fun _ r => by obtain ⟨_, _, _, _, h2, _⟩ := r; exact (List.getElem?_eq_some_iff.1 h2).1) h hi
/-! ### The numbers of parts -/
/-- One more than the greatest. -/
def topI (l : List Int) : Int := l.foldl (fun m x => max m (x + 1)) 0
theorem topI_snoc (l : List Int) (x : Int) : topI (l ++ [x]) = max (topI l) (x + 1) := by unfold topI; rw [List.foldl_append]; rfl
/-- Numbered as they come. -/
def Numb (P : List Int) : Prop := ∀ (i : Nat) (x : Int), P[i]? = some x → x ∈ P.take i ∨ x = topI (P.take i)
structure IsParts (F : List (List Int)) (P : List Int) : Prop where
  len : P.length = F.length
  eq : ∀ {i j : Nat} {x y : Int}, P[i]? = some x → P[j]? = some y → (x = y ↔ Hang F i j)
  num : Numb P
theorem take_eq_get {α : Type} {P Q : List α} {i j : Nat} (h : P.take i = Q.take i) (hj : j < i) : P[j]? = Q[j]? := by
  have := congrArg (fun l => l[j]?) h
  simpa [List.getElem?_take, hj] using this
theorem numb_eq {P Q : List Int} (hl : P.length = Q.length) (hp : ∀ {i j : Nat} {x y u v : Int}, P[i]? = some x → P[j]? = some y → Q[i]? = some u → Q[j]? = some v → (x = y ↔ u = v)) (h1 : Numb P) (h2 : Numb Q) : P = Q := by
  have key : ∀ i, P.take i = Q.take i := by
    intro i
    induction i with
    | zero => simp
    | succ i ih =>
      rw [List.take_add_one, List.take_add_one, ih]
      congr 1
      by_cases hi : i < P.length
      · have hq : i < Q.length := by omega
        have gp := List.getElem?_eq_getElem hi
        have gq := List.getElem?_eq_getElem hq
        rw [gp, gq]
        congr 1
        rcases h1 i _ gp with a | a
        · obtain ⟨j, hj⟩ := List.getElem?_of_mem a
          have hji : j < i := by
            have := (List.getElem?_eq_some_iff.1 hj).1
            simp at this; omega
          have hj1 : P[j]? = some P[i] := by rwa [List.getElem?_take, if_pos hji] at hj
          have hj2 : Q[j]? = some P[i] := by rw [← take_eq_get ih hji]; exact hj1
          have := (hp hj1 gp hj2 gq).1 rfl
          rw [this]
        · rcases h2 i _ gq with b | b
          · obtain ⟨j, hj⟩ := List.getElem?_of_mem b
            have hji : j < i := by
              have := (List.getElem?_eq_some_iff.1 hj).1
              simp at this; omega
            have hj1 : Q[j]? = some Q[i] := by rwa [List.getElem?_take, if_pos hji] at hj
            have hj2 : P[j]? = some Q[i] := by rw [take_eq_get ih hji]; exact hj1
            have := (hp hj2 gp hj1 gq).2 rfl
            rw [this]
          · rw [a, b, ih]
      · rw [List.getElem?_eq_none (by omega), List.getElem?_eq_none (by omega)]
  have := key P.length
  rwa [List.take_length, hl, List.take_length] at this
theorem IsParts.unique {F : List (List Int)} {P Q : List Int} (h : IsParts F P) (k : IsParts F Q) : P = Q :=
  numb_eq (h.len.trans k.len.symm) (fun a b c d => (h.eq a b).trans (k.eq c d).symm) h.num k.num
/-! ### Spread from a face -/
structure PInv (F : List (List Int)) (m : Nat) (out : List Int) (n : Int) : Prop where
  len : out.length = F.length
  n0 : 0 ≤ n
  lab : ∀ {v : Nat} {x : Int}, out[v]? = some x → (0 ≤ x ↔ ∃ j, j < m ∧ Hang F j v)
  neg : ∀ {v : Nat} {x : Int}, out[v]? = some x → x < 0 → x = -1
  eq : ∀ {u v : Nat} {x y : Int}, out[u]? = some x → out[v]? = some y → 0 ≤ x → 0 ≤ y → (x = y ↔ Hang F u v)
  num : ∀ {i : Nat} {x : Int}, i < m → out[i]? = some x → x ∈ out.take i ∨ x = topI (out.take i)
  top : topI (out.take m) = n
  lt : ∀ {v : Nat} {x : Int}, out[v]? = some x → x < n
theorem PInv.start (F : List (List Int)) : PInv F 0 (List.replicate F.length (-1)) 0 where
  len := by simp
  n0 := by omega
  lab h := by
    have := List.mem_of_getElem? h
    rw [List.mem_replicate] at this
    constructor
    · intro q; omega
    · rintro ⟨j, hj, _⟩; omega
  neg h _ := by
    have := List.mem_of_getElem? h
    rw [List.mem_replicate] at this
    exact this.2
  eq h _ q _ := by
    have := List.mem_of_getElem? h
    rw [List.mem_replicate] at this
    omega
  num h := by omega
  top := by simp [topI]
  lt h := by
    have := List.mem_of_getElem? h
    rw [List.mem_replicate] at this
    omega
theorem PInv.skip {F : List (List Int)} {m : Nat} {out : List Int} {n x : Int} (h : PInv F m out n) (hx : out[m]? = some x) (h0 : 0 ≤ x) : PInv F (m + 1) out n := by
  obtain ⟨j, hj, hc⟩ := (h.lab hx).1 h0
  have hjl : j < out.length := by have := (List.getElem?_eq_some_iff.1 hx).1; omega
  have gj := List.getElem?_eq_getElem hjl
  have hj0 : 0 ≤ out[j] := (h.lab gj).2 ⟨j, hj, .refl j⟩
  have he := (h.eq gj hx hj0 h0).2 hc
  have hmem : x ∈ out.take m := by rw [← he]; exact List.mem_of_getElem? (i := j) (by rw [List.getElem?_take, if_pos hj]; exact gj)
  refine ⟨h.len, h.n0, fun hv => ?_, h.neg, h.eq, fun {i y} hi hy => ?_, ?_, h.lt⟩
  · rw [h.lab hv]
    constructor
    · rintro ⟨k, hk, c⟩; exact ⟨k, by omega, c⟩
    · rintro ⟨k, hk, c⟩
      by_cases q : k = m
      · subst q; exact ⟨j, hj, hc.trans c⟩
      · exact ⟨k, by omega, c⟩
  · by_cases q : i = m
    · subst q; rw [hx] at hy; cases hy; exact .inl hmem
    · exact h.num (by omega) hy
  · rw [List.take_add_one, hx]
    show topI (out.take m ++ [x]) = n
    rw [topI_snoc, h.top]
    have := h.lt hx
    omega
/-- All that hangs together with a face has its number. -/
structure Spread (F : List (List Int)) (m : Nat) (n : Int) (out out' : List Int) : Prop where
  len : out'.length = out.length
  at' : ∀ {v : Nat} {x : Int}, out'[v]? = some x → (Hang F m v ∧ x = n) ∨ (¬ Hang F m v ∧ out[v]? = some x)
theorem PInv.next {F : List (List Int)} {m : Nat} {out out' : List Int} {n : Int} (h : PInv F m out n) (hx : out[m]? = some (-1)) (s : Spread F m n out out') : PInv F (m + 1) out' (n + 1) := by
  have hno : ∀ j, j < m → ¬ Hang F j m := fun j hj c => by
    have := (h.lab hx).2 ⟨j, hj, c⟩
    omega
  have hm : m < out'.length := by rw [s.len]; exact (List.getElem?_eq_some_iff.1 hx).1
  have hpre : out'.take m = out.take m := by
    apply List.ext_getElem?
    intro i
    rw [List.getElem?_take, List.getElem?_take]
    by_cases hi : i < m
    · rw [if_pos hi, if_pos hi]
      have hil : i < out'.length := by omega
      have gi := List.getElem?_eq_getElem hil
      rcases s.at' gi with ⟨q, _⟩ | ⟨_, q⟩
      · exact absurd q.symm (hno i hi)
      · rw [gi, q]
    · rw [if_neg hi, if_neg hi]
  have gm : out'[m]? = some n := by
    have gi := List.getElem?_eq_getElem hm
    rcases s.at' gi with ⟨_, q⟩ | ⟨q, _⟩
    · rw [gi, q]
    · exact absurd (.refl m) q
  have hn0 := h.n0
  refine ⟨s.len.trans h.len, by omega, fun {v x} hv => ?_, fun {v x} hv hx0 => ?_, fun {u v x y} hu hv hx0 hy0 => ?_, fun {i y} hi hy => ?_, ?_, fun {v x} hv => ?_⟩
  · rcases s.at' hv with ⟨q, r⟩ | ⟨q, r⟩
    · exact ⟨fun _ => ⟨m, by omega, q⟩, fun _ => by omega⟩
    · rw [h.lab r]
      constructor
      · rintro ⟨k, hk, c⟩; exact ⟨k, by omega, c⟩
      · rintro ⟨k, hk, c⟩
        by_cases e : k = m
        · subst e; exact absurd c q
        · exact ⟨k, by omega, c⟩
  · rcases s.at' hv with ⟨q, r⟩ | ⟨q, r⟩
    · omega
    · exact h.neg r hx0
  · rcases s.at' hu with ⟨q, r⟩ | ⟨q, r⟩ <;> rcases s.at' hv with ⟨q', r'⟩ | ⟨q', r'⟩
    · exact ⟨fun _ => q.symm.trans q', fun _ => by rw [r, r']⟩
    · have := h.lt r'
      exact ⟨fun e => by omega, fun c => absurd (q.trans c) q'⟩
    · have := h.lt r
      exact ⟨fun e => by omega, fun c => absurd (q'.trans c.symm) q⟩
    · exact h.eq r r' hx0 hy0
  · by_cases e : i = m
    · subst e
      rw [gm] at hy; cases hy
      rw [hpre, h.top]; exact .inr rfl
    · have hi' : i < m := by omega
      have et : out'.take i = out.take i := by
        have := congrArg (List.take i) hpre
        rwa [List.take_take, List.take_take, Nat.min_eq_left (by omega)] at this
      rw [et]
      exact h.num hi' (by rw [← take_eq_get hpre hi']; exact hy)
  · rw [List.take_add_one, gm, hpre]
    show topI (out.take m ++ [n]) = (n + 1)
    rw [topI_snoc, h.top]; omega
  · rcases s.at' hv with ⟨q, r⟩ | ⟨q, r⟩
    · omega
    · have := h.lt r; omega
theorem PInv.done {F : List (List Int)} {out : List Int} {n : Int} (h : PInv F F.length out n) : IsParts F out where
  len := h.len
  eq hi hj := by
    have li := (List.getElem?_eq_some_iff.1 hi).1
    have lj := (List.getElem?_eq_some_iff.1 hj).1
    have := h.len
    exact h.eq hi hj ((h.lab hi).2 ⟨_, by omega, .refl _⟩) ((h.lab hj).2 ⟨_, by omega, .refl _⟩)
  num i x hx := by
    have li := (List.getElem?_eq_some_iff.1 hx).1
    have := h.len
    exact h.num (by omega) hx
/-- While it spreads. -/
structure SInv (F : List (List Int)) (m : Nat) (n : Int) (out0 out : List Int) (todo : List Nat) : Prop where
  len : out.length = out0.length
  mem : ∀ {v : Nat} {x : Int}, out[v]? = some x → out0[v]? = some x ∨ (x = n ∧ Hang F m v)
  keep : ∀ {v : Nat} {x : Int}, out0[v]? = some x → 0 ≤ x → out[v]? = some x
  self : out[m]? = some n
  td : ∀ {v : Nat}, v ∈ todo → out[v]? = some n
  clo : ∀ {v w : Nat}, out[v]? = some n → v ∉ todo → Adj F v w → ∃ y, out[w]? = some y ∧ 0 ≤ y
theorem SInv.done {F : List (List Int)} {m : Nat} {n : Int} {out0 out : List Int} (h : PInv F m out0 n) (_hx : out0[m]? = some (-1)) (s : SInv F m n out0 out []) : Spread F m n out0 out := by
  have hall : ∀ {v : Nat}, Hang F m v → out[v]? = some n := fun {v} c =>
    Con.closed (S := fun k => out[k]? = some n) (fun {i j} hi r => by
      obtain ⟨y, hy, y0⟩ := s.clo hi (by simp) r
      rcases s.mem hy with q | q
      · obtain ⟨k, hk, ck⟩ := (h.lab q).1 y0
        have c2 : Hang F k i := ck.trans (Con.one r.symm)
        have il : i < out0.length := by have := (List.getElem?_eq_some_iff.1 hi).1; rw [s.len] at this; exact this
        have gi := List.getElem?_eq_getElem il
        have i0 := (h.lab gi).2 ⟨k, hk, c2⟩
        have := s.keep gi i0
        rw [hi] at this
        have e : n = out0[i] := Option.some.inj this
        have := h.lt gi
        omega
      · rw [hy, q.1]) c s.self
  refine ⟨s.len, fun {v x} hv => ?_⟩
  by_cases c : Hang F m v
  · have := hall c
    rw [hv] at this
    exact .inl ⟨c, Option.some.inj this⟩
  · rcases s.mem hv with q | q
    · exact .inr ⟨c, q⟩
    · exact absurd q.2 c
/-! ### The least face of a part -/
open Classical in
noncomputable def mn (F : List (List Int)) (i : Nat) : Nat := ((List.range (i + 1)).find? fun j => decide (Hang F j i)).getD i
theorem mn_some (F : List (List Int)) (i : Nat) : Hang F (mn F i) i ∧ (∀ j, Hang F j i → mn F i ≤ j) := by
  classical
  unfold mn
  cases h : (List.range (i + 1)).find? (fun j => decide (Hang F j i)) with
  | none =>
    have := List.find?_eq_none.1 h i (by simp)
    exact absurd (Con.refl i) (by simpa using this)
  | some m =>
    rw [List.find?_range_eq_some] at h
    obtain ⟨h1, h2, h3⟩ := h
    refine ⟨by simpa using h1, fun j hj => ?_⟩
    simp only [Option.getD_some]
    rcases Nat.lt_or_ge j m with q | q
    · have := h3 j q
      simp at this
      exact absurd hj this
    · exact q
theorem mn_hang (F : List (List Int)) (i : Nat) : Hang F (mn F i) i := (mn_some F i).1
theorem mn_le {F : List (List Int)} {i j : Nat} (h : Hang F j i) : mn F i ≤ j := (mn_some F i).2 j h
theorem mn_self (F : List (List Int)) (i : Nat) : mn F i ≤ i := mn_le (.refl i)
theorem mn_eq {F : List (List Int)} {i j : Nat} : mn F i = mn F j ↔ Hang F i j := by
  constructor
  · intro h
    have := mn_hang F i
    rw [h] at this
    exact this.symm.trans (mn_hang F j)
  · intro h
    have h1 := mn_le ((mn_hang F i).trans h)
    have h2 := mn_le ((mn_hang F j).trans h.symm)
    omega
theorem mn_mn (F : List (List Int)) (i : Nat) : mn F (mn F i) = mn F i := mn_eq.2 (mn_hang F i)
/-- How many parts begin ahead of a face. -/
noncomputable def cntR (F : List (List Int)) (i : Nat) : Nat := ((List.range i).filter fun j => decide (mn F j = j)).length
theorem cntR_succ (F : List (List Int)) (i : Nat) : cntR F (i + 1) = cntR F i + if mn F i = i then 1 else 0 := by
  unfold cntR
  rw [List.range_succ, List.filter_append, List.length_append]
  by_cases h : mn F i = i <;> simp [h]
theorem cntR_mono (F : List (List Int)) {i j : Nat} (h : i ≤ j) : cntR F i ≤ cntR F j := by
  induction h with
  | refl => exact Nat.le_refl _
  | step _ ih => rw [cntR_succ]; omega
theorem cntR_lt {F : List (List Int)} {i j : Nat} (h : i < j) (hi : mn F i = i) : cntR F i < cntR F j := by
  have := cntR_mono F (show i + 1 ≤ j from h)
  rw [cntR_succ, if_pos hi] at this
  omega
noncomputable def partsF (F : List (List Int)) : List Int := (List.range F.length).map fun i => (cntR F (mn F i) : Int)
theorem partsF_get {F : List (List Int)} {i : Nat} {x : Int} : (partsF F)[i]? = some x ↔ i < F.length ∧ x = cntR F (mn F i) := by
  unfold partsF
  rw [List.getElem?_map]
  by_cases h : i < F.length
  · rw [List.getElem?_range h]
    simp only [Option.map_some, Option.some.injEq, h, true_and]
    exact eq_comm
  · rw [List.getElem?_eq_none (by simp; omega)]
    simp [h]
theorem parts_top (F : List (List Int)) : ∀ i, i ≤ F.length → topI ((partsF F).take i) = cntR F i
  | 0, _ => by simp [topI, cntR]
  | i + 1, h => by
    have ih := parts_top F i (by omega)
    have g : (partsF F)[i]? = some (cntR F (mn F i) : Int) := partsF_get.2 ⟨by omega, rfl⟩
    rw [List.take_add_one, g]
    show topI ((partsF F).take i ++ [(cntR F (mn F i) : Int)]) = _
    rw [topI_snoc, ih, cntR_succ]
    by_cases c : mn F i = i
    · rw [c, if_pos rfl]; omega
    · have h1 := mn_self F i
      have h2 := cntR_lt (F := F) (show mn F i < i by omega) (mn_mn F i)
      rw [if_neg c]; omega
theorem parts_is (F : List (List Int)) : IsParts F (partsF F) where
  len := by simp [partsF]
  eq {i j x y} hi hj := by
    obtain ⟨_, rfl⟩ := partsF_get.1 hi
    obtain ⟨_, rfl⟩ := partsF_get.1 hj
    rw [← mn_eq]
    constructor
    · intro h
      rcases Nat.lt_trichotomy (mn F i) (mn F j) with q | q | q
      · have := cntR_lt (F := F) q (mn_mn F i); omega
      · exact q
      · have := cntR_lt (F := F) q (mn_mn F j); omega
    · intro h; rw [h]
  num i x hx := by
    obtain ⟨hl, rfl⟩ := partsF_get.1 hx
    by_cases c : mn F i = i
    · right; rw [parts_top F i (by omega), c]
    · left
      have h1 := mn_self F i
      refine List.mem_of_getElem? (i := mn F i) ?_
      rw [List.getElem?_take, if_pos (by omega)]
      exact partsF_get.2 ⟨by omega, by rw [mn_mn]⟩
theorem IsParts.is {F : List (List Int)} {P : List Int} (h : IsParts F P) : P = partsF F := h.unique (parts_is F)
/-! ### Spread till nothing changes -/
structure MInv (F : List (List Int)) (out : List Int) : Prop where
  len : out.length = F.length
  at' : ∀ {i : Nat} {x : Int}, out[i]? = some x → (mn F i : Int) ≤ x ∧ x ≤ i ∧ Hang F x.toNat i
def goodM (F : List (List Int)) (out : List Int) (i : Nat) : Prop := out[i]? = some (mn F i : Int)
theorem MInv.start (F : List (List Int)) : MInv F ((List.range F.length).map fun (i : Nat) => (i : Int)) where
  len := by simp
  at' {i x} h := by
    rw [List.getElem?_map] at h
    by_cases c : i < F.length
    · rw [List.getElem?_range c] at h
      cases h
      have := mn_self F i
      exact ⟨by simp only; omega, by simp only; omega, by simpa using Con.refl i⟩
    · rw [List.getElem?_eq_none (by simp; omega)] at h; cases h
theorem MInv.set {F : List (List Int)} {out : List Int} (h : MInv F out) {i : Nat} {x : Int} (hx : (mn F i : Int) ≤ x ∧ x ≤ i ∧ Hang F x.toNat i) : MInv F (out.set i x) where
  len := by simp [h.len]
  at' {j y} hy := by
    rw [List.getElem?_set] at hy
    split at hy
    · rename_i e
      split at hy
      · cases hy; subst e; exact hx
      · cases hy
    · exact h.at' hy
/-- All pairs of neighbours have met since. -/
structure Met (F : List (List Int)) (out0 out : List Int) (D : Nat → Nat → Prop) : Prop where
  inv : MInv F out
  keep : ∀ k, goodM F out0 k → goodM F out k
  met : ∀ {i j}, D i j → Adj F i j → goodM F out0 i → goodM F out j
open Classical in
noncomputable def badN (F : List (List Int)) (out : List Int) : Nat := ((List.range F.length).filter fun i => decide (¬ goodM F out i)).length
theorem Met.less {F : List (List Int)} {out0 out : List Int} {D : Nat → Nat → Prop} (h0 : MInv F out0) (h : Met F out0 out D) (hD : ∀ i j, i < F.length → j < F.length → D i j) : badN F out = 0 ∨ badN F out < badN F out0 := by
  classical
  by_cases c : ∃ b, b < F.length ∧ ¬ goodM F out0 b
  · right
    obtain ⟨b, hb, hn⟩ := c
    have hgm : goodM F out0 (mn F b) := by
      have hl : mn F b < out0.length := by rw [h0.len]; have := mn_self F b; omega
      have g := List.getElem?_eq_getElem hl
      obtain ⟨k1, k2, _⟩ := h0.at' g
      unfold goodM
      rw [g]; congr 1
      rw [mn_mn] at k1 ⊢
      omega
    obtain ⟨u, v, h1, h2, h3, h4⟩ := (mn_hang F b).out (S := goodM F out0) hgm hn
    have hml : mn F b < F.length := by have := mn_self F b; omega
    have ul := Hang.lt h1 hml
    have vl := Hang.lt (Con.one h2) ul
    have := h.met (hD u v ul vl) h2 h3
    exact Go.AI.filter_lt _ _ v _ (by simpa using vl) (by simpa using h4) (by simpa using this) (fun x hx => by simp at hx ⊢; exact fun q => hx (h.keep x q))
  · left
    unfold badN
    rw [List.length_eq_zero_iff, List.filter_eq_nil_iff]
    intro a ha
    have ha : a < F.length := by simpa using ha
    have : goodM F out0 a := Classical.byContradiction fun q => c ⟨a, ha, q⟩
    simpa using h.keep a this
end Go.AI

/- Faces turned, shared out, joined. No claim by itself. -/
namespace Go.AI
/-! ### Faces in another order, from other places on -/
theorem edgesF_rot (a b : List Int) : (edgesF (b ++ a)).Perm (edgesF (a ++ b)) := by
  have key : ∀ (x : Int) (l : List Int), (edgesF (l ++ [x])).Perm (edgesF (x :: l)) := by
    intro x l
    cases l with
    | nil => exact List.Perm.refl _
    | cons y l =>
      have e1 : edgesF (x :: y :: l) = (x, y) :: (y :: l).zip (l ++ [x]) := by unfold edgesF; simp
      have e2 : edgesF (y :: l ++ [x]) = (y :: l).zip (l ++ [x]) ++ [(x, y)] := by
        have e3 : edgesF (y :: l ++ [x]) = (y :: l ++ [x]).zip (l ++ [x] ++ [y]) := by unfold edgesF; simp
        rw [e3, List.zip_append (by simp)]
        rfl
      rw [e1, e2]
      exact List.perm_append_singleton _ _
  induction a generalizing b with
  | nil => simp
  | cons x a ih =>
    have h1 := ih (b ++ [x])
    have h2 := key x (a ++ b)
    rw [List.append_assoc] at h1
    refine h1.trans ?_
    rw [← List.append_assoc]
    exact h2
/-- The faces of G are those of F, from the k-th on, each turned. -/
structure FRot (k : Nat) (F G : List (List Int)) : Prop where
  len : G.length = F.length
  at' : ∀ {i : Nat} {g : List Int}, G[i]? = some g → ∃ a b, F[(i + k) % F.length]? = some (a ++ b) ∧ g = b ++ a
theorem mod_back {i k n : Nat} (hi : i < n) (hk : k < n) : ((i + n - k) % n + k) % n = i := by
  rcases Nat.lt_or_ge i k with q | q
  · rw [Nat.mod_eq_of_lt (show i + n - k < n by omega)]
    rw [show i + n - k + k = i + n by omega, Nat.add_mod_right, Nat.mod_eq_of_lt hi]
  · rw [show i + n - k = (i - k) + n by omega, Nat.add_mod_right, Nat.mod_eq_of_lt (show i - k < n by omega)]
    rw [show i - k + k = i by omega, Nat.mod_eq_of_lt hi]
section
variable {k : Nat} {F G : List (List Int)}
theorem FRot.back (h : FRot k F G) (hk : k < F.length) {i : Nat} {f : List Int} (hf : F[i]? = some f) : ∃ a b, f = a ++ b ∧ G[(i + F.length - k) % F.length]? = some (b ++ a) := by
  have hi : i < F.length := (List.getElem?_eq_some_iff.1 hf).1
  have hu : (i + F.length - k) % F.length < G.length := by rw [h.len]; exact Nat.mod_lt _ (by omega)
  obtain ⟨a, b, h1, h2⟩ := h.at' (List.getElem?_eq_getElem hu)
  rw [mod_back hi hk, hf] at h1
  exact ⟨a, b, Option.some.inj h1, by rw [List.getElem?_eq_getElem hu, h2]⟩
theorem FRot.mem (h : FRot k F G) (hk : k < F.length) {s : Int × Int} : s ∈ allE G ↔ s ∈ allE F := by
  unfold allE
  rw [List.mem_flatMap, List.mem_flatMap]
  constructor
  · rintro ⟨g, hg, hs⟩
    obtain ⟨i, hi⟩ := List.getElem?_of_mem hg
    obtain ⟨a, b, h1, rfl⟩ := h.at' hi
    exact ⟨_, List.mem_of_getElem? h1, (edgesF_rot a b).mem_iff.1 hs⟩
  · rintro ⟨f, hf, hs⟩
    obtain ⟨i, hi⟩ := List.getElem?_of_mem hf
    obtain ⟨a, b, rfl, h1⟩ := h.back hk hi
    exact ⟨_, List.mem_of_getElem? h1, (edgesF_rot a b).mem_iff.2 hs⟩
/-- The same faces, one by one: as a list turned. -/
theorem FRot.rows (h : FRot k F G) (hk : k < F.length) : ∀ {P : List Int → Prop}, (∀ a b, P (a ++ b) → P (b ++ a)) → ((∀ f, f ∈ F → P f) ↔ ∀ g, g ∈ G → P g) := by
  intro P hP
  constructor
  · intro q g hg
    obtain ⟨i, hi⟩ := List.getElem?_of_mem hg
    obtain ⟨a, b, h1, rfl⟩ := h.at' hi
    exact hP a b (q _ (List.mem_of_getElem? h1))
  · intro q f hf
    obtain ⟨i, hi⟩ := List.getElem?_of_mem hf
    obtain ⟨a, b, rfl, h1⟩ := h.back hk hi
    exact hP b a (q _ (List.mem_of_getElem? h1))
theorem flat_perm {α : Type} : ∀ {A B : List (List α)}, A.length = B.length → (∀ (i : Nat) (a b : List α), A[i]? = some a → B[i]? = some b → a.Perm b) → A.flatten.Perm B.flatten
  | [], [], _, _ => List.Perm.refl _
  | a :: A, b :: B, hl, h => by
    rw [List.flatten_cons, List.flatten_cons]
    exact (h 0 a b rfl rfl).append (flat_perm (by simpa using hl) fun i x y hx hy => h (i + 1) x y (by simpa using hx) (by simpa using hy))
  | [], b :: B, hl, _ => by simp at hl
  | a :: A, [], hl, _ => by simp at hl
theorem FRot.turned {α : Type} (h : FRot k F G) (hk : k < F.length) (f : List Int → List α) (hf : ∀ a b, (f (b ++ a)).Perm (f (a ++ b))) : (G.map f).flatten.Perm (F.map f).flatten := by
  have h1 : (G.map f).flatten.Perm ((F.drop k ++ F.take k).map f).flatten := by
    refine flat_perm (by simp [h.len]; omega) fun i a b ha hb => ?_
    rw [List.getElem?_map] at ha hb
    have hi : i < G.length := by
      rcases Nat.lt_or_ge i G.length with q | q
      · exact q
      · rw [List.getElem?_eq_none q] at ha; cases ha
    obtain ⟨x, y, e1, e2⟩ := h.at' (List.getElem?_eq_getElem hi)
    have hg : (F.drop k ++ F.take k)[i]? = F[(i + k) % F.length]? := by
      have hl := h.len
      rcases Nat.lt_or_ge (i + k) F.length with q | q
      · rw [Nat.mod_eq_of_lt q, List.getElem?_append_left (by simp; omega), List.getElem?_drop, Nat.add_comm]
      · rw [Nat.mod_eq_sub_mod q, Nat.mod_eq_of_lt (by omega), List.getElem?_append_right (by simp; omega), List.getElem?_take, if_pos (by simp; omega)]
        congr 1; simp; omega
    rw [List.getElem?_eq_getElem hi, e2] at ha
    rw [hg, e1] at hb
    cases ha; cases hb
    exact hf x y
  have h2 : ((F.drop k ++ F.take k).map f).flatten.Perm ((F.take k ++ F.drop k).map f).flatten := by
    rw [List.map_append, List.map_append, List.flatten_append, List.flatten_append]
    exact List.perm_append_comm
  rw [List.take_append_drop] at h2
  exact h1.trans h2
theorem FRot.flat (h : FRot k F G) (hk : k < F.length) : G.flatten.Perm F.flatten := by
  have := h.turned hk id (fun a b => List.perm_append_comm)
  simpa using this
theorem FRot.adj (h : FRot k F G) (_hk : k < F.length) {u v : Nat} (a : Adj G u v) : Adj F ((u + k) % F.length) ((v + k) % F.length) := by
  obtain ⟨f, g, s, h1, h2, h3, h4⟩ := a
  obtain ⟨a, b, e1, rfl⟩ := h.at' h1
  obtain ⟨c, d, e2, rfl⟩ := h.at' h2
  exact ⟨_, _, s, e1, e2, (edgesF_rot a b).mem_iff.1 h3, (edgesF_rot c d).mem_iff.1 h4⟩
theorem FRot.adjB (h : FRot k F G) (hk : k < F.length) {i j : Nat} (a : Adj F i j) : Adj G ((i + F.length - k) % F.length) ((j + F.length - k) % F.length) := by
  obtain ⟨f, g, s, h1, h2, h3, h4⟩ := a
  obtain ⟨a, b, rfl, e1⟩ := h.back hk h1
  obtain ⟨c, d, rfl, e2⟩ := h.back hk h2
  exact ⟨_, _, s, e1, e2, (edgesF_rot a b).mem_iff.2 h3, (edgesF_rot c d).mem_iff.2 h4⟩
theorem FRot.hang (h : FRot k F G) (hk : k < F.length) {i j : Nat} (hi : i < F.length) (hj : j < F.length) : Hang F i j ↔ Hang G ((i + F.length - k) % F.length) ((j + F.length - k) % F.length) := by
  constructor
  · exact fun c => Con.map (f := fun i => (i + F.length - k) % F.length) (fun r => Con.one (h.adjB hk r)) c
  · intro c
    have := Con.map (S := Adj F) (f := fun u => (u + k) % F.length) (fun r => Con.one (h.adj hk r)) c
    rw [mod_back hi hk, mod_back hj hk] at this
    exact this
end
/-! ### Faces without those of one part -/
/-- Places of those that stay. -/
def idxP (p : Nat → Bool) (n : Nat) : List Nat := (List.range n).filter p
/-! ### Faces of some places, and others of others -/
def shiftF (n : Int) (G : List (List Int)) : List (List Int) := G.map fun g => g.map (· + n)
section
variable {n : Int} {F G : List (List Int)}
end
end Go.AI
