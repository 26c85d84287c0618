/- Literals, and rows that grow, once more. No claim by itself. -/
import Derived.Test.YtcepchipgjpkhaaEE
namespace Go.AI
section
variable {α : Type} {e : Nat} {enc : α -> List AV}
theorem zi1 (hn : ∀ x, (enc x).length = e) {H : Heap} {o : Nat} {xs : List α} (hg : H.get o = some (.cells (xs.flatMap enc))) : Rw e enc H (.slc o 0 xs.length e xs.length true) xs := by
 refine ⟨.inr ⟨o, 0, xs.length, true, rfl, ?_⟩, by simp [zo2]⟩
 unfold Heap.readSeg
 rw [za3 hg]
 exact zo7 (zg6 hn xs)
theorem zp3 {S : List Nat} {H H1 H2 : Heap} (hw : H.Wf) (h : Ext H H1) (k : Fr S H1 H2) (hs : ∀ p, p ∈ S -> H.next <= p) : Ext H H2 :=
 ⟨k.floor.trans h.floor, Nat.le_trans h.next k.next, fun o x q => k.keep o x (fun r => by have := hs o r; have := hw.lt q; omega) (h.keep o x q), k.wf⟩
end
end Go.AI
namespace Go.AI
structure STO {α : Type} (lt : α -> α -> Bool) : Prop where
 irr : ∀ x, lt x x = false
 tr : ∀ {x y z}, lt x y = true -> lt y z = true -> lt x z = true
 tri : ∀ {x y}, lt x y = false -> lt y x = false -> x = y
section
variable {α : Type} {lt : α -> α -> Bool}
abbrev Rise (lt : α -> α -> Bool) (l : List α) : Prop := l.Pairwise fun x y => lt x y = true
theorem STO.ne (h : STO lt) {x y : α} (q : lt x y = true) : x ≠ y := fun e => by rw [e, h.irr] at q; cases q
theorem STO.asym (h : STO lt) {x y : α} (q : lt x y = true) : lt y x = false := by
 cases r : lt y x with
 | false => rfl
 | true => have := h.tr q r; rw [h.irr] at this; cases this
theorem zbd2 (h : STO lt) : ∀ {a b : List α}, Rise lt a -> Rise lt b -> (∀ x, x ∈ a ↔ x ∈ b) -> a = b
 | [], [], _, _, _ => rfl
 | [], y :: b, _, _, e => by have := (e y).2 (by simp); simp at this
 | x :: a, [], _, _, e => by have := (e x).1 (by simp); simp at this
 | x :: a, y :: b, ha, hb, e => by
  have ha' := List.pairwise_cons.1 ha
  have hb' := List.pairwise_cons.1 hb
  have hxy : x = y := by
   rcases List.mem_cons.1 ((e x).1 (by simp)) with q | q
   ·exact q
   ·rcases List.mem_cons.1 ((e y).2 (by simp)) with r | r
    ·exact r.symm
    ·have := h.asym (hb'.1 x q); rw [ha'.1 y r] at this; cases this
  subst hxy
  have : a = b := zbd2 h ha'.2 hb'.2 fun z => by
   constructor
   ·intro hz
    rcases List.mem_cons.1 ((e z).1 (List.mem_cons_of_mem _ hz)) with q | q
    ·exact absurd q.symm (h.ne (ha'.1 z hz))
    ·exact q
   ·intro hz
    rcases List.mem_cons.1 ((e z).2 (List.mem_cons_of_mem _ hz)) with q | q
    ·exact absurd q.symm (h.ne (hb'.1 z hz))
    ·exact q
  rw [this]
def srtB (lt : α -> α -> Bool) (l : List α) : List α := l.mergeSort fun x y => !lt y x
theorem zac6 (l : List α) : (srtB lt l).Perm l := List.mergeSort_perm _ _
theorem zbo5 {l : List α} {x : α} : x ∈ srtB lt l ↔ x ∈ l := (zac6 l).mem_iff
theorem za03 (l : List α) : (srtB lt l).length = l.length := (zac6 l).length_eq
theorem zb11 (h : STO lt) (l : List α) : (srtB lt l).Pairwise fun x y => lt y x = false := by
 have := List.pairwise_mergeSort (le := fun x y => !lt y x) (fun a b c h1 h2 => by
  simp only [Bool.not_eq_true'] at h1 h2 ⊢
  cases q : lt c a with
  | false => rfl
  | true =>
   cases r : lt a b with
   | true => rw [h.tr q r] at h2; cases h2
   | false => have := h.tri r h1; subst this; rw [q] at h2; cases h2) (fun a b => by
  cases q : lt b a with
  | false => simp
  | true => simp [h.asym q]) l
 exact this.imp fun q => by simpa using q
theorem zbb0 (h : STO lt) {l : List α} (hn : l.Nodup) : Rise lt (srtB lt l) := by
 have h1 := zb11 h l
 have h2 : (srtB lt l).Nodup := (zac6 l).nodup_iff.2 hn
 refine (h1.and h2).imp fun {x y} q => ?_
 cases r : lt x y with
 | true => rfl
 | false => exact absurd (h.tri r q.1) q.2
theorem Rise.nodup (h : STO lt) {l : List α} (hl : Rise lt l) : l.Nodup := hl.imp fun q => h.ne q
theorem zb12 (h : STO lt) {a b : List α} (ha : a.Nodup) (hb : Rise lt b) (e : ∀ x, x ∈ a ↔ x ∈ b) : srtB lt a = b :=
 zbd2 h (zbb0 h ha) hb fun x => zbo5.trans (e x)
variable [DecidableEq α]
def insU (lt : α -> α -> Bool) : List α -> α -> List α
 | [], s => [s]
 | x :: l, s => if lt x s = true then x :: insU lt l s else if x = s then x :: l else s :: x :: l
end
def ltS (x y : Int × Int) : Bool := decide (x.1 < y.1 \/ x.1 = y.1 /\ x.2 < y.2)
theorem stoS : STO ltS where
 irr x := by simp [ltS]
 tr h1 h2 := by simp only [ltS, decide_eq_true_eq] at *; omega
 tri h1 h2 := by simp only [ltS, decide_eq_false_iff_not] at *; exact Prod.ext (by omega) (by omega)
abbrev srtS (l : List (Int × Int)) : List (Int × Int) := srtB ltS l
def ltI (x y : Int) : Bool := decide (x < y)
def upE (s : Int × Int) : Int × Int := if s.1 < s.2 then s else (s.2, s.1)
def rev (s : Int × Int) : Int × Int := (s.2, s.1)
theorem zb29 (s : Int × Int) : rev (rev s) = s := rfl
theorem zb43 {α : Type} {l : List α} (hn : l.Nodup) {i j : Nat} {x : α} (h1 : l[i]? = some x) (h2 : l[j]? = some x) : i = j := by
 obtain ⟨a, b⟩ := List.getElem?_eq_some_iff.1 h1
 obtain ⟨c, d⟩ := List.getElem?_eq_some_iff.1 h2
 rcases Nat.lt_trichotomy i j with q | q | q
 ·exact absurd (b.trans d.symm) (List.pairwise_iff_getElem.1 hn i j a c q)
 ·exact q
 ·exact absurd (d.trans b.symm) (List.pairwise_iff_getElem.1 hn j i c a q)
def allE (F : List (List Int)) : List (Int × Int) := F.flatMap zh7
def zl8 : List (List Int) -> Int × Int -> Int
 | [], _ => -1
 | f :: F, s => if s ∈ zh7 f then 0 else if zl8 F s < 0 then -1 else zl8 F s + 1
theorem zbg9 {s : Int × Int} : ∀ {F : List (List Int)}, zl8 F s < 0 -> zl8 F s = -1
 | [], _ => rfl
 | f :: F, h => by
  unfold zl8 at h ⊢
  split at h
  ·omega
  ·split at h
   ·rename_i h1 h2; rw [if_neg h1, if_pos h2]
   ·rename_i h1 h2; omega
theorem zbg7 {s : Int × Int} {A B : List Ent} : zw8 (A ++ B) s = if s ∈ A.map (·.1) then zw8 A s else zw8 B s := by
 unfold zw8
 rw [List.find?_append]
 by_cases h : s ∈ A.map (·.1)
 ·rw [if_pos h]
  cases q : A.find? (fun q => decide (s = q.1)) with
  | none => exact absurd h (zz7.1 q)
  | some x => rfl
 ·rw [if_neg h, zz7.2 h]; rfl
theorem zaq7 {s : Int × Int} {i : Int} : ∀ {l : List (Int × Int)}, s ∈ l -> zw8 (l.map fun t => (t, i)) s = i
 | [], h => by simp at h
 | t :: l, h => by
  unfold zw8
  by_cases q : s = t
  ·simp [q]
  ·have : s ∈ l := by simpa [q] using h
   have := zaq7 (i := i) this
   unfold zw8 at this
   simp only [List.map_cons]
   rw [List.find?_cons_of_neg (by simpa using q)]
   exact this
theorem za17 {s : Int × Int} : ∀ (F : List (List Int)) (i : Nat), zw8 (z13 i F) s = if zl8 F s < 0 then -1 else zl8 F s + i
 | [], i => by simp [z13, zw8, zl8]
 | f :: F, i => by
  rw [z13, zbg7]
  have e : ((zh7 f).map fun t => (t, (i : Int))).map (·.1) = zh7 f := by simp [Function.comp_def]
  rw [e]
  unfold zl8
  by_cases h : s ∈ zh7 f
  ·rw [if_pos h, if_pos h, zaq7 h]; simp
  ·rw [if_neg h, if_neg h, za17 F (i + 1)]
   by_cases q : zl8 F s < 0
   ·simp [q]
   ·rw [if_neg q, if_neg q, if_neg (by omega)]; push_cast; omega
theorem zbg6 (F : List (List Int)) (s : Int × Int) : zw8 (z13 0 F) s = zl8 F s := by
 rw [za17]
 by_cases q : zl8 F s < 0
 ·rw [if_pos q]; exact (zbg9 q).symm
 ·rw [if_neg q]; simp
theorem zaq8 {s : Int × Int} : ∀ {F : List (List Int)} {i : Nat}, zl8 F s = i -> ∃ f, F[i]? = some f /\ s ∈ zh7 f
 | [], i, h => by unfold zl8 at h; omega
 | f :: F, i, h => by
  unfold zl8 at h
  split at h
  ·rename_i h1
   have : i = 0 := by omega
   subst this
   exact ⟨f, rfl, h1⟩
  ·split at h
   ·omega
   ·cases i with
    | zero => omega
    | succ i =>
     obtain ⟨g, h1, h2⟩ := zaq8 (s := s) (F := F) (i := i) (by omega)
     exact ⟨g, by simpa using h1, h2⟩
theorem za19 {s : Int × Int} : ∀ {F : List (List Int)} {i : Nat} {f : List Int}, (allE F).Nodup -> F[i]? = some f -> s ∈ zh7 f -> zl8 F s = i
 | [], i, f, _, h, _ => by simp at h
 | g :: F, 0, f, hn, h, hs => by
  simp at h; subst h
  unfold zl8; rw [if_pos hs]; rfl
 | g :: F, i + 1, f, hn, h, hs => by
  have h : F[i]? = some f := by simpa using h
  unfold allE at hn
  rw [List.flatMap_cons, List.nodup_append] at hn
  have hm : s ∈ allE F := List.mem_flatMap.2 ⟨f, List.mem_of_getElem? h, hs⟩
  have hng : s ∉ zh7 g := fun q => hn.2.2 s q s hm rfl
  have := za19 (s := s) (F := F) hn.2.1 h hs
  unfold zl8
  rw [this, if_neg hng, if_neg (by omega)]
  push_cast; rfl
end Go.AI
namespace Go.AI
abbrev Nx := List (Int × Int)
def without (M : Nx) (a : Int) : Nx := M.filter fun q => decide (q.1 ≠ a)
def at1 (M : Nx) (a : Int) : Option (Int × Int) := M.find? fun e => decide (e.1 = a)
def follow : Nat -> Nx -> Int -> List Int × Nx
 | 0, M, _ => ([], M)
 | n + 1, M, a => match at1 M a with
  | none => ([], M)
  | some e => (a :: (follow n (without M a) e.2).1, (follow n (without M a) e.2).2)
def zbx4 : List Int -> Nx -> List (List Int)
 | [], _ => []
 | a :: l, M => if (follow M.length M a).1 = [] then zbx4 l M else (follow M.length M a).1 :: zbx4 l (follow M.length M a).2
def srtI (l : List Int) : List Int := srtB ltI l
def wayE : List Int -> Int -> List (Int × Int)
 | [], _ => []
 | [a], b => [(a, b)]
 | a :: c :: l, b => (a, c) :: wayE (c :: l) b
end Go.AI
namespace Go.AI
inductive Con (R : Nat -> Nat -> Prop) : Nat -> Nat -> Prop
 | refl (i : Nat) : Con R i i
 | step {i j k : Nat} (h : Con R i j) (r : R j k) : Con R i k
theorem Con.one {R : Nat -> Nat -> Prop} {i j : Nat} (r : R i j) : Con R i j := .step (.refl i) r
theorem Con.trans {R : Nat -> Nat -> Prop} {i j k : Nat} (h : Con R i j) (g : Con R j k) : Con R i k := by
 induction g with
 | refl => exact h
 | step _ r ih => exact .step ih r
theorem Con.symm {R : Nat -> Nat -> Prop} (hs : ∀ {i j}, R i j -> R j i) {i j : Nat} (h : Con R i j) : Con R j i := by
 induction h with
 | refl => exact .refl _
 | step _ r ih => exact (Con.one (hs r)).trans ih
theorem Con.closed {R : Nat -> Nat -> Prop} {S : Nat -> Prop} (hc : ∀ {i j}, S i -> R i j -> S j) {i j : Nat} (h : Con R i j) (hi : S i) : S j := by
 induction h with
 | refl => exact hi
 | step _ r ih => exact hc ih r
theorem Con.out {R : Nat -> Nat -> Prop} {S : Nat -> Prop} {i j : Nat} (h : Con R i j) (hi : S i) (hj : ¬ S j) : ∃ u v, Con R i u /\ R u v /\ S u /\ ¬ S v := by
 induction h with
 | refl => exact absurd hi hj
 | @step u v g r ih =>
  by_cases c : S u
  ·exact ⟨u, v, g, r, c, hj⟩
  ·exact ih c
theorem Con.map {R S : Nat -> Nat -> Prop} {f : Nat -> Nat} (hf : ∀ {i j}, R i j -> Con S (f i) (f j)) {i j : Nat} (h : Con R i j) : Con S (f i) (f j) := by
 induction h with
 | refl => exact .refl _
 | step _ r ih => exact ih.trans (hf r)
def Adj (F : List (List Int)) (i j : Nat) : Prop := ∃ f g s, F[i]? = some f /\ F[j]? = some g /\ s ∈ zh7 f /\ rev s ∈ zh7 g
theorem Adj.symm {F : List (List Int)} {i j : Nat} (h : Adj F i j) : Adj F j i := by
 obtain ⟨f, g, s, h1, h2, h3, h4⟩ := h
 exact ⟨g, f, rev s, h2, h1, h4, by rw [zb29]; exact h3⟩
abbrev Hang (F : List (List Int)) : Nat -> Nat -> Prop := Con (Adj F)
theorem Hang.symm {F : List (List Int)} {i j : Nat} (h : Hang F i j) : Hang F j i := Con.symm (fun r => r.symm) h
theorem Hang.lt {F : List (List Int)} {i j : Nat} (h : Hang F i j) (hi : i < F.length) : j < F.length :=
 Con.closed (S := fun k => k < F.length) (fun _ r => by obtain ⟨_, _, _, _, h2, _⟩ := r; exact (List.getElem?_eq_some_iff.1 h2).1) h hi
def topI (l : List Int) : Int := l.foldl (fun m x => max m (x + 1)) 0
theorem zac3 (l : List Int) (x : Int) : topI (l ++ [x]) = max (topI l) (x + 1) := by unfold topI; rw [List.foldl_append]; rfl
def Numb (P : List Int) : Prop := ∀ (i : Nat) (x : Int), P[i]? = some x -> x ∈ P.take i \/ x = topI (P.take i)
structure zx9 (F : List (List Int)) (P : List Int) : Prop where
 len : P.length = F.length
 eq : ∀ {i j : Nat} {x y : Int}, P[i]? = some x -> P[j]? = some y -> (x = y ↔ Hang F i j)
 num : Numb P
theorem zw2 {α : Type} {P Q : List α} {i j : Nat} (h : P.take i = Q.take i) (hj : j < i) : P[j]? = Q[j]? := by
 have := congrArg (fun l => l[j]?) h
 simpa [List.getElem?_take, hj] using this
theorem zb39 {P Q : List Int} (hl : P.length = Q.length) (hp : ∀ {i j : Nat} {x y u v : Int}, P[i]? = some x -> P[j]? = some y -> Q[i]? = some u -> Q[j]? = some v -> (x = y ↔ u = v)) (h1 : Numb P) (h2 : Numb Q) : P = Q := by
 have key : ∀ i, P.take i = Q.take i := by
  intro i
  induction i with
  | zero => simp
  | succ i ih =>
   rw [List.take_add_one, List.take_add_one, ih]
   congr 1
   by_cases hi : i < P.length
   ·have hq : i < Q.length := by omega
    have gp := List.getElem?_eq_getElem hi
    have gq := List.getElem?_eq_getElem hq
    rw [gp, gq]
    congr 1
    rcases h1 i _ gp with a | a
    ·obtain ⟨j, hj⟩ := List.getElem?_of_mem a
     have hji : j < i := by
      have := (List.getElem?_eq_some_iff.1 hj).1
      simp at this; omega
     have hj1 : P[j]? = some P[i] := by rwa [List.getElem?_take, if_pos hji] at hj
     have hj2 : Q[j]? = some P[i] := by rw [<- zw2 ih hji]; exact hj1
     have := (hp hj1 gp hj2 gq).1 rfl
     rw [this]
    ·rcases h2 i _ gq with b | b
     ·obtain ⟨j, hj⟩ := List.getElem?_of_mem b
      have hji : j < i := by
       have := (List.getElem?_eq_some_iff.1 hj).1
       simp at this; omega
      have hj1 : Q[j]? = some Q[i] := by rwa [List.getElem?_take, if_pos hji] at hj
      have hj2 : P[j]? = some Q[i] := by rw [zw2 ih hji]; exact hj1
      have := (hp hj2 gp hj1 gq).2 rfl
      rw [this]
     ·rw [a, b, ih]
   ·rw [List.getElem?_eq_none (by omega), List.getElem?_eq_none (by omega)]
 have := key P.length
 rwa [List.take_length, hl, List.take_length] at this
theorem zx9.unique {F : List (List Int)} {P Q : List Int} (h : zx9 F P) (k : zx9 F Q) : P = Q :=
 zb39 (h.len.trans k.len.symm) (fun a b c d => (h.eq a b).trans (k.eq c d).symm) h.num k.num
structure PInv (F : List (List Int)) (m : Nat) (out : List Int) (n : Int) : Prop where
 len : out.length = F.length
 n0 : 0 <= n
 lab : ∀ {v : Nat} {x : Int}, out[v]? = some x -> (0 <= x ↔ ∃ j, j < m /\ Hang F j v)
 neg : ∀ {v : Nat} {x : Int}, out[v]? = some x -> x < 0 -> x = -1
 eq : ∀ {u v : Nat} {x y : Int}, out[u]? = some x -> out[v]? = some y -> 0 <= x -> 0 <= y -> (x = y ↔ Hang F u v)
 num : ∀ {i : Nat} {x : Int}, i < m -> out[i]? = some x -> x ∈ out.take i \/ x = topI (out.take i)
 top : topI (out.take m) = n
 lt : ∀ {v : Nat} {x : Int}, out[v]? = some x -> x < n
theorem PInv.start (F : List (List Int)) : PInv F 0 (List.replicate F.length (-1)) 0 where
 len := by simp
 n0 := by omega
 lab h := by
  have := List.mem_of_getElem? h
  rw [List.mem_replicate] at this
  constructor
  ·intro q; omega
  ·rintro ⟨j, hj, _⟩; omega
 neg h _ := by
  have := List.mem_of_getElem? h
  rw [List.mem_replicate] at this
  exact this.2
 eq h _ q _ := by
  have := List.mem_of_getElem? h
  rw [List.mem_replicate] at this
  omega
 num h := by omega
 top := by simp [topI]
 lt h := by
  have := List.mem_of_getElem? h
  rw [List.mem_replicate] at this
  omega
theorem PInv.skip {F : List (List Int)} {m : Nat} {out : List Int} {n x : Int} (h : PInv F m out n) (hx : out[m]? = some x) (h0 : 0 <= x) : PInv F (m + 1) out n := by
 obtain ⟨j, hj, hc⟩ := (h.lab hx).1 h0
 have hjl : j < out.length := by have := (List.getElem?_eq_some_iff.1 hx).1; omega
 have gj := List.getElem?_eq_getElem hjl
 have hj0 : 0 <= out[j] := (h.lab gj).2 ⟨j, hj, .refl j⟩
 have he := (h.eq gj hx hj0 h0).2 hc
 have hmem : x ∈ out.take m := by rw [<- he]; exact List.mem_of_getElem? (i := j) (by rw [List.getElem?_take, if_pos hj]; exact gj)
 refine ⟨h.len, h.n0, fun hv => ?_, h.neg, h.eq, fun {i y} hi hy => ?_, ?_, h.lt⟩
 ·rw [h.lab hv]
  constructor
  ·rintro ⟨k, hk, c⟩; exact ⟨k, by omega, c⟩
  ·rintro ⟨k, hk, c⟩
   by_cases q : k = m
   ·subst q; exact ⟨j, hj, hc.trans c⟩
   ·exact ⟨k, by omega, c⟩
 ·by_cases q : i = m
  ·subst q; rw [hx] at hy; cases hy; exact .inl hmem
  ·exact h.num (by omega) hy
 ·rw [List.take_add_one, hx]
  show topI (out.take m ++ [x]) = n
  rw [zac3, h.top]
  have := h.lt hx
  omega
structure zbz3 (F : List (List Int)) (m : Nat) (n : Int) (out out' : List Int) : Prop where
 len : out'.length = out.length
 at' : ∀ {v : Nat} {x : Int}, out'[v]? = some x -> (Hang F m v /\ x = n) \/ (¬ Hang F m v /\ out[v]? = some x)
theorem PInv.next {F : List (List Int)} {m : Nat} {out out' : List Int} {n : Int} (h : PInv F m out n) (hx : out[m]? = some (-1)) (s : zbz3 F m n out out') : PInv F (m + 1) out' (n + 1) := by
 have hno : ∀ j, j < m -> ¬ Hang F j m := fun j hj c => by
  have := (h.lab hx).2 ⟨j, hj, c⟩
  omega
 have hm : m < out'.length := by rw [s.len]; exact (List.getElem?_eq_some_iff.1 hx).1
 have hpre : out'.take m = out.take m := by
  apply List.ext_getElem?
  intro i
  rw [List.getElem?_take, List.getElem?_take]
  by_cases hi : i < m
  ·rw [if_pos hi, if_pos hi]
   have hil : i < out'.length := by omega
   have gi := List.getElem?_eq_getElem hil
   rcases s.at' gi with ⟨q, _⟩ | ⟨_, q⟩
   ·exact absurd q.symm (hno i hi)
   ·rw [gi, q]
  ·rw [if_neg hi, if_neg hi]
 have gm : out'[m]? = some n := by
  have gi := List.getElem?_eq_getElem hm
  rcases s.at' gi with ⟨_, q⟩ | ⟨q, _⟩
  ·rw [gi, q]
  ·exact absurd (.refl m) q
 have hn0 := h.n0
 refine ⟨s.len.trans h.len, by omega, fun {v x} hv => ?_, fun {v x} hv hx0 => ?_, fun {u v x y} hu hv hx0 hy0 => ?_, fun {i y} hi hy => ?_, ?_, fun {v x} hv => ?_⟩
 ·rcases s.at' hv with ⟨q, r⟩ | ⟨q, r⟩
  ·exact ⟨fun _ => ⟨m, by omega, q⟩, fun _ => by omega⟩
  ·rw [h.lab r]
   constructor
   ·rintro ⟨k, hk, c⟩; exact ⟨k, by omega, c⟩
   ·rintro ⟨k, hk, c⟩
    by_cases e : k = m
    ·subst e; exact absurd c q
    ·exact ⟨k, by omega, c⟩
 ·rcases s.at' hv with ⟨q, r⟩ | ⟨q, r⟩
  ·omega
  ·exact h.neg r hx0
 ·rcases s.at' hu with ⟨q, r⟩ | ⟨q, r⟩ <;> rcases s.at' hv with ⟨q', r'⟩ | ⟨q', r'⟩
  ·exact ⟨fun _ => q.symm.trans q', fun _ => by rw [r, r']⟩
  ·have := h.lt r'
   exact ⟨fun e => by omega, fun c => absurd (q.trans c) q'⟩
  ·have := h.lt r
   exact ⟨fun e => by omega, fun c => absurd (q'.trans c.symm) q⟩
  ·exact h.eq r r' hx0 hy0
 ·by_cases e : i = m
  ·subst e
   rw [gm] at hy; cases hy
   rw [hpre, h.top]; exact .inr rfl
  ·have hi' : i < m := by omega
   have et : out'.take i = out.take i := by
    have := congrArg (List.take i) hpre
    rwa [List.take_take, List.take_take, Nat.min_eq_left (by omega)] at this
   rw [et]
   exact h.num hi' (by rw [<- zw2 hpre hi']; exact hy)
 ·rw [List.take_add_one, gm, hpre]
  show topI (out.take m ++ [n]) = (n + 1)
  rw [zac3, h.top]; omega
 ·rcases s.at' hv with ⟨q, r⟩ | ⟨q, r⟩
  ·omega
  ·have := h.lt r; omega
theorem PInv.done {F : List (List Int)} {out : List Int} {n : Int} (h : PInv F F.length out n) : zx9 F out where
 len := h.len
 eq hi hj := by
  have li := (List.getElem?_eq_some_iff.1 hi).1
  have lj := (List.getElem?_eq_some_iff.1 hj).1
  have := h.len
  exact h.eq hi hj ((h.lab hi).2 ⟨_, by omega, .refl _⟩) ((h.lab hj).2 ⟨_, by omega, .refl _⟩)
 num i x hx := by
  have li := (List.getElem?_eq_some_iff.1 hx).1
  have := h.len
  exact h.num (by omega) hx
structure SInv (F : List (List Int)) (m : Nat) (n : Int) (out0 out : List Int) (todo : List Nat) : Prop where
 len : out.length = out0.length
 mem : ∀ {v : Nat} {x : Int}, out[v]? = some x -> out0[v]? = some x \/ (x = n /\ Hang F m v)
 keep : ∀ {v : Nat} {x : Int}, out0[v]? = some x -> 0 <= x -> out[v]? = some x
 self : out[m]? = some n
 td : ∀ {v : Nat}, v ∈ todo -> out[v]? = some n
 clo : ∀ {v w : Nat}, out[v]? = some n -> v ∉ todo -> Adj F v w -> ∃ y, out[w]? = some y /\ 0 <= y
theorem SInv.done {F : List (List Int)} {m : Nat} {n : Int} {out0 out : List Int} (h : PInv F m out0 n) (_hx : out0[m]? = some (-1)) (s : SInv F m n out0 out []) : zbz3 F m n out0 out := by
 have hall : ∀ {v : Nat}, Hang F m v -> out[v]? = some n := fun {v} c =>
  Con.closed (S := fun k => out[k]? = some n) (fun {i j} hi r => by
   obtain ⟨y, hy, y0⟩ := s.clo hi (by simp) r
   rcases s.mem hy with q | q
   ·obtain ⟨k, hk, ck⟩ := (h.lab q).1 y0
    have c2 : Hang F k i := ck.trans (Con.one r.symm)
    have il : i < out0.length := by have := (List.getElem?_eq_some_iff.1 hi).1; rw [s.len] at this; exact this
    have gi := List.getElem?_eq_getElem il
    have i0 := (h.lab gi).2 ⟨k, hk, c2⟩
    have := s.keep gi i0
    rw [hi] at this
    have e : n = out0[i] := Option.some.inj this
    have := h.lt gi
    omega
   ·rw [hy, q.1]) c s.self
 refine ⟨s.len, fun {v x} hv => ?_⟩
 by_cases c : Hang F m v
 ·have := hall c
  rw [hv] at this
  exact .inl ⟨c, Option.some.inj this⟩
 ·rcases s.mem hv with q | q
  ·exact .inr ⟨c, q⟩
  ·exact absurd q.2 c
open Classical in
noncomputable def mn (F : List (List Int)) (i : Nat) : Nat := ((List.range (i + 1)).find? fun j => decide (Hang F j i)).getD i
theorem zbf9 (F : List (List Int)) (i : Nat) : Hang F (mn F i) i /\ (∀ j, Hang F j i -> mn F i <= j) := by
 classical
 unfold mn
 cases h : (List.range (i + 1)).find? (fun j => decide (Hang F j i)) with
 | none =>
  have := List.find?_eq_none.1 h i (by simp)
  exact absurd (Con.refl i) (by simpa using this)
 | some m =>
  rw [List.find?_range_eq_some] at h
  obtain ⟨h1, h2, h3⟩ := h
  refine ⟨by simpa using h1, fun j hj => ?_⟩
  simp only [Option.getD_some]
  rcases Nat.lt_or_ge j m with q | q
  ·have := h3 j q
   simp at this
   exact absurd hj this
  ·exact q
theorem zae3 (F : List (List Int)) (i : Nat) : Hang F (mn F i) i := (zbf9 F i).1
theorem zb46 {F : List (List Int)} {i j : Nat} (h : Hang F j i) : mn F i <= j := (zbf9 F i).2 j h
theorem zaw5 (F : List (List Int)) (i : Nat) : mn F i <= i := zb46 (.refl i)
theorem zce8 {F : List (List Int)} {i j : Nat} : mn F i = mn F j ↔ Hang F i j := by
 constructor
 ·intro h
  have := zae3 F i
  rw [h] at this
  exact this.symm.trans (zae3 F j)
 ·intro h
  have h1 := zb46 ((zae3 F i).trans h)
  have h2 := zb46 ((zae3 F j).trans h.symm)
  omega
theorem zbr1 (F : List (List Int)) (i : Nat) : mn F (mn F i) = mn F i := zce8.2 (zae3 F i)
noncomputable def cntR (F : List (List Int)) (i : Nat) : Nat := ((List.range i).filter fun j => decide (mn F j = j)).length
theorem zag1 (F : List (List Int)) (i : Nat) : cntR F (i + 1) = cntR F i + if mn F i = i then 1 else 0 := by
 unfold cntR
 rw [List.range_succ, List.filter_append, List.length_append]
 by_cases h : mn F i = i <;> simp [h]
theorem zbj9 (F : List (List Int)) {i j : Nat} (h : i <= j) : cntR F i <= cntR F j := by
 induction h with
 | refl => exact Nat.le_refl _
 | step _ ih => rw [zag1]; omega
theorem zax9 {F : List (List Int)} {i j : Nat} (h : i < j) (hi : mn F i = i) : cntR F i < cntR F j := by
 have := zbj9 F (show i + 1 <= j from h)
 rw [zag1, if_pos hi] at this
 omega
noncomputable def zaa3 (F : List (List Int)) : List Int := (List.range F.length).map fun i => (cntR F (mn F i) : Int)
theorem zr1 {F : List (List Int)} {i : Nat} {x : Int} : (zaa3 F)[i]? = some x ↔ i < F.length /\ x = cntR F (mn F i) := by
 unfold zaa3
 rw [List.getElem?_map]
 by_cases h : i < F.length
 ·rw [List.getElem?_range h]
  simp only [Option.map_some, Option.some.injEq, h, true_and]
  exact eq_comm
 ·rw [List.getElem?_eq_none (by simp; omega)]
  simp [h]
theorem zap8 (F : List (List Int)) : ∀ i, i <= F.length -> topI ((zaa3 F).take i) = cntR F i
 | 0, _ => by simp [topI, cntR]
 | i + 1, h => by
  have ih := zap8 F i (by omega)
  have g : (zaa3 F)[i]? = some (cntR F (mn F i) : Int) := zr1.2 ⟨by omega, rfl⟩
  rw [List.take_add_one, g]
  show topI ((zaa3 F).take i ++ [(cntR F (mn F i) : Int)]) = _
  rw [zac3, ih, zag1]
  by_cases c : mn F i = i
  ·rw [c, if_pos rfl]; omega
  ·have h1 := zaw5 F i
   have h2 := zax9 (F := F) (show mn F i < i by omega) (zbr1 F i)
   rw [if_neg c]; omega
theorem zbq2 (F : List (List Int)) : zx9 F (zaa3 F) where
 len := by simp [zaa3]
 eq {i j x y} hi hj := by
  obtain ⟨_, rfl⟩ := zr1.1 hi
  obtain ⟨_, rfl⟩ := zr1.1 hj
  rw [<- zce8]
  constructor
  ·intro h
   rcases Nat.lt_trichotomy (mn F i) (mn F j) with q | q | q
   ·have := zax9 (F := F) q (zbr1 F i); omega
   ·exact q
   ·have := zax9 (F := F) q (zbr1 F j); omega
  ·intro h; rw [h]
 num i x hx := by
  obtain ⟨hl, rfl⟩ := zr1.1 hx
  by_cases c : mn F i = i
  ·right; rw [zap8 F i (by omega), c]
  ·left
   have h1 := zaw5 F i
   refine List.mem_of_getElem? (i := mn F i) ?_
   rw [List.getElem?_take, if_pos (by omega)]
   exact zr1.2 ⟨by omega, by rw [zbr1]⟩
theorem zx9.is {F : List (List Int)} {P : List Int} (h : zx9 F P) : P = zaa3 F := h.unique (zbq2 F)
structure MInv (F : List (List Int)) (out : List Int) : Prop where
 len : out.length = F.length
 at' : ∀ {i : Nat} {x : Int}, out[i]? = some x -> (mn F i : Int) <= x /\ x <= i /\ Hang F x.toNat i
def zcq7 (F : List (List Int)) (out : List Int) (i : Nat) : Prop := out[i]? = some (mn F i : Int)
theorem MInv.start (F : List (List Int)) : MInv F ((List.range F.length).map fun (i : Nat) => (i : Int)) where
 len := by simp
 at' {i x} h := by
  rw [List.getElem?_map] at h
  by_cases c : i < F.length
  ·rw [List.getElem?_range c] at h
   cases h
   have := zaw5 F i
   exact ⟨by simp only; omega, by simp only; omega, by simpa using Con.refl i⟩
  ·rw [List.getElem?_eq_none (by simp; omega)] at h; cases h
theorem MInv.set {F : List (List Int)} {out : List Int} (h : MInv F out) {i : Nat} {x : Int} (hx : (mn F i : Int) <= x /\ x <= i /\ Hang F x.toNat i) : MInv F (out.set i x) where
 len := by simp [h.len]
 at' {j y} hy := by
  rw [List.getElem?_set] at hy
  split at hy
  ·rename_i e
   split at hy
   ·cases hy; subst e; exact hx
   ·cases hy
  ·exact h.at' hy
open Classical in
noncomputable def badN (F : List (List Int)) (out : List Int) : Nat := ((List.range F.length).filter fun i => decide (¬ zcq7 F out i)).length
end Go.AI
namespace Go.AI
theorem zak3 (a b : List Int) : (zh7 (b ++ a)).Perm (zh7 (a ++ b)) := by
 have key : ∀ (x : Int) (l : List Int), (zh7 (l ++ [x])).Perm (zh7 (x :: l)) := by
  intro x l
  cases l with
  | nil => exact List.Perm.refl _
  | cons y l =>
   have e1 : zh7 (x :: y :: l) = (x, y) :: (y :: l).zip (l ++ [x]) := by unfold zh7; simp
   have e2 : zh7 (y :: l ++ [x]) = (y :: l).zip (l ++ [x]) ++ [(x, y)] := by
    have e3 : zh7 (y :: l ++ [x]) = (y :: l ++ [x]).zip (l ++ [x] ++ [y]) := by unfold zh7; simp
    rw [e3, List.zip_append (by simp)]
    rfl
   rw [e1, e2]
   exact List.perm_append_singleton _ _
 induction a generalizing b with
 | nil => simp
 | cons x a ih =>
  have h1 := ih (b ++ [x])
  have h2 := key x (a ++ b)
  rw [List.append_assoc] at h1
  refine h1.trans ?_
  rw [<- List.append_assoc]
  exact h2
structure FRot (k : Nat) (F G : List (List Int)) : Prop where
 len : G.length = F.length
 at' : ∀ {i : Nat} {g : List Int}, G[i]? = some g -> ∃ a b, F[(i + k) % F.length]? = some (a ++ b) /\ g = b ++ a
theorem zbr0 {i k n : Nat} (hi : i < n) (hk : k < n) : ((i + n - k) % n + k) % n = i := by
 rcases Nat.lt_or_ge i k with q | q
 ·rw [Nat.mod_eq_of_lt (show i + n - k < n by omega)]
  rw [show i + n - k + k = i + n by omega, Nat.add_mod_right, Nat.mod_eq_of_lt hi]
 ·rw [show i + n - k = (i - k) + n by omega, Nat.add_mod_right, Nat.mod_eq_of_lt (show i - k < n by omega)]
  rw [show i - k + k = i by omega, Nat.mod_eq_of_lt hi]
section
variable {k : Nat} {F G : List (List Int)}
theorem FRot.back (h : FRot k F G) (hk : k < F.length) {i : Nat} {f : List Int} (hf : F[i]? = some f) : ∃ a b, f = a ++ b /\ G[(i + F.length - k) % F.length]? = some (b ++ a) := by
 have hi : i < F.length := (List.getElem?_eq_some_iff.1 hf).1
 have hu : (i + F.length - k) % F.length < G.length := by rw [h.len]; exact Nat.mod_lt _ (by omega)
 obtain ⟨a, b, h1, h2⟩ := h.at' (List.getElem?_eq_getElem hu)
 rw [zbr0 hi hk, hf] at h1
 exact ⟨a, b, Option.some.inj h1, by rw [List.getElem?_eq_getElem hu, h2]⟩
theorem FRot.mem (h : FRot k F G) (hk : k < F.length) {s : Int × Int} : s ∈ allE G ↔ s ∈ allE F := by
 unfold allE
 rw [List.mem_flatMap, List.mem_flatMap]
 constructor
 ·rintro ⟨g, hg, hs⟩
  obtain ⟨i, hi⟩ := List.getElem?_of_mem hg
  obtain ⟨a, b, h1, rfl⟩ := h.at' hi
  exact ⟨_, List.mem_of_getElem? h1, (zak3 a b).mem_iff.1 hs⟩
 ·rintro ⟨f, hf, hs⟩
  obtain ⟨i, hi⟩ := List.getElem?_of_mem hf
  obtain ⟨a, b, rfl, h1⟩ := h.back hk hi
  exact ⟨_, List.mem_of_getElem? h1, (zak3 a b).mem_iff.2 hs⟩
theorem FRot.rows (h : FRot k F G) (hk : k < F.length) : ∀ {P : List Int -> Prop}, (∀ a b, P (a ++ b) -> P (b ++ a)) -> ((∀ f, f ∈ F -> P f) ↔ ∀ g, g ∈ G -> P g) := by
 intro P hP
 constructor
 ·intro q g hg
  obtain ⟨i, hi⟩ := List.getElem?_of_mem hg
  obtain ⟨a, b, h1, rfl⟩ := h.at' hi
  exact hP a b (q _ (List.mem_of_getElem? h1))
 ·intro q f hf
  obtain ⟨i, hi⟩ := List.getElem?_of_mem hf
  obtain ⟨a, b, rfl, h1⟩ := h.back hk hi
  exact hP b a (q _ (List.mem_of_getElem? h1))
theorem zas0 {α : Type} : ∀ {A B : List (List α)}, A.length = B.length -> (∀ (i : Nat) (a b : List α), A[i]? = some a -> B[i]? = some b -> a.Perm b) -> A.flatten.Perm B.flatten
 | [], [], _, _ => List.Perm.refl _
 | a :: A, b :: B, hl, h => by
  rw [List.flatten_cons, List.flatten_cons]
  exact (h 0 a b rfl rfl).append (zas0 (by simpa using hl) fun i x y hx hy => h (i + 1) x y (by simpa using hx) (by simpa using hy))
 | [], b :: B, hl, _ => by simp at hl
 | a :: A, [], hl, _ => by simp at hl
theorem FRot.turned {α : Type} (h : FRot k F G) (hk : k < F.length) (f : List Int -> List α) (hf : ∀ a b, (f (b ++ a)).Perm (f (a ++ b))) : (G.map f).flatten.Perm (F.map f).flatten := by
 have h1 : (G.map f).flatten.Perm ((F.drop k ++ F.take k).map f).flatten := by
  refine zas0 (by simp [h.len]; omega) fun i a b ha hb => ?_
  rw [List.getElem?_map] at ha hb
  have hi : i < G.length := by
   rcases Nat.lt_or_ge i G.length with q | q
   ·exact q
   ·rw [List.getElem?_eq_none q] at ha; cases ha
  obtain ⟨x, y, e1, e2⟩ := h.at' (List.getElem?_eq_getElem hi)
  have hg : (F.drop k ++ F.take k)[i]? = F[(i + k) % F.length]? := by
   have hl := h.len
   rcases Nat.lt_or_ge (i + k) F.length with q | q
   ·rw [Nat.mod_eq_of_lt q, List.getElem?_append_left (by simp; omega), List.getElem?_drop, Nat.add_comm]
   ·rw [Nat.mod_eq_sub_mod q, Nat.mod_eq_of_lt (by omega), List.getElem?_append_right (by simp; omega), List.getElem?_take, if_pos (by simp; omega)]
    congr 1; simp; omega
  rw [List.getElem?_eq_getElem hi, e2] at ha
  rw [hg, e1] at hb
  cases ha; cases hb
  exact hf x y
 have h2 : ((F.drop k ++ F.take k).map f).flatten.Perm ((F.take k ++ F.drop k).map f).flatten := by
  rw [List.map_append, List.map_append, List.flatten_append, List.flatten_append]
  exact List.perm_append_comm
 rw [List.take_append_drop] at h2
 exact h1.trans h2
theorem FRot.flat (h : FRot k F G) (hk : k < F.length) : G.flatten.Perm F.flatten := by
 have := h.turned hk id (fun a b => List.perm_append_comm)
 simpa using this
end
section
variable {n : Int} {F G : List (List Int)}
end
end Go.AI
