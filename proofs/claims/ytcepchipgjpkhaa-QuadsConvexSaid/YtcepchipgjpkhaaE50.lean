/- Rows sorted by the library, told. No claim by itself. -/
import Derived.Test.YtcepchipgjpkhaaE48
import Derived.Shelf.SlSortCmp.NoneTotal
namespace Go.AI
open Go.Sort Go.Shelf Go.Proofs
variable {P : Program} {G : World -> Prop} {FT : Nat -> Option FnD}
theorem zau3 {w w' : World} (hk : ∀ b, b < w.heap.size -> w'.heap[b]? = w.heap[b]?) (hs : w.heap.size <= w'.heap.size) (h1 : w'.os = w.os) (h2 : w'.tape = w.tape) (h3 : w'.output = w.output) (h4 : w.drawn <= w'.drawn) : ∃ q os, w' = grow (w.drewN q) os := by
 refine ⟨w'.drawn - w.drawn, w'.heap.extract w.heap.size w'.heap.size, ?_⟩
 have e1 : w'.heap = w.heap ++ w'.heap.extract w.heap.size w'.heap.size := by
  apply Array.ext_getElem?
  intro i
  by_cases c : i < w.heap.size
  ·rw [Array.getElem?_append_left c]; exact hk i c
  ·rw [Array.getElem?_append_right (by omega), Array.getElem?_extract]
   by_cases c2 : i < w'.heap.size
   ·rw [if_pos (by omega)]; congr 1; omega
   ·rw [if_neg (by omega)]; exact Array.getElem?_eq_none (by omega)
 have e2 : w'.drawn = w.drawn + (w'.drawn - w.drawn) := by omega
 cases w'
 cases w
 simp only at e1 e2 h1 h2 h3
 simp only [grow, World.drewN]
 subst h1; subst h2; subst h3
 congr 1
theorem zbk1 (hFT : zg3 P (fun _ => True) FT) {c : Nat} {args : List AV} {avs : List Value} {n : Int} (hl : zg4 (fun _ => none) args avs) (hc : Cp FT c args ⟨.leaf, 0, 0⟩ fun r _ => r = .int .i64 n) (w : World) :
  Calls P c avs.toArray w fun e w' => e = .returned (.int .i64 n) /\ ∃ q os, w' = grow (w.drewN q) os := by
 obtain ⟨m, v, H', hcall, rfl⟩ := hc
 have h0 : zc7 (fun _ => True) 0 w.heap.size H'.next (fun _ => none) ⟨.leaf, 0, 0⟩ w :=
  {fl := Nat.le_refl _, fn := Nat.le_refl _, wsz := Nat.le_refl _, dom := fun o L e => by simp at e, fresh := fun o _ => rfl, obj := fun o L x e => by simp at e, low := fun o L e => by simp at e, high := fun o L e => by simp at e, inj := fun o _ L _ e => by simp at e, good := fun _ _ => trivial }
 obtain ⟨_, hcalls⟩ := (zm3 hFT m).2.2 0 w.heap.size H'.next c args ⟨.leaf, 0, 0⟩ _ H' (fun _ => none) w avs hcall hl h0 (Nat.le_refl _)
 refine hcalls.mono ?_
 rintro e w' ⟨φ', r, rfl, hv, _, s⟩
 cases hv
 exact ⟨rfl, zau3 (fun b hb => s.kept b hb fun o L _ e => by simp at e) s.size s.os s.tape s.output s.drawn⟩
section
variable {α : Type} {ints : α -> List Int} {k : Nat}
def encA (ints : α -> List Int) (x : α) : List AV := (ints x).map (.int .i64 ·)
def z11 (ints : α -> List Int) (x : α) : List Value := (ints x).map (Value.int .i64 ·)
theorem zam8 (hk : ∀ x, (ints x).length = k) (x : α) : (encA ints x).length = k := by simp [encA, hk]
theorem za35 (hk : ∀ x, (ints x).length = k) (x : α) : (z11 ints x).length = k := by simp [z11, hk]
theorem zax5 (φ : Pl) : ∀ l : List Int, zg4 φ (l.map (.int .i64 ·)) (l.map (Value.int .i64 ·))
 | [] => .nil
 | _ :: l => .cons (.int _ _) (zax5 φ l)
theorem zas4 (xs : List α) : xs.flatMap (encA ints) = (xs.flatMap ints).map (.int .i64 ·) := by
 rw [List.map_flatMap]; rfl
theorem zak0 {β : Type} {f : α -> List β} (hf : ∀ x, (f x).length = k) (hk0 : 0 < k) : ∀ (xs : List α) (t : Nat), t < xs.length * k -> ∃ x, xs[t / k]? = some x /\ (xs.flatMap f)[t]? = (f x)[t % k]?
 | [], t, h => by simp at h
 | x :: xs, t, h => by
  by_cases c : t < k
  ·refine ⟨x, by rw [Nat.div_eq_of_lt c]; rfl, ?_⟩
   rw [List.flatMap_cons, List.getElem?_append_left (by rw [hf]; exact c), Nat.mod_eq_of_lt c]
  ·have h2 : (x :: xs).length * k = xs.length * k + k := by rw [List.length_cons, Nat.add_mul, Nat.one_mul]
   obtain ⟨y, h3, h4⟩ := zak0 hf hk0 xs (t - k) (by omega)
   have e1 : t / k = (t - k) / k + 1 := by rw [<- Nat.add_div_right _ hk0, Nat.sub_add_cancel (by omega)]
   have e2 : t % k = (t - k) % k := by rw [Nat.mod_eq_sub_mod (by omega)]
   refine ⟨y, by rw [e1]; simpa using h3, ?_⟩
   rw [List.flatMap_cons, List.getElem?_append_right (by rw [hf]; omega), hf, h4, e2]
theorem zs9 {β : Type} {f : α -> List β} (hf : ∀ x, (f x).length = k) (xs : List α) : (xs.flatMap f).length = xs.length * k := by
 induction xs with
 | nil => simp
 | cons x xs ih => rw [List.flatMap_cons, List.length_append, ih, hf, List.length_cons, Nat.add_mul]; omega
theorem za29 [Inhabited α] (hk : ∀ x, (ints x).length = k) (hk0 : 0 < k) (xs : List α) {t : Nat} (ht : t < xs.length * k) : ∃ z, (xs.flatMap ints)[t]? = some z /\ (flatK (z11 ints) k xs.toArray)[t]! = .int .i64 z := by
 obtain ⟨x, h1, h2⟩ := zak0 hk hk0 xs t ht
 have hm : t % k < (ints x).length := by rw [hk]; exact Nat.mod_lt _ hk0
 refine ⟨(ints x)[t % k], by rw [h2]; exact List.getElem?_eq_getElem hm, ?_⟩
 rw [get_flatK _ _ _ _ (by simpa using ht)]
 have h3 : xs.toArray[t / k]! = x := by
  have hq : t / k < xs.length := (List.getElem?_eq_some_iff.1 h1).1
  rw [getElem!_pos xs.toArray (t / k) (by simpa using hq)]
  simpa using (List.getElem?_eq_some_iff.1 h1).2
 rw [h3, getElem!_pos (z11 ints x) (t % k) (by rw [za35 hk]; exact Nat.mod_lt _ hk0)]
 simp [z11]
theorem zbu6 [Inhabited α] (hFT : zg3 P (fun _ => True) FT) {c : Nat} {cf : α -> α -> Int} (hc : ∀ x y, Cp FT c [.agg (encA ints x), .agg (encA ints y)] ⟨.leaf, 0, 0⟩ fun r _ => r = .int .i64 (cf x y)) (blk off size : Nat) (w : World) :
  CmpLays P c #[] (z11 ints) k cf blk off size w := by
 intro m os dk _ x y
 have hl : zg4 (fun _ => none) [AV.agg (encA ints x), .agg (encA ints y)] [.agg (z11 ints x).toArray, .agg (z11 ints y).toArray] :=
  .cons (.agg _ _ (zax5 _ (ints x))) (.cons (.agg _ _ (zax5 _ (ints y))) .nil)
 exact zbk1 hFT hl (hc x y) _
variable [Inhabited α]
theorem zbo7 (hk : ∀ x, (ints x).length = k) (hk0 : 0 < k) {B W Z : Nat} {φ : Pl} {H : Heap} {w : World} (h : zc7 G B W Z φ H w) {o : Nat} {L : Loc} {xs ys : List α} (hL : φ o = some L) (hg : H.get o = some (.cells (xs.flatMap (encA ints)))) (hf : H.floor <= o) (hl : ys.length = xs.length) :
  HoldsK (z11 ints) k w L.blk (L.base + 0) xs.toArray /\ L.blk < w.heap.size /\ ∀ n os, ∃ φ', zc7 G B W Z φ' (H.set o (.cells (ys.flatMap (encA ints)))) (sortWorldK (z11 ints) k w L.blk (L.base + 0) n ys.toArray os) /\ Step φ H w φ' (H.set o (.cells (ys.flatMap (encA ints)))) (sortWorldK (z11 ints) k w L.blk (L.base + 0) n ys.toArray os) := by
 obtain ⟨hat, hsz, hown⟩ := h.obj o L _ hL hg
 obtain ⟨c, t, fz, hc, hcs, hfz⟩ := hown (Nat.le_trans h.fl hf)
 have hlen : (xs.flatMap (encA ints)).length = xs.length * k := zs9 (zam8 hk) xs
 have hfl : (xs.flatMap ints).length = xs.length * k := zs9 hk xs
 have hsz' : L.base + xs.length * k <= L.size := by rw [<- hlen]; exact hsz
 have hlt : L.blk < w.heap.size := (Array.getElem?_eq_some_iff.1 hc).1
 have hH : HoldsK (z11 ints) k w L.blk (L.base + 0) xs.toArray := by
  intro j hj
  have hj' : j < xs.length * k := by simpa using hj
  obtain ⟨z, hz, hq⟩ := za29 hk hk0 xs hj'
  have ha : (xs.flatMap (encA ints))[j]? = some (.int .i64 z) := by rw [zas4, List.getElem?_map, hz]; rfl
  obtain ⟨u, hu, hv⟩ := hat j _ ha
  refine ⟨?_, ?_⟩
  ·rw [hq, Nat.add_zero, hu]; cases hv; rfl
  ·simp only [World.frozen?, hc]
   rcases hfz with q | q
   ·simp only [q, Bool.and_eq_false_iff, decide_eq_false_iff_not]; omega
   ·simp only [Bool.and_eq_false_iff, decide_eq_false_iff_not]; omega
 refine ⟨hH, hlt, fun n os => ?_⟩
 have hput : (putRowK (z11 ints) k w L.blk (L.base + 0) ys.toArray).heap[L.blk]? = some (.cells (putCells id (L.base + 0) (flatK (z11 ints) k ys.toArray) c) t fz) := by
  simp [putRowK, putRow, mapBlock, Array.getElem?_modify, hc, onCells]
 have hother : ∀ b, b ≠ L.blk -> (putRowK (z11 ints) k w L.blk (L.base + 0) ys.toArray).heap[b]? = w.heap[b]? := fun b hb => by
  simp [putRowK, putRow, mapBlock, Array.getElem?_modify, Ne.symm hb]
 have hsize : (putRowK (z11 ints) k w L.blk (L.base + 0) ys.toArray).heap.size = w.heap.size := by
  simp [putRowK, putRow, mapBlock]
 have hO : ORel φ (putRowK (z11 ints) k w L.blk (L.base + 0) ys.toArray) B o L (.cells (ys.flatMap (encA ints))) := by
  refine ⟨fun i a ha => ?_, by rw [zs9 (zam8 hk), hl]; exact hsz', fun _ => ⟨_, t, fz, hput, by simp [putCells, hcs], hfz⟩⟩
  have hi : i < ys.length * k := by rw [<- zs9 (zam8 (ints := ints) hk) ys]; exact (List.getElem?_eq_some_iff.1 ha).1
  obtain ⟨z, hz, hq⟩ := za29 hk hk0 ys hi
  have ha' : (ys.flatMap (encA ints))[i]? = some (.int .i64 z) := by rw [zas4, List.getElem?_map, hz]; rfl
  rw [ha] at ha'; cases ha'
  refine ⟨.int .i64 z, ?_, .int _ _⟩
  have := cell?_putRow id w L.blk (L.base + 0) _ (flatK (z11 ints) k ys.toArray) hH (by simp [hl]) i (by simpa using hi)
  rw [hq] at this
  simp only [Nat.add_zero] at this ⊢
  exact this
 obtain ⟨h2, s2⟩ := h.set (w' := putRowK (z11 ints) k w L.blk (L.base + 0) ys.toArray) (.cells (ys.flatMap (encA ints))) hL hg (by simp) hf rfl rfl rfl hsize hother hO (Nat.le_refl _)
 have e : sortWorldK (z11 ints) k w L.blk (L.base + 0) n ys.toArray os = grow (Sort.ahead (putRowK (z11 ints) k w L.blk (L.base + 0) ys.toArray) n) os := rfl
 have hk2 : ∀ b, b < (putRowK (z11 ints) k w L.blk (L.base + 0) ys.toArray).heap.size -> (sortWorldK (z11 ints) k w L.blk (L.base + 0) n ys.toArray os).heap[b]? = (putRowK (z11 ints) k w L.blk (L.base + 0) ys.toArray).heap[b]? := fun b hb => by
  rw [e]; exact Array.getElem?_append_left hb
 have hs2 : (putRowK (z11 ints) k w L.blk (L.base + 0) ys.toArray).heap.size <= (sortWorldK (z11 ints) k w L.blk (L.base + 0) n ys.toArray os).heap.size := by
  rw [e]; simp [grow, Sort.ahead]
 exact ⟨φ, h2.keepAll hs2 hk2, s2.trans { Step.refl φ (H.set o (.cells (ys.flatMap (encA ints)))) (putRowK (z11 ints) k w L.blk (L.base + 0) ys.toArray) with size := hs2, kept := fun b hb _ => hk2 b hb, drawn := Nat.le_add_right _ _ }⟩
theorem zbb6 (hFT : zg3 P (fun _ => True) FT) {ρ : Ren} (L : SlLaysF0.n6 P ρ) (aE : ∀ w, (isAgg (ρ.t 24)).run P w = .ok true w) (zE : ∀ w, (Go.sizeOf (ρ.t 24)).run P w = .ok k w) (hk : ∀ x, (ints x).length = k) (hk0 : 0 < k)
  {cf : α -> α -> Int} (hO : SWO (ltOf cf)) (hT : ∀ x y, (ltOf cf) x y = false -> (ltOf cf) y x = false -> x = y) {c : Nat} (eg : ∀ args w, (callFunc c args).run P w = .ok (.enter c args) w) (hc : ∀ x y, Cp FT c [.agg (encA ints x), .agg (encA ints y)] ⟨.leaf, 0, 0⟩ fun r _ => r = .int .i64 (cf x y))
  (hfn : FnOk P (ρ.f 6)) {H : Heap} {o lo : Nat} {ex : Bool} {xs : List α} (hg : H.get o = some (.cells (xs.flatMap (encA ints)))) (hf : H.floor <= o) (hx : xs ≠ []) (hn : xs.length < 4611686018427387904) :
  Good P (ρ.f 6) [.slc o 0 xs.length k lo ex, .fn c [] []] H (.tup []) (H.set o (.cells ((xs.mergeSort fun x y => !(ltOf cf) y x).flatMap (encA ints)))) := by
 refine ⟨fun _ => zf5.set _ hf hg, fun G B W Z φ w avs hl hH hK => ⟨hfn, ?_⟩⟩
 have hpos : 0 < xs.length := List.length_pos_iff.2 hx
 generalize hlen : xs.length = n at hl
 cases hl with
 | cons h1 t =>
  cases t with
  | cons h2 t =>
   cases t
   cases h2 with
   | fn f fs cs ws vs hws hvs =>
    cases h1 with
    | slc0 => omega
    | slc _ _ _ _ _ _ L' cap hL q1 q2 q3 q4 =>
     obtain ⟨hH1, hlt, hrel⟩ := zbo7 hk hk0 hH hL hg hf (ys := xs.mergeSort fun x y => !(ltOf cf) y x) (by simp)
     have e1 : ws = #[] := by
      have := hws.len
      exact Array.eq_empty_of_size_eq_zero (by simpa using this.symm)
     have e2 : vs = #[] := by
      have := hvs.len
      exact Array.eq_empty_of_size_eq_zero (by simpa using this.symm)
     subst e1; subst e2
     have hcon := AnyQ.slices_SortFunc_total L k aE zE (z11 ints) (za35 hk) (fun x v hv => by obtain ⟨z, _, rfl⟩ := List.mem_map.1 hv; rfl) cf hO c #[] L'.blk (L'.base + 0) cap xs.toArray w eg (zbu6 hFT hc L'.blk (L'.base + 0) xs.toArray.size w) hH1 hlt (by simpa using hn) hT
     have e3 : xs.toArray.size = n := by simpa using hlen
     rw [e3] at hcon
     refine hcon.mono ?_
     rintro e w' ⟨rfl, m, os, rfl⟩
     obtain ⟨φ', a, b⟩ := hrel m os
     exact ⟨φ', _, rfl, .tup _ _ .nil, a, b⟩
end
theorem zbb5 (P : Program) {f : Nat} (hfn : FnOk P f) (h : ∀ (p : Option Addr) (cap : Nat) (fv : Value) (w : World), Calls P f #[.slice p 0 cap, fv] w fun e w' => e = .returned (.tuple #[]) /\ w' = w) {H : Heap} {x : AV} : Good P f [.nils, x] H (.tup []) H := by
 refine ⟨fun _ => zf5.refl H, fun G B W Z φ w avs hl hH hK => ⟨hfn, ?_⟩⟩
 cases hl with
 | cons h1 t =>
  cases t with
  | cons h2 t =>
   cases t
   cases h1
   refine (h none 0 _ w).mono ?_
   rintro e w' ⟨rfl, rfl⟩
   exact ⟨φ, _, rfl, .tup _ _ .nil, hH, Step.refl _ _ _⟩
end Go.AI
