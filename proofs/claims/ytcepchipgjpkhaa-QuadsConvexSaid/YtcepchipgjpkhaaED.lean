/- Functions of the library that are told: strings.Builder, strconv.Itoa. No claim by itself. -/
import Derived.Test.YtcepchipgjpkhaaE24
import Derived.Lib.ItoaNum
import Derived.Lib.AppendStr
import Derived.Laws.AppendOwn
import Derived.Sort.Grow
import Derived.Deep.Draws
import Derived.Test.YtcepchipgjpkhaaE25
import Derived.Deep.Strs
import Derived.Lib.LaidTab
namespace Go.AI
variable {P : Program} {G : World -> Prop}
theorem zc7.grown {B W Z : Nat} {φ : Pl} {H : Heap} {w w' : World} (h : zc7 G B W Z φ H w) (hs : w.heap.size <= w'.heap.size) (hk : ∀ b, b < w.heap.size -> w'.heap[b]? = w.heap[b]?) (h1 : w'.os = w.os) (h2 : w'.tape = w.tape) (h3 : w'.output = w.output) (hdr : w.drawn <= w'.drawn := by first | exact Nat.le_refl _ | exact Nat.le_succ _ | exact Nat.le_add_right _ _ | assumption | (simp; done) | omega) :
  zc7 G B W Z φ H w' /\ Step φ H w φ H w' :=
 ⟨h.keepAll hs hk, { Step.refl φ H w with drawn := hdr, os := h1, tape := h2, output := h3, size := hs, kept := fun b hb _ => hk b hb }⟩
def decF : Nat -> Nat -> List Nat -> List Nat
 | 0, _, acc => acc
 | f + 1, u, acc => bif Nat.blt u 10 then (48 + u) :: acc else decF f (u / 10) ((48 + u % 10) :: acc)
def zbv1 (H : Heap) (o : Nat) : Option (Nat × Option (Nat × Nat)) :=
 match H.get o with
 | some (.bld T b) => some (T, b)
 | _ => none
def zbv0 (H : Heap) (q : Nat) : Option (Nat × List Nat) :=
 match H.get q with
 | some (.buf E bs) => some (E, bs)
 | _ => none
def zaz4 (T E : Nat) (o : Nat) (s : List Nat) (H : Heap) : Option Heap :=
 match zbv1 H o with
 | some (T', none) =>
  bif Nat.beq T' T && Nat.ble s.length 140737488355328 then
   (match s with | [] => some (H.set o (.bld T none)) | _ :: _ => some ((H.push (.buf E s)).set o (.bld T (some (H.next, s.length)))))
  else none
 | some (T', some (q, n)) =>
  match zbv0 H q with
  | some (E', bs) =>
   bif Nat.beq T' T && Nat.beq E' E && Nat.beq n bs.length && Nat.ble H.floor q && Nat.ble (n + s.length) 140737488355328 then
    some (((H.set q .dead).push (.buf E (bs ++ s))).set o (.bld T (some (H.next, n + s.length))))
   else none
  | none => none
 | none => none
def zaz3 (T E : Nat) : List AV -> Heap -> Option (AV × Heap)
 | [.ptr o 0, .str s], H => bif Nat.ble H.floor o then (zaz4 T E o s H).map fun H' => (.tup [.int .i64 s.length, .nili], H') else none
 | _, _ => none
def zau5 (T E : Nat) : List AV -> Heap -> Option (AV × Heap)
 | [.ptr o 0], H =>
  match zbv1 H o with
  | some (T', none) => bif Nat.beq T' T then some (.str [], H) else none
  | some (T', some (q, n)) =>
   match zbv0 H q with
   | some (E', bs) => bif Nat.beq T' T && Nat.beq E' E && Nat.beq n bs.length && Nat.ble H.floor q && Nat.blt 0 n && Nat.ble H.floor o then some (.str bs, H.set q .dead) else none
   | none => none
  | none => none
 | _, _ => none
end Go.AI
namespace Go.AI
inductive SS (α : Type) where
 | out
 | com
 | word (f : Nat) (acc : List α)
def isBl (c : Nat) : Bool := Nat.beq c 32 || Nat.beq c 9 || Nat.beq c 13 || Nat.beq c 10
def zav2 {α : Type} (val : α -> Nat) : List α -> Nat -> SS α -> List (Nat × List α)
 | [], _, .word f acc => [(f, acc.reverse)]
 | [], _, .out => []
 | [], _, .com => []
 | c :: r, p, .out => bif isBl (val c) then zav2 val r (p + 1) .out else bif Nat.beq (val c) 35 then zav2 val r (p + 1) .com else zav2 val r (p + 1) (.word p [c])
 | c :: r, p, .com => bif Nat.beq (val c) 10 then zav2 val r (p + 1) .out else zav2 val r (p + 1) .com
 | c :: r, p, .word f acc => bif isBl (val c) then (f, acc.reverse) :: zav2 val r (p + 1) .out else zav2 val r (p + 1) (.word f (c :: acc))
section
variable {α : Type} {val : α -> Nat}
theorem zo0 {l : List α} {k : Nat} {c : α} (h : l[k]? = some c) : l.drop k = c :: l.drop (k + 1) := by
 obtain ⟨hk, rfl⟩ := List.getElem?_eq_some_iff.1 h
 exact List.drop_eq_getElem_cons hk
end
end Go.AI
namespace Go.AI
variable {P : Program} {G : World -> Prop}
def zbl0 (H : Heap) : AV -> Option (List Nat)
 | .nils => some []
 | .slc o off len 1 _ _ => (H.readSeg o off len).bind bytesOf
 | _ => none
end Go.AI
namespace Go.AI
theorem za7 {H : Heap} {x : zo4} {o o' : Nat} : (H.set o x).get o' = if o' = o then some x else H.get o' := Tr.get_set _ _ _ _
theorem za3 {H : Heap} {o : Nat} {cs : List AV} (h : H.get o = some (.cells cs)) : H.cellsAt o = some cs := by
 unfold Heap.cellsAt; rw [h]
theorem zp2 {H : Heap} {o : Nat} {cs : List AV} (h : H.cellsAt o = some cs) : H.get o = some (.cells cs) := by
 unfold Heap.cellsAt at h; split at h
 ·rename_i x hx; cases h; exact hx
 ·cases h
theorem Wf.set {H : Heap} (h : H.Wf) {o : Nat} {x : zo4} (ho : o < H.next) : (H.set o x).Wf := ⟨h.1, fun o' hn => by
 rw [za7, if_neg (by have : H.next <= o' := hn; omega)]; exact h.2 _ hn⟩
theorem Heap.Wf.lt {H : Heap} (h : H.Wf) {o : Nat} {x : zo4} (e : H.get o = some x) : o < H.next := Classical.byContradiction fun q => by
 rw [h.2 o (by omega)] at e; cases e
theorem za1 {H : Heap} {o off : Nat} {cs : List AV} {x : AV} (h : H.get o = some (.cells cs)) (k : cs[off]? = some x) : za9 H none (.ptr o off) = some x := by
 rw [ze3, za3 h]; exact k
theorem zc0 {H : Heap} {o off n : Nat} {cs ys : List AV} (h : H.get o = some (.cells cs)) (k : seg cs off n = some ys) : za9 H (some n) (.ptr o off) = some (.agg ys) := by
 rw [ze3, za3 h]; simp [ze2, k]
def frB (p x : AV) : Bool := match p with | .ptr p _ => (match x with | .slc o _ _ _ _ _ => !Nat.beq p o | _ => true) | _ => false
theorem zm8 {τ : Env} {d : Option Nat} {e b : Nat} {x y : Opd} {g : Option (Nat × Bool)} {q : Bool} {fr : List Nat} : zg1 τ ⟨d, .append e b x y, g, q, fr⟩ = fr.all fun t => frB (Env.at τ t) (ev τ x) := by
 unfold zg1
 congr 1
 funext t
 cases Env.at τ t with
 | ptr p o =>
  show (true && match (match ev τ x with | .slc o _ _ _ _ _ => some o | _ => none) with | some q => !(Nat.beq p q) | none => true) = frB (.ptr p o) (ev τ x)
  cases ev τ x <;> rfl
 | _ => rfl
@[simp] theorem zbv5 {FT : Nat -> Option FnD} {τ : Env} {H : Heap} {Q : Post} {dst : Option Nat} {sz b : Nat} {x y : Opd} {t : Nat} {fr : List Nat} {rest : List zb6} :
  Wo FT (⟨dst, .append sz b x y, none, false, t :: fr⟩ :: rest) τ H Q ↔ ((t :: fr).all fun t => frB (Env.at τ t) (ev τ x)) = true /\ opK FT dst rest τ Q (zc4 sz b H (ev τ x) (ev τ y)) := by
 by_cases h : ((t :: fr).all fun t => frB (Env.at τ t) (ev τ x)) = true
 ·rw [zbl8 (by intros; simp) (by rw [zm8]; exact h)]
  simp only [h, true_and]
  rfl
 ·constructor
  ·rintro ⟨n, τ', H', e, q⟩
   have hf : zg1 τ ⟨dst, .append sz b x y, none, false, t :: fr⟩ = false := by
    rw [zm8]; simpa using h
   simp only [zv3, ze5, cond_true, hf, cond_false] at e
   cases e
  ·exact fun q => (h q.1).elim
def rowObj : AV -> Option Nat
 | .slc o _ _ _ _ _ => some o
 | _ => none
theorem za26 {p off : Nat} {v : AV} (h : rowObj v ≠ some p) : frB (.ptr p off) v = true := by
 cases v with
 | slc o a b c d e =>
  show (!Nat.beq p o) = true
  have : p ≠ o := fun q => h (by rw [q]; rfl)
  rw [Tr.nbeq]; simp [this]
 | _ => rfl
def Ow {α : Type} (e : Nat) (enc : α -> List AV) (H : Heap) (v : AV) (xs : List α) : Prop :=
 (v = .nils /\ xs = []) \/ ∃ o, v = .slc o 0 xs.length e xs.length false /\ xs ≠ [] /\ H.get o = some (.cells (xs.flatMap enc)) /\ H.floor <= o
def Sw {α : Type} (e : Nat) (enc : α -> List AV) (H : Heap) (v : AV) (xs : List α) : Prop :=
 (v = .nils /\ xs = []) \/ ∃ o off lo ex, v = .slc o off xs.length e lo ex /\ H.readSeg o off (xs.length * e) = some (xs.flatMap enc)
section
variable {α : Type} {e : Nat} {enc : α -> List AV} {H H0 : Heap} {v : AV} {xs ys : List α}
theorem Ow.sl (hn : ∀ x, (enc x).length = e) (h : Ow e enc H v xs) : Sl e enc H v xs := by
 rcases h with h | ⟨o, rfl, _, h2, _⟩
 ·exact .inl h
 ·exact Sl.ofCells hn h2
theorem zo7 {cs : List AV} {n : Nat} (h : cs.length = n) : seg cs 0 n = some cs := by
 have hb : Nat.ble (0 + n) cs.length = true := Nat.ble_eq_true_of_le (by omega)
 simp only [seg, hb, cond_true, List.drop_zero]
 rw [List.take_of_length_le (by omega)]
theorem Ow.sw (hn : ∀ x, (enc x).length = e) (h : Ow e enc H v xs) : Sw e enc H v xs := by
 rcases h with h | ⟨o, rfl, _, h2, _⟩
 ·exact .inl h
 ·refine .inr ⟨o, 0, _, _, rfl, ?_⟩
  unfold Heap.readSeg
  rw [za3 h2]
  exact zo7 (zg6 hn xs)
theorem Ow.keep {H' : Heap} (h : Ow e enc H v xs) (hf : H'.floor = H.floor) (k : ∀ o, rowObj v = some o -> H'.get o = H.get o) : Ow e enc H' v xs := by
 rcases h with h | ⟨o, rfl, h1, h2, h3⟩
 ·exact .inl h
 ·exact .inr ⟨o, rfl, h1, by rw [k o rfl]; exact h2, by rw [hf]; exact h3⟩
theorem Ow.app (hn : ∀ x, (enc x).length = e) (_ : 1 <= e) (h1 : ∀ x, za5 (enc x) = true) {bytes : Nat} {y : AV} (hw : H.Wf) (hx : Ow e enc H v xs) (hy : Sw e enc H y ys) (hb : (2 * (xs.length + ys.length) + 1024) * bytes <= 2 ^ 48) :
  ∃ v' H', zc4 e bytes H v y = some (v', H') /\ Ow e enc H' v' (xs ++ ys) /\ H'.Wf /\ H'.floor = H.floor /\ H.next <= H'.next /\ (∀ o, o < H.next -> rowObj v ≠ some o -> H'.get o = H.get o) /\ ∀ o, rowObj v' = some o -> rowObj v = some o \/ (H.next <= o /\ o < H'.next) := by
 have hone : ∀ zs : List α, za5 (zs.flatMap enc) = true := by
  intro zs
  unfold za5
  rw [List.all_eq_true]
  intro a ha
  obtain ⟨z, _, hz⟩ := List.mem_flatMap.1 ha
  have := h1 z
  unfold za5 at this
  rw [List.all_eq_true] at this
  exact this a hz
 have hsrc : srcA e H y = some (ys.length, ys.flatMap enc) := by
  rcases hy with ⟨rfl, rfl⟩ | ⟨o, off, lo, ex, rfl, hr⟩
  ·rfl
  ·simp only [srcA, Nat.beq_refl, cond_true, hr, Option.map_some]
 by_cases h0 : ys = []
 ·subst h0
  refine ⟨v, H, ?_, by rw [List.append_nil]; exact hx, hw, rfl, Nat.le_refl _, fun _ _ _ => rfl, fun o q => .inl q⟩
  rcases hx with ⟨rfl, rfl⟩ | ⟨o, rfl, h2, h3, h4⟩
  ·simp only [zc4, hsrc, hone, cond_true]; rfl
  ·simp [zc4, hsrc]
 ·have hl0 : Nat.beq ys.length 0 = false := by
   rw [Tr.nbeq]
   have : ys.length ≠ 0 := fun q => h0 (List.length_eq_zero_iff.1 q)
   simp [this]
  rcases hx with ⟨rfl, rfl⟩ | ⟨o, rfl, h2, h3, h4⟩
  ·have hbig : Nat.ble ((2 * ys.length + 1024) * bytes) (2 ^ 48) = true := Nat.ble_eq_true_of_le (by simpa using hb)
   refine ⟨.slc H.next 0 ys.length e ys.length false, H.push (.cells (ys.flatMap enc)), ?_, .inr ⟨H.next, rfl, h0, za6.trans (if_pos rfl), hw.1⟩, hw.push _, rfl, Nat.le_succ _, fun o ho _ => za6.trans (if_neg (by omega)), fun o q => .inr ?_⟩
   ·simp only [zc4, hsrc, hone, cond_true, hl0, cond_false, hbig]
   ·cases q; exact ⟨Nat.le_refl _, Nat.lt_succ_self _⟩
  ·have hb1 : Nat.ble (xs.length + ys.length) xs.length = false := by
    cases hh : Nat.ble (xs.length + ys.length) xs.length with
    | false => rfl
    | true =>
     have := Nat.le_of_ble_eq_true hh
     have : ys.length ≠ 0 := fun q => h0 (List.length_eq_zero_iff.1 q)
     omega
   have hbig : Nat.ble ((2 * (xs.length + ys.length) + 1024) * bytes) (2 ^ 48) = true := Nat.ble_eq_true_of_le hb
   have ho : o < H.next := Classical.byContradiction fun q => by
    have := hw.2 o (by omega); rw [this] at h3; cases h3
   have hread : H.readSeg o 0 (xs.length * e) = some (xs.flatMap enc) := by
    unfold Heap.readSeg
    rw [za3 h3]
    exact zo7 (zg6 hn xs)
   have hfl : Nat.ble H.floor o = true := Nat.ble_eq_true_of_le h4
   have hne : xs ++ ys ≠ [] := fun q => h2 (List.append_eq_nil_iff.1 q).1
   refine ⟨.slc H.next 0 (xs.length + ys.length) e (xs.length + ys.length) false, (H.set o .dead).push (.cells (xs.flatMap enc ++ ys.flatMap enc)), ?_, .inr ⟨H.next, by rw [List.length_append], hne, ?_, hw.1⟩, (Wf.set hw ho).push _, rfl, Nat.le_succ _, fun o' ho' hne' => ?_, fun o' q => .inr ?_⟩
   ·simp only [zc4, hsrc, hone, cond_true, Nat.beq_refl, hl0, cond_false, hb1, hbig, hread, hfl]
   ·rw [List.flatMap_append]; exact za6.trans (if_pos rfl)
   ·have q : o' ≠ o := fun q => hne' (by rw [q]; rfl)
    exact (za6.trans (if_neg (by show ¬ o' = H.next; omega))).trans (za7.trans (if_neg q))
   ·cases q; exact ⟨Nat.le_refl _, Nat.lt_succ_self _⟩
structure Bx (X : Option Nat) (e : Nat) (enc : α -> List AV) (H0 H : Heap) (v : AV) (xs : List α) : Prop where
 wf : H.Wf
 fl : H.floor = H0.floor
 nx : H0.next <= H.next
 old : ∀ o x, o < H0.next -> X ≠ some o -> H0.get o = some x -> H.get o = some x
 ow : Ow e enc H v xs
 fresh : ∀ o, rowObj v = some o -> (X = some o \/ H0.next <= o) /\ o < H.next
abbrev Bd (e : Nat) (enc : α -> List AV) (H0 H : Heap) (v : AV) (xs : List α) : Prop := Bx none e enc H0 H v xs
variable {X : Option Nat}
theorem Bx.start (hw : H.Wf) (h : Ow e enc H v xs) : Bx (rowObj v) e enc H H v xs := ⟨hw, rfl, Nat.le_refl _, fun _ _ _ _ q => q, h, fun o q => by
 refine ⟨.inl q, ?_⟩
 rcases h with ⟨rfl, _⟩ | ⟨o', rfl, _, h2, _⟩
 ·cases q
 ·cases q
  exact Classical.byContradiction fun k => by have := hw.2 o (by omega); rw [this] at h2; cases h2⟩
theorem Bd.ext (h : Bd e enc H0 H v xs) (hw0 : H0.Wf) : Ext H0 H := ⟨h.fl, h.nx, fun o x q => by
 have ho : o < H0.next := Classical.byContradiction fun k => by
  have := hw0.2 o (by omega); rw [this] at q; cases q
 exact h.old o x ho (fun q => by cases q) q, h.wf⟩
theorem Bx.keep {β : Type} {e' : Nat} {enc' : β -> List AV} {w : AV} {ys : List β} (h : Bx X e enc H0 H v xs) (hw0 : H0.Wf) (k : Sl e' enc' H0 w ys) (d : ∀ o, rowObj w = some o -> X ≠ some o) : Sl e' enc' H w ys := by
 rcases k with k | ⟨o, off, lo, ex, cs, a, b, c⟩
 ·exact .inl k
 ·refine .inr ⟨o, off, lo, ex, cs, a, ?_, c⟩
  unfold Heap.cellsAt at b ⊢
  cases q : H0.get o with
  | none => rw [q] at b; cases b
  | some x =>
   have ho : o < H0.next := Classical.byContradiction fun k => by
    have := hw0.2 o (by omega); rw [this] at q; cases q
   rw [h.old o x ho (d o (by rw [a]; rfl)) q]
   rw [q] at b; exact b
theorem Bx.after {H' : Heap} (h : Bx X e enc H0 H v xs) (k : Ext H H') : Bx X e enc H0 H' v xs := by
 have := h.nx
 have := k.next
 refine ⟨k.wf, k.floor.trans h.fl, by omega, fun o x a b c => k.keep o x (h.old o x a b c), ?_, fun o q => ?_⟩
 ·rcases h.ow with q | ⟨o, rfl, h1, h2, h3⟩
  ·exact .inl q
  ·exact .inr ⟨o, rfl, h1, k.keep _ _ h2, by rw [k.floor]; exact h3⟩
 ·have := h.fresh o q; exact ⟨this.1, by omega⟩
theorem Bx.push (h : Bx X e enc H0 H v xs) {x : zo4} : Bx X e enc H0 (H.push x) v xs := h.after (Ext.push h.wf x)
theorem Bx.appS (hn : ∀ x, (enc x).length = e) (he : 1 <= e) (h1 : ∀ x, za5 (enc x) = true) {bytes : Nat} {y : AV} (h : Bx X e enc H0 H v xs) (hy : Sw e enc H y ys) (hb : (2 * (xs.length + ys.length) + 1024) * bytes <= 2 ^ 48) :
  ∃ v' H', zc4 e bytes H v y = some (v', H') /\ Bx X e enc H0 H' v' (xs ++ ys) /\ H.next <= H'.next /\ (∀ o, o < H.next -> rowObj v ≠ some o -> H'.get o = H.get o) /\ ∀ o, rowObj v' = some o -> rowObj v = some o \/ H.next <= o := by
 have hnx := h.nx
 obtain ⟨v', H', k1, k2, k3, k4, k5, k6, k7⟩ := h.ow.app hn he h1 (bytes := bytes) h.wf hy hb
 refine ⟨v', H', k1, ⟨k3, k4.trans h.fl, by omega, ?_, k2, ?_⟩, k5, k6, fun o q => (k7 o q).imp id fun q => q.1⟩
 ·intro o x ho hX hx
  rw [k6 o (by omega) (fun q => by
   rcases (h.fresh o q).1 with k | k
   ·exact hX k
   ·omega)]
  exact h.old o x ho hX hx
 ·intro o ho
  rcases k7 o ho with q | ⟨q1, q2⟩
  ·have := h.fresh o q; exact ⟨this.1, by omega⟩
  ·exact ⟨.inr (by omega), q2⟩
theorem Bx.app1 (hn : ∀ x, (enc x).length = e) (he : 1 <= e) (h1 : ∀ x, za5 (enc x) = true) {bytes : Nat} (h : Bx X e enc H0 H v xs) (x : α) (hb : (2 * (xs.length + 1) + 1024) * bytes <= 2 ^ 48) :
  ∃ v' H', zc4 e bytes (H.push (.cells (enc x))) v (.slc H.next 0 1 e 1 true) = some (v', H') /\ Bx X e enc H0 H' v' (xs ++ [x]) /\ H.next <= H'.next /\ (∀ o, o < H.next -> rowObj v ≠ some o -> H'.get o = H.get o) /\ ∀ o, rowObj v' = some o -> rowObj v = some o \/ H.next <= o := by
 have hp := h.push (x := .cells (enc x))
 have hy : Sw e enc (H.push (.cells (enc x))) (.slc H.next 0 1 e 1 true) [x] := by
  refine .inr ⟨H.next, 0, 1, true, rfl, ?_⟩
  unfold Heap.readSeg
  rw [za3 (za6.trans (if_pos rfl))]
  simp only [List.flatMap_cons, List.flatMap_nil, List.append_nil]
  exact zo7 (by rw [hn]; simp)
 obtain ⟨v', H', k1, k2, k3, k4, k5⟩ := hp.appS hn he h1 (bytes := bytes) hy (by simpa using hb)
 have k3' : H.next + 1 <= H'.next := k3
 refine ⟨v', H', k1, k2, by omega, ?_, ?_⟩
 ·intro o ho hne
  rw [k4 o (by show o < H.next + 1; omega) hne]
  exact za6.trans (if_neg (by omega))
 ·intro o ho
  rcases k5 o ho with q | q
  ·exact .inl q
  ·have q1 : H.next + 1 <= o := q
   exact .inr (by omega)
theorem Bx.sl (hn : ∀ x, (enc x).length = e) (h : Bx X e enc H0 H v xs) : Sl e enc H v xs := h.ow.sl hn
end
theorem zc6 (x : Int × Int) : (za2 x).length = 2 := rfl
theorem zad9 (x : Int × Int) : za5 (za2 x) = true := rfl
theorem zc9 (x : Int) : (zi7 x).length = 1 := rfl
theorem zd4 {H : Heap} (hw : H.Wf) {z cs : List AV} {n : Nat} {x : AV} (hx : x.cells = cs) (hc : cs.length = n) (hz : z.length = n) (h1 : za5 cs = true) :
  ∃ H', zf6 (H.push (.cells z)) n (.ptr H.next 0) x = some (zb8, H') /\ H'.get H.next = some (.cells cs) /\ Ext H H' /\ H'.next = H.next + 1 := by
 refine ⟨(H.push (.cells z)).set H.next (.cells cs), ?_, za7.trans (if_pos rfl), ⟨rfl, Nat.le_succ _, fun o y e => ?_, Wf.set (hw.push _) (Nat.lt_succ_self _)⟩, rfl⟩
 ·have hb : Nat.beq cs.length n = true := by rw [hc]; exact Nat.beq_refl n
  have hf : Nat.ble (H.push (.cells z)).floor H.next = true := Nat.ble_eq_true_of_le hw.1
  have hl : Nat.ble (0 + cs.length) z.length = true := Nat.ble_eq_true_of_le (by omega)
  have hs : setSeg z 0 cs = cs := by
   unfold setSeg; rw [List.drop_of_length_le (by omega)]; simp
  rw [ze4, hx, hb, cond_true]
  simp only [Heap.writeSeg, hf, cond_true, zk1, hl, h1, Bool.and_self, hs, Option.map_some]
 ·have := hw.lt e
  rw [za7, if_neg (by omega), za6, if_neg (by omega)]; exact e
theorem zba8 {H : Heap} {o off : Nat} {x : AV} {cs : List AV} (hf : H.floor <= o) (hg : H.get o = some (.cells cs)) (hl : off < cs.length) (hx : x.one = true) : zf6 H 1 (.ptr o off) x = some (zb8, H.set o (.cells (cs.set off x))) := by
 have hc : x.cells = [x] := by cases x <;> simp [AV.one] at hx <;> rfl
 have hb : Nat.ble H.floor o = true := Nat.ble_eq_true_of_le hf
 have hb2 : Nat.ble (off + 1) cs.length = true := Nat.ble_eq_true_of_le hl
 have ha : za5 [x] = true := by simp [za5, hx]
 have hs : setSeg cs off [x] = cs.set off x := by
  unfold setSeg
  rw [List.set_eq_take_append_cons_drop, if_pos hl]; simp
 rw [ze4, hc]
 unfold Heap.writeSeg
 rw [za3 hg, hb]
 simp only [List.length_cons, List.length_nil, hb2, ha, cond_true, Bool.and_self, Nat.zero_add, hs]
 rfl
theorem Sl.one {α : Type} {e : Nat} {enc : α -> List AV} {H : Heap} {v : AV} {xs : List α} (h : Sl e enc H v xs) : v.one = true /\ v.cells = [v] := by
 rcases h with ⟨rfl, _⟩ | ⟨o, off, lo, ex, cs, rfl, _⟩ <;> exact ⟨rfl, rfl⟩
@[simp] theorem allOne_nili {l : List AV} : za5 (.nili :: l) = za5 l := rfl
theorem zh1 {v : AV} {l : List AV} (h : v.one = true) : za5 (v :: l) = za5 l := by simp [za5, h]
section
variable {e : Opd -> AV} {H : Heap}
@[simp] theorem b_adds {d : EqD} {a b : List Nat} : zi8 .add d (.str a) (.str b) = if ((a.length + b.length : Nat) : Int) > IntKind.i64.max then none else some (.str (a ++ b)) := by simp [zi8]
@[simp] theorem b_eqls {d : EqD} {a b : List Nat} : zi8 .eql d (.str a) (.str b) = some (.bool (a == b)) := by simp [zi8]
@[simp] theorem b_neqs {d : EqD} {a b : List Nat} : zi8 .neq d (.str a) (.str b) = some (.bool !(a == b)) := by simp [zi8]
def zcf3 : AV -> Option AV | .str s => some (.int .i64 s.length) | _ => none
@[simp] theorem lenSA_str {s : List Nat} : zcf3 (.str s) = some (.int .i64 s.length) := rfl
@[simp] theorem p_lenStr {x : Opd} : zb2 e H (.len .str x) = lft H (zcf3 (e x)) := zg0
def zcf9 : AV -> AV -> Option AV
 | .str s, .int _ i => if 0 <= i then (s[i.toNat]?).map zag5 else none
 | _, _ => none
@[simp] theorem idxSA_str {s : List Nat} {k : IntKind} {i : Int} : zcf9 (.str s) (.int k i) = if 0 <= i then (s[i.toNat]?).map zag5 else none := rfl
@[simp] theorem p_indexS {x i : Opd} : zb2 e H (.indexS x i) = lft H (zcf9 (e x) (e i)) := zg0
def slSA (x : AV) (lo hi : Option AV) : Option AV :=
 match x with
 | .str s => (zd8 s.length s.length true lo hi none).map fun (l, h, _, _) => .str ((s.drop l).take (h - l))
 | _ => none
@[simp] theorem p_sliceS {x : Opd} {lo hi : Option Opd} : zb2 e H (.sliceS x lo hi) = lft H (slSA (e x) (lo.map e) (hi.map e)) := zg0
def zcd2 : AV -> Option AV | .str s => some (.str s) | _ => none
@[simp] theorem sameA_str {s : List Nat} : zcd2 (.str s) = some (.str s) := rfl
@[simp] theorem p_same {x : Opd} : zb2 e H (.convert .same x) = lft H (zcd2 (e x)) := zg0
def za00 (H : Heap) : AV -> Option (AV × Heap)
 | .str s => some (.slc H.next 0 s.length 1 s.length false, H.push (.cells (s.map zag5)))
 | _ => none
@[simp] theorem toBytesA_str {s : List Nat} : za00 H (.str s) = some (.slc H.next 0 s.length 1 s.length false, H.push (.cells (s.map zag5))) := rfl
@[simp] theorem p_strToBytes {x : Opd} : zb2 e H (.convert .strToBytes x) = za00 H (e x) := rfl
def zcb9 (H : Heap) : AV -> Option (AV × Heap)
 | .nils => some (.str [], H)
 | .slc o off len 1 _ _ => ((H.readSeg o off len).bind bytesOf).map fun s => (.str s, H)
 | _ => none
@[simp] theorem p_bytesToStr {x : Opd} : zb2 e H (.convert .bytesToStr x) = zcb9 H (e x) := rfl
def zbh5 (len sz : Nat) (n : Option Nat) : AV -> AV -> Option AV
 | .agg cs, .int _ i => if 0 <= i /\ i < len then ze2 cs (i.toNat * sz) n else none
 | _, _ => none
@[simp] theorem p_index {len sz : Nat} {n : Option Nat} {x i : Opd} : zb2 e H (.index len sz n x i) = lft H (zbh5 len sz n (e x) (e i)) := zg0
@[simp] theorem zg9 {len sz : Nat} {n : Option Nat} {cs : List AV} {k : IntKind} {i : Int} : zbh5 len sz n (.agg cs) (.int k i) = if 0 <= i /\ i < len then ze2 cs (i.toNat * sz) n else none := rfl
end
@[simp] theorem fillV_pair {e : Opd -> AV} {cs : List AV} {off : Nat} {k k' : IntKind} {a b : Int} {r : List (Nat × Nat × Opd)} : zj7 e cs off 2 (.agg [.int k a, .int k' b]) r = if off + 2 <= cs.length then zh0 e (setSeg cs off [.int k a, .int k' b]) r else none := by
 simp [zj7]
@[simp] theorem setSeg_pair {a b x y : AV} : setSeg [a, b] 0 [x, y] = [x, y] := by simp [setSeg]
@[simp] theorem fillV_str {e : Opd -> AV} {cs : List AV} {off : Nat} {s : List Nat} {r : List (Nat × Nat × Opd)} : zj7 e cs off 1 (.str s) r = if off + 1 <= cs.length then zh0 e (setSeg cs off [.str s]) r else none := by
 simp [zj7]
@[simp] theorem fillV_nils {e : Opd -> AV} {cs : List AV} {off : Nat} {r : List (Nat × Nat × Opd)} : zj7 e cs off 1 .nils r = if off + 1 <= cs.length then zh0 e (setSeg cs off [.nils]) r else none := by
 simp [zj7]
theorem zi4 {e : Opd -> AV} {cs : List AV} {off : Nat} {v : AV} {r : List (Nat × Nat × Opd)} (h : v.one = true) (hc : v.cells = [v]) : zj7 e cs off 1 v r = if off + 1 <= cs.length then zh0 e (setSeg cs off [v]) r else none := by
 unfold zj7; rw [hc]; simp [za5, h]
theorem zba9 {H : Heap} {o n : Nat} {x : AV} {cs xs : List AV} (hx : x.cells = xs) (hn : xs.length = n) (hf : H.floor <= o) (hg : H.get o = some (.cells cs)) (hl : cs.length = n) (h1 : za5 xs = true) : zf6 H n (.ptr o 0) x = some (zb8, H.set o (.cells xs)) := by
 have hb : Nat.beq xs.length n = true := by rw [hn]; exact Nat.beq_refl n
 have hfl : Nat.ble H.floor o = true := Nat.ble_eq_true_of_le hf
 have hle : Nat.ble (0 + xs.length) cs.length = true := Nat.ble_eq_true_of_le (by omega)
 have hs : setSeg cs 0 xs = xs := by
  unfold setSeg; rw [List.drop_of_length_le (by omega)]; simp
 rw [ze4, hx, hb, cond_true]
 simp only [Heap.writeSeg, hfl, cond_true, za3 hg, hle, h1, Bool.and_self, hs, Option.map_some]
theorem Ext.setNew {H H1 : Heap} (h : Ext H H1) (hw : H.Wf) {o : Nat} {x : zo4} (h1 : H.next <= o) (h2 : o < H1.next) : Ext H (H1.set o x) :=
 ⟨h.floor, h.next, fun p y e => by have := hw.lt e; rw [za7, if_neg (by omega)]; exact h.keep p y e, Wf.set h.wf h2⟩
@[simp] theorem b_neqp {a b c d : Int} : zi8 .neq (.flat [.int, .int]) (.agg [.int .i64 a, .int .i64 b]) (.agg [.int .i64 c, .int .i64 d]) = some (.bool !(a == c && b == d)) := by
 have e : zd5 [.int, .int] [.int .i64 a, .int .i64 b] [.int .i64 c, .int .i64 d] = some (a == c && b == d) := by
  simp only [zd5, zh8, if_true]
  cases (a == c) <;> cases (b == d) <;> rfl
 have e2 : eqA (.flat [.int, .int]) (.agg [.int .i64 a, .int .i64 b]) (.agg [.int .i64 c, .int .i64 d]) = some (a == c && b == d) := e
 simp only [zi8, e2, Option.map_some]
end Go.AI
namespace Go.AI
structure ExtC (H H' : Heap) : Prop where
 floor : H'.floor = H.floor
 next : H.next <= H'.next
 keep : ∀ o cs, H.get o = some (.cells cs) -> H'.get o = some (.cells cs)
 wf : H'.Wf
theorem ExtC.refl {H : Heap} (h : H.Wf) : ExtC H H := ⟨rfl, Nat.le_refl _, fun _ _ e => e, h⟩
theorem ExtC.trans {a b c : Heap} (h : ExtC a b) (k : ExtC b c) : ExtC a c := ⟨k.floor.trans h.floor, Nat.le_trans h.next k.next, fun o x e => k.keep o x (h.keep o x e), k.wf⟩
theorem Ext.c {H H' : Heap} (h : Ext H H') : ExtC H H' := ⟨h.floor, h.next, fun o _ e => h.keep o _ e, h.wf⟩
def Bld (T E : Nat) (H : Heap) (o : Nat) (bs : List Nat) : Prop :=
 H.floor <= o /\ ((H.get o = some (.bld T none) /\ bs = []) \/ ∃ q, H.get o = some (.bld T (some (q, bs.length))) /\ H.get q = some (.buf E bs) /\ H.floor <= q /\ bs ≠ [])
theorem Bld.ext {T E : Nat} {H H' : Heap} {o : Nat} {bs : List Nat} (h : Bld T E H o bs) (k : Ext H H') : Bld T E H' o bs := by
 obtain ⟨h1, h2⟩ := h
 refine ⟨by rw [k.floor]; exact h1, ?_⟩
 rcases h2 with ⟨a, b⟩ | ⟨q, a, b, c, d⟩
 ·exact .inl ⟨k.keep _ _ a, b⟩
 ·exact .inr ⟨q, k.keep _ _ a, k.keep _ _ b, by rw [k.floor]; exact c, d⟩
theorem Bld.new {T E : Nat} {H : Heap} (hw : H.Wf) : Bld T E (H.push (.bld T none)) H.next [] := ⟨hw.1, .inl ⟨za6.trans (if_pos rfl), rfl⟩⟩
theorem zu1 {H : Heap} {o T : Nat} {b : Option (Nat × Nat)} (h : H.get o = some (.bld T b)) : zbv1 H o = some (T, b) := by unfold zbv1; rw [h]
theorem zat2 {H : Heap} {q E : Nat} {bs : List Nat} (h : H.get q = some (.buf E bs)) : zbv0 H q = some (E, bs) := by unfold zbv0; rw [h]
theorem Bld.write {T E : Nat} {H : Heap} {o : Nat} {bs : List Nat} (h : Bld T E H o bs) (hw : H.Wf) {s : List Nat} (hl : bs.length + s.length <= 140737488355328) :
  ∃ H', zaz3 T E [.ptr o 0, .str s] H = some (.tup [.int .i64 s.length, .nili], H') /\ Bld T E H' o (bs ++ s) /\ ExtC H H' := by
 obtain ⟨h1, h2⟩ := h
 have hf : Nat.ble H.floor o = true := Nat.ble_eq_true_of_le h1
 rcases h2 with ⟨ho, rfl⟩ | ⟨q, ho, hq, hfq, hne⟩
 ·have hlt := hw.lt ho
  have hb : Nat.ble s.length 140737488355328 = true := Nat.ble_eq_true_of_le (by simpa using hl)
  cases s with
  | nil =>
   refine ⟨H.set o (.bld T none), ?_, ⟨h1, .inl ⟨za7.trans (if_pos rfl), rfl⟩⟩, rfl, Nat.le_refl _, fun p cs e => ?_, Wf.set hw hlt⟩
   ·simp only [zaz3, hf, cond_true, zaz4, zu1 ho, Nat.beq_refl, hb, Bool.and_self, Option.map_some]
   ·rw [za7, if_neg (fun r => by subst r; rw [ho] at e; cases e)]; exact e
  | cons x s =>
   refine ⟨(H.push (.buf E (x :: s))).set o (.bld T (some (H.next, (x :: s).length))), ?_, ⟨h1, .inr ⟨H.next, za7.trans (if_pos rfl), ?_, hw.1, by simp⟩⟩, rfl, Nat.le_succ _, fun p cs e => ?_, Wf.set (hw.push _) (by show o < H.next + 1; omega)⟩
   ·simp only [zaz3, hf, cond_true, zaz4, zu1 ho, Nat.beq_refl, hb, Bool.and_self, Option.map_some]
   ·rw [za7, if_neg (by omega)]; exact za6.trans (if_pos rfl)
   ·rw [za7, if_neg (fun r => by subst r; rw [ho] at e; cases e), za6, if_neg (by have := hw.lt e; omega)]; exact e
 ·have hlt := hw.lt ho
  have hltq := hw.lt hq
  have hoq : o ≠ q := fun r => by subst r; rw [ho] at hq; cases hq
  have hfq' : Nat.ble H.floor q = true := Nat.ble_eq_true_of_le hfq
  have hb : Nat.ble (bs.length + s.length) 140737488355328 = true := Nat.ble_eq_true_of_le hl
  refine ⟨((H.set q .dead).push (.buf E (bs ++ s))).set o (.bld T (some (H.next, bs.length + s.length))), ?_, ⟨h1, .inr ⟨H.next, by rw [List.length_append]; exact za7.trans (if_pos rfl), ?_, hw.1, by simp [hne]⟩⟩, rfl, Nat.le_succ _, fun p cs e => ?_, Wf.set ((Wf.set hw hltq).push _) (by show o < H.next + 1; omega)⟩
  ·simp only [zaz3, hf, cond_true, zaz4, zu1 ho, zat2 hq, Nat.beq_refl, hfq', hb, Bool.and_self, Option.map_some]
  ·rw [za7, if_neg (by omega)]; exact za6.trans (if_pos rfl)
  ·rw [za7, if_neg (fun r => by subst r; rw [ho] at e; cases e), za6, if_neg (by have := hw.lt e; show p ≠ H.next; omega), za7, if_neg (fun r => by subst r; rw [hq] at e; cases e)]; exact e
theorem Bld.string {T E : Nat} {H : Heap} {o : Nat} {bs : List Nat} (h : Bld T E H o bs) (hw : H.Wf) : ∃ H', zau5 T E [.ptr o 0] H = some (.str bs, H') /\ ExtC H H' := by
 obtain ⟨h1, h2⟩ := h
 rcases h2 with ⟨ho, rfl⟩ | ⟨q, ho, hq, hfq, hne⟩
 ·exact ⟨H, by simp only [zau5, zu1 ho, Nat.beq_refl, cond_true], ExtC.refl hw⟩
 ·have hf : Nat.ble H.floor o = true := Nat.ble_eq_true_of_le h1
  have hfq' : Nat.ble H.floor q = true := Nat.ble_eq_true_of_le hfq
  have hp : Nat.blt 0 bs.length = true := by
   have : 1 <= bs.length := by
    rcases Nat.eq_zero_or_pos bs.length with r | r
    ·exact absurd (List.length_eq_zero_iff.1 r) hne
    ·exact r
   simpa [Nat.blt] using this
  refine ⟨H.set q .dead, ?_, rfl, Nat.le_refl _, fun p cs e => ?_, Wf.set hw (hw.lt hq)⟩
  ·simp only [zau5, zu1 ho, zat2 hq, Nat.beq_refl, hf, hfq', hp, cond_true, Bool.and_self]
  ·rw [za7, if_neg (fun r => by subst r; rw [hq] at e; cases e)]; exact e
def strc (s : List Nat) : List AV := [.str s]
abbrev Strs := Sl 1 strc
theorem Strs.idx {H : Heap} {v : AV} {xs : List (List Nat)} (h : Strs H v xs) {k : IntKind} {i : Int} (h0 : 0 <= i) (h1 : i < xs.length) :
  ∃ p x, xs[i.toNat]? = some x /\ zd7 1 v (.int k i) = some p /\ za9 H none p = some (.str x) := by
 obtain ⟨p, x, a, b, _, d⟩ := Sl.idx h (k := k) h0 h1; exact ⟨p, x, a, b, d _ rfl rfl⟩
end Go.AI
namespace Go.AI
section
variable {e : Opd -> AV} {H : Heap}
def zbe1 (H : Heap) : AV -> Option (AV × Heap)
 | .str s => some (.ptr H.next 0, H.push (.siter s 0))
 | _ => none
@[simp] theorem rangeSA_str {s : List Nat} : zbe1 H (.str s) = some (.ptr H.next 0, H.push (.siter s 0)) := rfl
@[simp] theorem p_rangeS {x : Opd} : zb2 e H (.rangeS x) = zbe1 H (e x) := rfl
def zce4 (H : Heap) : AV -> Option (AV × Heap)
 | .ptr o 0 =>
  bif Nat.ble H.floor o then
   match H.get o with
   | some (.siter s pos) =>
    if pos < s.length then
     let (c, w) := zx3 s pos
     some (.tup [.bool true, aInt pos, .int .i32 c], H.set o (.siter s (pos + w)))
    else some (.tup [.bool false], H)
   | _ => none
  else none
 | _ => none
@[simp] theorem p_nextS {x : Opd} : zb2 e H (.nextS x) = zce4 H (e x) := rfl
end
def isDg (c : Nat) : Bool := decide (48 <= c) && decide (c <= 57)
def digV (l : List Nat) : Nat := l.foldl (fun n d => 10 * n + (d - 48)) 0
def zbj5 (s : List Nat) : List Nat := if s.head? = some 45 then s.tail else s
def wfN (s : List Nat) : Bool := !(zbj5 s).isEmpty && (zbj5 s).all isDg && !(decide ((zbj5 s).head? = some 48) && !decide (s = [48]))
def sval (s : List Nat) : Int := if s.head? = some 45 then -(digV s.tail : Int) else digV s
def numR (s : List Nat) (lo hi : Int) : Int × Int := if wfN s = false then (0, 11) else if lo <= sval s /\ sval s <= hi then (sval s, 0) else (0, 10)
end Go.AI
namespace Go.AI
section
variable {FT : Nat -> Option FnD} {τ : Env} {H : Heap} {Q : Post}
theorem zs1 {b : za0} (h : Wp FT b τ H (seqQ FT (.loop b) Q)) : Wp FT (.loop b) τ H Q := by
 obtain ⟨n, s, τ', H', e, q⟩ := h
 cases s with
 | next =>
  obtain ⟨m, s2, τ2, H2, e2, q2⟩ := q
  refine ⟨max n m + 1, s2, τ2, H2, ?_, q2⟩
  rw [zab6, zaj3 (Nat.le_max_left n m) e]
  exact zaj3 (Nat.le_max_right n m) e2
 | exit id => exact ⟨n + 1, _, _, _, by rw [zab6, e], q⟩
 | ret => exact ⟨n + 1, _, _, _, by rw [zab6, e], q⟩
end
section
variable {e : Opd -> AV} {cs : List AV} {off : Nat} {r : List (Nat × Nat × Opd)}
@[simp] theorem fillV_ptr {o b : Nat} : zj7 e cs off 1 (.ptr o b) r = if off + 1 <= cs.length then zh0 e (setSeg cs off [.ptr o b]) r else none := zi4 rfl rfl
@[simp] theorem fillV_bool {b : Bool} : zj7 e cs off 1 (.bool b) r = if off + 1 <= cs.length then zh0 e (setSeg cs off [.bool b]) r else none := zi4 rfl rfl
@[simp] theorem zbi9 {o a b c d : Nat} {ex : Bool} : zj7 e cs off 1 (.slc o a b c d ex) r = if off + 1 <= cs.length then zh0 e (setSeg cs off [.slc o a b c d ex]) r else none := zi4 rfl rfl
@[simp] theorem zbj0 {o : Nat} : zj7 e cs off 1 (.map o) r = if off + 1 <= cs.length then zh0 e (setSeg cs off [.map o]) r else none := zi4 rfl rfl
end
def frP (p x : AV) : Bool := match p with | .ptr p _ => (match x with | .ptr q _ => !Nat.beq p q | _ => true) | _ => false
@[simp] theorem frP_ptr {p i q j : Nat} : frP (.ptr p i) (.ptr q j) = !Nat.beq p q := rfl
theorem zae9 {τ : Env} {d : Option Nat} {n : Nat} {a x : Opd} {g : Option (Nat × Bool)} {q : Bool} {fr : List Nat} : zg1 τ ⟨d, .store n a x, g, q, fr⟩ = fr.all fun t => frP (Env.at τ t) (ev τ a) := by
 unfold zg1
 congr 1
 funext t
 cases Env.at τ t with
 | ptr p o =>
  show (true && match (match ev τ a with | .ptr o _ => some o | _ => none) with | some q => !(Nat.beq p q) | none => true) = frP (.ptr p o) (ev τ a)
  cases ev τ a <;> rfl
 | _ => rfl
@[simp] theorem Wo_frstore {FT : Nat -> Option FnD} {τ : Env} {H : Heap} {Q : Post} {dst : Option Nat} {n : Nat} {a x : Opd} {t : Nat} {fr : List Nat} {rest : List zb6} :
  Wo FT (⟨dst, .store n a x, none, false, t :: fr⟩ :: rest) τ H Q ↔ ((t :: fr).all fun t => frP (Env.at τ t) (ev τ a)) = true /\ opK FT dst rest τ Q (zf6 H n (ev τ a) (ev τ x)) := by
 by_cases h : ((t :: fr).all fun t => frP (Env.at τ t) (ev τ a)) = true
 ·rw [zbl8 (by intros; simp) (by rw [zae9]; exact h)]
  simp only [h, true_and]
  rfl
 ·constructor
  ·rintro ⟨n', τ', H', e, q⟩
   have hf : zg1 τ ⟨dst, .store n a x, none, false, t :: fr⟩ = false := by
    rw [zae9]; simpa using h
   simp only [zv3, ze5, cond_true, hf, cond_false] at e
   cases e
  ·exact fun q => (h q.1).elim
def zba7 : Nat -> za0 -> za0
 | n + 1, .seq _ b => zba7 n b
 | _, c => c
def zbh8 : Nat -> za0 -> za0 -> za0
 | n + 1, .seq a b, r => .seq a (zbh8 n b r)
 | _, _, r => r
def zf3 : List Nat -> za0 -> za0
 | [], c => c
 | 0 :: p, .seq a _ => zf3 p a
 | _ :: p, .seq _ b => zf3 p b
 | 0 :: p, .cond _ a _ => zf3 p a
 | _ :: p, .cond _ _ b => zf3 p b
 | _ :: p, .block _ b => zf3 p b
 | _ :: p, .loop b => zf3 p b
 | _, c => c
def putAt : List Nat -> za0 -> za0 -> za0
 | [], _, x => x
 | 0 :: p, .seq a b, x => .seq (putAt p a x) b
 | _ :: p, .seq a b, x => .seq a (putAt p b x)
 | 0 :: p, .cond c a b, x => .cond c (putAt p a x) b
 | _ :: p, .cond c a b, x => .cond c a (putAt p b x)
 | _ :: p, .block id b, x => .block id (putAt p b x)
 | _ :: p, .loop b, x => .loop (putAt p b x)
 | _, c, _ => c
theorem zbj1 {e : Opd -> AV} {cs : List AV} {off : Nat} {a b : AV} {r : List (Nat × Nat × Opd)} (ha : a.one = true) (hb : b.one = true) : zj7 e cs off 2 (.agg [a, b]) r = if off + 2 <= cs.length then zh0 e (setSeg cs off [a, b]) r else none := by
 simp [zj7, za5, ha, hb]
@[simp] theorem fillV_intstr {e : Opd -> AV} {cs : List AV} {off : Nat} {k : IntKind} {n : Int} {s : List Nat} {r : List (Nat × Nat × Opd)} : zj7 e cs off 2 (.agg [.int k n, .str s]) r = if off + 2 <= cs.length then zh0 e (setSeg cs off [.int k n, .str s]) r else none := zbj1 rfl rfl
theorem zbi7 {rs : List zf7} {K L : AV -> Heap -> Prop} {s : Sig} {τ : Env} {H : Heap} (h : finQ rs K s τ H) (k : ∀ v H', K v H' -> L v H') : finQ rs L s τ H := by
 cases s with
 | exit id => exact h
 | next => simp only [zas2] at h ⊢; split at h <;> first | exact k _ _ h | exact h.elim
 | ret => simp only [za31] at h ⊢; split at h <;> first | exact k _ _ h | exact h.elim
theorem Wp.fin {FT : Nat -> Option FnD} {rs : List zf7} {K L : AV -> Heap -> Prop} {c : za0} {τ : Env} {H : Heap} (h : Wp FT c τ H (finQ rs K)) (k : ∀ v H', K v H' -> L v H') : Wp FT c τ H (finQ rs L) := h.mono fun _ _ _ q => zbi7 q k
structure Fr (S : List Nat) (H H' : Heap) : Prop where
 floor : H'.floor = H.floor
 next : H.next <= H'.next
 keep : ∀ o x, o ∉ S -> H.get o = some x -> H'.get o = some x
 wf : H'.Wf
theorem Fr.refl {S : List Nat} {H : Heap} (h : H.Wf) : Fr S H H := ⟨rfl, Nat.le_refl _, fun _ _ _ e => e, h⟩
theorem Fr.trans {S T : List Nat} {a b c : Heap} (hw : a.Wf) (h : Fr S a b) (k : Fr T b c) (hs : ∀ o, o ∈ T -> o ∈ S \/ a.next <= o) : Fr S a c :=
 ⟨k.floor.trans h.floor, Nat.le_trans h.next k.next, fun o x n e => k.keep o x (fun q => by
  rcases hs o q with r | r
  ·exact n r
  ·have := hw.lt e; omega) (h.keep o x n e), k.wf⟩
theorem Fr.mono {S T : List Nat} {a b : Heap} (h : Fr S a b) (hs : ∀ o, o ∈ S -> o ∈ T) : Fr T a b := ⟨h.floor, h.next, fun o x n e => h.keep o x (fun q => n (hs o q)) e, h.wf⟩
theorem Ext.fr {S : List Nat} {a b : Heap} (h : Ext a b) : Fr S a b := ⟨h.floor, h.next, fun o x _ e => h.keep o x e, h.wf⟩
theorem Fr.ext {a b : Heap} (h : Fr [] a b) : Ext a b := ⟨h.floor, h.next, fun o x e => h.keep o x (by simp) e, h.wf⟩
theorem Fr.thenE {S : List Nat} {a b c : Heap} (hw : a.Wf) (h : Fr S a b) (k : Ext b c) : Fr S a c := h.trans hw (k.fr (S := [])) (fun o q => by cases q)
theorem Fr.set {H : Heap} (hw : H.Wf) {o : Nat} (ho : o < H.next) (x : zo4) : Fr [o] H (H.set o x) := ⟨rfl, Nat.le_refl _, fun p y n e => by
 rw [za7, if_neg (fun q => n (by simp [q]))]; exact e, Wf.set hw ho⟩
theorem Sl.fr {α : Type} {e : Nat} {enc : α -> List AV} {S : List Nat} {H H' : Heap} {v : AV} {xs : List α} (h : Sl e enc H v xs) (k : Fr S H H') (hn : ∀ o, rowObj v = some o -> o ∉ S) : Sl e enc H' v xs := by
 rcases h with h | ⟨q, off, lo, ex, cs, rfl, b, c⟩
 ·exact .inl h
 ·exact .inr ⟨q, off, lo, ex, cs, rfl, za3 (k.keep _ _ (hn _ rfl) (zp2 b)), c⟩
theorem Sl.rowLt {α : Type} {e : Nat} {enc : α -> List AV} {H : Heap} {v : AV} {xs : List α} (h : Sl e enc H v xs) (hw : H.Wf) {o : Nat} (ho : rowObj v = some o) : o < H.next := by
 rcases h with ⟨rfl, _⟩ | ⟨q, off, lo, ex, cs, rfl, b, c⟩
 ·cases ho
 ·cases ho; exact hw.lt (zp2 b)
structure Mine {α : Type} (e : Nat) (enc : α -> List AV) (H0 H : Heap) (v : AV) (xs : List α) : Prop where
 ow : Ow e enc H v xs
 new : ∀ p, rowObj v = some p -> H0.next <= p
section
variable {α : Type} {e : Nat} {enc : α -> List AV} {H H' H0 : Heap} {v : AV} {xs ys : List α} {S : List Nat}
theorem Mine.nil : Mine e enc H0 H .nils ([] : List α) := ⟨.inl ⟨rfl, rfl⟩, fun _ q => by cases q⟩
theorem Ow.lt (h : Ow e enc H v xs) (hw : H.Wf) {p : Nat} (hp : rowObj v = some p) : p < H.next := by
 rcases h with ⟨rfl, _⟩ | ⟨o, rfl, _, h2, _⟩
 ·cases hp
 ·cases hp; exact hw.lt h2
theorem Mine.lt (h : Mine e enc H0 H v xs) (hw : H.Wf) {p : Nat} (hp : rowObj v = some p) : p < H.next := h.ow.lt hw hp
theorem Ow.fr (h : Ow e enc H v xs) (k : Fr S H H') (hn : ∀ p, rowObj v = some p -> p ∉ S) : Ow e enc H' v xs := by
 rcases h with h | ⟨o, rfl, h1, h2, h3⟩
 ·exact .inl h
 ·exact .inr ⟨o, rfl, h1, k.keep _ _ (hn _ rfl) h2, by rw [k.floor]; exact h3⟩
theorem Mine.fr (h : Mine e enc H0 H v xs) (k : Fr S H H') (hn : ∀ p, rowObj v = some p -> p ∉ S) : Mine e enc H0 H' v xs := ⟨h.ow.fr k hn, h.new⟩
theorem Mine.ext (h : Mine e enc H0 H v xs) (k : Ext H H') : Mine e enc H0 H' v xs := h.fr (S := []) k.fr (fun _ _ q => by cases q)
theorem Mine.sl (h : Mine e enc H0 H v xs) (hn : ∀ x, (enc x).length = e) : Sl e enc H v xs := h.ow.sl hn
theorem Mine.appS (hn : ∀ x, (enc x).length = e) (he : 1 <= e) (h1 : ∀ x, za5 (enc x) = true) {bytes : Nat} {y : AV} (hw : H.Wf) (hx : H0.next <= H.next) (h : Mine e enc H0 H v xs) (hy : Sw e enc H y ys) (hb : (2 * (xs.length + ys.length) + 1024) * bytes <= 2 ^ 48) :
  ∃ v' H', zc4 e bytes H v y = some (v', H') /\ Mine e enc H0 H' v' (xs ++ ys) /\ Fr (rowObj v).toList H H' /\ ∀ p, rowObj v' = some p -> rowObj v = some p \/ H.next <= p := by
 obtain ⟨v', H', k1, k2, k3, k4, k5, k6, k7⟩ := h.ow.app hn he h1 (bytes := bytes) hw hy hb
 refine ⟨v', H', k1, ⟨k2, fun p q => ?_⟩, ⟨k4, k5, fun o x n e => ?_, k3⟩, fun p q => (k7 p q).imp id fun q => q.1⟩
 ·rcases k7 p q with r | r
  ·exact h.new p r
  ·omega
 ·rw [k6 o (hw.lt e) (fun q => n (by rw [q]; simp))]; exact e
theorem Mine.app1 (hn : ∀ x, (enc x).length = e) (he : 1 <= e) (h1 : ∀ x, za5 (enc x) = true) {bytes : Nat} (hw : H.Wf) (hx : H0.next <= H.next) (h : Mine e enc H0 H v xs) (x : α) (hb : (2 * (xs.length + 1) + 1024) * bytes <= 2 ^ 48) :
  ∃ v' H', zc4 e bytes (H.push (.cells (enc x))) v (.slc H.next 0 1 e 1 true) = some (v', H') /\ Mine e enc H0 H' v' (xs ++ [x]) /\ Fr (rowObj v).toList H H' /\ ∀ p, rowObj v' = some p -> rowObj v = some p \/ H.next <= p := by
 have ep := Ext.push hw (.cells (enc x))
 have hy : Sw e enc (H.push (.cells (enc x))) (.slc H.next 0 1 e 1 true) [x] := by
  refine .inr ⟨H.next, 0, 1, true, rfl, ?_⟩
  unfold Heap.readSeg
  rw [za3 (za6.trans (if_pos rfl))]
  simp only [List.flatMap_cons, List.flatMap_nil, List.append_nil]
  exact zo7 (by rw [hn]; simp)
 obtain ⟨v', H', k1, k2, k3, k4⟩ := (h.ext ep).appS hn he h1 (bytes := bytes) ep.wf (by have := ep.next; omega) hy (by simpa using hb)
 exact ⟨v', H', k1, k2, (ep.fr (S := (rowObj v).toList)).trans hw k3 (fun o q => .inl q), fun p q => (k4 p q).imp id fun q => by have := ep.next; omega⟩
end
def Heap.up (H : Heap) : Heap := { t := H.t, next := H.next, floor := H.next }
theorem Heap.Wf.up {H : Heap} (h : H.Wf) : H.up.Wf := ⟨Nat.le_refl _, h.2⟩
theorem Ext.back {H H' : Heap} (hw : H.Wf) (h : Ext H.up H') : Ext H { H' with floor := H.floor } :=
 ⟨rfl, h.next, h.keep, ⟨by have h1 := hw.1; have h2 : H.next <= H'.next := h.next; show H.floor <= H'.next; omega, h.wf.2⟩⟩
theorem Cp.quiet {FT : Nat -> Option FnD} {f : Nat} {args : List AV} {H : Heap} {K L : AV -> Heap -> Prop} (h : Cp FT f args H.up L) (k : ∀ r H', L r H' -> K r { H' with floor := H.floor }) :
  Cp FT f args { t := H.t, next := H.next, floor := H.next } (zat3 H.floor K) := h.mono fun r H' q => k r H' q
theorem Sl.up {α : Type} {e : Nat} {enc : α -> List AV} {H : Heap} {v : AV} {xs : List α} (h : Sl e enc H v xs) : Sl e enc H.up v xs := h
theorem Cp.quietEq {FT : Nat -> Option FnD} {f : Nat} {args : List AV} {H : Heap} {K : AV -> Heap -> Prop} {x : AV} (h : Cp FT f args H.up (fun r H' => r = x /\ H' = H.up)) (k : K x H) :
  Cp FT f args { t := H.t, next := H.next, floor := H.next } (zat3 H.floor K) := h.mono fun r H' q => by rw [q.1, q.2]; exact k
@[simp] theorem quiet_push2 {H : Heap} {x : zo4} : ({ t := (Heap.push { t := H.t, next := H.next, floor := H.next } x).t, next := H.next + 1, floor := H.floor } : Heap) = H.push x := rfl
@[simp] theorem quiet_push {H : Heap} {v : AV} {x : zo4} : zbe2 H (some (v, Heap.push { t := H.t, next := H.next, floor := H.next } x)) = some (v, H.push x) := rfl
theorem zai9 {H : Heap} {o off : Nat} {x : AV} {cs : List AV} (hw : H.Wf) (hf : H.floor <= o) (hg : H.get o = some (.cells cs)) (hl : off < cs.length) (hx : x.one = true) :
  ∃ H', zf6 H 1 (.ptr o off) x = some (zb8, H') /\ H'.get o = some (.cells (cs.set off x)) /\ Fr [o] H H' :=
 ⟨_, zba8 hf hg hl hx, za7.trans (if_pos rfl), Fr.set hw (hw.lt hg) _⟩
theorem ze0 {H : Heap} {o n : Nat} {x : AV} {cs xs : List AV} (hw : H.Wf) (hx : x.cells = xs) (hn : xs.length = n) (hf : H.floor <= o) (hg : H.get o = some (.cells cs)) (hl : cs.length = n) (h1 : za5 xs = true) :
  ∃ H', zf6 H n (.ptr o 0) x = some (zb8, H') /\ H'.get o = some (.cells xs) /\ Fr [o] H H' :=
 ⟨_, zba9 hx hn hf hg hl h1, za7.trans (if_pos rfl), Fr.set hw (hw.lt hg) _⟩
def zo2 : AV -> Bool
 | .slc _ _ len _ lo _ => decide (len <= lo)
 | _ => true
theorem zav1 {cs xs : List AV} {off n : Nat} (h : seg cs off n = some xs) {f m : Nat} (hf : f + m <= n) : seg cs (off + f) m = some ((xs.drop f).take m) := by
 unfold seg at h ⊢
 cases hb : Nat.ble (off + n) cs.length with
 | false => rw [hb] at h; cases h
 | true =>
  rw [hb] at h; cases h
  have h1 := Nat.le_of_ble_eq_true hb
  have h2 : Nat.ble (off + f + m) cs.length = true := Nat.ble_eq_true_of_le (by omega)
  rw [h2]
  simp only [cond_true, Option.some.injEq]
  rw [List.drop_take, List.take_take, List.drop_drop, Nat.min_eq_left (by omega)]
theorem za4 {H : Heap} (hw : H.Wf) (x : zo4) : (H.push x).get H.next = some x /\ Ext H (H.push x) := ⟨za6.trans (if_pos rfl), Ext.push hw x⟩
end Go.AI
namespace Go.AI
def ze9 : List Nat -> Nat
 | [] => 0
 | d :: ds => d + 65536 * ze9 ds
def Dg (l : List Nat) : Prop := ∀ d, d ∈ l -> d < 65536
def Nm (l : List Nat) : Prop := l.getLast? ≠ some 0
theorem zh5 (a b : List Nat) : ze9 (a ++ b) = ze9 a + 65536 ^ a.length * ze9 b := by
 induction a with
 | nil => simp [ze9]
 | cons d a ih => simp only [List.cons_append, ze9, ih, List.length_cons, Nat.pow_succ, Nat.mul_add]; rw [<- Nat.mul_assoc, Nat.mul_comm (65536 ^ a.length) 65536]; omega
theorem Dg.app {a b : List Nat} (h : Dg a) (k : Dg b) : Dg (a ++ b) := fun d hd => by
 rcases List.mem_append.1 hd with q | q
 ·exact h d q
 ·exact k d q
theorem Dg.nil : Dg [] := fun d h => by cases h
theorem Dg.one {d : Nat} (h : d < 65536) : Dg [d] := fun x hx => by simp at hx; omega
theorem Dg.cons {d : Nat} {l : List Nat} (h : d < 65536) (k : Dg l) : Dg (d :: l) := fun x hx => by
 rcases List.mem_cons.1 hx with q | q
 ·omega
 ·exact k x q
theorem Dg.tail {d : Nat} {l : List Nat} (k : Dg (d :: l)) : Dg l := fun x hx => k x (List.mem_cons_of_mem _ hx)
theorem Dg.take {l : List Nat} (k : Dg l) (n : Nat) : Dg (l.take n) := fun x hx => k x (List.mem_of_mem_take hx)
theorem zan0 {l : List Nat} (h : Dg l) : ze9 l < 65536 ^ l.length := by
 induction l with
 | nil => simp [ze9]
 | cons d l ih =>
  have h1 := h d (by simp)
  have h2 := ih h.tail
  simp only [ze9, List.length_cons, Nat.pow_succ]; omega
theorem zan1 {l : List Nat} (h : Nm l) (hl : l ≠ []) : 65536 ^ (l.length - 1) <= ze9 l := by
 obtain ⟨a, x, rfl⟩ : ∃ a x, l = a ++ [x] := ⟨l.dropLast, l.getLast hl, (List.dropLast_concat_getLast hl).symm⟩
 have hx : x ≠ 0 := fun q => h (by simp [q])
 rw [zh5]
 simp only [ze9, List.length_append, List.length_cons, List.length_nil, Nat.mul_zero, Nat.add_zero, Nat.add_sub_cancel, Nat.zero_add]
 have : 65536 ^ a.length * 1 <= 65536 ^ a.length * x := Nat.mul_le_mul_left _ (by omega)
 omega
theorem zaf5 {l : List Nat} (h : Nm l) : ze9 l = 0 ↔ l = [] := by
 constructor
 ·intro q
  refine Classical.byContradiction fun hl => ?_
  have := zan1 h hl
  have : 0 < 65536 ^ (l.length - 1) := Nat.pow_pos (by omega)
  omega
 ·rintro rfl; rfl
theorem Nm.nil : Nm [] := by simp [Nm]
def zaa8 (l : List Nat) : Nat -> Nat
 | 0 => 0
 | n + 1 => if l[n]? = some 0 then zaa8 l n else n + 1
theorem zao3 (l : List Nat) : ∀ n, n <= l.length -> ze9 (l.take (zaa8 l n)) = ze9 (l.take n)
 | 0, _ => rfl
 | n + 1, h => by
  unfold zaa8; split
  ·rename_i q
   rw [zao3 l n (by omega), List.take_add_one, q, zh5]; simp [ze9]
  ·rfl
theorem zaz8 (l : List Nat) : ∀ n, n <= l.length -> Nm (l.take (zaa8 l n))
 | 0, _ => by simp [zaa8, Nm]
 | n + 1, h => by
  unfold zaa8; split
  ·exact zaz8 l n (by omega)
  ·rename_i q
   have hn : l[n]? = some l[n] := List.getElem?_eq_getElem (by omega)
   intro r
   have e : (l.take (n + 1)).getLast? = some l[n] := by
    rw [List.take_add_one, hn]; exact List.getLast?_concat
   exact q (by rw [hn, <- e]; exact r)
def zk5 (l : List Nat) : List Nat := l.take (zaa8 l l.length)
theorem zq9 (l : List Nat) : ze9 (zk5 l) = ze9 l := by unfold zk5; rw [zao3 l _ (Nat.le_refl _), List.take_length]
theorem zab4 (l : List Nat) : Nm (zk5 l) := zaz8 l _ (Nat.le_refl _)
theorem zak8 {l : List Nat} (h : Dg l) : Dg (zk5 l) := h.take _
theorem zt4 (l : List Nat) : (zk5 l).length <= l.length := by unfold zk5; simp; omega
def decP : Nat -> Nat -> List Nat
 | 0, _ => []
 | f + 1, u => if u = 0 then [] else decP f (u / 10) ++ [48 + u % 10]
end Go.AI
namespace Go.AI
open Go.ChangeShapes Go.WideShapes Go.Deep
section
variable {H : Type} {enc : TypeId × Value -> H} {P : Program} {w : World} {base : Nat} {held : Bool}
theorem za82 {t e : TypeId} {f0 f1 : Field} {fuel : Nat} {cs : List Value} {x : DataW H × List MemPlace} (o : Nat) (ht : P.underlying t = some (.slice e)) (he : P.underlying e = some (.struct #[f0, f1]))
  (ce : P.cellsOf e = 2) (o0 : f0.offset = 0) (o1 : f1.offset = 1) (c0 : P.cellsOf f0.type = 1) (c1 : P.cellsOf f1.type = 1) (u0 : P.underlying f0.type = some (.int .i64)) (u1 : P.underlying f1.type = some (.int .i64))
  (h : DataW.trod enc P w base (fun _ => true) held fuel t cs = some x) : ∃ v xs av L, cs = [v] /\ zx8 w o 2 za2 v xs av L := by
 rcases open_slice_pairs ht he ce o0 o1 c0 c1 h with ⟨hcs, _⟩ | ⟨a, len, cap, m, n, V0, V1, D0, D1, P0, P1, hcs, _⟩
 ·subst hcs
  obtain ⟨xs, av, L, _, hs, _⟩ := zat5 o ht he ce o0 o1 c0 c1 u0 u1 h
  exact ⟨_, xs, av, L, rfl, hs⟩
 ·subst hcs
  obtain ⟨xs, av, L, _, hs, _⟩ := zat5 o ht he ce o0 o1 c0 c1 u0 u1 h
  exact ⟨_, xs, av, L, rfl, hs⟩
def bytc (b : Nat) : List AV := [.int .u8 (b : Int)]
end
theorem bytesOf_map : ∀ {xs : List Nat}, (∀ b, b ∈ xs -> b < 256) -> bytesOf (xs.flatMap bytc) = some xs
 | [], _ => rfl
 | x :: xs, h => by
  have hx := h x (by simp)
  have ih := bytesOf_map (xs := xs) (fun b hb => h b (List.mem_cons_of_mem _ hb))
  have h1 : (0 : Int) <= (x : Int) /\ (x : Int) < 256 := by omega
  simp only [List.flatMap_cons, bytc, List.cons_append, List.nil_append, bytesOf, if_pos h1, ih, Option.map_some, Int.toNat_natCast]
theorem zat0 {H : Heap} {o : Nat} {xs : List Nat} (h : H.get o = some (.cells (xs.flatMap bytc))) (hb : ∀ b, b ∈ xs -> b < 256) (lo : Nat) (ex : Bool) : zbl0 H (.slc o 0 xs.length 1 lo ex) = some xs := by
 have hl : (xs.flatMap bytc).length = xs.length := by rw [zg6 (e := 1) (fun _ => rfl)]; omega
 unfold zbl0 Heap.readSeg
 simp only [za3 h, Option.bind_some, zo7 hl]
 exact bytesOf_map hb
theorem zx8.bytes {w : World} {o : Nat} {v : Value} {xs : List Nat} {av : AV} {L : Option Loc} {H : Heap} (h : zx8 w o 1 bytc v xs av L) (hg : H.get o = some (.cells (xs.flatMap bytc))) (hb : ∀ b, b ∈ xs -> b < 256) : zbl0 H av = some xs /\ zo2 av = true := by
 rcases h.2 with ⟨rfl, rfl⟩ | rfl
 ·exact ⟨rfl, rfl⟩
 ·exact ⟨zat0 hg hb _ _, by simp [zo2]⟩
theorem zx8.sl {α : Type} {e : Nat} {en : α -> List AV} (hn : ∀ x, (en x).length = e) {w : World} {o : Nat} {v : Value} {xs : List α} {av : AV} {L : Option Loc} {H : Heap} (h : zx8 w o e en v xs av L) (hg : H.get o = some (.cells (xs.flatMap en))) : Sl e en H av xs := by
 rcases h.2 with ⟨rfl, rfl⟩ | rfl
 ·exact .inl ⟨rfl, rfl⟩
 ·exact Sl.ofCells hn hg
theorem zx8.sw {α : Type} {e : Nat} {en : α -> List AV} (hn : ∀ x, (en x).length = e) {w : World} {o : Nat} {v : Value} {xs : List α} {av : AV} {L : Option Loc} {H : Heap} (h : zx8 w o e en v xs av L) (hg : H.get o = some (.cells (xs.flatMap en))) : Sw e en H av xs := by
 rcases h.2 with ⟨rfl, rfl⟩ | rfl
 ·exact .inl ⟨rfl, rfl⟩
 ·refine .inr ⟨o, 0, _, _, rfl, ?_⟩
  unfold Heap.readSeg
  rw [za3 hg]
  exact zo7 (zg6 hn xs)
end Go.AI
