/- Memory that only grows. No claim by itself. -/
import Derived.Test.YtcepchipgjpkhaaE23
namespace Go.AI
def Heap.Wf (H : Heap) : Prop := H.floor <= H.next /\ ∀ o, H.next <= o -> H.get o = none
structure Ext (H H' : Heap) : Prop where
 floor : H'.floor = H.floor
 next : H.next <= H'.next
 keep : ∀ o x, H.get o = some x -> H'.get o = some x
 wf : H'.Wf
theorem Ext.refl {H : Heap} (h : H.Wf) : Ext H H := ⟨rfl, Nat.le_refl _, fun _ _ e => e, h⟩
theorem Ext.trans {a b c : Heap} (h : Ext a b) (k : Ext b c) : Ext a c := ⟨k.floor.trans h.floor, Nat.le_trans h.next k.next, fun o x e => k.keep o x (h.keep o x e), k.wf⟩
theorem za6 {H : Heap} {x : zo4} {o : Nat} : (H.push x).get o = if o = H.next then some x else H.get o := Tr.get_set _ _ _ _
theorem Heap.Wf.push {H : Heap} (h : H.Wf) (x : zo4) : (H.push x).Wf := ⟨Nat.le_succ_of_le h.1, fun o ho => by
 have ho' : H.next + 1 <= o := ho
 rw [za6, if_neg (by omega)]; exact h.2 o (by omega)⟩
theorem Ext.push {H : Heap} (h : H.Wf) (x : zo4) : Ext H (H.push x) := ⟨rfl, Nat.le_succ _, fun o y e => by
 rw [za6]; split
 ·rename_i q; subst q; rw [h.2 _ (Nat.le_refl _)] at e; cases e
 ·exact e, h.push x⟩
theorem Ext.cells {H H' : Heap} (h : Ext H H') {o : Nat} {cs : List AV} (e : H.cellsAt o = some cs) : H'.cellsAt o = some cs := by
 unfold Heap.cellsAt at e ⊢
 cases hg : H.get o with
 | none => rw [hg] at e; cases e
 | some x => rw [hg] at e; rw [h.keep _ _ hg]; exact e
theorem Sl.ext {α : Type} {e : Nat} {enc : α -> List AV} {H H' : Heap} {v : AV} {xs : List α} (h : Sl e enc H v xs) (k : Ext H H') : Sl e enc H' v xs := by
 rcases h with h | ⟨o, off, lo, ex, cs, a, b, c⟩
 ·exact .inl h
 ·exact .inr ⟨o, off, lo, ex, cs, a, k.cells b, c⟩
@[simp] theorem zk1 {H : Heap} {cs : List AV} : (H.push (.cells cs)).cellsAt H.next = some cs := by
 unfold Heap.cellsAt; rw [za6, if_pos rfl]
@[simp] theorem zo9 {H : Heap} {x : zo4} : (H.push x).next = H.next + 1 := rfl
@[simp] theorem floor_push {H : Heap} {x : zo4} : (H.push x).floor = H.floor := rfl
theorem zh3.idx {H : Heap} {v : AV} {xs : List (Int × Int)} (h : zh3 H v xs) {k : IntKind} {i : Int} (h0 : 0 <= i) (h1 : i < xs.length) :
  ∃ o off x, xs[i.toNat]? = some x /\ zd7 2 v (.int k i) = some (.ptr o off) /\ za9 H (some 2) (.ptr o off) = some (.agg (za2 x)) /\ za9 H none (.ptr o off) = some (.int .i64 x.1) /\ za9 H none (.ptr o (off + 1)) = some (.int .i64 x.2) := by
 rcases h with ⟨rfl, rfl⟩ | ⟨o, off, lo, ex, cs, rfl, hc, hx⟩
 ·simp at h1; omega
 ·have hl : i.toNat < xs.length := by omega
  have hg : xs[i.toNat]? = some xs[i.toNat] := List.getElem?_eq_getElem hl
  have hs := hx _ _ hg
  refine ⟨o, off + i.toNat * 2, _, hg, by simp only [zf2, h0, h1, and_self, if_true], by simp [ze3, hc, ze2, hs], ?_, ?_⟩ <;>
  ·unfold seg at hs
   cases hb : Nat.ble (off + i.toNat * 2 + 2) cs.length with
   | false => rw [hb] at hs; cases hs
   | true =>
    rw [hb] at hs; simp only [cond_true, Option.some.injEq] at hs
    have q0 := congrArg (fun l => l[0]?) hs
    have q1 := congrArg (fun l => l[1]?) hs
    simp [za2] at q0 q1
    simp [ze3, hc, ze2, q0, q1]
end Go.AI
