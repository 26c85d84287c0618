/- Parts of faces: the statement FacesParts, walked. No claim by itself. -/
import Derived.Test.YtcepchipgjpkhaaL6
namespace Go.Proofs.Ytcepchipgjpkhaa
open Go Go.AI
section
variable {H : Heap} {FT : Nat → Option FnD}
def k7a : ACode := subAt [1, 1, 1, 1, 1, 0, 1] A7.body
def k7b : ACode := subAt [1, 1, 1, 1, 1, 1, 1, 1, 1, 0, 1] A7.body
def k7c : ACode := subAt [1, 1, 1, 1, 1, 1, 1, 1, 1, 1, 1, 1, 0, 1] A7.body
def k7i : ACode := subAt [0, 0, 1, 0, 0, 1, 1, 1] k7a
def k7j : ACode := subAt [0, 0, 1, 0, 0, 1] k7c
structure Fp1 (H H' : Heap) (vF x1 v5 x6 : AV) (f : List Int) (i : Nat) (τ : Env) (k m : Nat) : Prop where
  ex : Ext H H'
  le : k ≤ f.length
  hm : m = f.length - k
  t : Tm τ [(0, vF), (1, x1), (5, v5), (6, x6), (7, .int .i64 i), (8, .int .i64 k)]
structure Fp2 (H H' : Heap) (vF x1 v5 : AV) (F : List (List Int)) (τ : Env) (i m : Nat) : Prop where
  ex : Ext H H'
  le : i ≤ F.length
  hm : m = F.length - i
  t : Tm τ [(0, vF), (1, x1), (5, v5), (6, .int .i64 (topI ((partsF F).take i))), (7, .int .i64 i)]
/-- Faces that are not of the part w, with their parts. -/
structure Kept (F : List (List Int)) (w : Int) (i : Nat) (G : List (List Int)) (W : List Int) (ix : List Nat) : Prop where
  gl : ix.length = G.length
  wl : W.length = G.length
  g : ∀ {k j : Nat}, ix[k]? = some j → G[k]? = F[j]?
  wg : ∀ {k j : Nat}, ix[k]? = some j → W[k]? = (partsF F)[j]?
  nd : ix.Nodup
  mem : ∀ {j : Nat}, j ∈ ix ↔ j < i ∧ (partsF F)[j]? ≠ some w
  sub : G.Sublist (F.take i)
theorem Kept.start (F : List (List Int)) (w : Int) : Kept F w 0 [] [] [] := ⟨rfl, rfl, fun h => by simp at h, fun h => by simp at h, by simp, fun {j} => by simp, by simp⟩
theorem Kept.skip {F : List (List Int)} {w : Int} {i : Nat} {G : List (List Int)} {W : List Int} {ix : List Nat} (h : Kept F w i G W ix) (hp : (partsF F)[i]? = some w) : Kept F w (i + 1) G W ix where
  gl := h.gl
  wl := h.wl
  g := h.g
  wg := h.wg
  nd := h.nd
  mem := fun {j} => by
    rw [h.mem]
    refine ⟨fun ⟨a, b⟩ => ⟨by omega, b⟩, fun ⟨a, b⟩ => ⟨?_, b⟩⟩
    by_cases e : j = i
    · subst e; exact absurd hp b
    · omega
  sub := h.sub.trans (by rw [List.take_add_one]; exact List.sublist_append_left _ _)
theorem Kept.keep {F : List (List Int)} {w x : Int} {i : Nat} {f : List Int} {G : List (List Int)} {W : List Int} {ix : List Nat} (h : Kept F w i G W ix) (hf : F[i]? = some f) (hp : (partsF F)[i]? = some x) (hx : x ≠ w) : Kept F w (i + 1) (G ++ [f]) (W ++ [x]) (ix ++ [i]) where
  gl := by simp [h.gl]
  wl := by simp [h.wl]
  g := fun {k j} e => by
    rcases Nat.lt_or_ge k ix.length with q | q
    · rw [List.getElem?_append_left q] at e
      rw [List.getElem?_append_left (by rw [← h.gl]; exact q)]; exact h.g e
    · rw [List.getElem?_append_right q] at e
      have hk : k = ix.length := by have := (List.getElem?_eq_some_iff.1 e).1; simp at this; omega
      subst hk
      simp at e; subst e
      rw [h.gl, List.getElem?_append_right (Nat.le_refl _)]; simp [hf]
  wg := fun {k j} e => by
    have hwl := h.wl
    have hgl := h.gl
    rcases Nat.lt_or_ge k ix.length with q | q
    · rw [List.getElem?_append_left q] at e
      rw [List.getElem?_append_left (by omega)]; exact h.wg e
    · rw [List.getElem?_append_right q] at e
      have hk : k = ix.length := by have := (List.getElem?_eq_some_iff.1 e).1; simp at this; omega
      subst hk
      simp at e; subst e
      rw [h.gl, ← h.wl, List.getElem?_append_right (Nat.le_refl _)]; simp [hp]
  nd := by
    rw [List.nodup_append]
    exact ⟨h.nd, by simp, fun a ha b hb e => by simp at hb; have := (h.mem.1 ha).1; omega⟩
  mem := fun {j} => by
    rw [List.mem_append, List.mem_singleton, h.mem]
    constructor
    · rintro (⟨a, b⟩ | rfl)
      · exact ⟨by omega, b⟩
      · exact ⟨by omega, by rw [hp]; exact fun q => hx (Option.some.inj q)⟩
    · rintro ⟨a, b⟩
      by_cases e : j = i
      · exact .inr e
      · exact .inl ⟨by omega, b⟩
  sub := by
    rw [List.take_add_one, hf]
    exact List.Sublist.append h.sub (List.Sublist.refl _)
theorem sub_flat {α : Type} : ∀ {a b : List (List α)}, a.Sublist b → a.flatten.Sublist b.flatten := fun h => by
  induction h with
  | slnil => exact List.Sublist.refl _
  | cons x h ih => rw [List.flatten_cons]; exact ih.trans (List.sublist_append_right _ _)
  | cons_cons x h ih => rw [List.flatten_cons, List.flatten_cons]; exact (List.Sublist.refl _).append ih
theorem allE_sub : ∀ {G F : List (List Int)}, G.Sublist F → (allE G).Sublist (allE F) := fun h => by
  unfold allE
  rw [List.flatMap_def, List.flatMap_def]
  exact sub_flat (h.map edgesF)
theorem Kept.chk {F : List (List Int)} {w : Int} {i : Nat} {G : List (List Int)} {W : List Int} {ix : List Nat} (h : Kept F w i G W ix) {n : Int} (hc : chkF n F = 0) : chkF n G = 0 := by
  obtain ⟨c1, c2, c3⟩ := chkF_zero hc
  have hs : G.Sublist F := h.sub.trans (List.take_sublist _ _)
  exact chkF_mk c1 (fun f hf => c2 f (hs.subset hf)) (c3.sublist (allE_sub hs))
structure Fp3 (H H' : Heap) (vF v5 v11 v12 : AV) (F G : List (List Int)) (W : List Int) (ix : List Nat) (rs : List OneV) (w : Int) (τ : Env) (i m : Nat) : Prop where
  ex : Ext H H'
  m11 : Mine 1 onec H H' v11 rs
  len : rs.length = G.length
  row : ∀ (i : Nat) (r : OneV) (f : List Int), rs[i]? = some r → G[i]? = some f → Rw 1 i64c H r.1 f
  m12 : Mine 1 i64c H H' v12 W
  ap : ∀ p, rowObj v11 = some p → rowObj v12 ≠ some p
  k : Kept F w i G W ix
  le : i ≤ F.length
  hm : m = F.length - i
  t : Tm τ [(0, vF), (5, v5), (10, .int .i64 w), (11, v11), (12, v12), (13, .int .i64 i)]
structure FpQ (H H' : Heap) (v11 v12 : AV) (F G : List (List Int)) (W : List Int) (ix : List Nat) (w : Int) (τ : Env) : Prop where
  ex : Ext H H'
  gd : Gd H' v11 G
  rw : Rw 1 i64c H' v12 W
  k : Kept F w F.length G W ix
  t : Tm τ [(11, v11), (12, v12)]
structure Fp4 (H H' : Heap) (vW vQ : AV) (Q : List Int) (i : Nat) (τ : Env) (k m : Nat) : Prop where
  eq : H = H'
  le : k ≤ i
  hm : m = i - k
  t : Tm τ [(12, vW), (14, vQ), (15, .int .i64 i), (16, .int .i64 k)]
structure Fp5 (H H' : Heap) (vW vQ : AV) (Q : List Int) (τ : Env) (i m : Nat) : Prop where
  eq : H = H'
  le : i ≤ Q.length
  hm : m = Q.length - i
  t : Tm τ [(12, vW), (14, vQ), (15, .int .i64 i)]
end
end Go.Proofs.Ytcepchipgjpkhaa
