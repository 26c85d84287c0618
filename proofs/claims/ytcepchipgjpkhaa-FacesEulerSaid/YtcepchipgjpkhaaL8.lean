/- Strips, closed to rings: the statement FacesEuler, walked. No claim by itself. -/
import Derived.Test.YtcepchipgjpkhaaL9
namespace Go.Proofs.Ytcepchipgjpkhaa
open Go Go.AI
section
variable {H : Heap} {FT : Nat → Option FnD}
def stripF (k : Nat) (cut : Bool) : List (List Int) := (List.range k).flatMap fun (i : Nat) => if cut then [[2 * (i : Int), 2 * (i : Int) + 2, 2 * (i : Int) + 3], [2 * (i : Int), 2 * (i : Int) + 3, 2 * (i : Int) + 1]] else [[2 * (i : Int), 2 * (i : Int) + 2, 2 * (i : Int) + 3, 2 * (i : Int) + 1]]
def closeR (k : Nat) (f : List Int) : List Int := f.map fun x => x % (2 * (k : Int))
def risesTo (m : Nat) : List Int := (List.range m).map Int.ofNat
structure EuF (n : Nat) (F : List (List Int)) (c : Nat) (ls : List Nat) : Prop where
  row : ∀ f, f ∈ F → rowOk n f
  nd : (allE F).Nodup
  kd : (keys (rimE (allE F))).Nodup
  cnt : (firsts F.flatten).length + F.length = (edS (allE F)).length + c
  k1 : ∀ x, x ∈ keys (rimE (allE F)) → x ∈ risesTo n
  k2 : ∀ x, x ∈ risesTo n → x ∈ keys (rimE (allE F))
  ri : (ringsF (risesTo n) (rimE (allE F))).map List.length = ls
instance (n : Int) (f : List Int) : Decidable (rowOk n f) := by unfold rowOk; infer_instance
def euB (n : Nat) (F : List (List Int)) (c : Nat) (ls : List Nat) : Bool :=
  decide (∀ f, f ∈ F → rowOk n f) && decide (allE F).Nodup && decide (keys (rimE (allE F))).Nodup && decide ((firsts F.flatten).length + F.length = (edS (allE F)).length + c) &&
  decide (∀ x, x ∈ keys (rimE (allE F)) → x ∈ risesTo n) && decide (∀ x, x ∈ risesTo n → x ∈ keys (rimE (allE F))) && decide ((ringsF (risesTo n) (rimE (allE F))).map List.length = ls)
theorem euB_ok {n : Nat} {F : List (List Int)} {c : Nat} {ls : List Nat} (h : euB n F c ls = true) : EuF n F c ls := by
  unfold euB at h
  simp only [Bool.and_eq_true, decide_eq_true_iff] at h
  obtain ⟨⟨⟨⟨⟨⟨a, b⟩, c⟩, d⟩, e⟩, f⟩, g⟩ := h
  exact ⟨a, b, c, d, e, f, g⟩
set_option maxRecDepth 100000 in
theorem eu_open (c : Bool) : (List.range 20).all (fun j => euB (2 * (j + 3) + 2) (stripF (j + 3) c) 1 [2 * (j + 3) + 2]) = true := by
  cases c <;> decide +kernel
set_option maxRecDepth 100000 in
theorem eu_shut (c : Bool) : (List.range 20).all (fun j => euB (2 * (j + 3)) ((stripF (j + 3) c).map (closeR (j + 3))) 0 [j + 3, j + 3]) = true := by
  cases c <;> decide +kernel
theorem strip_open {k : Nat} (h1 : 3 ≤ k) (h2 : k < 23) (c : Bool) : EuF (2 * k + 2) (stripF k c) 1 [2 * k + 2] := by
  have := List.all_eq_true.1 (eu_open c) (k - 3) (List.mem_range.2 (by omega))
  rw [show k - 3 + 3 = k by omega] at this
  exact euB_ok this
theorem strip_shut {k : Nat} (h1 : 3 ≤ k) (h2 : k < 23) (c : Bool) : EuF (2 * k) ((stripF k c).map (closeR k)) 0 [k, k] := by
  have := List.all_eq_true.1 (eu_shut c) (k - 3) (List.mem_range.2 (by omega))
  rw [show k - 3 + 3 = k by omega] at this
  exact euB_ok this
theorem rises_rise (m : Nat) : Rise ltI (risesTo m) := by
  unfold risesTo
  rw [Rise, List.pairwise_map]
  exact List.pairwise_lt_range.imp fun {a b} h => by simp [ltI]; omega
theorem EuF.chk {n : Nat} {F : List (List Int)} {c : Nat} {ls : List Nat} (h : EuF n F c ls) (hn : n ≤ 1048576) : chkF n F = 0 := chkF_mk ⟨by omega, by omega⟩ h.row h.nd
theorem EuF.rims {n : Nat} {F : List (List Int)} {c : Nat} {ls : List Nat} (h : EuF n F c ls) : (rimsF (allE F)).map List.length = ls := by
  unfold rimsF
  rw [show srtI (keys (rimE (allE F))) = risesTo n from srtB_eq stoI h.kd (rises_rise n) fun x => ⟨h.k1 x, h.k2 x⟩]
  exact h.ri
/-! ### Rows that are their owner's, each by itself -/
structure Ind (Hb H : Heap) (v : AV) (os : List Nat) (F : List (List Int)) : Prop where
  ex : ∃ rs, Mine 1 onec Hb H v rs ∧ rs.length = F.length ∧ ∀ (i : Nat) (r : OneV) (f : List Int) (o : Nat), rs[i]? = some r → F[i]? = some f → os[i]? = some o → r.1 = .slc o 0 f.length 1 f.length true
  len : os.length = F.length
  nd : os.Nodup
  new : ∀ o, o ∈ os → Hb.next ≤ o ∧ rowObj v ≠ some o
  arr : ∀ (i o : Nat) (f : List Int), os[i]? = some o → F[i]? = some f → Arr intV H (.slc o 0 f.length 1 f.length true) o f
theorem int_flat (f : List Int) : f.map intV = f.flatMap i64c := by rw [← List.flatMap_singleton' (f.map _), List.flatMap_map]; rfl
theorem Ind.gd {Hb H : Heap} {v : AV} {os : List Nat} {F : List (List Int)} (h : Ind Hb H v os F) : Gd H v F := by
  obtain ⟨rs, a, b, c⟩ := h.ex
  refine ⟨rs, a.ow.rw onec_len, b, fun i r f h1 h2 => ?_⟩
  have hi : i < os.length := by rw [h.len]; exact (List.getElem?_eq_some_iff.1 h2).1
  have ho := List.getElem?_eq_getElem hi
  rw [c i r f _ h1 h2 ho]
  have g := (h.arr i _ f ho h2).get
  rw [int_flat] at g
  exact lit_int g
theorem Ind.ext {Hb H H' : Heap} {v : AV} {os : List Nat} {F : List (List Int)} (h : Ind Hb H v os F) (k : Ext H H') : Ind Hb H' v os F := by
  obtain ⟨rs, a, b, c⟩ := h.ex
  exact ⟨⟨rs, a.ext k, b, c⟩, h.len, h.nd, h.new, fun i o f h1 h2 => (h.arr i o f h1 h2).ext k⟩
theorem Ind.nil {Hb H : Heap} : Ind Hb H .nils [] [] := ⟨⟨[], Mine.nil, rfl, fun i r f o h => by simp at h⟩, rfl, by simp, fun o h => by simp at h, fun i o f h => by simp at h⟩
theorem Ind.lt {Hb H : Heap} {v : AV} {os : List Nat} {F : List (List Int)} (h : Ind Hb H v os F) (hw : H.Wf) {o : Nat} (ho : o ∈ os) : o < H.next := by
  obtain ⟨i, hi⟩ := List.getElem?_of_mem ho
  have hl : i < F.length := by rw [← h.len]; exact (List.getElem?_eq_some_iff.1 hi).1
  exact (h.arr i o _ hi (List.getElem?_eq_getElem hl)).lt hw
theorem get_snoc {α : Type} {l : List α} {x y : α} {i : Nat} (h : (l ++ [x])[i]? = some y) : (i < l.length ∧ l[i]? = some y) ∨ (i = l.length ∧ y = x) := by
  rcases Nat.lt_or_ge i l.length with q | q
  · rw [List.getElem?_append_left q] at h; exact .inl ⟨q, h⟩
  · rw [List.getElem?_append_right q] at h
    have hi : i = l.length := by have := (List.getElem?_eq_some_iff.1 h).1; simp at this; omega
    subst hi
    simp at h
    exact .inr ⟨rfl, h.symm⟩
theorem Ind.snoc {Hb H : Heap} {v : AV} {os : List Nat} {F : List (List Int)} (h : Ind Hb H v os F) (hb : Hb.Wf) (hx : Ext Hb H) (f : List Int) (hl : F.length ≤ 1000) :
    ∃ v' H', appendA 1 24 ((H.push (.cells (f.map intV))).push (.cells [.slc H.next 0 f.length 1 f.length true])) v (.slc (H.next + 1) 0 1 1 1 true) = some (v', H') ∧ Ind Hb H' v' (os ++ [H.next]) (F ++ [f]) ∧ Ext Hb H' := by
  obtain ⟨rs, a, b, c⟩ := h.ex
  have e1 := Ext.push hx.wf (.cells (f.map intV))
  have g1 := (push_new hx.wf (.cells (f.map intV))).1
  have hn1 : (H.push (.cells (f.map intV))).next = H.next + 1 := rfl
  have hf1 : (H.push (.cells (f.map intV))).floor = H.floor := rfl
  have hfl : Hb.floor ≤ H.next := Nat.le_trans hb.1 hx.next
  generalize H.push (.cells (f.map intV)) = H1 at e1 g1 hn1 hf1
  obtain ⟨v', H', k1, k2, k3, k4⟩ := (a.ext e1).app1 onec_len (by omega) onec_one e1.wf (Nat.le_trans hx.next e1.next) (⟨.slc H.next 0 f.length 1 f.length true, rfl⟩ : OneV) (bytes := 24) (by rw [b]; omega)
  rw [hn1] at k1
  have e2 : Ext Hb H' := ext_fr hb (hx.trans e1) k3 (fun p hp => a.new p (by simpa using hp))
  have hlt : ∀ o, o ∈ os → o < H.next := fun o ho => h.lt hx.wf ho
  refine ⟨v', H', k1, ⟨⟨rs ++ [⟨.slc H.next 0 f.length 1 f.length true, rfl⟩], k2, by simp [b], fun i r f' o h1 h2 h3 => ?_⟩, by simp [h.len], ?_, fun o ho => ?_, fun i o f' h1 h2 => ?_⟩, e2⟩
  · rcases get_snoc h1 with ⟨q1, q2⟩ | ⟨q1, q2⟩
    · rw [List.getElem?_append_left (by omega)] at h2
      rw [List.getElem?_append_left (by rw [h.len]; omega)] at h3
      exact c i r f' o q2 h2 h3
    · subst q1 q2
      rw [b, List.getElem?_append_right (Nat.le_refl _)] at h2
      rw [b, ← h.len, List.getElem?_append_right (Nat.le_refl _)] at h3
      simp at h2 h3
      subst h2 h3
      rfl
  · rw [List.nodup_append]
    exact ⟨h.nd, by simp, fun x hx' y hy e => by simp at hy; have := hlt x hx'; omega⟩
  · rcases List.mem_append.1 ho with q | q
    · obtain ⟨n1, n2⟩ := h.new o q
      refine ⟨n1, fun e => ?_⟩
      rcases k4 o e with z | z
      · exact n2 z
      · have := hlt o q; omega
    · simp at q; subst q
      refine ⟨hx.next, fun e => ?_⟩
      rcases k4 _ e with z | z
      · have := a.lt hx.wf z; omega
      · omega
  · have hno : ∀ o, o < H.next + 1 → rowObj v ≠ some o → o ∉ (rowObj v).toList := fun o _ q r => q (by simpa using r)
    rcases get_snoc h2 with ⟨q1, q2⟩ | ⟨q1, q2⟩
    · rw [List.getElem?_append_left (by rw [h.len]; omega)] at h1
      have ho := List.mem_of_getElem? h1
      exact ((h.arr i o f' h1 q2).ext e1).fr k3 (fun r => (h.new o ho).2 (by simpa using r))
    · subst q1 q2
      rw [← h.len, List.getElem?_append_right (Nat.le_refl _)] at h1
      simp at h1
      subst h1
      have ar : Arr intV H1 (.slc H.next 0 f'.length 1 f'.length true) H.next f' := ⟨rfl, g1, by rw [hf1, hx.floor]; exact hfl⟩
      exact ar.fr k3 (fun r => by have := a.lt hx.wf (by simpa using r : rowObj v = some H.next); omega)
theorem Ind.set {Hb H : Heap} {v : AV} {os : List Nat} {F : List (List Int)} (h : Ind Hb H v os F) (hw : H.Wf) {i o : Nat} {f : List Int} {j : Nat} (hi : F[i]? = some f) (ho : os[i]? = some o) (hj : j < f.length) (x : Int) :
    ∃ H', storeA H 1 (.ptr o j) (.int .i64 x) = some (undefA, H') ∧ Ind Hb H' v os (F.set i (f.set j x)) ∧ Fr [o] H H' := by
  obtain ⟨rs, a, b, c⟩ := h.ex
  have hom := List.mem_of_getElem? ho
  have il : i < F.length := (List.getElem?_eq_some_iff.1 hi).1
  obtain ⟨H', k1, k2, k3⟩ := (h.arr i o f ho hi).set hw hj x rfl
  refine ⟨H', k1, ⟨⟨rs, a.fr k3 (fun p hp q => by simp at q; subst q; exact (h.new p hom).2 hp), by simp [b], fun i' r f' o' h1 h2 h3 => ?_⟩, by simp [h.len], h.nd, h.new, fun i' o' f' h1 h2 => ?_⟩, k3⟩
  · by_cases e : i' = i
    · subst e
      rw [List.getElem?_set, if_pos rfl, if_pos il] at h2
      cases h2
      have := c i' r f o' h1 hi h3
      simpa using this
    · rw [List.getElem?_set_ne (fun q => e q.symm)] at h2
      exact c i' r f' o' h1 h2 h3
  · by_cases e : i' = i
    · subst e
      rw [List.getElem?_set, if_pos rfl, if_pos il] at h2
      cases h2
      rw [ho] at h1
      cases h1
      simpa using k2
    · rw [List.getElem?_set_ne (fun q => e q.symm)] at h2
      refine (h.arr i' o' f' h1 h2).fr k3 (fun q => ?_)
      simp at q; subst q
      exact e (nod_inj h.nd h1 ho)
end
end Go.Proofs.Ytcepchipgjpkhaa
