/- Tables whose keys are pairs; rows of rows. No claim by itself. -/
import Derived.Test.YtacfhbhfgbjleaaDoorE40
import Derived.Test.YtacfhbhfgbjleaaDoorE37
namespace Go.AI
/-! ### Tables of pairs -/
def mapUpdA (H : Heap) (d : EqD) (m k v : AV) : Option (AV × Heap) :=
  match m with
  | .map o =>
    bif Nat.ble H.floor o then
      match H.get o with
      | some (.map es) =>
        bif plainKey d k then
          match findA d k es 0 with
          | none => none
          | some (some (i, _)) => some (undefA, H.set o (.map (es.set i (k, v))))
          | some none => some (undefA, H.set o (.map (es ++ [(k, v)])))
        else none
      | _ => none
    else none
  | _ => none
@[simp] theorem p_mapUpdate {e : Opd → AV} {H : Heap} {d : EqD} {m k v : Opd} : plainOp e H (.mapUpdate d m k v) = mapUpdA H d (e m) (e k) (e v) := rfl
abbrev Ent := (Int × Int) × Int
def entc (q : Ent) : AV × AV := (.agg (pairc q.1), .int .i64 q.2)
theorem cells_pair (x y : Int × Int) : eqA (.flat [.int, .int]) (.agg (pairc x)) (.agg (pairc y)) = some (decide (x = y)) := by
  have e : eqA (.flat [.int, .int]) (.agg (pairc x)) (.agg (pairc y)) = (match some (x.1 == y.1) with | some true => (match some (x.2 == y.2) with | some true => some true | some false => some false | none => none) | some false => some false | none => none) := rfl
  rw [e]
  obtain ⟨a, b⟩ := x
  obtain ⟨c, d⟩ := y
  cases h1 : (a == c) <;> cases h2 : (b == d) <;> simp_all
theorem plain_pair (x : Int × Int) : plainKey (.flat [.int, .int]) (.agg (pairc x)) = true := by
  have : cellsEq [.int, .int] (pairc x) (pairc x) = some true := by
    have := cells_pair x x
    have e : eqA (.flat [.int, .int]) (.agg (pairc x)) (.agg (pairc x)) = cellsEq [.int, .int] (pairc x) (pairc x) := rfl
    rw [← e, this]; simp
  show (cellsEq [.int, .int] (pairc x) (pairc x)).isSome = true
  rw [this]; rfl
/-- What a table tells of a pair; -1: none. -/
def lookE (E : List Ent) (s : Int × Int) : Int := ((E.find? fun q => decide (s = q.1)).map (·.2)).getD (-1)
theorem find_ent (s : Int × Int) : ∀ (E : List Ent) (j : Nat), findA (.flat [.int, .int]) (.agg (pairc s)) (E.map entc) j = match E.find? (fun q => decide (s = q.1)) with | some q => some (some (j + E.findIdx (fun q => decide (s = q.1)), .int .i64 q.2)) | none => some none
  | [], j => rfl
  | q :: E, j => by
    have ih := find_ent s E (j + 1)
    simp only [List.map_cons, entc, findA, cells_pair]
    by_cases h : s = q.1
    · simp [h, List.findIdx_cons]
    · rw [decide_eq_false h]
      simp only [List.find?_cons, decide_eq_false h, List.findIdx_cons, cond_false]
      rw [ih]
      cases E.find? (fun q => decide (s = q.1)) with
      | none => rfl
      | some q' => simp only [Option.some.injEq, Prod.mk.injEq, and_true]; omega
theorem look_none {E : List Ent} {s : Int × Int} : E.find? (fun q => decide (s = q.1)) = none ↔ s ∉ E.map (·.1) := by
  rw [List.find?_eq_none]
  simp only [List.mem_map, not_exists, not_and, decide_eq_true_eq]
  exact ⟨fun h q hq e => h q hq e.symm, fun h q hq e => h q hq e.symm⟩
theorem lookA_ent {H : Heap} {o : Nat} {E : List Ent} {s : Int × Int} (h : H.get o = some (.map (E.map entc))) :
    ∃ r, lookA H (.flat [.int, .int]) (.map o) (.agg (pairc s)) = some r ∧ ((s ∉ E.map (·.1) ∧ r = none ∧ lookE E s = -1) ∨ (s ∈ E.map (·.1) ∧ ∃ i k, r = some (i, .int .i64 k) ∧ lookE E s = k ∧ (s, k) ∈ E)) := by
  unfold lookA
  simp only [h, plain_pair, cond_true, find_ent s E 0]
  cases hf : E.find? (fun q => decide (s = q.1)) with
  | none => exact ⟨none, rfl, .inl ⟨look_none.1 hf, rfl, by unfold lookE; rw [hf]; rfl⟩⟩
  | some q =>
    have hm := List.mem_of_find?_eq_some hf
    have hs : s = q.1 := by have := List.find?_some hf; simpa using this
    refine ⟨_, rfl, .inr ⟨?_, _, q.2, rfl, by unfold lookE; rw [hf]; rfl, ?_⟩⟩
    · rw [hs]; exact List.mem_map_of_mem hm
    · rw [hs]; exact hm
theorem mapUpd_new {H : Heap} {o : Nat} {E : List Ent} {s : Int × Int} {k : Int} (hf : H.floor ≤ o) (h : H.get o = some (.map (E.map entc))) (hn : s ∉ E.map (·.1)) :
    mapUpdA H (.flat [.int, .int]) (.map o) (.agg (pairc s)) (.int .i64 k) = some (undefA, H.set o (.map ((E ++ [(s, k)]).map entc))) := by
  have hb : Nat.ble H.floor o = true := Nat.ble_eq_true_of_le hf
  unfold mapUpdA
  simp only [h, hb, cond_true, plain_pair, find_ent s E 0, look_none.2 hn, List.map_append, List.map_cons, List.map_nil]
  rfl
/-! ### Rows of rows -/
abbrev OneV := {v : AV // v.one = true}
def onec (x : OneV) : List AV := [x.1]
theorem onec_len (x : OneV) : (onec x).length = 1 := rfl
theorem onec_one (x : OneV) : allOne (onec x) = true := by unfold onec; rw [allOne_of x.2]; rfl
structure Gd (H : Heap) (v : AV) (F : List (List Int)) : Prop where
  ex : ∃ rs : List OneV, Rw 1 onec H v rs ∧ rs.length = F.length ∧ ∀ (i : Nat) (r : OneV) (f : List Int), rs[i]? = some r → F[i]? = some f → Rw 1 i64c H r.1 f
section
variable {H H' : Heap} {v : AV} {F : List (List Int)}
theorem Gd.len (h : Gd H v F) : lenA v = some (.int .i64 F.length) := by
  obtain ⟨rs, a, b, _⟩ := h.ex; rw [← b]; exact a.len
theorem Gd.one (h : Gd H v F) : v.one = true ∧ v.cells = [v] := by
  obtain ⟨rs, a, _, _⟩ := h.ex; exact a.one
theorem Gd.ext (h : Gd H v F) (k : Ext H H') : Gd H' v F := by
  obtain ⟨rs, a, b, c⟩ := h.ex; exact ⟨rs, a.ext k, b, fun i r f q1 q2 => (c i r f q1 q2).ext k⟩
theorem Gd.idx (h : Gd H v F) {k : IntKind} {i : Int} (h0 : 0 ≤ i) (h1 : i < F.length) :
    ∃ p r f, F[i.toNat]? = some f ∧ indexAddrV 1 v (.int k i) = some p ∧ loadA H none p = some r ∧ Rw 1 i64c H r f := by
  obtain ⟨rs, a, b, c⟩ := h.ex
  obtain ⟨p, x, q1, q2, _, q4⟩ := Sl.idx (a.sl onec_len) (k := k) h0 (by omega)
  have hl : i.toNat < F.length := by omega
  exact ⟨p, x.1, F[i.toNat], List.getElem?_eq_getElem hl, q2, q4 _ rfl rfl, c _ _ _ q1 (List.getElem?_eq_getElem hl)⟩
theorem load_ext {n : Option Nat} {p r : AV} (h : loadA H n p = some r) (k : Ext H H') : loadA H' n p = some r := by
  cases p with
  | ptr o off =>
    rw [loadA_ptr] at h ⊢
    cases hc : H.cellsAt o with
    | none => rw [hc] at h; cases h
    | some cs => rw [k.cells hc]; rw [hc] at h; exact h
  | _ => cases h
theorem Gd.idxE (h : Gd H v F) (e : Ext H H') {k : IntKind} {i : Int} (h0 : 0 ≤ i) (h1 : i < F.length) :
    ∃ p r f, F[i.toNat]? = some f ∧ indexAddrV 1 v (.int k i) = some p ∧ loadA H' none p = some r ∧ Rw 1 i64c H r f := by
  obtain ⟨p, r, f, a, b, c, d⟩ := h.idx (k := k) h0 h1
  exact ⟨p, r, f, a, b, load_ext c e, d⟩
end
/-! ### Edges -/
def rowOk (n : Int) (f : List Int) : Prop := 3 ≤ f.length ∧ f.Nodup ∧ ∀ k, k ∈ f → 0 ≤ k ∧ k < n
theorem edgesF_len (f : List Int) : (edgesF f).length = f.length := by
  unfold edgesF
  rw [List.length_zip, List.length_append, List.length_tail, List.length_take]; omega
theorem edgesF_get {f : List Int} {k : Nat} {a b : Int} (ha : f[k]? = some a) (hb : f[(k + 1) % f.length]? = some b) : (edgesF f)[k]? = some (a, b) := by
  have hk : k < f.length := (List.getElem?_eq_some_iff.1 ha).1
  unfold edgesF
  rw [List.getElem?_zip_eq_some]
  refine ⟨ha, ?_⟩
  by_cases h : k + 1 < f.length
  · rw [Nat.mod_eq_of_lt h] at hb
    rw [List.getElem?_append_left (by simp; omega), List.getElem?_tail]; exact hb
  · have : k + 1 = f.length := by omega
    rw [this, Nat.mod_self] at hb
    rw [List.getElem?_append_right (by simp; omega)]
    have hz : k - f.tail.length = 0 := by simp; omega
    rw [hz, List.getElem?_take, if_pos (by omega)]; exact hb
/-- All edges, each with the number of its face. -/
def tabF : Nat → List (List Int) → List Ent
  | _, [] => []
  | i, f :: F => (edgesF f).map (fun s => (s, (i : Int))) ++ tabF (i + 1) F
theorem tabF_fst : ∀ (i : Nat) (F : List (List Int)), (tabF i F).map (·.1) = F.flatMap edgesF
  | _, [] => rfl
  | i, f :: F => by simp [tabF, tabF_fst (i + 1) F, Function.comp_def]
theorem tabF_app : ∀ (i : Nat) (F G : List (List Int)), tabF i (F ++ G) = tabF i F ++ tabF (i + F.length) G
  | i, [], G => by simp [tabF]
  | i, f :: F, G => by
    simp only [List.cons_append, tabF, tabF_app (i + 1) F G, List.append_assoc, List.length_cons]
    congr 3; omega
theorem tabF_nonneg : ∀ (i : Nat) (F : List (List Int)) (q : Ent), q ∈ tabF i F → 0 ≤ q.2
  | _, [], q, h => by simp [tabF] at h
  | i, f :: F, q, h => by
    simp only [tabF, List.mem_append, List.mem_map] at h
    rcases h with ⟨s, _, rfl⟩ | h
    · simp
    · exact tabF_nonneg (i + 1) F q h
open Classical in
/-- What is wrong with faces. -/
noncomputable def chkF (n : Int) (F : List (List Int)) : Int := if (0 ≤ n ∧ n ≤ 1048576) ∧ ∀ f, f ∈ F → rowOk n f then (if (F.flatMap edgesF).Nodup then 0 else 80) else 2
theorem chkF_ok {n : Nat} {F : List (List Int)} : chkF n F = 0 ↔ FacesOk n F := by
  unfold chkF
  constructor
  · intro h
    split at h
    · rename_i h1
      split at h
      · rename_i h2; exact ⟨by omega, h1.2, h2⟩
      · simp at h
    · simp at h
  · intro h
    have hle := h.le
    rw [if_pos ⟨⟨by omega, by omega⟩, h.fs⟩, if_pos h.es]
end Go.AI
