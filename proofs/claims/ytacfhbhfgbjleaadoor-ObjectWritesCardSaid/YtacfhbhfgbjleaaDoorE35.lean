/- Arguments of a law that are bytes, or structs of slices. No claim by itself. -/
import Derived.Test.YtacfhbhfgbjleaaDoorE34
import Derived.Deep.Strs
import Derived.Lib.LaidTab
namespace Go.AI
open Go.ChangeShapes Go.WideShapes Go.Deep
section
variable {H : Type} {enc : TypeId × Value → H} {P : Program} {w : World} {base : Nat} {held : Bool}
theorem arg_pairs2 {t e : TypeId} {f0 f1 : Field} {fuel : Nat} {cs : List Value} {x : DataW H × List MemPlace} (o : Nat) (ht : P.underlying t = some (.slice e)) (he : P.underlying e = some (.struct #[f0, f1]))
    (ce : P.cellsOf e = 2) (o0 : f0.offset = 0) (o1 : f1.offset = 1) (c0 : P.cellsOf f0.type = 1) (c1 : P.cellsOf f1.type = 1) (u0 : P.underlying f0.type = some (.int .i64)) (u1 : P.underlying f1.type = some (.int .i64))
    (h : DataW.trod enc P w base (fun _ => true) held fuel t cs = some x) : ∃ v xs av L, cs = [v] ∧ SlArg w o 2 pairc v xs av L := by
  rcases open_slice_pairs ht he ce o0 o1 c0 c1 h with ⟨hcs, _⟩ | ⟨a, len, cap, m, n, V0, V1, D0, D1, P0, P1, hcs, _⟩
  · subst hcs
    obtain ⟨xs, av, L, _, hs, _⟩ := arg_pairs o ht he ce o0 o1 c0 c1 u0 u1 h
    exact ⟨_, xs, av, L, rfl, hs⟩
  · subst hcs
    obtain ⟨xs, av, L, _, hs, _⟩ := arg_pairs o ht he ce o0 o1 c0 c1 u0 u1 h
    exact ⟨_, xs, av, L, rfl, hs⟩
theorem arg_three {t : TypeId} {f0 f1 f2 : Field} {fuel : Nat} {cs : List Value} {x : DataW H × List MemPlace} (ht : P.underlying t = some (.struct #[f0, f1, f2])) (hl : P.cellsOf t = 3) (o0 : f0.offset = 0) (o1 : f1.offset = 1) (o2 : f2.offset = 2)
    (c0 : P.cellsOf f0.type = 1) (c1 : P.cellsOf f1.type = 1) (c2 : P.cellsOf f2.type = 1) (h : DataW.trod enc P w base (fun _ => true) held fuel t cs = some x) :
    ∃ a b c n y0 y1 y2, cs = [a, b, c] ∧ DataW.trod enc P w base (fun _ => true) held n f0.type [a] = some y0 ∧ DataW.trod enc P w base (fun _ => true) held n f1.type [b] = some y1 ∧ DataW.trod enc P w base (fun _ => true) held n f2.type [c] = some y2 := by
  obtain ⟨y0, y1, y2, n, _, hlen, h0, h1, h2⟩ := trod_struct3 ht h
  rw [hl] at hlen
  match cs, hlen with
  | [a, b, c], _ =>
    rw [o0, c0] at h0; rw [o1, c1] at h1; rw [o2, c2] at h2
    exact ⟨a, b, c, n, y0, y1, y2, rfl, h0, h1, h2⟩
/-- A byte's cell. -/
def bytc (b : Nat) : List AV := [.int .u8 (b : Int)]
theorem arg_bytes {t e : TypeId} {fuel : Nat} {a : Option Addr} {len cap : Nat} {x : DataW H × List MemPlace} (o : Nat) (ht : P.underlying t = some (.slice e)) (he : P.underlying e = some (.int .u8)) (hc : P.cellsOf e = 1)
    (h : DataW.trod enc P w base (fun _ => true) held fuel t [.slice a len cap] = some x) : ∃ xs av L, xs.length = len ∧ (∀ b, b ∈ xs → b < 256) ∧ SlArg w o 1 bytc (.slice a len cap) xs av L := by
  rcases open_ints ht he hc h with ⟨hcs, _⟩ | ⟨a, len, cap, zs, hcs, _, hl, _, hz, hxx, hcell, hwf⟩
  · simp at hcs; obtain ⟨rfl, rfl, rfl⟩ := hcs
    exact ⟨[], .nils, none, rfl, by simp, ⟨⟨fun _ _ => .nils, fun l q => by cases q⟩, .inl ⟨rfl, rfl⟩⟩⟩
  · simp at hcs; obtain ⟨rfl, rfl, rfl⟩ := hcs
    simp at hz
    have hbnd : ∀ z, z ∈ zs → 0 ≤ z ∧ z < 256 := fun z hz => by
      have := hwf z hz
      simp [Lit.wf, IntKind.min, IntKind.max, IntKind.signed, IntKind.bits] at this
      omega
    have hlen : ((zs.take len).map Int.toNat).length = len := by simp; omega
    have hn : ∀ z, (bytc z).length = 1 := fun _ => rfl
    have hfl : ((zs.take len).map Int.toNat).flatMap bytc = (zs.take len).map (fun z => AV.int .u8 z) := by
      have hb : ∀ z, z ∈ zs.take len → 0 ≤ z := fun z hz => (hbnd z (List.mem_of_mem_take hz)).1
      generalize zs.take len = l at hb
      induction l with
      | nil => rfl
      | cons z l ih =>
        simp only [List.map_cons, List.flatMap_cons, ih (fun y hy => hb y (List.mem_cons_of_mem _ hy)), bytc]
        rw [Int.toNat_of_nonneg (hb z (by simp))]; rfl
    obtain ⟨L, hL⟩ := arg_cells (w := w) (a := a) (len := len) (cap := cap) (e := 1) (o := o) (cs := ((zs.take len).map Int.toNat).flatMap bytc) hl (by omega) (by rw [hfl, List.length_map]; simp at hlen ⊢; omega)
      (fun i hi => ⟨_, hcell i (by omega)⟩) (fun i y hy => by
        rw [hfl, List.getElem?_map] at hy
        cases hq : (zs.take len)[i]? with
        | none => rw [hq] at hy; cases hy
        | some z =>
          rw [hq] at hy; simp at hy; subst hy
          have hi : i < len := by
            have := (List.getElem?_eq_some_iff.1 hq).1; simp at this; omega
          have hz' : zs[i]? = some z := by rw [List.getElem?_take, if_pos hi] at hq; exact hq
          refine ⟨_, hcell i (by omega), fun φ => ?_⟩
          have : zs.getD i 0 = z := by simp [List.getD, hz']
          rw [this]; exact .int _ _)
    refine ⟨(zs.take len).map Int.toNat, .slc o 0 len 1 len false, L, hlen, fun b hb => ?_, ⟨hL, .inr (by rw [hlen])⟩⟩
    obtain ⟨z, hz, rfl⟩ := List.mem_map.1 hb
    have := hbnd z (List.mem_of_mem_take hz); omega
end
theorem bytesOf_map : ∀ {xs : List Nat}, (∀ b, b ∈ xs → b < 256) → bytesOf (xs.flatMap bytc) = some xs
  | [], _ => rfl
  | x :: xs, h => by
    have hx := h x (by simp)
    have ih := bytesOf_map (xs := xs) (fun b hb => h b (List.mem_cons_of_mem _ hb))
    have h1 : (0 : Int) ≤ (x : Int) ∧ (x : Int) < 256 := by omega
    simp only [List.flatMap_cons, bytc, List.cons_append, List.nil_append, bytesOf, if_pos h1, ih, Option.map_some, Int.toNat_natCast]
/-- Bytes told by their cells. -/
theorem bytesA_cells {H : Heap} {o : Nat} {xs : List Nat} (h : H.get o = some (.cells (xs.flatMap bytc))) (hb : ∀ b, b ∈ xs → b < 256) (lo : Nat) (ex : Bool) : bytesA H (.slc o 0 xs.length 1 lo ex) = some xs := by
  have hl : (xs.flatMap bytc).length = xs.length := by rw [flat_len (e := 1) (fun _ => rfl)]; omega
  unfold bytesA Heap.readSeg
  simp only [cellsAt_get h, Option.bind_some, seg_all hl]
  exact bytesOf_map hb
theorem SlArg.bytes {w : World} {o : Nat} {v : Value} {xs : List Nat} {av : AV} {L : Option Loc} {H : Heap} (h : SlArg w o 1 bytc v xs av L) (hg : H.get o = some (.cells (xs.flatMap bytc))) (hb : ∀ b, b ∈ xs → b < 256) : bytesA H av = some xs ∧ capOk av = true := by
  rcases h.2 with ⟨rfl, rfl⟩ | rfl
  · exact ⟨rfl, rfl⟩
  · exact ⟨bytesA_cells hg hb _ _, by simp [capOk]⟩
theorem SlArg.sl {α : Type} {e : Nat} {en : α → List AV} (hn : ∀ x, (en x).length = e) {w : World} {o : Nat} {v : Value} {xs : List α} {av : AV} {L : Option Loc} {H : Heap} (h : SlArg w o e en v xs av L) (hg : H.get o = some (.cells (xs.flatMap en))) : Sl e en H av xs := by
  rcases h.2 with ⟨rfl, rfl⟩ | rfl
  · exact .inl ⟨rfl, rfl⟩
  · exact Sl.ofCells hn hg
theorem SlArg.sw {α : Type} {e : Nat} {en : α → List AV} (hn : ∀ x, (en x).length = e) {w : World} {o : Nat} {v : Value} {xs : List α} {av : AV} {L : Option Loc} {H : Heap} (h : SlArg w o e en v xs av L) (hg : H.get o = some (.cells (xs.flatMap en))) : Sw e en H av xs := by
  rcases h.2 with ⟨rfl, rfl⟩ | rfl
  · exact .inl ⟨rfl, rfl⟩
  · refine .inr ⟨o, 0, _, _, rfl, ?_⟩
    unfold Heap.readSeg
    rw [cellsAt_get hg]
    exact seg_all (flat_len hn xs)
/-- A table that is laid reads so as long as its block is kept. -/
theorem tab_keep {P : Program} {w w' : World} {name : String} {k : IntKind} {zs : List Int} (h : Lib.TabIs P w name k zs) (hk : ∀ b, b < w.heap.size → w'.heap[b]? = w.heap[b]?) : Lib.TabIs P w' name k zs := by
  unfold Lib.TabIs World.var? at *
  cases hg : P.globalNamed name with
  | none => simp [hg] at h
  | some g =>
    simp only [hg, Option.bind_some] at h ⊢
    have hlt : g < w.heap.size := by
      rcases Nat.lt_or_ge g w.heap.size with h' | h'
      · exact h'
      · rw [Array.getElem?_eq_none h'] at h; simp at h
    rw [hk g hlt]
    exact h
theorem bytesA_fr {S : List Nat} {H H' : Heap} (k : Fr S H H') {v : AV} {s : List Nat} (h : bytesA H v = some s) (hn : ∀ o, rowObj v = some o → o ∉ S) : bytesA H' v = some s := by
  rcases bytes_slc h with ⟨rfl, rfl⟩ | ⟨o, off, lo, ex, cs, xs, rfl, hc, hs, hb⟩
  · rfl
  · have hc' := cellsAt_get (k.keep _ _ (hn _ rfl) (get_cellsAt hc))
    unfold bytesA Heap.readSeg
    simp only [hc', Option.bind_some, hs, hb]
theorem bytesA_row {H : Heap} (hw : H.Wf) {v : AV} {s : List Nat} (h : bytesA H v = some s) {o : Nat} (ho : rowObj v = some o) : o < H.next := by
  rcases bytes_slc h with ⟨rfl, rfl⟩ | ⟨o', off, lo, ex, cs, xs, rfl, hc, hs, hb⟩
  · cases ho
  · cases ho; exact hw.lt (get_cellsAt hc)
theorem bytesA_extC {H H' : Heap} (k : ExtC H H') {v : AV} {s : List Nat} (h : bytesA H v = some s) : bytesA H' v = some s := by
  rcases bytes_slc h with ⟨rfl, rfl⟩ | ⟨o, off, lo, ex, cs, xs, rfl, hc, hs, hb⟩
  · rfl
  · have hc' := cellsAt_get (k.keep _ _ (get_cellsAt hc))
    unfold bytesA Heap.readSeg
    simp only [hc', Option.bind_some, hs, hb]
theorem laid_reads {P : Program} {w : World} : ∀ {l : List (String × DataW Unit)} {ps : List MemPlace}, DataW.LaidVars P w l ps → ∀ n d, (n, d) ∈ l →
    ∃ g t cs fuel p, P.globalNamed n = some g ∧ (P.globals[g]?).map (·.type) = some t ∧ w.var? P n = some cs ∧ DataW.trod (fun _ => ()) P w 0 (fun _ => true) false fuel t cs.toList = some (d, p)
  | [], _, _, _, _, hm => by cases hm
  | (n', d') :: r, ps, h, n, d, hm => by
    obtain ⟨g, t, cs, fuel, p, q, h1, h2, h3, h4, h5, _⟩ := h
    rcases List.mem_cons.1 hm with e | e
    · cases e
      exact ⟨g, t, cs, fuel, p, h1, h2, h3, h4⟩
    · exact laid_reads h5 n d e
/-- A table that is listed. -/
theorem tab_of_laid {P : Program} {W : World} {name : String} {k : IntKind} {zs : List Int} {l : List (String × DataW Unit)} {g : Nat} {t e : TypeId} {n : Nat}
    (hg : P.globalNamed name = some g) (hty : (P.globals[g]?).map (·.type) = some t) (ht : P.underlying t = some (.array n e)) (he : P.underlying e = some (.int k)) (hce : P.cellsOf e = 1) (hct : P.cellsOf t = n)
    (h : laidMet P l W) (hm : (name, Lib.tabData k zs) ∈ l) : Lib.TabIs P W name k zs := by
  obtain ⟨ps, hv, _⟩ := h
  obtain ⟨g', t', cs, fuel, p, hg', ht', hvar, hd⟩ := laid_reads hv _ _ hm
  obtain rfl := Option.some.inj (hg.symm.trans hg')
  obtain rfl := Option.some.inj (hty.symm.trans ht')
  unfold Lib.TabIs
  rw [hvar, ← Lib.cells_of_tab ht he hce hct hd]
end Go.AI
