/- The cutting into words, told. No claim by itself. -/
import Derived.Test.YtacfhbhfgbjleaaDoorE28
namespace Go.AI
variable {P : Program} {G : World → Prop}
def tokA (t : Nat × List Nat) : List AV := [.int .i64 (t.1 : Int), .str t.2]
def bytesA (H : Heap) : AV → Option (List Nat)
  | .nils => some []
  | .slc o off len 1 _ _ => (H.readSeg o off len).bind bytesOf
  | _ => none
def idN (n : Nat) : Nat := n
def wordsN (s : List Nat) : List (Nat × List Nat) := scanW idN s 0 .out
def allG : List AV → Heap → Option (AV × Heap)
  | [x], H =>
    match bytesA H x with
    | some s =>
      bif Nat.ble s.length 1048576 then
        match wordsN s with
        | [] => some (.tup [.nils, .int .i64 0], H)
        | t :: ws => some (.tup [.slc H.next 0 (t :: ws).length 2 (t :: ws).length false, .int .i64 0], H.push (.cells ((t :: ws).flatMap tokA)))
      else some (.tup [.nils, .int .i64 3], H)
    | none => none
  | _, _ => none
def tokV (t : Nat × List UInt8) : List Value := [.int .i64 (t.1 : Int), .string ⟨t.2.toArray⟩]
def AllSpec (P : Program) (f E : Nat) : Prop :=
  (∀ (a : Option Addr) (len cap : Nat) (zs : List UInt8), zs.length = len → len ≤ 1048576 → ∀ (w : World),
    (len = 0 ∨ ∃ b off, a = some ⟨b, off, none⟩ ∧ len ≤ cap ∧ (0 < len → b < w.heap.size) ∧ ∀ j x, zs[j]? = some x → w.cell? ⟨b, off + j, none⟩ = some (.int .u8 x.toNat)) →
    Calls P f #[.slice a len cap] w fun e W' => ∃ v, e = .returned (.tuple #[v, .int .i64 0]) ∧
      W'.ownsRow w.heap.size E 2 v (scanW UInt8.toNat zs 0 .out).length ((scanW UInt8.toNat zs 0 .out).flatMap tokV) ∧ (v = .slice none 0 0 ↔ scanW UInt8.toNat zs 0 .out = []) ∧ RowKit.Below w.heap.size w W') ∧
  (∀ (a : Option Addr) (len cap : Nat), 1048576 < len → ∀ (w : World), Calls P f #[.slice a len cap] w fun e w' => e = .returned (.tuple #[.slice none 0 0, .int .i64 3]) ∧ w' = w)
theorem bytes_rel {φ : Pl} : ∀ {xs : List AV} {vs : List Value} {s : List Nat}, LRel φ xs vs → bytesOf xs = some s → xs.length = s.length ∧ (∀ n, n ∈ s → n < 256) ∧ vs = s.map fun (n : Nat) => Value.int .u8 (n : Int)
  | [], _, s, .nil, h => by simp [bytesOf] at h; subst h; exact ⟨rfl, fun n hn => by simp at hn, rfl⟩
  | x :: xs, _, s, .cons h1 t, h => by
    cases x with
    | int k n =>
      cases k with
      | u8 =>
        simp only [bytesOf] at h
        split at h
        · rename_i hn
          cases hb : bytesOf xs with
          | none => rw [hb] at h; cases h
          | some s' =>
            rw [hb] at h; simp at h; subst h
            obtain ⟨a, b, c⟩ := bytes_rel t hb
            cases h1
            refine ⟨by simp [a], fun m hm => ?_, ?_⟩
            · rcases List.mem_cons.1 hm with r | r
              · subst r; omega
              · exact b m r
            · rw [c, List.map_cons, Int.toNat_of_nonneg hn.1]
        · cases h
      | _ => simp [bytesOf] at h
    | _ => simp [bytesOf] at h
theorem words_rel (zs : List UInt8) : wordsN (zs.map UInt8.toNat) = (scanW UInt8.toNat zs 0 .out).map fun t => (t.1, t.2.map UInt8.toNat) :=
  scan_map UInt8.toNat idN (fun _ => rfl) zs 0 .out
theorem toks_rel (φ : Pl) : ∀ (l : List (Nat × List UInt8)), LRel φ ((l.map fun t => (t.1, t.2.map UInt8.toNat)).flatMap tokA) (l.flatMap tokV)
  | [] => .nil
  | t :: l => by
    have ih := toks_rel φ l
    simp only [List.map_cons, List.flatMap_cons, tokA, tokV, List.cons_append, List.nil_append]
    exact .cons (.int _ _) (.cons (by rw [← natsOf_mk]; exact .str _) ih)
theorem at_of_list {φ : Pl} {w : World} {g E : Nat} {cur : Array Value} {cs : List AV} {vs : List Value} (hg : w.heap[g]? = some (.cells cur E (0, 0))) (ht : cur.toList.take vs.length = vs) (hl : LRel φ cs vs) (s : Nat) : At φ w ⟨g, 0, s⟩ cs := fun i a ha => by
  obtain ⟨v, hv, hr⟩ := hl.getE ha
  refine ⟨v, ?_, hr⟩
  have hi : i < vs.length := (List.getElem?_eq_some_iff.1 hv).1
  have : (cur.toList.take vs.length)[i]? = some v := by rw [ht]; exact hv
  rw [List.getElem?_take, if_pos hi] at this
  rw [cell_of_block hg, Nat.zero_add]; simpa using this
theorem all_ok {f E : Nat} (hfn : FnOk P f) (hc : AllSpec P f E) : ExtOk P G f allG := by
  have key : ∀ (args : List AV) (H : Heap) (v : AV) (H' : Heap), allG args H = some (v, H') → ∃ x s, args = [x] ∧ bytesA H x = some s ∧
      ((1048576 < s.length ∧ v = .tup [.nils, .int .i64 3] ∧ H' = H) ∨
       (s.length ≤ 1048576 ∧ wordsN s = [] ∧ v = .tup [.nils, .int .i64 0] ∧ H' = H) ∨
       (s.length ≤ 1048576 ∧ wordsN s ≠ [] ∧ v = .tup [.slc H.next 0 (wordsN s).length 2 (wordsN s).length false, .int .i64 0] ∧ H' = H.push (.cells ((wordsN s).flatMap tokA)))) := by
    intro args H v H' hg
    unfold allG at hg
    split at hg
    · rename_i x
      split at hg
      · rename_i s hs
        refine ⟨x, s, rfl, hs, ?_⟩
        cases hb : Nat.ble s.length 1048576 with
        | false =>
          rw [hb] at hg; cases hg
          have : ¬ s.length ≤ 1048576 := fun q => by rw [Nat.ble_eq_true_of_le q] at hb; cases hb
          exact .inl ⟨by omega, rfl, rfl⟩
        | true =>
          rw [hb, cond_true] at hg
          have hle := Nat.le_of_ble_eq_true hb
          split at hg
          · rename_i hw; cases hg; exact .inr (.inl ⟨hle, hw, rfl, rfl⟩)
          · rename_i t ws hw; cases hg; exact .inr (.inr ⟨hle, by rw [hw]; simp, by rw [hw], by rw [hw]⟩)
      · cases hg
    · cases hg
  refine ⟨fun args H v H' hg hf => ?_, fun B W Z args H v H' φ w avs hg hl hH hK => ?_⟩
  · obtain ⟨_, _, _, _, ⟨_, _, rfl⟩ | ⟨_, _, _, rfl⟩ | ⟨_, _, _, rfl⟩⟩ := key _ _ _ _ hg
    · exact Mono.refl _
    · exact Mono.refl _
    · exact Mono.push _ hf
  · obtain ⟨x, s, rfl, hbx, hcs⟩ := key _ _ _ _ hg
    cases hl with
    | @cons _ xv _ _ hx t =>
      cases t
      refine ⟨hfn, ?_⟩
      -- the argument's bytes
      obtain ⟨a, cap, zs, rfl, hzs, hcond⟩ : ∃ (a : Option Addr) (cap : Nat) (zs : List UInt8), xv = Value.slice a zs.length cap ∧ s = zs.map UInt8.toNat ∧
          (zs.length = 0 ∨ ∃ b off, a = some ⟨b, off, none⟩ ∧ zs.length ≤ cap ∧ (0 < zs.length → b < w.heap.size) ∧ ∀ j x, zs[j]? = some x → w.cell? ⟨b, off + j, none⟩ = some (.int .u8 x.toNat)) := by
        unfold bytesA at hbx
        split at hbx
        · cases hx; cases hbx
          exact ⟨none, 0, [], rfl, rfl, .inl rfl⟩
        · rename_i o off len lo ex
          cases hrs : H.readSeg o off len with
          | none => rw [hrs] at hbx; cases hbx
          | some xs =>
            rw [hrs] at hbx
            have hbx : bytesOf xs = some s := hbx
            obtain ⟨cs, hcs', hseg⟩ := readSeg_some hrs
            have hxl : xs.length = len := by
              obtain ⟨q1, rfl⟩ := seg_some hseg; simp; omega
            cases hx with
            | slc _ _ _ _ _ _ L cap hL q1 q2 q3 q4 =>
              have hat := ((hH.at_ hL hcs').1.seg hseg).2
              obtain ⟨vs, g1, g2⟩ := run_loadCells (P := P) hat.size
              obtain ⟨b1, b2, b3⟩ := bytes_rel g2 hbx
              have hlen : (s.map UInt8.ofNat).length = len := by rw [List.length_map, ← b1, hxl]
              refine ⟨_, cap, s.map UInt8.ofNat, by rw [hlen], ?_, .inr ⟨L.blk, L.base + off, rfl, by omega, fun hpos => ?_, fun j y hj => ?_⟩⟩
              · rw [List.map_map]
                have : ∀ n, n ∈ s → (UInt8.toNat ∘ UInt8.ofNat) n = n := fun n hn => by
                  show (UInt8.ofNat n).toNat = n
                  rw [UInt8.toNat_ofNat', Nat.mod_eq_of_lt (b2 n hn)]
                rw [List.map_congr_left this]; simp
              · by_cases hB : B ≤ o
                · exact hH.live_in hL ⟨_, cellsAt_some hcs', by simp⟩ hB
                · exact Nat.lt_of_lt_of_le (hH.low o L hL (by omega)) hH.wsz
              · rw [List.getElem?_map] at hj
                cases hq : s[j]? with
                | none => rw [hq] at hj; cases hj
                | some n =>
                  rw [hq] at hj; cases hj
                  have hn := b2 n (List.mem_of_getElem? hq)
                  have hjx : j < xs.length := by rw [b1]; exact (List.getElem?_eq_some_iff.1 hq).1
                  obtain ⟨u, hu, hv⟩ := hat j _ (List.getElem?_eq_getElem hjx)
                  have : u = .int .u8 (n : Int) := by
                    have hv2 := g2
                    obtain ⟨v2, e1, e2⟩ := g2.getE (List.getElem?_eq_getElem hjx)
                    rw [b3, List.getElem?_map, hq] at e1; cases e1
                    generalize xs[j] = ax at hv e2
                    cases e2; cases hv; rfl
                  rw [UInt8.toNat_ofNat', Nat.mod_eq_of_lt hn, ← this]
                  simpa using hu
            | slc0 _ _ _ _ a =>
              have : s = [] := by
                have : xs = [] := List.length_eq_zero_iff.1 hxl
                subst this; simp [bytesOf] at hbx; exact hbx
              subst this
              exact ⟨some a, 0, [], rfl, rfl, .inl rfl⟩
        · cases hbx
      have hsl : s.length = zs.length := by rw [hzs, List.length_map]
      rcases hcs with ⟨hlong, rfl, rfl⟩ | ⟨hle, hw, rfl, rfl⟩ | ⟨hle, hw, rfl, rfl⟩
      · refine (hc.2 a zs.length cap (by omega) w).mono ?_
        rintro e w' ⟨rfl, rfl⟩
        exact ⟨φ, _, rfl, .tup _ _ (.cons .nils (.cons (.int _ _) .nil)), hH, Step.refl _ _ _⟩
      · refine (hc.1 a zs.length cap zs rfl (by omega) w hcond).mono ?_
        rintro e w' ⟨v, rfl, hown, hnil, hbel⟩
        have : scanW UInt8.toNat zs 0 .out = [] := by
          rw [hzs, words_rel] at hw; simpa using hw
        have hv := hnil.2 this
        subst hv
        have hgr := hH.grown hbel.size hbel.block hbel.os hbel.tape hbel.output
        exact ⟨φ, _, rfl, .tup _ _ (.cons .nils (.cons (.int _ _) .nil)), hgr.1, hgr.2⟩
      · refine (hc.1 a zs.length cap zs rfl (by omega) w hcond).mono ?_
        rintro e w' ⟨v, rfl, hown, hnil, hbel⟩
        rw [hzs, words_rel] at hw ⊢
        have hne : v ≠ .slice none 0 0 := fun q => hw (by rw [hnil.1 q]; rfl)
        rcases hown.2 with ⟨q, _⟩ | ⟨g, cap', cur, rfl, hgb, hg, hn1, hn2, hn3, hn4⟩
        · exact absurd q hne
        · have hlenv : ((scanW UInt8.toNat zs 0 .out).flatMap tokV).length = (scanW UInt8.toNat zs 0 .out).length * 2 := by simpa using hown.1
          have hat := at_of_list (φ := φ.put H.next ⟨g, 0, cap' * 2⟩) hg (by rw [hlenv]; exact hn4) (toks_rel _ (scanW UInt8.toNat zs 0 .out)) (cap' * 2)
          have hp := hH.pushAny (w' := w') (by exact hK) (.cells (((scanW UInt8.toNat zs 0 .out).map fun t => (t.1, t.2.map UInt8.toNat)).flatMap tokA)) ⟨g, 0, cap' * 2⟩ hgb hbel.size hbel.block hbel.os hbel.tape hbel.output
            ⟨hat, by rw [(toks_rel (fun _ => none) _).len, hlenv]; simp only; omega, fun _ => ⟨cur, E, (0, 0), hg, hn3, .inl rfl⟩⟩
          refine ⟨_, _, rfl, .tup _ _ (.cons ?_ (.cons (.int _ _) .nil)), hp.1, hp.2⟩
          have := VRel.slc (φ := φ.put H.next ⟨g, 0, cap' * 2⟩) H.next 0 (scanW UInt8.toNat zs 0 .out).length 2 (scanW UInt8.toNat zs 0 .out).length false ⟨g, 0, cap' * 2⟩ cap' (Pl.put_same _ _ _) (Nat.le_refl _) hn1 (fun q => by cases q) (by simp)
          simpa using this
end Go.AI
