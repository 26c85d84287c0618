/- token.All at this program: what it hands back, and that nothing that lay has turned. No claim by itself. -/
import Derived.RangeFuncNested
import Derived.RangeFuncBound
import Derived.RangeFuncCalls
import Derived.RangeFuncLeaves
import Derived.Shelf.Abstract
import Derived.Shelf.RegionOpen
import Derived.WalkKit
import Derived.OwnWalkIn
import Derived.TacticsInMore
import Derived.LoopNIn
import Derived.LoopIn
import Derived.Maps.AppendAt
import Derived.Laws.BytesString
import Derived.Test.YtacfhbhfgbjleaaDoorED
import Derived.Test.YtacfhbhfgbjleaaDoorProg
set_option linter.unusedVariables false
namespace Go.Proofs.YtacfhbhfgbjleaaDoor
open Go Go.RowKit Go.Shelf
attribute [local go_sem] Oper.semAt_some
def isBlI (c : Int) : Bool := c == 32 || c == 9 || c == 13 || c == 10
set_option maxRecDepth 100000 in
set_option maxHeartbeats 1000000 in
theorem blank_in (F : Fence) (n : Nat) (h61 : F.fn 61) (hro : F.round = none) (c : Int) (w : World) :
    CallsIn F n Tryd.prog 61 #[.int .u8 c] w fun e w' => e = .returned (.bool (isBlI c)) ∧ w' = w := by
  refine callsIn_of_wp Tryd.func61 rfl h61 ?_ hro
  simp only [Tryd.ntmps61, List.size_toArray, List.length_cons, List.length_nil, Nat.reduceAdd, Nat.reduceSub, Array.replicate_succ, Array.replicate_zero, List.push_toArray, List.append_toArray, List.nil_append, List.cons_append]
  by_cases h1 : c = 32
  · subst h1; gi_wp2; go_ret; exact ⟨rfl, rfl⟩
  by_cases h2 : c = 9
  · subst h2; gi_wp2; go_ret; exact ⟨rfl, rfl⟩
  by_cases h3 : c = 13
  · subst h3; gi_wp2; go_ret; exact ⟨rfl, rfl⟩
  · gi_wp2
    all_goals (go_ret; exact ⟨by simp_all [isBlI], rfl⟩)
theorem isBlI_eq (x : UInt8) : isBlI (x.toNat : Int) = AI.isBl x.toNat := by
  unfold isBlI AI.isBl
  simp only [AI.Tr.nbeq]
  have h : ∀ k : Nat, (((x.toNat : Int)) == (k : Int)) = decide (x.toNat = k) := fun k => by
    rw [Bool.eq_iff_iff]; simp; omega
  rw [← h 32, ← h 9, ← h 13, ← h 10]; rfl
theorem blank8 (F : Fence) (n : Nat) (h61 : F.fn 61) (hro : F.round = none) (x : UInt8) (w : World) :
    CallsIn F n Tryd.prog 61 #[.int .u8 x.toNat] w fun e w' => e = .returned (.bool (AI.isBl x.toNat)) ∧ w' = w := by
  rw [← isBlI_eq]; exact blank_in F n h61 hro _ w
theorem foldl_push : ∀ (l : List UInt8) (r : ByteArray), (l.map fun x => (x.toNat : Int)).foldl (fun r n => r.push (UInt8.ofNat n.toNat)) r = ⟨r.data ++ l.toArray⟩
  | [], r => by simp
  | x :: l, r => by
    simp only [List.map_cons, List.foldl_cons]
    rw [foldl_push l]
    simp [ByteArray.push]
/-- Bytes of a slice turned to a string. -/
theorem run_bytes {w : World} {b off n cap : Nat} (l : List UInt8) (hl : l.length = n) (hc : ∀ j x, l[j]? = some x → w.cell? ⟨b, off + j, none⟩ = some (.int .u8 x.toNat)) :
    (convert 35 9 (.slice (some ⟨b, off, none⟩) n cap)).run Tryd.prog w = .ok (.string ⟨l.toArray⟩) w := by
  have h := run_bytesToString (P := Tryd.prog) w ⟨b, off, none⟩ n cap (l.map fun x => (x.toNat : Int)) (by
    have := run_loadCells_list (P := Tryd.prog) w ⟨b, off, none⟩ (l.map fun x => Value.int .u8 x.toNat) (fun j v hj => by
      rw [List.getElem?_map] at hj
      cases hq : l[j]? with
      | none => rw [hq] at hj; cases hj
      | some x =>
        rw [hq] at hj; cases hj
        have e : (⟨b, off, none⟩ : Addr).add j = ⟨b, off + j, none⟩ := by
          unfold Addr.add; split
          · rename_i q; subst q; rfl
          · rfl
        rw [e]; exact hc j x hq)
    rw [List.length_map, hl] at this
    simpa [List.map_map, Function.comp_def] using this)
  rw [foldl_push] at h
  have h' : (Conv.bytesToString (.slice (some ⟨b, off, none⟩) n cap)).run Tryd.prog w = .ok (.string ⟨l.toArray⟩) w := by
    rw [h]
    have : (⟨ByteArray.empty.data ++ l.toArray⟩ : ByteArray) = ⟨l.toArray⟩ := by
      have e : ByteArray.empty.data = #[] := rfl
      rw [e, Array.empty_append]
    rw [this]
  simp [convert, Tryd.underlying35, Tryd.underlying9, Tryd.underlying5, h']
/-- What a round keeps: what lay below n₀, and the box of the bytes. -/
def Kq (n₀ Bs : Nat) (A B : World) : Prop := Below n₀ A B ∧ ∀ v, Boxed A Bs 35 v → Boxed B Bs 35 v
set_option maxRecDepth 100000 in
set_option maxHeartbeats 4000000 in
theorem words1_in (F : Fence) (n : Nat) (h60 : F.fn 60) (h61 : F.fn 61) (hro : F.round = none) (hn : 2 ≤ n) (l Bs n₀ b off len cap : Nat) (zs : List UInt8) (hzl : zs.length = len) (hmax : len ≤ 1048576) (hcap : len ≤ cap) (hb : 0 < len → b < n₀) (J Jx : List (Nat × List UInt8) → World → Prop)
    (hY : ∀ pre x W, J pre W → pre.length < len + 1 → YieldAt F (n - 1) Tryd.prog l #[.int .i64 (x.1 : Int), .string ⟨x.2.toArray⟩] W fun e W' =>
      (e = .returned (.bool true) ∧ J (pre ++ [x]) W' ∧ Kq n₀ Bs W W') ∨ (e = .returned (.bool false) ∧ Jx (pre ++ [x]) W'))
    (W : World) (hBs : Boxed W Bs 35 (.slice (some ⟨b, off, none⟩) len cap)) (hc : ∀ j x, zs[j]? = some x → W.cell? ⟨b, off + j, none⟩ = some (.int .u8 x.toNat)) (h0 : J [] W) :
    CallsIn F n Tryd.prog 60 #[.func (.yield l) #[] #[], .pointer (some ⟨Bs, 0, none⟩)] W fun e W' => (∃ v, e = .returned v) ∧
      ((∃ ys, ys = AI.scanW UInt8.toNat zs 0 .out ∧ J ys W') ∨ (∃ pre, True ∧ Jx pre W')) := by
  refine callsIn_of_wp Tryd.func60 rfl h60 ?_ hro
  simp only [Tryd.ntmps60, List.size_toArray, List.length_cons, List.length_nil, Nat.reduceAdd, Nat.reduceSub, Array.replicate_succ, Array.replicate_zero, List.push_toArray, List.append_toArray, List.nil_append, List.cons_append]
  have hbx := hBs.cell
  have hm1 : (len : Int) ≤ 1048576 := by omega
  have hn1 : 1 ≤ n := by omega
  gi_wp2
  gi_loopw [3] (fun i wr => ∃ (k : Nat) (pre : List (Nat × List UInt8)), k ≤ len ∧ i = .int .i64 k ∧ pre ++ AI.scanW UInt8.toNat (zs.drop k) k .out = AI.scanW UInt8.toNat zs 0 .out ∧ J pre wr ∧ Kq n₀ Bs W wr)
    (fun i _ => len - (intOf i).toNat)
  case atStart => exact ⟨0, [], Nat.zero_le _, rfl, rfl, h0, Below.refl _ _, fun _ h => h⟩
  case round =>
    obtain ⟨k, pre, hk, rfl, hpre, hJs, hkq⟩ := hrel
    have hbr := (hkq.2 _ hBs).cell
    by_cases hlt : k < len
    · obtain ⟨x, hx⟩ : ∃ x, zs[k]? = some x := ⟨_, List.getElem?_eq_getElem (by omega)⟩
      have hcx : wr.cell? ⟨b, off + k, none⟩ = some (.int .u8 x.toNat) := (hkq.1.cell (p := ⟨b, off + k, none⟩) (hb (by omega))).trans (hc k x hx)
      have hlt' : (k : Int) < len := by omega
      cases hbl : AI.isBl x.toNat with
      | true =>
        gi_wp2_with (gi_at_call 61; refine (blank8 F _ h61 hro x _).mono ?_; rintro e w' ⟨rfl, hw⟩; have hw := hw.symm; subst hw)
        go_roundw
        case rel => exact ⟨k + 1, pre, by omega, by simp, by rw [← hpre, AI.scan_blank hx hbl], hJs, hkq⟩
        case measure => simp [intOf]; omega
      | false =>
        by_cases h35 : x.toNat = 35
        · obtain rfl : x = 35 := UInt8.toNat_inj.1 h35
          have hcx : wr.cell? ⟨b, off + k, none⟩ = some (.int .u8 35) := hcx
          have hb35 : isBlI 35 = false := rfl
          clear hbl h35
          gi_wp2_with (gi_at_call 61; refine (blank_in F _ h61 hro 35 _).mono ?_; rintro e w' ⟨rfl, hw⟩; have hw := hw.symm; subst hw)
          gi_loopw [3] (fun i w2 => ∃ m : Nat, k ≤ m ∧ m ≤ len ∧ i = .int .i64 m ∧ AI.scanW UInt8.toNat (zs.drop k) k .out = AI.scanW UInt8.toNat (zs.drop m) m .com ∧ w2 = wr)
            (fun i _ => len - (intOf i).toNat)
          case atStart => exact ⟨k, Nat.le_refl _, hk, rfl, AI.scan_hash hx rfl, rfl⟩
          case round =>
            obtain ⟨m, hkm, hm, rfl, hscan, hw⟩ := hrel
            subst hw
            clear hcx hlt'
            by_cases hlm : m < len
            · obtain ⟨y, hy⟩ : ∃ y, zs[m]? = some y := ⟨_, List.getElem?_eq_getElem (by omega)⟩
              have hcy : wr.cell? ⟨b, off + m, none⟩ = some (.int .u8 y.toNat) := (hkq.1.cell (p := ⟨b, off + m, none⟩) (hb (by omega))).trans (hc m y hy)
              have hlm' : (m : Int) < len := by omega
              by_cases h10 : y.toNat = 10
              · obtain rfl : y = 10 := UInt8.toNat_inj.1 h10
                have hcy : wr.cell? ⟨b, off + m, none⟩ = some (.int .u8 10) := hcy
                clear h10
                have hkm' : k < m := by
                  rcases Nat.lt_or_ge k m with q | q
                  · exact q
                  · obtain rfl : m = k := by omega
                    rw [hx] at hy; cases hy
                gi_wp2
                go_roundw
                case rel => exact ⟨m, pre, hm, rfl, by rw [← hpre, hscan, AI.scan_comend (fun c hc' => by rw [hy] at hc'; cases hc'; rfl)], hJs, hkq⟩
                case measure => simp [intOf]; omega
              · have h10' : ¬ (y.toNat : Int) = 10 := by omega
                gi_wp2
                go_roundw
                case rel => exact ⟨m + 1, by omega, by omega, by simp, by rw [hscan, AI.scan_com hy h10], trivial⟩
                case measure => simp [intOf]; omega
            · obtain rfl : m = len := by omega
              gi_wp2
              go_roundw
              case rel => exact ⟨m, pre, hm, rfl, by rw [← hpre, hscan, AI.scan_comend (fun c hc' => by rw [List.getElem?_eq_none (by omega)] at hc'; cases hc')], hJs, hkq⟩
              case measure => simp [intOf]; omega
        · have h35' : ¬ (x.toNat : Int) = 35 := by omega
          have hbe : ((x.toNat : Int) == 35) = false := by simpa using h35'
          clear h35
          gi_wp2_with (gi_at_call 61; refine (blank8 F _ h61 hro x _).mono ?_; rintro e w' ⟨rfl, hw⟩; have hw := hw.symm; subst hw)
          have h35 : x.toNat ≠ 35 := fun q => h35' (by omega)
          gi_loopw [4] (fun i w2 => ∃ m : Nat, k ≤ m ∧ m ≤ len ∧ i = .int .i64 m ∧ AI.scanW UInt8.toNat (zs.drop k) k .out = AI.scanW UInt8.toNat (zs.drop m) m (.word k ((zs.drop k).take (m - k)).reverse) ∧ w2 = wr)
            (fun i _ => len - (intOf i).toNat)
          case atStart => exact ⟨k, Nat.le_refl _, hk, rfl, by rw [AI.scan_start hx hbl h35]; simp, rfl⟩
          case round =>
            obtain ⟨m, hkm, hm, rfl, hscan, hw⟩ := hrel
            subst hw
            have hcell : ∀ y, zs[m]? = some y → wr.cell? ⟨b, off + m, none⟩ = some (.int .u8 y.toNat) := fun y hy => (hkq.1.cell (p := ⟨b, off + m, none⟩) (hb (by omega))).trans (hc m y hy)
            have hcellsk : ∀ j c, ((zs.drop k).take (m - k))[j]? = some c → wr.cell? ⟨b, off + k + j, none⟩ = some (.int .u8 c.toNat) := fun j c hj => by
              have hj1 : j < m - k := by
                have := (List.getElem?_eq_some_iff.1 hj).1; simp at this; omega
              rw [List.getElem?_take, if_pos hj1, List.getElem?_drop] at hj
              have e : off + k + j = off + (k + j) := by omega
              rw [e]; exact (hkq.1.cell (p := ⟨b, off + (k + j), none⟩) (hb (by omega))).trans (hc (k + j) c hj)
            have hlw : ((zs.drop k).take (m - k)).length = m - k := by simp; omega
            by_cases hgo : ∃ y, zs[m]? = some y ∧ AI.isBl y.toNat = false
            · obtain ⟨y, hy, hbm⟩ := hgo
              have hlm : m < len := by have := (List.getElem?_eq_some_iff.1 hy).1; omega
              have hcy := hcell y hy
              have hlm' : (m : Int) < len := by omega
              clear hcell hcellsk
              gi_wp2_with (gi_at_call 61; refine (blank8 F _ h61 hro y _).mono ?_; rintro e w' ⟨rfl, hw⟩; have hw := hw.symm; subst hw)
              go_roundw
              case rel => exact ⟨m + 1, by omega, by omega, by simp, by rw [hscan, AI.scan_word hy hkm hbm], trivial⟩
              case measure => simp [intOf]; omega
            · have hend : ∀ c, zs[m]? = some c → AI.isBl c.toNat = true := fun c hc' => by
                cases hq : AI.isBl c.toNat with
                | true => rfl
                | false => exact absurd ⟨c, hc', hq⟩ hgo
              have hkm' : k < m := by
                rcases Nat.lt_or_ge k m with q | q
                · exact q
                · obtain rfl : m = k := by omega
                  have := hend x hx; rw [hbl] at this; cases this
              have hsplit := hscan.trans (AI.scan_wordend hend)
              rw [hsplit] at hpre
              have hcount : pre.length < len + 1 := by
                have h1 := congrArg List.length hpre
                have h2 := AI.scan_len (val := UInt8.toNat) zs 0 .out
                simp at h1 h2; omega
              obtain ⟨fn, tmps, assign, body, hy, hR⟩ := hY pre (k, (zs.drop k).take (m - k)) wr hJs hcount
              dsimp only at hy
              have hrb := run_bytes (w := wr) (cap := cap - k) ((zs.drop k).take (m - k)) hlw hcellsk
              have hnext : pre ++ [(k, (zs.drop k).take (m - k))] ++ AI.scanW UInt8.toNat (zs.drop m) m .out = AI.scanW UInt8.toNat zs 0 .out := by rw [← hpre]; simp
              clear hgo hscan hsplit hpre hcellsk hlw
              by_cases hlm : m < len
              · obtain ⟨y, hyy⟩ : ∃ y, zs[m]? = some y := ⟨_, List.getElem?_eq_getElem (by omega)⟩
                have hcy := hcell y hyy
                have hbm := hend y hyy
                have hlm' : (m : Int) < len := by omega
                clear hcell hend hyy
                gi_wp2_with (gi_at_call 61; refine (blank8 F _ h61 hro y _).mono ?_; rintro e w' ⟨rfl, hw⟩; have hw := hw.symm; subst hw)
                refine hR.mono ?_
                rintro e W3 (⟨rfl, hJ3, hk3⟩ | ⟨rfl, hJx3⟩)
                · gi_wp2
                  go_roundw
                  case rel => exact ⟨m, _, hm, rfl, hnext, hJ3, hkq.1.trans hk3.1, fun v h => hk3.2 v (hkq.2 v h)⟩
                  case measure => simp [intOf]; omega
                · gi_wp2
                  refine bodyPost_ret (results_none rfl _ _ _) rfl ?_
                  exact ⟨⟨_, rfl⟩, .inr ⟨_, trivial, hJx3⟩⟩
              · have hml : m = len := by omega
                clear hcell hend
                subst hml
                gi_wp2
                refine hR.mono ?_
                rintro e W3 (⟨rfl, hJ3, hk3⟩ | ⟨rfl, hJx3⟩)
                · gi_wp2
                  go_roundw
                  case rel => exact ⟨m, _, hm, rfl, hnext, hJ3, hkq.1.trans hk3.1, fun v h => hk3.2 v (hkq.2 v h)⟩
                  case measure => simp [intOf]; omega
                · gi_wp2
                  refine bodyPost_ret (results_none rfl _ _ _) rfl ?_
                  exact ⟨⟨_, rfl⟩, .inr ⟨_, trivial, hJx3⟩⟩
    · obtain rfl : k = len := by omega
      gi_wp2
      go_end0
      exact ⟨⟨_, rfl⟩, .inl ⟨_, rfl, by rw [← hpre, ← hzl, AI.scan_end, List.append_nil]; exact hJs⟩⟩
set_option maxRecDepth 100000 in
set_option maxHeartbeats 1000000 in
theorem words1_nil (F : Fence) (n : Nat) (h60 : F.fn 60) (hro : F.round = none) (l Bs : Nat) (J : List (Nat × List UInt8) → World → Prop) (W : World) (a : Option Addr) (cap : Nat) (hBs : Boxed W Bs 35 (.slice a 0 cap)) (h0 : J [] W) :
    CallsIn F n Tryd.prog 60 #[.func (.yield l) #[] #[], .pointer (some ⟨Bs, 0, none⟩)] W fun e W' => (∃ v, e = .returned v) ∧ J [] W' := by
  refine callsIn_of_wp Tryd.func60 rfl h60 ?_ hro
  simp only [Tryd.ntmps60, List.size_toArray, List.length_cons, List.length_nil, Nat.reduceAdd, Nat.reduceSub, Array.replicate_succ, Array.replicate_zero, List.push_toArray, List.append_toArray, List.nil_append, List.cons_append]
  have hbx := hBs.cell
  gi_wp2
  gi_loopw [3] (fun i wr => i = .int .i64 0 ∧ wr = W) (fun _ _ => 0)
  case atStart => exact ⟨rfl, rfl⟩
  case round =>
    obtain ⟨rfl, hw⟩ := hrel
    subst hw
    gi_wp2
    go_end0
    exact ⟨⟨_, rfl⟩, h0⟩
set_option maxHeartbeats 1000000 in
theorem words_in (F : Fence) (n : Nat) (h44 : F.fn 44) (hro : F.round = none) (a : Option Addr) (len cap : Nat) (w : World) :
    CallsIn F n Tryd.prog 44 #[.slice a len cap] w fun e w' => e = .returned (.func (.func 60) #[] #[.pointer (some ⟨w.heap.size, 0, none⟩)]) ∧ w' = w.alloc (.cells #[.slice a len cap] 35) := by
  refine callsIn_of_wp Tryd.func44 rfl h44 ?_ hro
  simp only [Tryd.ntmps44, List.size_toArray, List.length_cons, List.length_nil, Nat.reduceAdd, Nat.reduceSub, Array.replicate_succ, Array.replicate_zero, List.push_toArray, List.append_toArray, List.nil_append, List.cons_append]
  gi_wp2
  go_ret
  exact ⟨rfl, rfl⟩
/-- The slice holds the bytes, in a block below n₀. -/
def BytesAt (n₀ : Nat) (W : World) (sv : Value) (zs : List UInt8) : Prop :=
  (∃ a cap, sv = .slice a 0 cap ∧ zs = []) ∨ ∃ b off cap, sv = .slice (some ⟨b, off, none⟩) zs.length cap ∧ zs.length ≤ cap ∧ (0 < zs.length → b < n₀) ∧ ∀ j x, zs[j]? = some x → W.cell? ⟨b, off + j, none⟩ = some (.int .u8 x.toNat)
theorem BytesAt.below {n₀ : Nat} {A B : World} (h : Below n₀ A B) {sv : Value} {zs : List UInt8} : BytesAt n₀ A sv zs → BytesAt n₀ B sv zs
  | .inl e => .inl e
  | .inr ⟨b, off, cap, e, hc, hb, hx⟩ => .inr ⟨b, off, cap, e, hc, hb, fun j x hj => (h.cell (p := ⟨b, off + j, none⟩) (hb (by have := (List.getElem?_eq_some_iff.1 hj).1; omega))).trans (hx j x hj)⟩
theorem words_stops (F : Fence) (n : Nat) (h60 : F.fn 60) (h61 : F.fn 61) (hro : F.round = none) (hn : 2 ≤ n) (Bs n₀ : Nat) (sv : Value) (zs : List UInt8) (hmax : zs.length ≤ 1048576) (w : World) (hBs : Bs < w.heap.size) (hn₀ : n₀ ≤ w.heap.size)
    (hc : Boxed w Bs 35 sv) (hI : BytesAt n₀ w sv zs) :
    SeqStopsK F n Tryd.prog 60 #[.pointer (some ⟨Bs, 0, none⟩)] (fun x : Nat × List UInt8 => #[Value.int .i64 (x.1 : Int), Value.string ⟨x.2.toArray⟩]) (Kq n₀ Bs) (fun ys => ys = AI.scanW UInt8.toNat zs 0 .out) (fun _ => True) (zs.length + 1) w := fun l J Jx W hW _ _ hY h0 => by
  have hc' : Boxed W Bs 35 sv := (hW.block Bs hBs).trans hc
  rcases hI.below (hW.mono hn₀) with ⟨a, cap, rfl, rfl⟩ | ⟨b, off, cap, rfl, hcp, hb, hcs⟩
  · exact (words1_nil F n h60 hro l Bs J W a cap hc' h0).mono fun e W' ⟨he, hj⟩ => ⟨he, .inl ⟨_, rfl, hj⟩⟩
  · exact words1_in F n h60 h61 hro hn l Bs n₀ b off zs.length cap zs rfl hmax hcp hb J Jx hY W hc' hcs h0
end Go.Proofs.YtacfhbhfgbjleaaDoor
