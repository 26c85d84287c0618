/- token.All at this program: what it hands back, and that nothing that lay has turned. No claim by itself. -/
import Derived.RangeFuncNested
import Derived.RangeFuncBound
import Derived.RangeFuncCalls
import Derived.RangeFuncLeaves
import Derived.Shelf.Abstract
import Derived.Shelf.RegionOpen
import Derived.WalkKit
import Derived.OwnWalkIn
import Derived.TacticsInMore
import Derived.LoopNIn
import Derived.LoopIn
import Derived.Maps.AppendAt
import Derived.Laws.BytesString
import Derived.Test.YtacfhbhfgbjleaaDoorB2
import Derived.Test.YtacfhbhfgbjleaaDoorProg
set_option linter.unusedVariables false
namespace Go.Proofs.YtacfhbhfgbjleaaDoor
open Go Go.RowKit Go.Shelf
attribute [local go_sem] Oper.semAt_some
theorem infoToken : (Tryd.prog.info? 48).map (fun i => (i.zero, i.size, i.bytes)) = some (some (.agg #[.int .i64 0, .string .empty]), 2, 24) := by kernel_rfl
def tokC (t : Nat × List UInt8) : List Value := [.int .i64 (t.1 : Int), .string ⟨t.2.toArray⟩]
theorem cell_two_new (w : World) (x y : Value) (t : TypeId) : ∀ j u, [x, y][j]? = some u → (w.alloc (.cells #[x, y] t)).cell? ((⟨w.heap.size, 0, none⟩ : Addr).add j) = some u := by
  intro j u hj
  match j, hj with
  | 0, hj => simp at hj; subst hj; simp [Addr.add]
  | 1, hj => simp at hj; subst hj; simp [Addr.add]
theorem hKt {n₀ Bs : Nat} {A B C : World} (h : Kq n₀ Bs A B) (k : Kq n₀ Bs B C) : Kq n₀ Bs A C := ⟨h.1.trans k.1, fun v q => k.2 v (h.2 v q)⟩
theorem hKb {n₀ Bs : Nat} {w : World} (hn : n₀ ≤ w.heap.size) : ∀ (W : World) (l : Nat) (o o' : Obj), w.heap.size ≤ l → W.heap[l]? = some o → o.isCells = false → o.isWalk = false → Kq n₀ Bs W (W.putObj l o') := fun W l o o' hl ho h1 h2 =>
  ⟨belowK_b (w := w) hn W l o o' hl ho h1 h2, fun v hv => by
    have hne : l ≠ Bs := fun q => by subst q; rw [hv] at ho; cases ho; simp [Obj.isCells] at h1
    exact (World.putObj_heap_other (fun q => hne q.symm)).trans (show W.heap[Bs]? = _ from hv)⟩
set_option maxRecDepth 100000 in
set_option maxHeartbeats 2000000 in
theorem All_in (F : Fence) (n : Nat) (h27 : F.fn 27) (h44 : F.fn 44) (h60 : F.fn 60) (h61 : F.fn 61) (hro : F.round = none) (hn : 3 ≤ n) (a : Option Addr) (len cap : Nat) (zs : List UInt8) (hzl : zs.length = len) (hmax : len ≤ 1048576) (w : World) (hI : BytesAt w.heap.size w (.slice a len cap) zs) :
    CallsIn F n Tryd.prog 27 #[.slice a len cap] w fun e W' => ∃ v, e = .returned (.tuple #[v, .int .i64 0]) ∧
      W'.ownsRow w.heap.size 48 2 v (AI.scanW UInt8.toNat zs 0 .out).length ((AI.scanW UInt8.toNat zs 0 .out).flatMap tokC) ∧ (v = .slice none 0 0 ↔ AI.scanW UInt8.toNat zs 0 .out = []) ∧ Below w.heap.size w W' := by
  have h1 : 1 ≤ n := by omega
  have hm1 : (len : Int) ≤ 1048576 := by omega
  obtain ⟨i0, hi, hz0, hz1, hz2⟩ := info_parts infoToken
  refine callsIn_of_wp_marks Tryd.func27 rfl h27 ?_ hro
  simp only [Tryd.ntmps27, List.size_toArray, List.length_cons, List.length_nil, Nat.reduceAdd, Nat.reduceSub, Array.replicate_succ, Array.replicate_zero, List.push_toArray, List.append_toArray, List.nil_append, List.cons_append]
  gi_wp2_with (gi_at_call 44; refine (words_in F (n - 1) h44 hro _ _ _ _).mono ?_; rintro e w' ⟨rfl, rfl⟩)
  have bO := Boxed.new w 44 (.slice none 0 0)
  have bN := Boxed.new (w.alloc (.cells #[.slice none 0 0] 44)) 35 (.slice a len cap)
  rw [World.size_alloc] at bN
  have hB0 : Below w.heap.size w ((w.alloc (.cells #[.slice none 0 0] 44)).alloc (.cells #[.slice a len cap] 35)) := ((Below.refl _ w).alloc (Nat.le_refl _) _).alloc (by simp) _
  refine wpIn_rangeFunc_ownG hro h1 (gf := 60) (lb := #[.pointer (some ⟨w.heap.size + 1, 0, none⟩)]) rfl h60 (enters_of Tryd.func60 (by kernel_rfl) rfl)
    (words_stops F (n - 1) h60 h61 hro (by omega) (w.heap.size + 1) w.heap.size _ zs (by omega) _ (by simp) (by simp; omega) bN (hI.below hB0)) hKt (hKb (by simp; omega)) (Below.refl _ _) (fun _ => rfl)
    (fun pre W => (∃ v, Boxed W w.heap.size 44 v ∧ W.ownsRow w.heap.size 48 2 v pre.length (pre.flatMap tokC) ∧ (v = .slice none 0 0 ↔ pre = [])) ∧ Below w.heap.size w W)
    (fun _ _ _ => False)
    (OwnFrom.and (Own.from (holdsRow_own w.heap.size w.heap.size 44 48 2 (fun pre => pre.length) (fun pre => pre.flatMap tokC) (fun pre v => v = .slice none 0 0 ↔ pre = [])) _) (ownFrom_below (Nat.le_refl _) (by simp; omega)))
    (fun _ _ _ _ _ hs _ _ => hs)
    ⟨⟨_, bO.alloc _, World.ownsRow_nil _ _ _ _, by simp⟩, hB0⟩
    (fun x => { tmps := #[.slice a len cap, undef, .slice none 0 0, .int .i64 0, .pointer (some ⟨w.heap.size, 0, none⟩), .int .i64 (x.1 : Int), .string ⟨x.2.toArray⟩, .slice a len cap, .int .i64 len, .bool (decide (1048576 < (len : Int))), .slice a len cap, .func (.func 60) #[] #[.pointer (some ⟨w.heap.size + 1, 0, none⟩)], .int .i64 (x.1 : Int), .string ⟨x.2.toArray⟩, undef, undef, undef, undef, undef, undef, undef], defers := [] }) ?assign ?body ?done ?stop
  case assign =>
    intro l x W K hK
    gi_wp2
    exact hK
  case body =>
    rintro l pre x W ⟨⟨v, hv, hrow, hnil⟩, hB⟩ hlt
    have hc := hv.cell
    gi_wp2_with (gi_at_builtin; refine wpListIn_append_own _ rfl _ _ 44 rfl w.heap.size 48 i0 (.agg #[.int .i64 0, .string .empty]) 2 24 Tryd.underlying44 hi hz0 hz1 hz2 rfl (by decide) _ _ _ rfl (hrow.alloc _) ⟨W.heap.size, 0, none⟩ 1 1 [.int .i64 (x.1 : Int), .string ⟨x.2.toArray⟩] rfl rfl (cell_two_new _ _ _ _) (by simp [Value.oneCell']) (by unfold maxLen; omega) (by omega) (by have := hB.size; simp; omega) ?_; intro v' w1 hown' hgrow _; obtain ⟨g', cap', rfl⟩ := ownsRow_succ hown'; obtain ⟨hv1, hv2, hr2, hk2, hb2⟩ := hv.appended (by decide) hrow hB.size (Nat.le_refl _) hown' hgrow; have hc1 := hv1.cell; have hf1 := hv1.frozen)
    refine ⟨hk2.from _, ⟨hb2, fun u hu => ?_⟩, ⟨_, hv2, by simpa [tokC] using hr2, by simp⟩, hB.trans hb2⟩
    exact ((hu.alloc _).kept hgrow ((hu.alloc (.cells #[.int .i64 (x.1 : Int), .string ⟨x.2.toArray⟩] 48)).not_row (by decide) (hrow.alloc _))).other (by omega) _
  case done =>
    rintro D ys W hD rfl ⟨⟨v, hv, hrow, hnil⟩, hB⟩ hK
    have hc := hv.cell
    gi_wp2
    refine ⟨by simp, .inl ⟨_, _, rfl, run_takeDeferred hK, ?_⟩⟩
    exact ⟨_, results_tmp2 rfl _ _ _, v, rfl, ownsRow_putObj hrow _ hK rfl, hnil, hB.trans (belowK_b (w := w) (Nat.le_refl _) W D _ _ (by simp at hD; omega) hK rfl rfl)⟩
  case stop =>
    rintro D c pre W _ _ h _
    exact h.elim
theorem All_calls (a : Option Addr) (len cap : Nat) (zs : List UInt8) (hzl : zs.length = len) (hmax : len ≤ 1048576) (w : World) (hI : BytesAt w.heap.size w (.slice a len cap) zs) :
    Calls Tryd.prog 27 #[.slice a len cap] w fun e W' => ∃ v, e = .returned (.tuple #[v, .int .i64 0]) ∧
      W'.ownsRow w.heap.size 48 2 v (AI.scanW UInt8.toNat zs 0 .out).length ((AI.scanW UInt8.toNat zs 0 .out).flatMap tokC) ∧ (v = .slice none 0 0 ↔ AI.scanW UInt8.toNat zs 0 .out = []) ∧ Below w.heap.size w W' :=
  (callsIn_wide (n := 3)).1 (All_in _ 3 trivial trivial trivial trivial rfl (by omega) a len cap zs hzl hmax w hI)
set_option maxHeartbeats 1000000 in
theorem All_long (a : Option Addr) (len cap : Nat) (hmax : 1048576 < len) (w : World) :
    Calls Tryd.prog 27 #[.slice a len cap] w fun e w' => e = .returned (.tuple #[.slice none 0 0, .int .i64 3]) ∧ w' = w := by
  have hm1 : (1048576 : Int) < len := by omega
  go_enter Tryd.func27, Tryd.ntmps27
  go_wp2
  go_ret2
  exact ⟨rfl, rfl⟩
end Go.Proofs.YtacfhbhfgbjleaaDoor
