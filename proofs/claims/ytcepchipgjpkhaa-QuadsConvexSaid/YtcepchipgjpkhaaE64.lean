/- A row grown by the library out of nothing, told. No claim by itself. -/
import Derived.Test.YtcepchipgjpkhaaE48
import Derived.Shelf.Spec.SlicesGrow
namespace Go.AI
open Go.Shelf Go.Proofs
variable {P : Program}
theorem zaz2 (z : Value) (n : Nat) : (Builtin.zeroCells #[z] n).toList = List.replicate n z := by
 apply List.ext_getElem
 ·simp [Builtin.zeroCells]
 ·intro i h1 h2
  simp [Builtin.zeroCells, Nat.mod_one]
theorem zbd8 (φ : Pl) (k : IntKind) (m : Int) : ∀ n : Nat, zg4 φ (List.replicate n (.int k m)) (List.replicate n (Value.int k m))
 | 0 => .nil
 | n + 1 => .cons (.int _ _) (zbd8 φ k m n)
theorem zbi0 {ρ : Ren} (L : Lays8.n4 P ρ) {i0 : TypeInfo} (hi0 : P.info? (ρ.t 25) = some i0) (hz0 : i0.zero = some (.int .i64 0)) (hs0 : i0.size = 1) (hb0 : i0.bytes <= 64) (hfn : FnOk P (ρ.f 4)) {H : Heap} {n : Nat} (h1 : 0 < n) (hn : n <= 1000000) :
  Good P (ρ.f 4) [.nils, .int .i64 n] H (.slc H.next 0 0 1 n false) (H.push (.cells (List.replicate n (.int .i64 0)))) := by
 refine ⟨fun hf => zf5.push _ hf, fun G B W Z φ w avs hl hH hK => ⟨hfn, ?_⟩⟩
 cases hl with
 | cons a1 t =>
  cases a1
  cases t with
  | cons a2 t =>
   cases a2
   cases t
   have hKn : H.next < Z := hK
   have hm : n * i0.bytes <= 1000000 * 64 := Nat.mul_le_mul hn hb0
   refine (Any8.slices_Grow_grow L i0 (.int .i64 0) hi0 hz0 (by omega) none 0 0 n [] w (Nat.le_refl _) (by omega) (by rw [Nat.zero_add]; omega) (by omega) (by simp) (fun _ => rfl) (fun a e => by cases e)).mono ?_
   rintro e w' ⟨rfl, rfl⟩
   have hcut : n <= grownCap w (0 + n) 0 (ρ.t 25) := by
    unfold grownCap
    simp only [Question.cut]
    rw [Nat.zero_add]
    exact Nat.le_add_right _ _
   generalize grownCap w (0 + n) 0 (ρ.t 25) = cap at hcut
   have hH1 : zc7 G B W Z φ H w.drew := hH.congr rfl
   have hs1 : Step φ H w φ H w.drew := Step.congr rfl rfl rfl rfl
   have hp := zr3 hH1 hKn (ρ.t 25) (List.replicate n (.int .i64 0)) (List.replicate n (Value.int .i64 0)) (List.replicate (cap - n) (Value.int .i64 0)) (zbd8 φ .i64 0 n)
   have hlen : (List.replicate n (Value.int .i64 0) ++ List.replicate (cap - n) (Value.int .i64 0)).length = cap := by simp; omega
   rw [hlen] at hp
   have hw : w.drew.alloc (.cells (([] : List Value).toArray ++ Builtin.zeroCells (Value.int .i64 0).cells (0 + n - 0) ++ Builtin.zeroCells (Value.int .i64 0).cells (cap - (0 + n))) (ρ.t 25)) = { w.drew with heap := w.drew.heap.push (.cells (List.replicate n (Value.int .i64 0) ++ List.replicate (cap - n) (Value.int .i64 0)).toArray (ρ.t 25) (0, 0)) } := by
    unfold World.alloc
    congr 2
    congr 1
    apply Array.toList_inj.1
    simp only [Array.toList_append, Nat.zero_add, Nat.sub_zero]
    rw [show (Value.int .i64 0).cells = #[Value.int .i64 0] from rfl, zaz2, zaz2]
    simp
   rw [hw]
   exact ⟨_, _, rfl, .slc H.next 0 0 1 n false ⟨w.heap.size, 0, cap⟩ cap (Pl.put_same _ _ _) (Nat.zero_le _) hcut (fun q => by cases q) (by simp), hp.1, hs1.trans hp.2⟩
end Go.AI
