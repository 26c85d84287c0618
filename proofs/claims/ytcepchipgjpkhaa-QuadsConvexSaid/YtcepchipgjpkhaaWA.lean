/- The search's memory, as the interpreter sees it. No claim by itself. -/
import Derived.Test.YtcepchipgjpkhaaMA
import Derived.Test.YtcepchipgjpkhaaS6
namespace Go.Proofs.Ytcepchipgjpkhaa.Gr
open Go Go.AI
def oi : Option Nat -> Int
 | none => -1
 | some k => k
@[simp] theorem zbf5 : oi none = -1 := rfl
@[simp] theorem z92 {k : Nat} : oi (some k) = (k : Int) := rfl
def arr (n : Nat) (g : Nat -> AV) : List AV := (List.range n).map g
theorem zn6 {n : Nat} {g : Nat -> AV} : (arr n g).length = n := by simp [arr]
theorem zp5 {n i : Nat} {g : Nat -> AV} (h : i < n) : (arr n g)[i]? = some (g i) := by simp [arr, h]
theorem zag7 {n i : Nat} {g : Nat -> AV} {x : AV} (h : i < n) : setSeg (arr n g) i [x] = arr n (upd g i x) := by
 unfold setSeg
 apply List.ext_getElem?
 intro j
 have hl : (arr n g).length = n := zn6
 by_cases hj : j < n
 ·rw [zp5 hj]
  rw [List.append_assoc, List.getElem?_append]
  simp only [List.length_take, hl, Nat.min_eq_left (Nat.le_of_lt h)]
  by_cases h1 : j < i
  ·rw [if_pos h1, List.getElem?_take, if_pos h1, zp5 hj, upd_ne (by omega)]
  ·rw [if_neg h1]
   by_cases h2 : j = i
   ·subst h2; simp
   ·rw [List.getElem?_append]
    simp only [List.length_cons, List.length_nil]
    rw [if_neg (by omega), List.getElem?_drop, show i + (0 + 1) + (j - i - (0 + 1)) = j by omega, zp5 hj, upd_ne h2]
 ·rw [List.getElem?_eq_none, List.getElem?_eq_none]
  ·rw [zn6]; omega
  ·simp [hl]; omega
theorem zab3 {α β : Type} {f : α -> β} {g : Nat -> α} {i : Nat} {x : α} : (fun j => f (upd g i x j)) = upd (fun j => f (g j)) i (f x) := by
 funext j; unfold upd; split <;> rfl
theorem z06 {n : Nat} {g h : Nat -> AV} (k : ∀ i, i < n -> g i = h i) : arr n g = arr n h := by
 unfold arr; exact List.map_congr_left fun i hi => k i (List.mem_range.1 hi)
theorem za7 {H : Heap} {x : zo4} {o o' : Nat} : (H.set o x).get o' = if o' = o then some x else H.get o' := Tr.get_set _ _ _ _
theorem za3 {H : Heap} {o : Nat} {cs : List AV} (h : H.get o = some (.cells cs)) : H.cellsAt o = some cs := by
 unfold Heap.cellsAt; rw [h]
theorem Wf.set {H : Heap} (h : H.Wf) {o : Nat} {x : zo4} (ho : o < H.next) : (H.set o x).Wf := ⟨h.1, fun o' hn => by
 rw [za7, if_neg (by have : H.next <= o' := hn; omega)]; exact h.2 _ hn⟩
def kc (k : Nat) : AV × AV := (.int .i64 k, .bool true)
def zl7 (H : Heap) (d : EqD) (m k v : AV) : Option (AV × Heap) :=
 match m with
 | .map o =>
  bif Nat.ble H.floor o then
   match H.get o with
   | some (.map es) =>
    bif plainKey d k then
     match zk2 d k es 0 with
     | none => none
     | some (some (i, _)) => some (zb8, H.set o (.map (es.set i (k, v))))
     | some none => some (zb8, H.set o (.map (es ++ [(k, v)])))
    else none
   | _ => none
  else none
 | _ => none
@[simp] theorem zav9 {e : Opd -> AV} {H : Heap} {d : EqD} {m k v : Opd} : zb2 e H (.mapUpdate d m k v) = zl7 H d (e m) (e k) (e v) := rfl
def zag2 (H : Heap) (m : AV) : Option (AV × Heap) :=
 match m with
 | .nilm => some (zb8, H)
 | .map o =>
  bif Nat.ble H.floor o then match H.get o with | some (.map _) => some (zb8, H.set o (.map [])) | _ => none
  else none
 | _ => none
@[simp] theorem p_clearMap {e : Opd -> AV} {H : Heap} {m : Opd} : zb2 e H (.clearMap m) = zag2 H (e m) := rfl
theorem zax2 : ∀ {ks : List Nat} {c j : Nat}, (c ∈ ks -> ∃ i, zk2 (.prim .int) (.int .i64 (c : Int)) (ks.map kc) j = some (some (j + i, .bool true)) /\ ks[i]? = some c) /\ (c ∉ ks -> zk2 (.prim .int) (.int .i64 (c : Int)) (ks.map kc) j = some none)
 | [], c, j => ⟨(fun h => by cases h), (fun _ => rfl)⟩
 | k :: ks, c, j => by
  have ih := zax2 (ks := ks) (c := c) (j := j + 1)
  have e : zk2 (.prim .int) (.int .i64 (c : Int)) ((k :: ks).map kc) j = if c = k then some (some (j, .bool true)) else zk2 (.prim .int) (.int .i64 (c : Int)) (ks.map kc) (j + 1) := by
   have : eqA (.prim .int) (.int .i64 (c : Int)) (.int .i64 (k : Int)) = some (decide (c = k)) := by
    simp only [eqA, zh8, if_true]
    congr 1
    rw [Bool.eq_iff_iff]; simp; omega
   simp only [List.map_cons, kc, zk2, this]
   by_cases h : c = k
   ·simp [h]
   ·simp [h]
  rw [e]
  constructor
  ·intro h
   by_cases hk : c = k
   ·subst hk; exact ⟨0, by rw [if_pos rfl]; rfl, rfl⟩
   ·rw [if_neg hk]
    obtain ⟨i, h1, h2⟩ := ih.1 (by simpa [hk] using h)
    exact ⟨i + 1, by rw [h1, show j + 1 + i = j + (i + 1) by omega], by simpa using h2⟩
  ·intro h
   have hk : c ≠ k := fun q => h (by simp [q])
   rw [if_neg hk]
   exact ih.2 fun q => h (by simp [q])
structure FC where
 f : Nat
 om : Nat
 op : Nat
 ob : Nat
 ou : Nat
 ok : Nat
 lm : Nat
 lp : Nat
 lb : Nat
 lu : Nat
 xm : Bool
 xp : Bool
 xb : Bool
 xu : Bool
 vn : AV
def FC.own (c : FC) : List Nat := [c.f, c.om, c.op, c.ob, c.ou, c.ok]
def QS (H : Heap) (c : FC) (S : Nat -> Prop) (vq : AV) (q : List Nat) : Prop :=
 (vq = .nils /\ q = []) \/ ∃ oq off lo ex cs, vq = .slc oq off q.length 1 lo ex /\ H.get oq = some (.cells cs) /\ q.length <= lo /\ off + lo <= cs.length /\ (∀ (i x : Nat), q[i]? = some x -> cs[off + i]? = some (.int .i64 (x : Int))) /\ oq ∉ c.own /\ ¬ S oq /\ oq < H.next /\ H.floor <= oq
def zi3 (n : Nat) (m : Nat -> Option Nat) : List AV := arr n fun i => .int .i64 (oi (m i))
def zay2 (n : Nat) (b : Nat -> Nat) : List AV := arr n fun i => .int .i64 (b i : Int)
def zau4 (n : Nat) (u : Nat -> Bool) : List AV := arr n fun i => .bool (u i)
def FC.struct (c : FC) (n : Nat) (vq : AV) : List AV := [c.vn, .slc c.om 0 n 1 c.lm c.xm, .slc c.op 0 n 1 c.lp c.xp, .slc c.ob 0 n 1 c.lb c.xb, .slc c.ou 0 n 1 c.lu c.xu, .map c.ok, vq]
structure FS (S : Nat -> Prop) (H0 H : Heap) (n : Nat) (c : FC) (m : Nat -> Option Nat) (s : St) (ks : List Nat) : Prop where
 wf : H.Wf
 fl : H.floor = H0.floor
 frz : ∀ o, S o -> H.get o = H0.get o /\ o < H.next
 own : c.own.Nodup
 ge : ∀ o, o ∈ c.own -> H.floor <= o /\ o < H.next /\ ¬ S o
 one : c.vn.one = true
 gf : ∃ vq, H.get c.f = some (.cells (c.struct n vq)) /\ QS H c S vq s.q
 gm : H.get c.om = some (.cells (zi3 n m))
 gp : H.get c.op = some (.cells (zi3 n s.par))
 gb : H.get c.ob = some (.cells (zay2 n s.base))
 gu : H.get c.ou = some (.cells (zau4 n s.used))
 gk : H.get c.ok = some (.map (ks.map kc))
section
variable {S : Nat -> Prop} {H0 H : Heap} {n : Nat} {c : FC} {m : Nat -> Option Nat} {s : St} {ks : List Nat}
theorem za1 {H : Heap} {o off : Nat} {cs : List AV} {x : AV} (h : H.get o = some (.cells cs)) (k : cs[off]? = some x) : za9 H none (.ptr o off) = some x := by
 rw [ze3, za3 h]; exact k
theorem FS.f0 (h : FS S H0 H n c m s ks) : za9 H none (.ptr c.f 0) = some c.vn := by
 obtain ⟨vq, g, _⟩ := h.gf; exact za1 g rfl
theorem FS.f1 (h : FS S H0 H n c m s ks) : za9 H none (.ptr c.f 1) = some (.slc c.om 0 n 1 c.lm c.xm) := by
 obtain ⟨vq, g, _⟩ := h.gf; exact za1 g rfl
theorem FS.f2 (h : FS S H0 H n c m s ks) : za9 H none (.ptr c.f 2) = some (.slc c.op 0 n 1 c.lp c.xp) := by
 obtain ⟨vq, g, _⟩ := h.gf; exact za1 g rfl
theorem FS.f3 (h : FS S H0 H n c m s ks) : za9 H none (.ptr c.f 3) = some (.slc c.ob 0 n 1 c.lb c.xb) := by
 obtain ⟨vq, g, _⟩ := h.gf; exact za1 g rfl
theorem FS.f4 (h : FS S H0 H n c m s ks) : za9 H none (.ptr c.f 4) = some (.slc c.ou 0 n 1 c.lu c.xu) := by
 obtain ⟨vq, g, _⟩ := h.gf; exact za1 g rfl
theorem FS.f5 (h : FS S H0 H n c m s ks) : za9 H none (.ptr c.f 5) = some (.map c.ok) := by
 obtain ⟨vq, g, _⟩ := h.gf; exact za1 g rfl
theorem FS.f6 (h : FS S H0 H n c m s ks) : ∃ vq, za9 H none (.ptr c.f 6) = some vq /\ QS H c S vq s.q /\ H.get c.f = some (.cells (c.struct n vq)) := by
 obtain ⟨vq, g, k⟩ := h.gf; exact ⟨vq, za1 g rfl, k, g⟩
theorem FS.lm (h : FS S H0 H n c m s ks) {i : Nat} (hi : i < n) : za9 H none (.ptr c.om i) = some (.int .i64 (oi (m i))) := za1 h.gm (zp5 hi)
theorem FS.lp (h : FS S H0 H n c m s ks) {i : Nat} (hi : i < n) : za9 H none (.ptr c.op i) = some (.int .i64 (oi (s.par i))) := za1 h.gp (zp5 hi)
theorem FS.lb (h : FS S H0 H n c m s ks) {i : Nat} (hi : i < n) : za9 H none (.ptr c.ob i) = some (.int .i64 (s.base i : Int)) := za1 h.gb (zp5 hi)
theorem FS.lu (h : FS S H0 H n c m s ks) {i : Nat} (hi : i < n) : za9 H none (.ptr c.ou i) = some (.bool (s.used i)) := za1 h.gu (zp5 hi)
theorem FS.look (h : FS S H0 H n c m s ks) {x : Nat} : (zp1 H (.prim .int) (.map c.ok) (.int .i64 (x : Int))).map (zt3 (.bool false) false) = some (.bool (decide (x ∈ ks))) := by
 have hf := zax2 (ks := ks) (c := x) (j := 0)
 simp only [zp1, h.gk, plainKey, cond_true]
 by_cases hx : x ∈ ks
 ·obtain ⟨i, h1, _⟩ := hf.1 hx
  simp [h1, hx, zt3]
 ·simp [hf.2 hx, hx, zt3]
theorem QS.mono {H' : Heap} {vq : AV} {q : List Nat} (h : QS H c S vq q) (hg : ∀ oq, oq ∉ c.own -> ¬ S oq -> oq < H.next -> H.floor <= oq -> (∃ cs, H.get oq = some (.cells cs)) -> H'.get oq = H.get oq) (hn : H.next <= H'.next) (hf : H'.floor = H.floor) : QS H' c S vq q := by
 rcases h with h | ⟨oq, off, lo, ex, cs, h1, h2, h3, h4, h5, h6, h7, h8, h9⟩
 ·exact .inl h
 ·exact .inr ⟨oq, off, lo, ex, cs, h1, by rw [hg oq h6 h7 h8 h9 ⟨cs, h2⟩]; exact h2, h3, h4, h5, h6, h7, by omega, by rw [hf]; exact h9⟩
theorem FS.setOwn (h : FS S H0 H n c m s ks) {o : Nat} {x : zo4} (ho : o ∈ c.own) : (H.set o x).Wf /\ (H.set o x).floor = H0.floor /\ (∀ o', S o' -> (H.set o x).get o' = H0.get o' /\ o' < (H.set o x).next) /\ (∀ o', o' ∈ c.own -> (H.set o x).floor <= o' /\ o' < (H.set o x).next /\ ¬ S o') /\ (∀ vq q, QS H c S vq q -> QS (H.set o x) c S vq q) := by
 obtain ⟨h1, h2, h3⟩ := h.ge o ho
 refine ⟨Wf.set h.wf h2, h.fl, fun o' hs => ⟨?_, (h.frz o' hs).2⟩, h.ge, fun vq q k => k.mono ?_ (Nat.le_refl _) rfl⟩
 ·rw [za7, if_neg (fun e => by subst e; exact h3 hs)]; exact (h.frz o' hs).1
 ·intro oq k1 _ _ _ _
  rw [za7, if_neg (fun e => by subst e; exact k1 ho)]
theorem zr4 {c : FC} (h : c.own.Nodup) : (c.f ≠ c.om /\ c.f ≠ c.op /\ c.f ≠ c.ob /\ c.f ≠ c.ou /\ c.f ≠ c.ok) /\ (c.om ≠ c.op /\ c.om ≠ c.ob /\ c.om ≠ c.ou /\ c.om ≠ c.ok) /\ (c.op ≠ c.ob /\ c.op ≠ c.ou /\ c.op ≠ c.ok) /\ (c.ob ≠ c.ou /\ c.ob ≠ c.ok) /\ c.ou ≠ c.ok := by
 unfold FC.own at h
 simp only [List.nodup_cons, List.mem_cons, List.not_mem_nil, or_false, not_or, not_false_eq_true, List.nodup_nil, and_true] at h
 exact h
theorem zo5 {H : Heap} {o off : Nat} {x : AV} {cs : List AV} (hf : H.floor <= o) (hg : H.get o = some (.cells cs)) (hl : off < cs.length) (hx : x.one = true) : zf6 H 1 (.ptr o off) x = some (zb8, H.set o (.cells (setSeg cs off [x]))) := by
 have hc : x.cells = [x] := by cases x <;> simp [AV.one] at hx <;> rfl
 have hb : Nat.ble H.floor o = true := Nat.ble_eq_true_of_le hf
 have hb2 : Nat.ble (off + 1) cs.length = true := Nat.ble_eq_true_of_le hl
 have ha : za5 [x] = true := by simp [za5, hx]
 rw [ze4, hc]
 unfold Heap.writeSeg
 rw [za3 hg, hb]
 simp only [List.length_cons, List.length_nil, hb2, ha, cond_true, Bool.and_self, Nat.zero_add]
 rfl
theorem FS.stP (h : FS S H0 H n c m s ks) {i : Nat} {x : Option Nat} (hi : i < n) : ∃ H1, zf6 H 1 (.ptr c.op i) (.int .i64 (oi x)) = some (zb8, H1) /\ FS S H0 H1 n c m { s with par := upd s.par i x } ks := by
 have ho : c.op ∈ c.own := by simp [FC.own]
 obtain ⟨k1, k2, k3, k4, k5⟩ := h.setOwn (x := .cells (zi3 n (upd s.par i x))) ho
 obtain ⟨⟨_, a2, _⟩, ⟨b1, _⟩, ⟨d1, d2, d3⟩, _⟩ := zr4 h.own
 refine ⟨_, zo5 (h.ge _ ho).1 h.gp (by rw [zi3, zn6]; exact hi) rfl, ?_⟩
 rw [show setSeg (zi3 n s.par) i [.int .i64 (oi x)] = zi3 n (upd s.par i x) by
  unfold zi3; rw [zag7 hi, <- zab3 (f := fun y => AV.int .i64 (oi y))]]
 obtain ⟨vq, g1, g2⟩ := h.gf
 exact ⟨k1, k2, k3, h.own, k4, h.one, ⟨vq, by rw [za7, if_neg a2]; exact g1, k5 _ _ g2⟩, by rw [za7, if_neg b1]; exact h.gm, by rw [za7, if_pos rfl], by rw [za7, if_neg d1.symm]; exact h.gb, by rw [za7, if_neg d2.symm]; exact h.gu, by rw [za7, if_neg d3.symm]; exact h.gk⟩
theorem FS.stM (h : FS S H0 H n c m s ks) {i : Nat} {x : Option Nat} (hi : i < n) : ∃ H1, zf6 H 1 (.ptr c.om i) (.int .i64 (oi x)) = some (zb8, H1) /\ FS S H0 H1 n c (upd m i x) s ks := by
 have ho : c.om ∈ c.own := by simp [FC.own]
 obtain ⟨k1, k2, k3, k4, k5⟩ := h.setOwn (x := .cells (zi3 n (upd m i x))) ho
 obtain ⟨⟨a1, _⟩, ⟨b1, b2, b3, b4⟩, _⟩ := zr4 h.own
 refine ⟨_, zo5 (h.ge _ ho).1 h.gm (by rw [zi3, zn6]; exact hi) rfl, ?_⟩
 rw [show setSeg (zi3 n m) i [.int .i64 (oi x)] = zi3 n (upd m i x) by
  unfold zi3; rw [zag7 hi, <- zab3 (f := fun y => AV.int .i64 (oi y))]]
 obtain ⟨vq, g1, g2⟩ := h.gf
 exact ⟨k1, k2, k3, h.own, k4, h.one, ⟨vq, by rw [za7, if_neg a1]; exact g1, k5 _ _ g2⟩, by rw [za7, if_pos rfl], by rw [za7, if_neg b1.symm]; exact h.gp, by rw [za7, if_neg b2.symm]; exact h.gb, by rw [za7, if_neg b3.symm]; exact h.gu, by rw [za7, if_neg b4.symm]; exact h.gk⟩
theorem FS.stB (h : FS S H0 H n c m s ks) {i x : Nat} (hi : i < n) : ∃ H1, zf6 H 1 (.ptr c.ob i) (.int .i64 (x : Int)) = some (zb8, H1) /\ FS S H0 H1 n c m { s with base := upd s.base i x } ks := by
 have ho : c.ob ∈ c.own := by simp [FC.own]
 obtain ⟨k1, k2, k3, k4, k5⟩ := h.setOwn (x := .cells (zay2 n (upd s.base i x))) ho
 obtain ⟨⟨_, _, a3, _⟩, ⟨_, b2, _⟩, ⟨d1, _⟩, ⟨e1, e2⟩, _⟩ := zr4 h.own
 refine ⟨_, zo5 (h.ge _ ho).1 h.gb (by rw [zay2, zn6]; exact hi) rfl, ?_⟩
 rw [show setSeg (zay2 n s.base) i [.int .i64 (x : Int)] = zay2 n (upd s.base i x) by
  unfold zay2; rw [zag7 hi, <- zab3 (f := fun y : Nat => AV.int .i64 (y : Int))]]
 obtain ⟨vq, g1, g2⟩ := h.gf
 exact ⟨k1, k2, k3, h.own, k4, h.one, ⟨vq, by rw [za7, if_neg a3]; exact g1, k5 _ _ g2⟩, by rw [za7, if_neg b2]; exact h.gm, by rw [za7, if_neg d1]; exact h.gp, by rw [za7, if_pos rfl], by rw [za7, if_neg e1.symm]; exact h.gu, by rw [za7, if_neg e2.symm]; exact h.gk⟩
theorem FS.stU (h : FS S H0 H n c m s ks) {i : Nat} {x : Bool} (hi : i < n) : ∃ H1, zf6 H 1 (.ptr c.ou i) (.bool x) = some (zb8, H1) /\ FS S H0 H1 n c m { s with used := upd s.used i x } ks := by
 have ho : c.ou ∈ c.own := by simp [FC.own]
 obtain ⟨k1, k2, k3, k4, k5⟩ := h.setOwn (x := .cells (zau4 n (upd s.used i x))) ho
 obtain ⟨⟨_, _, _, a4, _⟩, ⟨_, _, b3, _⟩, ⟨_, d2, _⟩, ⟨e1, _⟩, f1⟩ := zr4 h.own
 refine ⟨_, zo5 (h.ge _ ho).1 h.gu (by rw [zau4, zn6]; exact hi) rfl, ?_⟩
 rw [show setSeg (zau4 n s.used) i [.bool x] = zau4 n (upd s.used i x) by
  unfold zau4; rw [zag7 hi, <- zab3 (f := fun y : Bool => AV.bool y)]]
 obtain ⟨vq, g1, g2⟩ := h.gf
 exact ⟨k1, k2, k3, h.own, k4, h.one, ⟨vq, by rw [za7, if_neg a4]; exact g1, k5 _ _ g2⟩, by rw [za7, if_neg b3]; exact h.gm, by rw [za7, if_neg d2]; exact h.gp, by rw [za7, if_neg e1]; exact h.gb, by rw [za7, if_pos rfl], by rw [za7, if_neg f1.symm]; exact h.gk⟩
theorem FS.setK (h : FS S H0 H n c m s ks) {ks' : List Nat} : FS S H0 (H.set c.ok (.map (ks'.map kc))) n c m s ks' := by
 have ho : c.ok ∈ c.own := by simp [FC.own]
 obtain ⟨k1, k2, k3, k4, k5⟩ := h.setOwn (x := .map (ks'.map kc)) ho
 obtain ⟨⟨_, _, _, _, a5⟩, ⟨_, _, _, b4⟩, ⟨_, _, d3⟩, ⟨_, e2⟩, f1⟩ := zr4 h.own
 obtain ⟨vq, g1, g2⟩ := h.gf
 exact ⟨k1, k2, k3, h.own, k4, h.one, ⟨vq, by rw [za7, if_neg a5]; exact g1, k5 _ _ g2⟩, by rw [za7, if_neg b4]; exact h.gm, by rw [za7, if_neg d3]; exact h.gp, by rw [za7, if_neg e2]; exact h.gb, by rw [za7, if_neg f1]; exact h.gu, by rw [za7, if_pos rfl]⟩
theorem FS.clr (h : FS S H0 H n c m s ks) : ∃ H1, zag2 H (.map c.ok) = some (zb8, H1) /\ FS S H0 H1 n c m s [] := by
 have hb : Nat.ble H.floor c.ok = true := Nat.ble_eq_true_of_le (h.ge c.ok (by simp [FC.own])).1
 exact ⟨_, by simp only [zag2, hb, cond_true, h.gk]; rfl, h.setK (ks' := [])⟩
theorem FS.mup (h : FS S H0 H n c m s ks) {x : Nat} : ∃ H1 ks', zl7 H (.prim .int) (.map c.ok) (.int .i64 (x : Int)) (.bool true) = some (zb8, H1) /\ FS S H0 H1 n c m s ks' /\ ∀ y, y ∈ ks' ↔ y ∈ ks \/ y = x := by
 have hb : Nat.ble H.floor c.ok = true := Nat.ble_eq_true_of_le (h.ge c.ok (by simp [FC.own])).1
 have hf := zax2 (ks := ks) (c := x) (j := 0)
 by_cases hx : x ∈ ks
 ·obtain ⟨i, h1, h2⟩ := hf.1 hx
  refine ⟨_, ks, ?_, h.setK, fun y => ⟨.inl, fun q => q.elim id fun e => e ▸ hx⟩⟩
  simp only [zl7, hb, cond_true, h.gk, plainKey, h1, Nat.zero_add]
  rw [show (ks.map kc).set i (.int .i64 (x : Int), .bool true) = ks.map kc by
   rw [show ((.int .i64 (x : Int), .bool true) : AV × AV) = kc x from rfl, <- List.map_set]
   congr 1
   obtain ⟨hi, e⟩ := List.getElem?_eq_some_iff.1 h2
   subst e
   exact List.set_getElem_self hi]
 ·refine ⟨_, ks ++ [x], ?_, h.setK, fun y => by simp⟩
  simp only [zl7, hb, cond_true, h.gk, plainKey, hf.2 hx, List.map_append, List.map_cons, List.map_nil]
  rfl
theorem FS.push (h : FS S H0 H n c m s ks) {x : zo4} : FS S H0 (H.push x) n c m s ks := by
 have ne : ∀ o, o ∈ c.own -> ¬ o = H.next := fun o ho e => by have := (h.ge o ho).2.1; omega
 obtain ⟨vq, g1, g2⟩ := h.gf
 refine ⟨h.wf.push x, h.fl, fun o ho => ⟨?_, ?_⟩, h.own, fun o ho => ⟨(h.ge o ho).1, Nat.lt_succ_of_lt (h.ge o ho).2.1, (h.ge o ho).2.2⟩, h.one, ⟨vq, ?_, g2.mono ?_ (Nat.le_succ _) rfl⟩, ?_, ?_, ?_, ?_, ?_⟩
 ·rw [za6, if_neg (by have := (h.frz o ho).2; omega)]; exact (h.frz o ho).1
 ·exact Nat.lt_succ_of_lt (h.frz o ho).2
 ·rw [za6, if_neg (ne _ (by simp [FC.own]))]; exact g1
 ·intro oq _ _ k3 _ _; rw [za6, if_neg (by omega)]
 ·rw [za6, if_neg (ne _ (by simp [FC.own]))]; exact h.gm
 ·rw [za6, if_neg (ne _ (by simp [FC.own]))]; exact h.gp
 ·rw [za6, if_neg (ne _ (by simp [FC.own]))]; exact h.gb
 ·rw [za6, if_neg (ne _ (by simp [FC.own]))]; exact h.gu
 ·rw [za6, if_neg (ne _ (by simp [FC.own]))]; exact h.gk
theorem QS.one {vq : AV} {q : List Nat} (h : QS H c S vq q) : vq.one = true := by
 rcases h with ⟨rfl, _⟩ | ⟨oq, off, lo, ex, cs, rfl, _⟩ <;> rfl
theorem QS.len {vq : AV} {q : List Nat} (h : QS H c S vq q) : lenA vq = some (.int .i64 (q.length : Int)) := by
 rcases h with ⟨rfl, rfl⟩ | ⟨oq, off, lo, ex, cs, rfl, _⟩ <;> rfl
theorem QS.cut {vq : AV} {q : List Nat} (h : QS H c S vq q) : ∃ v0, sliceA 1 vq none (some (.int .i64 0)) none = some v0 /\ QS H c S v0 [] := by
 rcases h with ⟨rfl, rfl⟩ | ⟨oq, off, lo, ex, cs, rfl, h2, h3, h4, h5, h6, h7, h8, h9⟩
 ·exact ⟨.nils, by simp [sliceA, zd8, zl1], .inl ⟨rfl, rfl⟩⟩
 ·refine ⟨.slc oq off 0 1 lo ex, by simp [sliceA, zd8, zl1], .inr ⟨oq, off, lo, ex, cs, rfl, h2, Nat.zero_le _, h4, ?_, h6, h7, h8, h9⟩⟩
  intro i x e; cases e
theorem QS.pop {vq : AV} {a : Nat} {q : List Nat} (h : QS H c S vq (a :: q)) : ∃ p v1, zd7 1 vq (.int .i64 0) = some p /\ za9 H none p = some (.int .i64 (a : Int)) /\ sliceA 1 vq (some (.int .i64 1)) none none = some v1 /\ QS H c S v1 q := by
 rcases h with ⟨_, h⟩ | ⟨oq, off, lo, ex, cs, rfl, h2, h3, h4, h5, h6, h7, h8, h9⟩
 ·cases h
 ·rw [List.length_cons] at h3
  refine ⟨.ptr oq off, .slc oq (off + 1) q.length 1 (lo - 1) ex, ?_, za1 h2 (h5 0 a rfl), ?_, .inr ⟨oq, off + 1, lo - 1, ex, cs, rfl, h2, by omega, by omega, ?_, h6, h7, h8, h9⟩⟩
  ·simp only [zf2, List.length_cons]
   rw [if_pos ⟨by omega, by omega, trivial⟩]; rfl
  ·have e1 : (1 : Int) <= (q.length : Int) + 1 := by omega
   simp [sliceA, zd8, zl1, e1]
  ·intro i x e
   rw [show off + 1 + i = off + (i + 1) by omega]; exact h5 (i + 1) x e
theorem FS.reQ (h : FS S H0 H n c m s ks) {H' : Heap} {vq' : AV} {q' : List Nat} (hw : H'.Wf) (hf : H'.floor = H.floor) (hn : H.next <= H'.next) (ho : ∀ o, o ∈ c.own -> H'.get o = H.get o) (hs : ∀ o, S o -> H'.get o = H.get o) (hq : QS H' c S vq' q') :
  ∃ H3, zf6 H' 1 (.ptr c.f 6) vq' = some (zb8, H3) /\ FS S H0 H3 n c m { s with q := q' } ks := by
 obtain ⟨vq, g1, _⟩ := h.gf
 have hcf : c.f ∈ c.own := by simp [FC.own]
 have hge : ∀ o, o ∈ c.own -> H'.floor <= o /\ o < H'.next /\ ¬ S o := fun o q => by
  obtain ⟨a, b, d⟩ := h.ge o q; exact ⟨by rw [hf]; exact a, by omega, d⟩
 refine ⟨_, zo5 (hge _ hcf).1 (by rw [ho _ hcf]; exact g1) (by simp [FC.struct]) hq.one, ?_⟩
 have e : setSeg (c.struct n vq) 6 [vq'] = c.struct n vq' := by simp [FC.struct, setSeg]
 rw [e]
 obtain ⟨⟨a1, a2, a3, a4, a5⟩, _⟩ := zr4 h.own
 refine ⟨Wf.set hw (hge _ hcf).2.1, by show H'.floor = _; rw [hf]; exact h.fl, fun o q => ⟨?_, ?_⟩, h.own, hge, h.one, ⟨vq', by rw [za7, if_pos rfl], hq.mono ?_ (Nat.le_refl _) rfl⟩, ?_, ?_, ?_, ?_, ?_⟩
 ·rw [za7, if_neg (fun e => by subst e; exact (hge _ hcf).2.2 q), hs o q]; exact (h.frz o q).1
 ·exact Nat.lt_of_lt_of_le (h.frz o q).2 hn
 ·intro oq k1 _ _ _ _
  rw [za7, if_neg (fun e => by subst e; exact k1 hcf)]
 ·rw [za7, if_neg a1.symm, ho _ (by simp [FC.own])]; exact h.gm
 ·rw [za7, if_neg a2.symm, ho _ (by simp [FC.own])]; exact h.gp
 ·rw [za7, if_neg a3.symm, ho _ (by simp [FC.own])]; exact h.gb
 ·rw [za7, if_neg a4.symm, ho _ (by simp [FC.own])]; exact h.gu
 ·rw [za7, if_neg a5.symm, ho _ (by simp [FC.own])]; exact h.gk
theorem FS.app (h : FS S H0 H n c m s ks) {vq : AV} {q : List Nat} {w : Nat} (hq : QS H c S vq q) (hl : q.length <= 1099511627776) :
  ∃ vq' H2, zc4 1 8 (H.push (.cells [.int .i64 (w : Int)])) vq (.slc H.next 0 1 1 1 true) = some (vq', H2) /\ ∃ H3, zf6 H2 1 (.ptr c.f 6) vq' = some (zb8, H3) /\ FS S H0 H3 n c m { s with q := q ++ [w] } ks := by
 have hsrc : srcA 1 (H.push (.cells [.int .i64 (w : Int)])) (.slc H.next 0 1 1 1 true) = some (1, [.int .i64 (w : Int)]) := by
  simp [srcA, Heap.readSeg, zk1, seg]
 have ha : za5 [AV.int .i64 (w : Int)] = true := rfl
 have ownne : ∀ o, o ∈ c.own -> o ≠ H.next := fun o q e => by have := (h.ge o q).2.1; omega
 have sne : ∀ o, S o -> o ≠ H.next := fun o q e => by have := (h.frz o q).2; omega
 rcases hq with ⟨rfl, rfl⟩ | ⟨oq, off, lo, ex, cs, rfl, h2, h3, h4, h5, h6, h7, h8, h9⟩
 ·refine ⟨.slc (H.next + 1) 0 1 1 1 false, _, ?_, h.reQ (H' := (H.push (.cells [.int .i64 (w : Int)])).push (.cells [.int .i64 (w : Int)])) ((h.wf.push _).push _) rfl (by show H.next <= H.next + 1 + 1; omega) ?_ ?_ ?_⟩
  ·simp only [zc4, hsrc, ha, cond_true]
   rfl
  ·intro o ho
   have := (h.ge o ho).2.1
   rw [za6, if_neg (by simp; omega), za6, if_neg (by omega)]
  ·intro o ho
   have := (h.frz o ho).2
   rw [za6, if_neg (by simp; omega), za6, if_neg (by omega)]
  ·refine .inr ⟨H.next + 1, 0, 1, false, [.int .i64 (w : Int)], rfl, by rw [za6]; simp, by simp, by simp, ?_, ?_, ?_, by simp, ?_⟩
   ·intro i x e
    cases i with
    | zero => cases e; rfl
    | succ i => cases e
   ·intro e; have := (h.ge _ e).2.1; omega
   ·intro e; have := (h.frz _ e).2; omega
   ·have := h.wf.1; simp; omega
 ·have hoq : oq ≠ H.next := by omega
  have gq : (H.push (.cells [.int .i64 (w : Int)])).get oq = some (.cells cs) := by rw [za6, if_neg hoq]; exact h2
  by_cases hc : q.length + 1 <= lo
  ·have hb : Nat.ble (q.length + 1) lo = true := Nat.ble_eq_true_of_le hc
   have hfl : Nat.ble (H.push (.cells [.int .i64 (w : Int)])).floor oq = true := Nat.ble_eq_true_of_le h9
   have hlen : Nat.ble (off + q.length * 1 + 1) cs.length = true := Nat.ble_eq_true_of_le (by omega)
   refine ⟨.slc oq off (q.length + 1) 1 lo ex, (H.push (.cells [.int .i64 (w : Int)])).set oq (.cells (setSeg cs (off + q.length * 1) [.int .i64 (w : Int)])), ?_, h.reQ (Wf.set (h.wf.push _) (by simp; omega)) rfl (by show H.next <= H.next + 1; omega) ?_ ?_ ?_⟩
   ·simp only [zc4, hsrc, ha, cond_true, Nat.beq_refl, hb]
    rw [show Nat.beq 1 0 = false from rfl]
    simp only [cond_false, Heap.writeSeg, hfl, za3 gq, cond_true, List.length_cons, List.length_nil, Nat.zero_add, hlen, ha, Bool.and_self, Option.map_some]
   ·intro o ho
    rw [za7, if_neg (fun e => by subst e; exact h6 ho), za6, if_neg (ownne o ho)]
   ·intro o ho
    rw [za7, if_neg (fun e => by subst e; exact h7 ho), za6, if_neg (sne o ho)]
   ·have hsl : (setSeg cs (off + q.length * 1) [AV.int .i64 (w : Int)]).length = cs.length := by
     simp [setSeg]; omega
    refine .inr ⟨oq, off, lo, ex, _, by rw [List.length_append]; rfl, by rw [za7, if_pos rfl], by rw [List.length_append]; exact hc, by rw [hsl]; exact h4, ?_, h6, h7, by show oq < H.next + 1; omega, h9⟩
    intro i x e
    unfold setSeg
    rw [List.getElem?_append] at e
    by_cases hi : i < q.length
    ·rw [if_pos hi] at e
     rw [List.append_assoc, List.getElem?_append, List.length_take, if_pos (by omega), List.getElem?_take, if_pos (by omega)]
     exact h5 i x e
    ·rw [if_neg hi] at e
     have : i = q.length := by
      have := (List.getElem?_eq_some_iff.1 e).1
      simp at this; omega
     subst this
     simp at e; subst e
     rw [List.append_assoc, List.getElem?_append, List.length_take, if_neg (by omega)]
     rw [show off + q.length - min (off + q.length * 1) cs.length = 0 by omega]
     rfl
  ·have hb : Nat.ble (q.length + 1) lo = false := by
    cases hh : Nat.ble (q.length + 1) lo with
    | false => rfl
    | true => exact absurd (Nat.le_of_ble_eq_true hh) hc
   have hbig : Nat.ble ((2 * (q.length + 1) + 1024) * 8) (2 ^ 48) = true := Nat.ble_eq_true_of_le (by omega)
   have hseg : Nat.ble (off + q.length * 1) cs.length = true := Nat.ble_eq_true_of_le (by omega)
   have hlt : ((cs.drop off).take (q.length * 1)).length = q.length := by simp; omega
   have hread : (H.push (.cells [.int .i64 (w : Int)])).readSeg oq off (q.length * 1) = some ((cs.drop off).take (q.length * 1)) := by
    unfold Heap.readSeg
    rw [za3 gq]
    simp only [Option.bind_some, seg, hseg, cond_true]
   have hnew : ∀ i x, (q ++ [w])[i]? = some x -> (((cs.drop off).take (q.length * 1)) ++ [AV.int .i64 (w : Int)])[0 + i]? = some (.int .i64 (x : Int)) := by
    intro i x e
    rw [List.getElem?_append] at e
    rw [Nat.zero_add, List.getElem?_append, hlt]
    by_cases hi : i < q.length
    ·rw [if_pos hi] at e
     rw [if_pos hi, List.getElem?_take, if_pos (by omega), List.getElem?_drop]
     exact h5 i x e
    ·rw [if_neg hi] at e
     have : i = q.length := by
      have := (List.getElem?_eq_some_iff.1 e).1
      simp at this; omega
     subst this
     simp at e; subst e
     simp
   have happ : ∀ r, (bif ex then some (AV.slc (H.next + 1) 0 (q.length + 1) 1 (q.length + 1) false, (H.push (.cells [.int .i64 (w : Int)])).push (.cells (((cs.drop off).take (q.length * 1)) ++ [AV.int .i64 (w : Int)])))
     else some (AV.slc (H.next + 1) 0 (q.length + 1) 1 (q.length + 1) false, ((H.push (.cells [.int .i64 (w : Int)])).set oq .dead).push (.cells (((cs.drop off).take (q.length * 1)) ++ [AV.int .i64 (w : Int)])))) = some r ->
     zc4 1 8 (H.push (.cells [.int .i64 (w : Int)])) (.slc oq off q.length 1 lo ex) (.slc H.next 0 1 1 1 true) = some r := by
    intro r hr
    have hfl : Nat.ble (H.push (.cells [.int .i64 (w : Int)])).floor oq = true := Nat.ble_eq_true_of_le h9
    simp only [zc4, hsrc, ha, cond_true, Nat.beq_refl, hb]
    rw [show Nat.beq 1 0 = false from rfl]
    simp only [cond_false, hbig, cond_true, hread, hfl]
    exact hr
   have fin : ∀ H2 : Heap, H2.Wf -> H2.floor = H.floor -> H2.next = H.next + 2 -> (∀ o, o ≠ oq -> o < H.next -> H2.get o = H.get o) -> H2.get (H.next + 1) = some (.cells (((cs.drop off).take (q.length * 1)) ++ [AV.int .i64 (w : Int)])) ->
     ∃ H3, zf6 H2 1 (.ptr c.f 6) (.slc (H.next + 1) 0 (q.length + 1) 1 (q.length + 1) false) = some (zb8, H3) /\ FS S H0 H3 n c m { s with q := q ++ [w] } ks := by
    intro H2 j1 j2 j3 j4 j5
    refine h.reQ j1 j2 (by omega) ?_ ?_ ?_
    ·intro o ho; exact j4 o (fun e => by subst e; exact h6 ho) (h.ge o ho).2.1
    ·intro o ho; exact j4 o (fun e => by subst e; exact h7 ho) (h.frz o ho).2
    ·refine .inr ⟨H.next + 1, 0, q.length + 1, false, _, by rw [List.length_append]; rfl, j5, by rw [List.length_append]; exact Nat.le_refl _, by rw [List.length_append, hlt]; simp, hnew, ?_, ?_, by omega, ?_⟩
     ·intro e; have := (h.ge _ e).2.1; omega
     ·intro e; have := (h.frz _ e).2; omega
     ·have := h.wf.1; omega
   cases ex with
   | true =>
    refine ⟨_, _, happ _ rfl, fin _ ((h.wf.push _).push _) rfl rfl ?_ ?_⟩
    ·intro o _ ho
     rw [za6, if_neg (by simp; omega), za6, if_neg (by omega)]
    ·rw [za6, if_pos (by simp)]
   | false =>
    refine ⟨_, _, happ _ rfl, fin _ ((Wf.set (h.wf.push _) (by simp; omega)).push _) rfl rfl ?_ ?_⟩
    ·intro o h1 ho
     have hne : ¬ o = ((H.push (zo4.cells [AV.int IntKind.i64 ↑w])).set oq zo4.dead).next := by show ¬ o = H.next + 1; omega
     rw [za6, if_neg hne, za7, if_neg h1, za6, if_neg (by omega)]
    ·exact za6.trans (if_pos rfl)
end
end Go.Proofs.Ytcepchipgjpkhaa.Gr
namespace Go.Proofs.Ytcepchipgjpkhaa.Gr
open Go Go.AI
@[simp] theorem nneg {w : Nat} : ((w : Int) < 0) = False := by simp
@[simp] theorem nnoneg {w : Nat} : (0 <= (w : Int)) = True := by simp
section
variable {FT : Nat -> Option FnD} {S : Nat -> Prop} {H0 H : Heap} {n : Nat} {c : FC} {m : Nat -> Option Nat} {s : St} {ks : List Nat}
theorem zcf1 (h40 : FT 155 = some (.code A155)) (fs : FS S H0 H n c m s ks) (hm : ∀ {x w}, m x = some w -> w < n) {F a b nb : Nat} {ms : Nat -> Bool} (h1 : zan6 n m s F a (fun _ => false) = some ms) (h2 : seek n m s ms F b = some nb) :
  Cp FT 155 [.ptr c.f 0, .int .i64 a, .int .i64 b] H (fun r H' => r = .int .i64 nb /\ ∃ ks', FS S H0 H' n c m s ks') := by
 refine zb1 A155 h40 rfl ?_
 obtain ⟨H1, hc1, fs1⟩ := fs.clr
 simp [A155, fs.f5, hc1]
 refine zb7 (fun f τ H' => ∃ (a : Nat) (ms0 : Nat -> Bool) (ks : List Nat), zan6 n m s f a ms0 = some ms /\ (∀ x, ms0 x = true ↔ x ∈ ks) /\ FS S H0 H' n c m s ks /\ Env.at τ 0 = .ptr c.f 0 /\ Env.at τ 1 = .int .i64 a /\ Env.at τ 2 = .int .i64 b) ?_ F _ _ ⟨a, _, [], h1, by simp, fs1, by simp, by simp, by simp⟩
 rintro f τ H2 ⟨a, ms0, ks, hcl, hms, fs2, t0, t1, t2⟩
 cases f with
 | zero => cases hcl
 | succ f =>
  unfold zan6 at hcl
  by_cases hb : a < n /\ s.base a < n
  ·rw [if_pos hb] at hcl
   obtain ⟨H3, ks3, hm3, fs3, hk3⟩ := fs2.mup (x := s.base a)
   have hup : ∀ x, upd ms0 (s.base a) true x = true ↔ x ∈ ks3 := by
    intro x
    rw [hk3, <- hms]
    by_cases e : x = s.base a
    ·subst e; simp
    ·rw [upd_ne e]; simp [e]
   simp only [zi9, zd3, zbv4]
   cases hma : m (s.base a) with
   | none =>
    rw [hma] at hcl; cases hcl
    simp [t0, t1, fs2.f3, fs2.f5, fs2.lb hb.1, hb.1, hm3, fs3.f1, fs3.lm hb.2, hb.2, hma]
    refine zb7 (fun f τ H' => ∃ (b : Nat), seek n m s (upd ms0 (s.base a) true) f b = some nb /\ H' = H3 /\ Env.at τ 0 = .ptr c.f 0 /\ Env.at τ 2 = .int .i64 b) ?_ F _ _ ⟨b, h2, rfl, by simp [t0], by simp [t2]⟩
    rintro f τ H4 ⟨b, hsk, rfl, t0, t2⟩
    cases f with
    | zero => cases hsk
    | succ f =>
     unfold seek at hsk
     by_cases hbb : b < n /\ s.base b < n
     ·rw [if_pos hbb] at hsk
      have hlk := fs3.look (x := s.base b)
      by_cases hmk : upd ms0 (s.base a) true (s.base b) = true
      ·rw [if_pos hmk] at hsk; cases hsk
       have hin : s.base b ∈ ks3 := (hup _).1 hmk
       rw [decide_eq_true hin] at hlk
       simp [t0, t2, fs3.f3, fs3.f5, fs3.lb hbb.1, hbb.1, hlk]
       exact ⟨ks3, fs3⟩
      ·rw [if_neg hmk] at hsk
       have hin : s.base b ∉ ks3 := fun q => hmk ((hup _).2 q)
       rw [decide_eq_false hin] at hlk
       cases hmb : m (s.base b) with
       | none => rw [hmb] at hsk; cases hsk
       | some w =>
        rw [hmb] at hsk
        have hw := hm hmb
        simp only at hsk
        cases hp : s.par w with
        | none => rw [hp] at hsk; cases hsk
        | some u =>
         rw [hp] at hsk
         simp [t0, t2, fs3.f1, fs3.f2, fs3.f3, fs3.f5, fs3.lb hbb.1, hbb.1, hlk, fs3.lm hbb.2, hbb.2, hmb, fs3.lp hw, hw, hp]
         exact ⟨f, by omega, u, hsk, rfl⟩
     ·rw [if_neg hbb] at hsk; cases hsk
   | some w =>
    rw [hma] at hcl
    have hw := hm hma
    simp only at hcl
    cases hp : s.par w with
    | none => rw [hp] at hcl; cases hcl
    | some u =>
     rw [hp] at hcl
     simp [t0, t1, fs2.f3, fs2.f5, fs2.lb hb.1, hb.1, hm3, fs3.f1, fs3.f2, fs3.lm hb.2, hb.2, hma, fs3.lp hw, hw, hp]
     exact ⟨f, by omega, u, _, hcl, ks3, hup, fs3, rfl, t2⟩
  ·rw [if_neg hb] at hcl; cases hcl
theorem zbw5 {ms : Nat -> Bool} {ks ks' : List Nat} {x : Nat} (h : ∀ y, ms y = true ↔ y ∈ ks) (k : ∀ y, y ∈ ks' ↔ y ∈ ks \/ y = x) : ∀ y, upd ms x true y = true ↔ y ∈ ks' := by
 intro y
 rw [k, <- h]
 by_cases e : y = x
 ·subst e; simp
 ·rw [upd_ne e]; simp [e]
theorem zbx9 (h41 : FT 156 = some (.code A156)) (fs : FS S H0 H n c m s ks) (hm : ∀ {x w}, m x = some w -> w < n) {F x nb child : Nat} {ms ms' : Nat -> Bool} {p' : Nat -> Option Nat} (hms : ∀ y, ms y = true ↔ y ∈ ks) (h1 : z96 n m s.base nb F x child s.par ms = some (p', ms')) :
  Cp FT 156 [.ptr c.f 0, .int .i64 x, .int .i64 nb, .int .i64 child] H (fun _ H' => ∃ ks', FS S H0 H' n c m { s with par := p' } ks' /\ ∀ y, ms' y = true ↔ y ∈ ks') := by
 refine zb1 A156 h41 rfl ?_
 simp [A156]
 refine zb7 (fun f τ H' => ∃ (x child : Nat) (par : Nat -> Option Nat) (ms : Nat -> Bool) (ks : List Nat), z96 n m s.base nb f x child par ms = some (p', ms') /\ (∀ y, ms y = true ↔ y ∈ ks) /\ FS S H0 H' n c m { s with par := par } ks /\ Env.at τ 0 = .ptr c.f 0 /\ Env.at τ 1 = .int .i64 x /\ Env.at τ 2 = .int .i64 nb /\ Env.at τ 3 = .int .i64 child) ?_ F _ _ ⟨x, child, s.par, ms, ks, h1, hms, fs, by simp, by simp, by simp, by simp⟩
 rintro f τ H1 ⟨x, child, par, ms, ks, hmk, hms, fs1, t0, t1, t2, t3⟩
 cases f with
 | zero => cases hmk
 | succ f =>
  unfold z96 at hmk
  by_cases hx : x < n
  ·rw [if_pos hx] at hmk
   simp only [zi9, zd3]
   have lb := fs1.lb hx
   simp only at lb
   by_cases hb : s.base x = nb
   ·rw [if_pos hb] at hmk; cases hmk
    simp [t0, t1, t2, fs1.f3, lb, hx, hb]
    exact ⟨ks, fs1, hms⟩
   ·rw [if_neg hb] at hmk
    have hb' : ((s.base x : Int) != (nb : Int)) = true := by
     rw [bne_iff_ne]; omega
    cases hma : m x with
    | none => rw [hma] at hmk; cases hmk
    | some w =>
     rw [hma] at hmk
     have hw := hm hma
     simp only at hmk
     cases hp : upd par x (some child) w with
     | none => rw [hp] at hmk; cases hmk
     | some u =>
      rw [hp] at hmk
      obtain ⟨H2, ks2, hu2, fs2, hk2⟩ := fs1.mup (x := s.base x)
      obtain ⟨H3, ks3, hu3, fs3, hk3⟩ := fs2.mup (x := s.base w)
      obtain ⟨H4, hs4, fs4⟩ := fs3.stP (x := some child) hx
      rw [z92] at hs4
      have lb2 := fs2.lb hw
      simp only at lb2
      have lp := fs4.lp hw
      simp only [hp] at lp
      simp [t0, t1, t2, t3, fs1.f3, fs1.f5, lb, hx, hb', hu2, fs2.f5, fs2.f3, fs2.f1, fs2.lm hx, hma, hw, lb2, hu3, fs3.f2, hs4, fs4.f1, fs4.f2, fs4.lm hx, lp]
      exact ⟨f, by omega, u, w, _, _, hmk, ks3, zbw5 (zbw5 hms hk2) hk3, fs4, rfl, rfl⟩
  ·rw [if_neg hx] at hmk; cases hmk
end
end Go.Proofs.Ytcepchipgjpkhaa.Gr
namespace Go.Proofs.Ytcepchipgjpkhaa.Gr
open Go Go.AI
section
variable {FT : Nat -> Option FnD} {S : Nat -> Prop} {H0 H : Heap} {n : Nat} {c : FC} {m : Nat -> Option Nat} {s : St} {ks : List Nat}
theorem FS.congr {s' : St} (h : FS S H0 H n c m s ks) (hp : ∀ i, i < n -> s.par i = s'.par i) (hb : ∀ i, i < n -> s.base i = s'.base i) (hu : ∀ i, i < n -> s.used i = s'.used i) (hq : s.q = s'.q) : FS S H0 H n c m s' ks :=
 ⟨h.wf, h.fl, h.frz, h.own, h.ge, h.one, by obtain ⟨vq, g1, g2⟩ := h.gf; exact ⟨vq, g1, hq ▸ g2⟩, h.gm,
  by rw [h.gp]; unfold zi3; rw [z06 fun i hi => by rw [hp i hi]],
  by rw [h.gb]; unfold zay2; rw [z06 fun i hi => by rw [hb i hi]],
  by rw [h.gu]; unfold zau4; rw [z06 fun i hi => by rw [hu i hi]], h.gk⟩
def zd2 (s : St) (p2 : Nat -> Option Nat) (ms2 : Nat -> Bool) (nb i : Nat) : St :=
 {par := p2, base := fun j => if j < i /\ ms2 (s.base j) = true then nb else s.base j, used := fun j => s.used j || (decide (j < i) && ms2 (s.base j)), q := s.q ++ (List.range i).filter fun j => ms2 (s.base j) && !s.used j }
theorem zad5 {p : Nat -> Bool} {i n : Nat} (h : i <= n) : ((List.range i).filter p).length <= ((List.range n).filter p).length := by
 obtain ⟨k, rfl⟩ := Nat.exists_eq_add_of_le h
 rw [List.range_add, List.filter_append, List.length_append]; omega
theorem zby7 (h35 : FT 133 = some (.code A133)) (h40 : FT 155 = some (.code A155)) (h41 : FT 156 = some (.code A156)) (fs : FS S H0 H n c m s ks) (hn : n <= 1000000) (hm : ∀ {x w}, m x = some w -> w < n) {F a b : Nat} {s' : St} (h1 : zaf6 n m F a b s = some s') (hq : s'.q.length <= 1099511627776) :
  Cp FT 133 [.ptr c.f 0, .int .i64 a, .int .i64 b] H (fun _ H' => ∃ ks', FS S H0 H' n c m s' ks') := by
 unfold zaf6 at h1
 cases e1 : zan6 n m s F a (fun _ => false) with
 | none => rw [e1] at h1; cases h1
 | some ms =>
 rw [e1] at h1; simp only at h1
 cases e2 : seek n m s ms F b with
 | none => rw [e2] at h1; cases h1
 | some nb =>
 rw [e2] at h1; simp only at h1
 cases e3 : z96 n m s.base nb F a b s.par (fun _ => false) with
 | none => rw [e3] at h1; cases h1
 | some r1 =>
 obtain ⟨p1, ms1⟩ := r1
 rw [e3] at h1; simp only at h1
 cases e4 : z96 n m s.base nb F b a p1 ms1 with
 | none => rw [e4] at h1; cases h1
 | some r2 =>
 obtain ⟨p2, ms2⟩ := r2
 rw [e4] at h1; simp only at h1
 refine zb1 A133 h35 rfl ?_
 simp [A133]
 refine (zcf1 h40 fs hm e1 e2).mono ?_
 rintro r H1 ⟨rfl, k1, fs1⟩
 obtain ⟨H2, hc2, fs2⟩ := fs1.clr
 simp [fs1.f5, hc2]
 refine (zbx9 h41 fs2 hm (by simp) e3).mono ?_
 rintro r H3 ⟨k3, fs3, hk3⟩
 simp
 refine (zbx9 h41 (s := { s with par := p1 }) fs3 hm hk3 e4).mono ?_
 rintro r H4 ⟨k4, fs4, hk4⟩
 simp [fs4.f3]
 refine zb7 (fun f τ H' => ∃ i : Nat, i <= n /\ f = n - i /\ FS S H0 H' n c m (zd2 s p2 ms2 nb i) k4 /\ Env.at τ 0 = .ptr c.f 0 /\ Env.at τ 6 = .int .i64 nb /\ Env.at τ 30 = .int .i64 (n : Int) /\ Env.at τ 31 = .int .i64 (i : Int)) ?_ n _ _ ⟨0, by omega, rfl, fs4.congr (fun _ _ => rfl) (fun i _ => by simp [zd2]) (fun i _ => by simp [zd2]) (by simp [zd2]), by simp, by simp, by simp, by simp⟩
 rintro f τ H5 ⟨i, hi, rfl, fs5, t0, t6, t30, t31⟩
 simp only [zi9, zd3]
 by_cases hc : i < n
 ·have w : IntKind.i64.wrap ((i : Int) + 1) = ((i + 1 : Nat) : Int) := wrap64 (by omega) (by omega)
  have lb := fs5.lb hc
  have hbi : (zd2 s p2 ms2 nb i).base i = s.base i := by simp [zd2]
  have hui : (zd2 s p2 ms2 nb i).used i = s.used i := by simp [zd2]
  rw [hbi] at lb
  have hlk := fs5.look (x := s.base i)
  have go : ∀ {H'}, FS S H0 H' n c m (zd2 s p2 ms2 nb (i + 1)) k4 -> ∃ m', m' < n - i /\ ∃ j, j <= n /\ m' = n - j /\ FS S H0 H' n c m (zd2 s p2 ms2 nb j) k4 /\ (i : Int) + 1 = (j : Int) := fun q => ⟨_, by omega, i + 1, by omega, rfl, q, by simp⟩
  have bs1 : ms2 (s.base i) = true -> ∀ j, j < n -> upd (zd2 s p2 ms2 nb i).base i nb j = (zd2 s p2 ms2 nb (i + 1)).base j := by
   intro hms j _
   by_cases e : j = i
   ·subst e; simp [zd2, hms]
   ·rw [upd_ne e]
    have : j < i ↔ j < i + 1 := by omega
    simp [zd2, this]
  have bs0 : ms2 (s.base i) = false -> ∀ j, j < n -> (zd2 s p2 ms2 nb i).base j = (zd2 s p2 ms2 nb (i + 1)).base j := by
   intro hms j _
   by_cases e : j = i
   ·subst e; simp [zd2, hms]
   ·have : j < i ↔ j < i + 1 := by omega
    simp [zd2, this]
  have us0 : (ms2 (s.base i) = false \/ s.used i = true) -> ∀ j, j < n -> (zd2 s p2 ms2 nb i).used j = (zd2 s p2 ms2 nb (i + 1)).used j := by
   intro hms j _
   by_cases e : j = i
   ·subst e; rcases hms with hms | hms <;> simp [zd2, hms]
   ·have : j < i ↔ j < i + 1 := by omega
    simp [zd2, this]
  have us1 : ms2 (s.base i) = true -> ∀ j, j < n -> upd (zd2 s p2 ms2 nb i).used i true j = (zd2 s p2 ms2 nb (i + 1)).used j := by
   intro hms j _
   by_cases e : j = i
   ·subst e; simp [zd2, hms]
   ·rw [upd_ne e]
    have : j < i ↔ j < i + 1 := by omega
    simp [zd2, this]
  have q0 : (ms2 (s.base i) = false \/ s.used i = true) -> (zd2 s p2 ms2 nb i).q = (zd2 s p2 ms2 nb (i + 1)).q := by
   intro hms
   simp only [zd2, List.range_succ, List.filter_append]
   rcases hms with hms | hms <;> simp [hms]
  have q1 : ms2 (s.base i) = true -> s.used i = false -> (zd2 s p2 ms2 nb i).q ++ [i] = (zd2 s p2 ms2 nb (i + 1)).q := by
   intro hms hu
   simp only [zd2, List.range_succ, List.filter_append]
   simp [hms, hu]
  by_cases hin : s.base i ∈ k4
  ·have hms : ms2 (s.base i) = true := (hk4 _).2 hin
   rw [decide_eq_true hin] at hlk
   obtain ⟨H6, hs6, fs6⟩ := fs5.stB (x := nb) hc
   have lu := fs6.lu hc
   simp only [hui] at lu
   cases hu : s.used i with
   | true =>
    rw [hu] at lu
    simp [hc, t0, t6, t30, t31, fs5.f5, fs5.f3, lb, hlk, hs6, fs6.f4, lu, w]
    exact go (fs6.congr (fun _ _ => rfl) (bs1 hms) (us0 (.inr hu)) (q0 (.inr hu)))
   | false =>
    rw [hu] at lu
    obtain ⟨H7, hs7, fs7⟩ := fs6.stU (x := true) hc
    obtain ⟨vq, l6, q6, _⟩ := fs7.f6
    obtain ⟨vq', H8, ha8, H9, hs9, fs9⟩ := fs7.app (w := i) q6 (by
     cases h1
     have := zad5 (p := fun j => ms2 (s.base j) && !s.used j) hi
     simp only [List.length_append] at hq
     simp only [zd2, List.length_append]
     omega)
    simp [hc, t0, t6, t30, t31, fs5.f5, fs5.f3, lb, hlk, hs6, fs6.f4, lu, hs7, l6, ha8, hs9, w]
    exact go (fs9.congr (fun _ _ => rfl) (bs1 hms) (us1 hms) (q1 hms hu))
  ·have hms : ms2 (s.base i) = false := by
    cases hh : ms2 (s.base i) with
    | false => rfl
    | true => exact (hin ((hk4 _).1 hh)).elim
   rw [decide_eq_false hin] at hlk
   simp [hc, t0, t6, t30, t31, fs5.f5, fs5.f3, lb, hlk, w]
   exact go (fs5.congr (fun _ _ => rfl) (bs0 hms) (us0 (.inl hms)) (q0 (.inl hms)))
 ·have : i = n := by omega
  subst this
  cases h1
  simp [t0, t30, t31]
  refine ⟨k4, fs5.congr (fun _ _ => rfl) ?_ ?_ rfl⟩
  ·intro j hj; simp [zd2, hj]
  ·intro j hj; simp [zd2, hj]
end
end Go.Proofs.Ytcepchipgjpkhaa.Gr
namespace Go.Proofs.Ytcepchipgjpkhaa.Gr
open Go Go.AI
section
variable {FT : Nat -> Option FnD} {S : Nat -> Prop} {H0 H : Heap} {n : Nat} {c : FC} {m : Nat -> Option Nat} {s : St} {ks : List Nat}
def zl5 (s : St) (i : Nat) : St :=
 {par := fun j => if j < i then none else s.par j, base := fun j => if j < i then j else s.base j, used := fun j => if j < i then false else s.used j, q := s.q }
theorem zb34 (h34 : FT 132 = some (.code A132)) (fs : FS S H0 H n c m s ks) (hn : n <= 1000000) {root : Nat} (hr : root < n) :
  Cp FT 132 [.ptr c.f 0, .int .i64 root] H (fun _ H' => FS S H0 H' n c m (zj9 root) ks) := by
 refine zb1 A132 h34 rfl ?_
 simp [A132, fs.f1]
 refine zb7 (fun f τ H' => ∃ i : Nat, i <= n /\ f = n - i /\ FS S H0 H' n c m (zl5 s i) ks /\ Env.at τ 0 = .ptr c.f 0 /\ Env.at τ 1 = .int .i64 root /\ Env.at τ 9 = .int .i64 (n : Int) /\ Env.at τ 10 = .int .i64 (i : Int)) ?_ n _ _ ⟨0, by omega, rfl, fs.congr (fun i _ => by simp [zl5]) (fun i _ => by simp [zl5]) (fun i _ => by simp [zl5]) rfl, by simp, by simp, by simp, by simp⟩
 rintro f τ H1 ⟨i, hi, rfl, fs1, t0, t1, t9, t10⟩
 simp only [zi9, zd3]
 by_cases hc : i < n
 ·have w : IntKind.i64.wrap ((i : Int) + 1) = ((i + 1 : Nat) : Int) := wrap64 (by omega) (by omega)
  obtain ⟨H2, s2, fs2⟩ := fs1.stP (x := none) hc
  obtain ⟨H3, s3, fs3⟩ := fs2.stB (x := i) hc
  obtain ⟨H4, s4, fs4⟩ := fs3.stU (x := false) hc
  rw [zbf5] at s2
  simp [hc, t0, t9, t10, fs1.f2, fs1.f3, fs1.f4, s2, s3, s4, w]
  refine ⟨_, by omega, i + 1, by omega, rfl, fs4.congr ?_ ?_ ?_ rfl, t1, by simp⟩
  ·intro j _
   by_cases e : j = i
   ·subst e; simp [zl5]
   ·have : j < i ↔ j < i + 1 := by omega
    simp [zl5, upd_ne e, this]
  ·intro j _
   by_cases e : j = i
   ·subst e; simp [zl5]
   ·have : j < i ↔ j < i + 1 := by omega
    simp [zl5, upd_ne e, this]
  ·intro j _
   by_cases e : j = i
   ·subst e; simp [zl5]
   ·have : j < i ↔ j < i + 1 := by omega
    simp [zl5, upd_ne e, this]
 ·have : i = n := by omega
  subst this
  obtain ⟨H2, s2, fs2⟩ := fs1.stU (x := true) hr
  obtain ⟨vq, l6, q6, _⟩ := fs2.f6
  obtain ⟨v0, hc0, q0⟩ := q6.cut
  obtain ⟨vq', H8, ha8, H9, hs9, fs9⟩ := fs2.app (w := root) q0 (by simp)
  simp [t0, t1, t9, t10, fs1.f4, hr, s2, l6, hc0, ha8, hs9]
  refine fs9.congr ?_ ?_ ?_ rfl
  ·intro j hj; simp [zl5, zj9, hj]
  ·intro j hj; simp [zl5, zj9, hj]
  ·intro j hj
   by_cases e : j = root
   ·subst e; simp [zj9]
   ·simp [zl5, zj9, upd_ne e, hj, e]
theorem zcb6 (h25 : FT 101 = some (.code A101)) (fs : FS S H0 H n c m s ks) {F x : Nat} {m' : Nat -> Option Nat} (h1 : zah9 n s.par F x m = some m') :
  Cp FT 101 [.ptr c.f 0, .int .i64 x] H (fun _ H' => FS S H0 H' n c m' s ks) := by
 refine zb1 A101 h25 rfl ?_
 simp [A101]
 refine zb7 (fun f τ H' => ∃ (o : Option Nat) (m0 : Nat -> Option Nat), FS S H0 H' n c m0 s ks /\ Env.at τ 0 = .ptr c.f 0 /\ Env.at τ 1 = .int .i64 (oi o) /\ (match o with | none => m0 = m' | some x => zah9 n s.par f x m0 = some m')) ?_ F _ _ ⟨some x, m, fs, by simp, by simp, h1⟩
 rintro f τ H1 ⟨o, m0, fs1, t0, t1, ho⟩
 simp only [zi9, zd3]
 cases o with
 | none =>
  simp only at ho; subst ho
  simp [t0, t1]
  exact fs1
 | some x =>
  simp only at ho
  cases f with
  | zero => cases ho
  | succ f =>
   unfold zah9 at ho
   by_cases hx : x < n
   ·rw [if_pos hx] at ho
    cases hp : s.par x with
    | none => rw [hp] at ho; cases ho
    | some p =>
     rw [hp] at ho; simp only at ho
     by_cases hpn : p < n
     ·rw [if_pos hpn] at ho
      obtain ⟨H2, s2, fs2⟩ := fs1.stM (x := some p) hx
      obtain ⟨H3, s3, fs3⟩ := fs2.stM (x := some x) hpn
      rw [z92] at s2 s3
      cases ha : m0 p with
      | none =>
       rw [ha] at ho; simp only [Option.some.injEq] at ho
       simp [t0, t1, fs1.f2, fs1.lp hx, hx, hp, fs1.f1, fs1.lm hpn, hpn, ha, s2, s3]
       exact ⟨f, by omega, none, _, fs3, rfl, ho⟩
      | some a =>
       rw [ha] at ho; simp only at ho
       simp [t0, t1, fs1.f2, fs1.lp hx, hx, hp, fs1.f1, fs1.lm hpn, hpn, ha, s2, s3]
       exact ⟨f, by omega, some a, _, fs3, rfl, ho⟩
     ·rw [if_neg hpn] at ho; cases ho
   ·rw [if_neg hx] at ho; cases ho
end
end Go.Proofs.Ytcepchipgjpkhaa.Gr
namespace Go.Proofs.Ytcepchipgjpkhaa.Gr
open Go Go.AI
@[simp high] theorem Wo_quiet_build {FT : Nat -> Option FnD} {τ : Env} {H : Heap} {Q : Post} {dst : Option Nat} {sz len : Nat} {zero : List AV} {parts : List (Nat × Nat × Opd)} {rest : List zb6} :
  Wo FT (⟨dst, .buildSlice sz len zero parts, none, true, []⟩ :: rest) τ H Q ↔ opK FT dst rest τ Q (zb2 (ev τ) H (.buildSlice sz len zero parts)) := by
 rw [zv2 (by intros; simp)]
 have : (zf0 true H fun H => zb2 (ev τ) H (.buildSlice sz len zero parts)) = zb2 (ev τ) H (.buildSlice sz len zero parts) := by
  rw [zm5]
  simp only [zaq2]
  cases Nat.beq zero.length (len * sz) with
  | false => rfl
  | true => cases zh0 (ev τ) zero parts <;> rfl
 rw [this]
def Nx (S : Nat -> Prop) (H0 : Heap) (v : AV) (n : Nat) (next : Nat -> List Nat) : Prop :=
 ∃ on lo ex vals, v = .slc on 0 n 1 lo ex /\ S on /\ H0.get on = some (.cells (arr n vals)) /\ ∀ i, i < n -> (vals i = .nils /\ next i = []) \/ ∃ o off lo ex cs, vals i = .slc o off (next i).length 1 lo ex /\ S o /\ H0.get o = some (.cells cs) /\ ∀ (j x : Nat), (next i)[j]? = some x -> cs[off + j]? = some (.int .i64 (x : Int))
section
variable {FT : Nat -> Option FnD} {S : Nat -> Prop} {H0 H : Heap} {n : Nat} {c : FC} {m : Nat -> Option Nat} {s : St} {ks : List Nat} {next : Nat -> List Nat}
theorem Nx.row {v : AV} (h : Nx S H0 v n next) {i : Nat} (hi : i < n) : ∃ p row, zd7 1 v (.int .i64 i) = some p /\ lenA row = some (.int .i64 ((next i).length : Int)) /\ (∀ {H c m s ks}, FS S H0 H n c m s ks -> za9 H none p = some row) /\
  ∀ {j x : Nat}, (next i)[j]? = some x -> ∃ p', zd7 1 row (.int .i64 j) = some p' /\ ∀ {H c m s ks}, FS S H0 H n c m s ks -> za9 H none p' = some (.int .i64 (x : Int)) := by
 obtain ⟨on, lo, ex, vals, rfl, h1, h2, h3⟩ := h
 refine ⟨.ptr on i, vals i, ?_, ?_, ?_, ?_⟩
 ·rw [zf2, if_pos ⟨by omega, by omega, rfl⟩]; simp
 ·rcases h3 i hi with ⟨k1, k2⟩ | ⟨o, off, lo, ex, cs, k1, _⟩
  ·rw [k1, k2]; rfl
  ·rw [k1]; rfl
 ·intro H c m s ks fs
  exact za1 (by rw [(fs.frz on h1).1]; exact h2) (zp5 hi)
 ·intro j x hx
  rcases h3 i hi with ⟨k1, k2⟩ | ⟨o, off, lo, ex, cs, k1, k2, k3, k4⟩
  ·rw [k2] at hx; cases hx
  ·have hj := (List.getElem?_eq_some_iff.1 hx).1
   refine ⟨.ptr o (off + j), ?_, fun fs => za1 (by rw [(fs.frz o k2).1]; exact k3) (k4 j x hx)⟩
   rw [k1, zf2, if_pos ⟨by omega, by omega, rfl⟩]; simp
theorem za78 {F a b : Nat} {s' : St} (h : zaf6 n m F a b s = some s') : s.q.length <= s'.q.length := by
 unfold zaf6 at h
 cases e1 : zan6 n m s F a (fun _ => false) with
 | none => rw [e1] at h; cases h
 | some ms =>
 rw [e1] at h; simp only at h
 cases e2 : seek n m s ms F b with
 | none => rw [e2] at h; cases h
 | some nb =>
 rw [e2] at h; simp only at h
 cases e3 : z96 n m s.base nb F a b s.par (fun _ => false) with
 | none => rw [e3] at h; cases h
 | some r1 =>
 obtain ⟨p1, ms1⟩ := r1
 rw [e3] at h; simp only at h
 cases e4 : z96 n m s.base nb F b a p1 ms1 with
 | none => rw [e4] at h; cases h
 | some r2 =>
 obtain ⟨p2, ms2⟩ := r2
 rw [e4] at h; simp only at h
 cases h
 simp
theorem zo8 {root F a : Nat} : ∀ {ts : List Nat} {s s' : St} {r : Option Nat}, scan n m root F a ts s = some (r, s') -> s.q.length <= s'.q.length
 | [], s, s', r, h => by cases h; exact Nat.le_refl _
 | t :: ts, s, s', r, h => by
  unfold scan at h
  by_cases h1 : zai0 m s a t = true
  ·rw [if_pos h1] at h; exact zo8 h
  rw [if_neg h1] at h
  by_cases h2 : zr5 m s root t = true
  ·rw [if_pos h2] at h
   cases e : zaf6 n m F a t s with
   | none => rw [e] at h; cases h
   | some s2 => rw [e] at h; exact Nat.le_trans (za78 e) (zo8 h)
  rw [if_neg h2] at h
  cases hp : s.par t with
  | some u => rw [hp] at h; exact zo8 h
  | none =>
   rw [hp] at h; simp only at h
   cases hw : m t with
   | none => rw [hw] at h; cases h; exact Nat.le_refl _
   | some w =>
    rw [hw] at h
    have := zo8 h
    simp only [push, reach, List.length_append] at this
    omega
set_option maxRecDepth 20000 in
theorem zcg4 (h24 : FT 100 = some (.code A100)) (h34 : FT 132 = some (.code A132)) (h35 : FT 133 = some (.code A133)) (h40 : FT 155 = some (.code A155)) (h41 : FT 156 = some (.code A156)) (fs : FS S H0 H n c m s ks) (nx : Nx S H0 c.vn n next) (hn : n <= 1000000) (hm : ∀ {x w}, m x = some w -> w < n) (hnx : ∀ {x y}, y ∈ next x -> y < n) (hnl : ∀ x, (next x).length <= 1099511627776)
  {root F : Nat} (hr : root < n) {r : Option Nat} {s' : St} (h1 : zas1 n m next root F F (zj9 root) = some (r, s')) :
  Cp FT 100 [.ptr c.f 0, .int .i64 root] H (fun v H' => v = .int .i64 (oi r) /\ ∃ ks', FS S H0 H' n c m s' ks') := by
 refine zb1 A100 h24 rfl ?_
 simp [A100]
 refine (zb34 h34 fs hn hr).mono ?_
 rintro _ H1 fs1
 simp
 refine zb7 (fun f τ H' => ∃ (s0 : St) (ks0 : List Nat), zas1 n m next root F f s0 = some (r, s') /\ FS S H0 H' n c m s0 ks0 /\ Env.at τ 0 = .ptr c.f 0 /\ Env.at τ 1 = .int .i64 root) ?_ F _ _ ⟨zj9 root, ks, h1, fs1, by simp, by simp⟩
 rintro f τ H2 ⟨s0, ks0, hf, fs2, t0, t1⟩
 simp only [zi9, zd3]
 cases f with
 | zero => cases hf
 | succ f =>
  unfold zas1 at hf
  obtain ⟨vq, l6, q6, _⟩ := fs2.f6
  have lq := q6.len
  cases hq : s0.q with
  | nil =>
   rw [hq] at hf; simp only [Option.some.injEq, Prod.mk.injEq] at hf
   obtain ⟨rfl, rfl⟩ := hf
   rw [hq] at lq
   simp [t0, l6, lq]
   exact ⟨ks0, fs2⟩
  | cons a q =>
   rw [hq] at hf; simp only at hf
   by_cases ha : a < n
   ·rw [if_pos ha] at hf
    cases hsc : scan n m root F a (next a) { s0 with q := q } with
    | none => rw [hsc] at hf; cases hf
    | some r2 =>
     obtain ⟨r2, s2⟩ := r2
     rw [hsc] at hf; simp only at hf
     by_cases hql : s2.q.length <= 1000000
     ·rw [if_pos hql] at hf
      rw [hq] at lq q6
      have lq0 : ((q.length : Int) + 1 > 0) := by omega
      obtain ⟨p, v1, i1, i2, i3, q1⟩ := q6.pop
      obtain ⟨H3, s3, fs3⟩ := fs2.reQ fs2.wf rfl (Nat.le_refl _) (fun _ _ => rfl) (fun _ _ => rfl) q1
      obtain ⟨pr, row, r1, rl, r3, r4⟩ := nx.row ha
      simp [t0, l6, lq, lq0, i1, i2, i3, s3, fs3.f0, r1, rl, r3 fs3]
      refine zb7 (fun g τ H' => ∃ (j : Nat) (s1 : St) (ks1 : List Nat), j <= (next a).length /\ g = (next a).length - j /\ scan n m root F a ((next a).drop j) s1 = some (r2, s2) /\ FS S H0 H' n c m s1 ks1 /\ Env.at τ 0 = .ptr c.f 0 /\ Env.at τ 1 = .int .i64 root /\ Env.at τ 5 = .int .i64 a /\ Env.at τ 37 = row /\ Env.at τ 38 = .int .i64 ((next a).length : Int) /\ Env.at τ 39 = .int .i64 (j : Int)) ?_ (next a).length _ _ ⟨0, _, ks0, by omega, rfl, hsc, fs3, by simp [t0], by simp [t1], by simp, by simp, by simp, by simp⟩
      rintro g τ H4 ⟨j, s1, ks1, hj, rfl, hs1, fs4, t0, t1, t5, t37, t38, t39⟩
      simp only [zi9, zd3]
      by_cases hc : j < (next a).length
      ·have hnla := hnl a
       have w : IntKind.i64.wrap ((j : Int) + 1) = ((j + 1 : Nat) : Int) := wrap64 (by omega) (by omega)
       have hget : (next a)[j]? = some (next a)[j] := List.getElem?_eq_getElem hc
       rw [List.drop_eq_getElem_cons hc] at hs1
       generalize (next a)[j] = t at hget hs1
       have htn : t < n := hnx (List.mem_of_getElem? hget)
       obtain ⟨p', x1, x2⟩ := r4 hget
       have x2 := x2 fs4
       unfold scan at hs1
       have go : ∀ {H' s1 ks1}, scan n m root F a ((next a).drop (j + 1)) s1 = some (r2, s2) -> FS S H0 H' n c m s1 ks1 -> ∃ m', m' < (next a).length - j /\ ∃ j', j' <= (next a).length /\ m' = (next a).length - j' /\ ∃ s1, scan n m root F a ((next a).drop j') s1 = some (r2, s2) /\ (∃ ks1, FS S H0 H' n c m s1 ks1) /\ (j : Int) + 1 = (j' : Int) := fun {H' s1 ks1} h1 h2 => ⟨_, by omega, j + 1, by omega, rfl, s1, h1, ⟨ks1, h2⟩, by simp⟩
       by_cases b1 : s1.base a = s1.base t
       ·have hsk : zai0 m s1 a t = true := by simp [zai0, b1]
        rw [if_pos hsk] at hs1
        simp [hc, t0, t1, t5, t37, t38, t39, x1, x2, fs4.f3, fs4.lb ha, ha, fs4.lb htn, htn, b1, w]
        exact go hs1 fs4
       have b1' : ((s1.base a : Int) == (s1.base t : Int)) = false := by rw [beq_eq_false_iff_ne]; omega
       by_cases b2 : m a = some t
       ·have hsk : zai0 m s1 a t = true := by simp [zai0, b2]
        rw [if_pos hsk] at hs1
        simp [hc, t0, t1, t5, t37, t38, t39, x1, x2, fs4.f3, fs4.lb ha, ha, fs4.lb htn, htn, b1', fs4.f1, fs4.lm ha, b2, w]
        exact go hs1 fs4
       have b2' : (oi (m a) == (t : Int)) = false := by
        rw [beq_eq_false_iff_ne]
        cases hma : m a with
        | none => rw [zbf5]; omega
        | some x => rw [z92]; intro e; exact b2 (by rw [hma]; congr 1; omega)
       have hsk : ¬ zai0 m s1 a t = true := by simp [zai0, b1, b2]
       rw [if_neg hsk] at hs1
       by_cases b3 : t = root
       ·subst b3
        have hri : zr5 m s1 t t = true := by simp [zr5]
        rw [if_pos hri] at hs1
        cases hd : zaf6 n m F a t s1 with
        | none => rw [hd] at hs1; cases hs1
        | some s5 =>
         rw [hd] at hs1; simp only at hs1
         simp [hc, t0, t1, t5, t37, t38, t39, x1, x2, fs4.f3, fs4.lb ha, ha, fs4.lb htn, htn, b1', fs4.f1, fs4.lm ha, b2']
         refine (zby7 h35 h40 h41 fs4 hn hm hd (by have := zo8 hs1; omega)).mono ?_
         rintro _ H5 ⟨ks5, fs5⟩
         simp [t0, t1, t5, t37, t38, t39, w]
         exact go hs1 fs5
       have b3' : ((t : Int) == (root : Int)) = false := by rw [beq_eq_false_iff_ne]; omega
       cases hw : m t with
       | none =>
        have hri : ¬ zr5 m s1 root t = true := by simp [zr5, b3, hw]
        rw [if_neg hri] at hs1
        cases hp : s1.par t with
        | some u =>
         rw [hp] at hs1; simp only at hs1
         simp [hc, t0, t1, t5, t37, t38, t39, x1, x2, fs4.f3, fs4.lb ha, ha, fs4.lb htn, htn, b1', fs4.f1, fs4.lm ha, b2', b3', fs4.lm htn, hw, fs4.f2, fs4.lp htn, hp, w]
         exact go hs1 fs4
        | none =>
         rw [hp, hw] at hs1
         simp only [Option.some.injEq, Prod.mk.injEq] at hs1
         obtain ⟨rfl, rfl⟩ := hs1
         simp only [Option.some.injEq, Prod.mk.injEq] at hf
         obtain ⟨rfl, rfl⟩ := hf
         obtain ⟨H5, s5, fs5⟩ := fs4.stP (x := some a) htn
         rw [z92] at s5
         simp [hc, t0, t1, t5, t37, t38, t39, x1, x2, fs4.f3, fs4.lb ha, ha, fs4.lb htn, htn, b1', fs4.f1, fs4.lm ha, b2', b3', fs4.lm htn, hw, fs4.f2, fs4.lp htn, hp, s5, fs5.f1, fs5.lm htn]
         exact ⟨ks1, fs5⟩
       | some x =>
        have hxn : x < n := hm hw
        cases hpx : s1.par x with
        | some u =>
         have hri : zr5 m s1 root t = true := by simp [zr5, hw, hpx]
         rw [if_pos hri] at hs1
         cases hd : zaf6 n m F a t s1 with
         | none => rw [hd] at hs1; cases hs1
         | some s5 =>
          rw [hd] at hs1; simp only at hs1
          simp [hc, t0, t1, t5, t37, t38, t39, x1, x2, fs4.f3, fs4.lb ha, ha, fs4.lb htn, htn, b1', fs4.f1, fs4.lm ha, b2', b3', fs4.lm htn, hw, fs4.f2, fs4.lp hxn, hxn, hpx]
          refine (zby7 h35 h40 h41 fs4 hn hm hd (by have := zo8 hs1; omega)).mono ?_
          rintro _ H5 ⟨ks5, fs5⟩
          simp [t0, t1, t5, t37, t38, t39, w]
          exact go hs1 fs5
        | none =>
         have hri : ¬ zr5 m s1 root t = true := by simp [zr5, b3, hw, hpx]
         rw [if_neg hri] at hs1
         cases hp : s1.par t with
         | some u =>
          rw [hp] at hs1; simp only at hs1
          simp [hc, t0, t1, t5, t37, t38, t39, x1, x2, fs4.f3, fs4.lb ha, ha, fs4.lb htn, htn, b1', fs4.f1, fs4.lm ha, b2', b3', fs4.lm htn, hw, fs4.f2, fs4.lp hxn, hxn, hpx, fs4.lp htn, hp, w]
          exact go hs1 fs4
         | none =>
          rw [hp, hw] at hs1; simp only at hs1
          have hmono := zo8 hs1
          simp only [push, reach, List.length_append] at hmono
          obtain ⟨H5, s5, fs5⟩ := fs4.stP (x := some a) htn
          rw [z92] at s5
          obtain ⟨H6, s6, fs6⟩ := fs5.stU (x := true) hxn
          obtain ⟨vq6, l6, q6, _⟩ := fs6.f6
          obtain ⟨vq7, H7, ha7, H8, hs8, fs8⟩ := fs6.app (w := x) q6 (by simp only; omega)
          simp [hc, t0, t1, t5, t37, t38, t39, x1, x2, fs4.f3, fs4.lb ha, ha, fs4.lb htn, htn, b1', fs4.f1, fs4.lm ha, b2', b3', fs4.lm htn, hw, fs4.f2, fs4.lp hxn, hxn, hpx, fs4.lp htn, hp, s5, fs5.f1, fs5.lm htn, fs5.f4, s6, l6, fs6.f1, fs6.lm htn, ha7, hs8, w]
          exact go hs1 fs8
      ·have : j = (next a).length := by omega
       subst this
       rw [List.drop_length] at hs1
       cases hs1
       simp [t0, t1, t37, t38, t39]
       exact ⟨f, by omega, _, hf, _, fs4⟩
     ·rw [if_neg hql] at hf; cases hf
   ·rw [if_neg ha] at hf; cases hf
end
end Go.Proofs.Ytcepchipgjpkhaa.Gr
