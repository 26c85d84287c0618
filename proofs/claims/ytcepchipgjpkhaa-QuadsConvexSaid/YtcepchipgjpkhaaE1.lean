/- The relation between abstract values and memory and the machine's, through a placement of the objects. No claim by itself. -/
import Derived.Test.YtcepchipgjpkhaaE0
import Derived.Laws.Sem
import Derived.Laws.World
import Derived.Orders
namespace Go.AI
variable {G : World -> Prop}
structure Loc where
 blk : Nat
 base : Nat
 size : Nat
abbrev Pl := Nat -> Option Loc
def Pl.le (φ φ' : Pl) : Prop := ∀ o L, φ o = some L -> φ' o = some L
theorem Pl.le_refl (φ : Pl) : φ.le φ := fun _ _ h => h
theorem Pl.le_trans {a b c : Pl} (h : a.le b) (k : b.le c) : a.le c := fun o L e => k o L (h o L e)
def zd0 (b : ByteArray) : List Nat := b.data.toList.map UInt8.toNat
mutual
inductive zc3 (φ : Pl) : AV -> Value -> Prop
 | bool (b : Bool) : zc3 φ (.bool b) (.bool b)
 | int (k : IntKind) (n : Int) : zc3 φ (.int k n) (.int k n)
 | str (b : ByteArray) : zc3 φ (.str (zd0 b)) (.string b)
 | nilp : zc3 φ .nilp (.pointer none)
 | ptr (o off : Nat) (L : Loc) (h : φ o = some L) : zc3 φ (.ptr o off) (.pointer (some ⟨L.blk, L.base + off, none⟩))
 | nils : zc3 φ .nils (.slice none 0 0)
 | slc (o off len e lo : Nat) (ex : Bool) (L : Loc) (cap : Nat) (h : φ o = some L) (hn : len <= lo) (hc : lo <= cap) (hx : ex = true -> cap = lo) (hs : L.base + off + cap * e <= L.size) :
   zc3 φ (.slc o off len e lo ex) (.slice (some ⟨L.blk, L.base + off, none⟩) len cap)
 | slc0 (o off e : Nat) (ex : Bool) (a : Addr) : zc3 φ (.slc o off 0 e 0 ex) (.slice (some a) 0 0)
 | nilm : zc3 φ .nilm (.map none)
 | map (o : Nat) (L : Loc) (h : φ o = some L) : zc3 φ (.map o) (.map (some L.blk))
 | nilf : zc3 φ .nilf .nilFunc
 | fn (f : Nat) (first captured : List AV) (fs cs : Array Value) (hf : zg4 φ first fs.toList) (hc : zg4 φ captured cs.toList) : zc3 φ (.fn f first captured) (.func (.func f) fs cs)
 | agg (cs : List AV) (vs : Array Value) (h : zg4 φ cs vs.toList) : zc3 φ (.agg cs) (.agg vs)
 | tup (cs : List AV) (vs : Array Value) (h : zg4 φ cs vs.toList) : zc3 φ (.tup cs) (.tuple vs)
 | nili : zc3 φ .nili .nilIface
inductive zg4 (φ : Pl) : List AV -> List Value -> Prop
 | nil : zg4 φ [] []
 | cons {a : AV} {v : Value} {as : List AV} {vs : List Value} (h : zc3 φ a v) (t : zg4 φ as vs) : zg4 φ (a :: as) (v :: vs)
end
mutual
theorem zc3.mono {φ φ' : Pl} (h : φ.le φ') : ∀ {a : AV} {v : Value}, zc3 φ a v -> zc3 φ' a v
 | _, _, .bool b => .bool b
 | _, _, .int k n => .int k n
 | _, _, .str b => .str b
 | _, _, .nilp => .nilp
 | _, _, .ptr o off L e => .ptr o off L (h _ _ e)
 | _, _, .nils => .nils
 | _, _, .slc o off len e lo ex L cap q a b c d => .slc o off len e lo ex L cap (h _ _ q) a b c d
 | _, _, .slc0 o off e ex a => .slc0 o off e ex a
 | _, _, .nilm => .nilm
 | _, _, .map o L e => .map o L (h _ _ e)
 | _, _, .nilf => .nilf
 | _, _, .fn f a b c d x y => .fn f a b c d (x.mono h) (y.mono h)
 | _, _, .agg a b x => .agg a b (x.mono h)
 | _, _, .tup a b x => .tup a b (x.mono h)
 | _, _, .nili => .nili
theorem zg4.mono {φ φ' : Pl} (h : φ.le φ') : ∀ {a : List AV} {v : List Value}, zg4 φ a v -> zg4 φ' a v
 | _, _, .nil => .nil
 | _, _, .cons x y => .cons (x.mono h) (y.mono h)
end
theorem zc3.undef (φ : Pl) : zc3 φ zb8 undef := .tup [] #[] .nil
namespace zg4
variable {φ : Pl}
theorem len : ∀ {as : List AV} {vs : List Value}, zg4 φ as vs -> as.length = vs.length
 | _, _, .nil => rfl
 | _, _, .cons _ t => by simp [t.len]
theorem getE : ∀ {as : List AV} {vs : List Value}, zg4 φ as vs -> ∀ {i : Nat} {a : AV}, as[i]? = some a -> ∃ v, vs[i]? = some v /\ zc3 φ a v
 | _, _, .nil, i, a, h => by simp at h
 | _, _, .cons x t, 0, a, h => by simp at h; subst h; exact ⟨_, by simp, x⟩
 | _, _, .cons x t, i + 1, a, h => by simp at h; obtain ⟨v, h1, h2⟩ := t.getE h; exact ⟨v, by simpa using h1, h2⟩
theorem ofGet : ∀ {as : List AV} {vs : List Value}, as.length = vs.length -> (∀ (i : Nat) (a : AV) (v : Value), as[i]? = some a -> vs[i]? = some v -> zc3 φ a v) -> zg4 φ as vs
 | [], [], _, _ => .nil
 | [], _ :: _, h, _ => by simp at h
 | _ :: _, [], h, _ => by simp at h
 | a :: as, v :: vs, h, g => .cons (g 0 a v rfl rfl) (ofGet (by simpa using h) fun i a v h1 h2 => g (i + 1) a v (by simpa using h1) (by simpa using h2))
theorem append {as bs : List AV} {vs us : List Value} (h : zg4 φ as vs) (k : zg4 φ bs us) : zg4 φ (as ++ bs) (vs ++ us) := by
 induction as generalizing vs with
 | nil => cases h; exact k
 | cons a as ih => cases h with | cons x t => exact .cons x (ih t)
theorem take {as : List AV} {vs : List Value} (h : zg4 φ as vs) (n : Nat) : zg4 φ (as.take n) (vs.take n) := by
 induction as generalizing vs n with
 | nil => cases h; simp; exact .nil
 | cons a as ih => cases h with | cons x t => cases n with | zero => simp; exact .nil | succ n => simp; exact .cons x (ih t n)
theorem drop {as : List AV} {vs : List Value} (h : zg4 φ as vs) (n : Nat) : zg4 φ (as.drop n) (vs.drop n) := by
 induction as generalizing vs n with
 | nil => cases h; simp; exact .nil
 | cons a as ih => cases h with | cons x t => cases n with | zero => simp; exact .cons x t | succ n => simp; exact ih t n
theorem set {as : List AV} {vs : List Value} (h : zg4 φ as vs) (n : Nat) {a : AV} {v : Value} (x : zc3 φ a v) : zg4 φ (as.set n a) (vs.set n v) := by
 induction as generalizing vs n with
 | nil => cases h; simp; exact .nil
 | cons b as ih => cases h with | cons y t => cases n with | zero => simp; exact .cons x t | succ n => simp; exact .cons y (ih t n)
theorem replicate {a : AV} {v : Value} (x : zc3 φ a v) (n : Nat) : zg4 φ (List.replicate n a) (List.replicate n v) := by
 induction n with
 | zero => simp; exact .nil
 | succ n ih => simp [List.replicate_succ]; exact .cons x ih
theorem mapL {α : Type} (l : List α) (f : α -> AV) (g : α -> Value) (h : ∀ x ∈ l, zc3 φ (f x) (g x)) : zg4 φ (l.map f) (l.map g) := by
 induction l with
 | nil => simp; exact .nil
 | cons x l ih => simp; exact .cons (h x (by simp)) (ih fun y hy => h y (by simp [hy]))
theorem setSeg {as bs : List AV} {vs us : List Value} (h : zg4 φ as vs) (k : zg4 φ bs us) (n : Nat) : zg4 φ (AI.setSeg as n bs) (vs.take n ++ us ++ vs.drop (n + us.length)) := by
 unfold AI.setSeg; rw [k.len]; exact ((h.take n).append k).append (h.drop _)
end zg4
theorem zc3.cells {φ : Pl} {a : AV} {v : Value} (h : zc3 φ a v) (hn : za5 a.cells = true) : zg4 φ a.cells v.cells.toList := by
 cases h <;> first
  | exact .cons (by constructor <;> assumption) .nil
  | (simp [AV.cells, za5, AV.one] at hn; done)
  | (simp only [AV.cells, Value.cells]; assumption)
theorem zc3.oneCell {φ : Pl} {a : AV} {v : Value} (h : zc3 φ a v) (hn : a.one = true) : v.oneCell' = true := by
 cases h <;> simp_all [AV.one, Value.oneCell']
theorem zg4.oneCells {φ : Pl} {as : List AV} {vs : List Value} (h : zg4 φ as vs) (hn : za5 as = true) : ∀ v ∈ vs, v.oneCell' = true := by
 induction as generalizing vs with
 | nil => cases h; simp
 | cons a as ih =>
  cases h with
  | cons x t =>
   simp only [za5, List.all_cons, Bool.and_eq_true] at hn
   intro v hv
   rcases List.mem_cons.1 hv with rfl | hv
   ·exact x.oneCell hn.1
   ·exact ih t hn.2 v hv
def At (φ : Pl) (w : World) (L : Loc) (cs : List AV) : Prop := ∀ i a, cs[i]? = some a -> ∃ u, w.cell? ⟨L.blk, L.base + i, none⟩ = some u /\ zc3 φ a u
def Own (w : World) (L : Loc) : Prop :=
 ∃ c t fz, w.heap[L.blk]? = some (.cells c t fz) /\ c.size = L.size /\ (fz.1 = fz.2 \/ L.size <= fz.1)
def zn3 (φ : Pl) : List (AV × AV) -> List MapEntry -> Prop
 | [], [] => True
 | (k, v) :: es, e :: fs => zc3 φ k e.key /\ zc3 φ v e.val /\ zn3 φ es fs
 | _, _ => False
structure Stamped (l : List MapEntry) (clock : Nat) : Prop where
 lt : ∀ e, e ∈ l -> e.born < clock
 nd : (l.map (·.born)).Nodup
def ORel (φ : Pl) (w : World) (B o : Nat) (L : Loc) : zo4 -> Prop
 | .cells cs => At φ w L cs /\ L.base + cs.length <= L.size /\ (B <= o -> Own w L)
 | .map es => ∃ ents clock, w.heap[L.blk]? = some (.map ents clock) /\ zn3 φ es ents.toList /\ Stamped ents.toList clock
 | .siter s pos => ∃ b, w.heap[L.blk]? = some (.stringIter b pos) /\ zd0 b = s /\ L.base = 0
 | .dead => True
 | .bld T none => ∃ p, w.heap[L.blk]? = some (.cells #[p, .slice none 0 0] T (0, 0)) /\ (p = .pointer none \/ p = .pointer (some ⟨L.blk, 0, none⟩)) /\ L.base = 0
 | .bld T (some (q, n)) => ∃ p Lq, φ q = some Lq /\ w.heap[L.blk]? = some (.cells #[p, .slice (some ⟨Lq.blk, 0, none⟩) n Lq.size] T (0, 0)) /\ (p = .pointer none \/ p = .pointer (some ⟨L.blk, 0, none⟩)) /\ L.base = 0
 | .buf E bs => ∃ cur, ∃ l : List UInt8, w.heap[L.blk]? = some (.cells cur E (0, 0)) /\ L.base = 0 /\ cur.size = L.size /\ L.size <= 9223372036854775807 /\ bs.length <= L.size /\ bs = l.map UInt8.toNat /\ cur.toList.take bs.length = l.map fun x => Value.int .u8 x.toNat
def live (H : Heap) (o : Nat) : Prop := ∃ x, H.get o = some x /\ x ≠ .dead
structure zc7 (G : World -> Prop) (B W Z : Nat) (φ : Pl) (H : Heap) (w : World) : Prop where
 fl : B <= H.floor
 fn : H.floor <= H.next
 wsz : W <= w.heap.size
 dom : ∀ o L, φ o = some L -> o < H.next \/ Z <= o
 fresh : ∀ o, H.next <= o -> H.get o = none
 obj : ∀ o L x, φ o = some L -> H.get o = some x -> ORel φ w B o L x
 low : ∀ o L, φ o = some L -> o < B -> L.blk < W
 high : ∀ o L, φ o = some L -> B <= o -> live H o -> W <= L.blk
 inj : ∀ o o' L L', φ o = some L -> φ o' = some L' -> B <= o -> B <= o' -> live H o -> live H o' -> L.blk = L'.blk -> o = o'
 good : ∀ w' : World, (∀ b, b < W -> w'.heap[b]? = w.heap[b]?) -> G w'
structure Step (φ : Pl) (H : Heap) (w : World) (φ' : Pl) (H' : Heap) (w' : World) : Prop where
 ext : φ.le φ'
 new : ∀ o L, φ' o = some L -> φ o = none -> H.next <= o /\ o < H'.next
 next : H.next <= H'.next
 floor : H'.floor = H.floor
 os : w'.os = w.os
 tape : w'.tape = w.tape
 output : w'.output = w.output
 size : w.heap.size <= w'.heap.size
 kept : ∀ b, b < w.heap.size -> (∀ o L, H.floor <= o -> φ o = some L -> live H o -> L.blk ≠ b) -> w'.heap[b]? = w.heap[b]?
 made : ∀ o L, H.floor <= o -> φ' o = some L -> live H' o -> w.heap.size <= L.blk \/ ∃ o1 L1, H.floor <= o1 /\ φ o1 = some L1 /\ live H o1 /\ L1.blk = L.blk
 low : ∀ o, o < H.floor -> H'.get o = H.get o
 drawn : w.drawn <= w'.drawn
theorem Step.refl (φ : Pl) (H : Heap) (w : World) : Step φ H w φ H w where
 ext := Pl.le_refl φ
 new := fun o L h k => by rw [h] at k; cases k
 next := Nat.le_refl _
 floor := rfl
 os := rfl
 tape := rfl
 output := rfl
 size := Nat.le_refl _
 kept := fun _ _ _ => rfl
 made := fun o L h k l => .inr ⟨o, L, h, k, l, rfl⟩
 low := fun _ _ => rfl
 drawn := Nat.le_refl _
theorem Step.trans {φ1 φ2 φ3 : Pl} {H1 H2 H3 : Heap} {w1 w2 w3 : World} (a : Step φ1 H1 w1 φ2 H2 w2) (b : Step φ2 H2 w2 φ3 H3 w3) : Step φ1 H1 w1 φ3 H3 w3 where
 ext := Pl.le_trans a.ext b.ext
 new := fun o L h k => by
  cases e : φ2 o with
  | none => have h1 := b.new o L h e; have h2 := a.next; exact ⟨by omega, h1.2⟩
  | some L2 => have h1 := a.new o L2 e k; have h2 := b.next; exact ⟨h1.1, by omega⟩
 next := Nat.le_trans a.next b.next
 floor := b.floor.trans a.floor
 os := b.os.trans a.os
 tape := b.tape.trans a.tape
 output := b.output.trans a.output
 size := Nat.le_trans a.size b.size
 kept := fun k hk hn => by
  rw [b.kept k (Nat.lt_of_lt_of_le hk a.size), a.kept k hk hn]
  intro o L ho hL hl e
  rw [a.floor] at ho
  rcases a.made o L ho hL hl with h | ⟨o1, L1, h1, h2, h3, h4⟩
  ·omega
  ·exact hn o1 L1 h1 h2 h3 (h4.trans e)
 made := fun o L ho hL hl => by
  rcases b.made o L (by rw [a.floor]; exact ho) hL hl with h | ⟨o1, L1, h1, h2, h3, h4⟩
  ·exact .inl (Nat.le_trans a.size h)
  ·rcases a.made o1 L1 (by rw [<- a.floor]; exact h1) h2 h3 with h | ⟨o2, L2, g1, g2, g3, g4⟩
   ·exact .inl (by omega)
   ·exact .inr ⟨o2, L2, g1, g2, g3, g4.trans h4⟩
 low := fun o ho => (b.low o (by rw [a.floor]; exact ho)).trans (a.low o ho)
 drawn := Nat.le_trans a.drawn b.drawn
theorem zc7.congr {B W Z : Nat} {φ : Pl} {H : Heap} {w w' : World} (h : zc7 G B W Z φ H w) (e : w'.heap = w.heap) : zc7 G B W Z φ H w' where
 fl := h.fl
 fn := h.fn
 wsz := by rw [e]; exact h.wsz
 dom := h.dom
 fresh := h.fresh
 obj := fun o L x ho hx => by
  have := h.obj o L x ho hx
  cases x with
  | cells cs =>
   refine ⟨fun i a ha => ?_, this.2.1, fun hb => ?_⟩
   ·obtain ⟨u, hu, hv⟩ := this.1 i a ha
    exact ⟨u, by simpa [World.cell?, e] using hu, hv⟩
   ·obtain ⟨c, t, fz, g⟩ := this.2.2 hb
    exact ⟨c, t, fz, by rw [e]; exact g⟩
  | map es => obtain ⟨en, cl, g1, g2⟩ := this; exact ⟨en, cl, by rw [e]; exact g1, g2⟩
  | siter s p => obtain ⟨b, g1, g2, g3⟩ := this; exact ⟨b, by rw [e]; exact g1, g2, g3⟩
  | dead => trivial
  | bld T b =>
   cases b with
   | none => obtain ⟨p, g⟩ := this; exact ⟨p, by rw [e]; exact g⟩
   | some qn => obtain ⟨p, Lq, g1, g⟩ := this; exact ⟨p, Lq, g1, by rw [e]; exact g⟩
  | buf E bs => obtain ⟨c, l, g⟩ := this; exact ⟨c, l, by rw [e]; exact g⟩
 low := h.low
 high := h.high
 inj := h.inj
 good := fun w2 hk => h.good w2 fun b hb => (hk b hb).trans (by rw [e])
theorem Step.congr {φ : Pl} {H : Heap} {w w' : World} (e : w'.heap = w.heap) (h1 : w'.os = w.os) (h2 : w'.tape = w.tape) (h3 : w'.output = w.output) (hdr : w.drawn <= w'.drawn := by first | exact Nat.le_refl _ | exact Nat.le_succ _ | exact Nat.le_add_right _ _ | assumption | (simp; done) | omega) : Step φ H w φ H w' :=
 {Step.refl φ H w with drawn := hdr, os := h1, tape := h2, output := h3, size := by rw [e]; exact Nat.le_refl _, kept := fun b _ _ => by rw [e] }
theorem Heap.get_set (H : Heap) (o p : Nat) (x : zo4) : (H.set o x).get p = if p = o then some x else H.get p := Tr.get_set _ _ _ _
theorem Heap.get_push (H : Heap) (p : Nat) (x : zo4) : (H.push x).get p = if p = H.next then some x else H.get p := Tr.get_set _ _ _ _
theorem ORel.keep {φ φ' : Pl} {w w' : World} {B o : Nat} {L : Loc} {x : zo4} (h : ORel φ w B o L x) (hφ : φ.le φ') (hb : w'.heap[L.blk]? = w.heap[L.blk]?) : ORel φ' w' B o L x := by
 cases x with
 | cells cs =>
  refine ⟨fun i a ha => ?_, h.2.1, fun hB => ?_⟩
  ·obtain ⟨u, hu, hv⟩ := h.1 i a ha
   exact ⟨u, by simpa [World.cell?, hb] using hu, hv.mono hφ⟩
  ·obtain ⟨c, t, fz, g⟩ := h.2.2 hB
   exact ⟨c, t, fz, by rw [hb]; exact g⟩
 | map es =>
  obtain ⟨en, cl, g1, g2, g3⟩ := h
  refine ⟨en, cl, by rw [hb]; exact g1, ?_, g3⟩
  clear g3
  generalize en.toList = l at g2
  clear g1 hb
  induction es generalizing l with
  | nil => cases l <;> simp_all [zn3]
  | cons e es ih =>
   cases l with
   | nil => simp [zn3] at g2
   | cons f l => exact ⟨g2.1.mono hφ, g2.2.1.mono hφ, ih _ g2.2.2⟩
 | siter s p => obtain ⟨b, g1, g2, g3⟩ := h; exact ⟨b, by rw [hb]; exact g1, g2, g3⟩
 | dead => trivial
 | bld T b =>
  cases b with
  | none => obtain ⟨p, g⟩ := h; exact ⟨p, by rw [hb]; exact g⟩
  | some qn => obtain ⟨p, Lq, g1, g⟩ := h; exact ⟨p, Lq, hφ _ _ g1, by rw [hb]; exact g⟩
 | buf E bs => obtain ⟨c, l, g⟩ := h; exact ⟨c, l, by rw [hb]; exact g⟩
def Pl.put (φ : Pl) (o : Nat) (L : Loc) : Pl := fun p => if p = o then some L else φ p
theorem Pl.put_same (φ : Pl) (o : Nat) (L : Loc) : φ.put o L o = some L := by simp [Pl.put]
theorem Pl.le_put {φ : Pl} {o : Nat} (L : Loc) (h : φ o = none) : φ.le (φ.put o L) := fun p K e => by
 unfold Pl.put; split
 ·rename_i q; subst q; rw [h] at e; cases e
 ·exact e
theorem zc7.next_none {B W Z : Nat} {φ : Pl} {H : Heap} {w : World} (h : zc7 G B W Z φ H w) (hK : H.next < Z) : φ H.next = none := by
 cases e : φ H.next with
 | none => rfl
 | some L => have := h.dom _ _ e; omega
theorem zc7.get_lt {B W Z : Nat} {φ : Pl} {H : Heap} {w : World} (h : zc7 G B W Z φ H w) {o : Nat} {x : zo4} (e : H.get o = some x) : o < H.next := by
 rcases Nat.lt_or_ge o H.next with q | q
 ·exact q
 ·rw [h.fresh o q] at e; cases e
theorem zc7.live_in {B W Z : Nat} {φ : Pl} {H : Heap} {w : World} (h : zc7 G B W Z φ H w) {o : Nat} {L : Loc} (ho : φ o = some L) (hl : live H o) (hb : B <= o) : L.blk < w.heap.size := by
 obtain ⟨x, hx, hd⟩ := hl
 have hr := h.obj o L x ho hx
 have key : ∀ y, w.heap[L.blk]? = some y -> L.blk < w.heap.size := fun y e => by
  rcases Nat.lt_or_ge L.blk w.heap.size with q | q
  ·exact q
  ·simp [Array.getElem?_eq_none q] at e
 cases x with
 | cells cs => obtain ⟨c, t, fz, g, _⟩ := hr.2.2 hb; exact key _ g
 | map es => obtain ⟨en, cl, g, _⟩ := hr; exact key _ g
 | siter s p => obtain ⟨b, g, _⟩ := hr; exact key _ g
 | dead => exact absurd rfl hd
 | bld T b =>
  cases b with
  | none => obtain ⟨p, g, _⟩ := hr; exact key _ g
  | some qn => obtain ⟨p, Lq, _, g, _⟩ := hr; exact key _ g
 | buf E bs => obtain ⟨c, l, g, _⟩ := hr; exact key _ g
theorem zc7.push {B W Z : Nat} {φ : Pl} {H : Heap} {w w' : World} (h : zc7 G B W Z φ H w) (hK : H.next < Z) (x : zo4) (L : Loc) (ob : Obj) (hL : L.blk = w.heap.size)
  (hw : w'.heap = w.heap.push ob) (hos : w'.os = w.os) (ht : w'.tape = w.tape) (hout : w'.output = w.output)
  (hx : ORel (φ.put H.next L) w' B H.next L x) (hdr : w.drawn <= w'.drawn := by first | exact Nat.le_refl _ | exact Nat.le_succ _ | exact Nat.le_add_right _ _ | assumption | (simp; done) | omega) : zc7 G B W Z (φ.put H.next L) (H.push x) w' /\ Step φ H w (φ.put H.next L) (H.push x) w' := by
 have hle := Pl.le_put L (h.next_none hK)
 have hkeep : ∀ b, b < w.heap.size -> w'.heap[b]? = w.heap[b]? := fun b hb => by rw [hw, Array.getElem?_push, if_neg (by omega)]
 have hlive : ∀ o, o ≠ H.next -> (live (H.push x) o ↔ live H o) := fun o ho => by
  unfold live; rw [Heap.get_push, if_neg ho]
 have hget : ∀ o K, φ.put H.next L o = some K -> o ≠ H.next -> φ o = some K := fun o K e ho => by simpa [Pl.put, ho] using e
 have hnew : ∀ K, φ.put H.next L H.next = some K -> K = L := fun K e => by simp [Pl.put] at e; exact e.symm
 have hblk : ∀ o K, φ o = some K -> live H o -> K.blk < w.heap.size := fun o K e hl => by
  by_cases hb : B <= o
  ·exact h.live_in e hl hb
  ·exact Nat.lt_of_lt_of_le (h.low o K e (by omega)) h.wsz
 have hsz : w'.heap.size = w.heap.size + 1 := by rw [hw]; simp
 refine ⟨⟨h.fl, Nat.le_succ_of_le h.fn, by rw [hsz]; exact Nat.le_succ_of_le h.wsz, ?_, ?_, ?_, ?_, ?_, ?_, fun w2 hk => h.good w2 fun b hb => (hk b hb).trans (hkeep b (Nat.lt_of_lt_of_le hb h.wsz))⟩, ⟨hle, ?_, Nat.le_succ _, rfl, hos, ht, hout, by omega, fun b hb _ => hkeep b hb, ?_, ?_, hdr⟩⟩
 ·intro o K e
  by_cases ho : o = H.next
  ·subst ho; exact .inl (Nat.lt_succ_self _)
  ·exact (h.dom o K (hget o K e ho)).imp Nat.lt_succ_of_lt id
 ·intro o ho
  have : o ≠ H.next := by intro q; subst q; exact absurd ho (Nat.not_succ_le_self _)
  rw [Heap.get_push, if_neg this]; exact h.fresh o (Nat.le_of_succ_le ho)
 ·intro o K y e hy
  by_cases ho : o = H.next
  ·subst ho
   rw [Heap.get_push, if_pos rfl] at hy
   cases hy; rw [hnew K e]; exact hx
  ·rw [Heap.get_push, if_neg ho] at hy
   have e' := hget o K e ho
   have hr := h.obj o K y e' hy
   by_cases hd : y = .dead
   ·subst hd; trivial
   ·exact hr.keep hle (hkeep _ (hblk o K e' ⟨y, hy, hd⟩))
 ·intro o K e ho
  by_cases hn : o = H.next
  ·have := h.fn; have := h.fl; omega
  ·exact h.low o K (hget o K e hn) ho
 ·intro o K e ho hl
  by_cases hn : o = H.next
  ·subst hn; rw [hnew K e, hL]; exact h.wsz
  ·exact h.high o K (hget o K e hn) ho ((hlive o hn).1 hl)
 ·intro o o' K K' e e' ho ho' hl hl' hbb
  by_cases hn : o = H.next <;> by_cases hn' : o' = H.next
  ·omega
  ·subst hn
   rw [hnew K e, hL] at hbb
   have := hblk o' K' (hget o' K' e' hn') ((hlive o' hn').1 hl')
   omega
  ·subst hn'
   rw [hnew K' e', hL] at hbb
   have := hblk o K (hget o K e hn) ((hlive o hn).1 hl)
   omega
  ·exact h.inj o o' K K' (hget o K e hn) (hget o' K' e' hn') ho ho' ((hlive o hn).1 hl) ((hlive o' hn').1 hl') hbb
 ·intro o K e hn
  by_cases ho : o = H.next
  ·subst ho; exact ⟨Nat.le_refl _, Nat.lt_succ_self _⟩
  ·rw [hget o K e ho] at hn; cases hn
 ·intro o K ho e hl
  by_cases hn : o = H.next
  ·subst hn; rw [hnew K e, hL]; exact .inl (Nat.le_refl _)
  ·exact .inr ⟨o, K, ho, hget o K e hn, (hlive o hn).1 hl, rfl⟩
 ·intro o ho
  rw [Heap.get_push, if_neg (by have := h.fn; omega)]
theorem zc7.set {B W Z : Nat} {φ : Pl} {H : Heap} {w w' : World} (h : zc7 G B W Z φ H w) {o : Nat} {L : Loc} {x0 : zo4} (x : zo4) (ho : φ o = some L) (hx0 : H.get o = some x0) (hd0 : x0 ≠ .dead) (hf : H.floor <= o)
  (hos : w'.os = w.os) (ht : w'.tape = w.tape) (hout : w'.output = w.output) (hsz : w'.heap.size = w.heap.size)
  (hkeep : ∀ b, b ≠ L.blk -> w'.heap[b]? = w.heap[b]?) (hx : ORel φ w' B o L x) (hdr : w.drawn <= w'.drawn := by first | exact Nat.le_refl _ | exact Nat.le_succ _ | exact Nat.le_add_right _ _ | assumption | (simp; done) | omega) :
  zc7 G B W Z φ (H.set o x) w' /\ Step φ H w φ (H.set o x) w' := by
 have hB : B <= o := Nat.le_trans h.fl hf
 have hl0 : live H o := ⟨x0, hx0, hd0⟩
 have hlive : ∀ p, live (H.set o x) p -> live H p := fun p hp => by
  by_cases hpo : p = o
  ·subst hpo; exact hl0
  ·obtain ⟨y, hy, hd⟩ := hp; rw [Heap.get_set, if_neg hpo] at hy; exact ⟨y, hy, hd⟩
 refine ⟨⟨h.fl, h.fn, by rw [hsz]; exact h.wsz, h.dom, ?_, ?_, h.low, ?_, ?_, fun w2 hk => h.good w2 fun b hb => (hk b hb).trans (hkeep b (by have := h.high o L ho hB hl0; omega))⟩, ⟨Pl.le_refl φ, ?_, Nat.le_refl _, rfl, hos, ht, hout, by omega, ?_, ?_, ?_, hdr⟩⟩
 ·intro p hp
  have : p ≠ o := by have := h.get_lt hx0; intro q; subst q; exact absurd hp (by show ¬ H.next <= p; omega)
  rw [Heap.get_set, if_neg this]; exact h.fresh p hp
 ·intro p K y e hy
  by_cases hpo : p = o
  ·subst hpo
   rw [Heap.get_set, if_pos rfl] at hy; cases hy
   rw [ho] at e; cases e; exact hx
  ·rw [Heap.get_set, if_neg hpo] at hy
   have hr := h.obj p K y e hy
   by_cases hd : y = .dead
   ·subst hd; trivial
   ·refine hr.keep (Pl.le_refl φ) (hkeep _ fun q => ?_)
    by_cases hpB : B <= p
    ·exact hpo (h.inj p o K L e ho hpB hB ⟨y, hy, hd⟩ hl0 q)
    ·have h1 := h.low p K e (by omega)
     have h2 := h.high o L ho hB hl0
     omega
 ·exact fun p K e hp hl => h.high p K e hp (hlive p hl)
 ·exact fun p p' K K' e e' hp hp' hl hl' => h.inj p p' K K' e e' hp hp' (hlive p hl) (hlive p' hl')
 ·intro p K e k; rw [e] at k; cases k
 ·intro b _ hn
  exact hkeep b fun q => hn o L hf ho hl0 q.symm
 ·exact fun p K hp e hl => .inr ⟨p, K, hp, e, hlive p hl, rfl⟩
 ·intro p hp
  rw [Heap.get_set, if_neg (by omega)]
theorem zc7.take {B W Z : Nat} {φ : Pl} {H : Heap} {w w' : World} (h : zc7 G B W Z φ H w) (hK : H.next < Z) {o : Nat} {L L' : Loc} {x0 : zo4} (x : zo4) (ho : φ o = some L) (hx0 : H.get o = some x0) (hd0 : x0 ≠ .dead) (hf : H.floor <= o)
  (hos : w'.os = w.os) (ht : w'.tape = w.tape) (hout : w'.output = w.output) (hsz : w'.heap.size = w.heap.size) (hL' : L'.blk = L.blk)
  (hkeep : ∀ b, b ≠ L.blk -> w'.heap[b]? = w.heap[b]?) (hx : ORel (φ.put H.next L') w' B H.next L' x) (hdr : w.drawn <= w'.drawn := by first | exact Nat.le_refl _ | exact Nat.le_succ _ | exact Nat.le_add_right _ _ | assumption | (simp; done) | omega) :
  zc7 G B W Z (φ.put H.next L') ((H.set o .dead).push x) w' /\ Step φ H w (φ.put H.next L') ((H.set o .dead).push x) w' := by
 have hB : B <= o := Nat.le_trans h.fl hf
 have hl0 : live H o := ⟨x0, hx0, hd0⟩
 have hle := Pl.le_put L' (h.next_none hK)
 have hon : o ≠ H.next := by have := h.get_lt hx0; omega
 have hget : ∀ p, ((H.set o .dead).push x).get p = if p = H.next then some x else if p = o then some .dead else H.get p := fun p => by
  rw [Heap.get_push, Heap.get_set]; rfl
 have hlive : ∀ p, p ≠ H.next -> live ((H.set o .dead).push x) p -> live H p /\ p ≠ o := fun p hp hl => by
  obtain ⟨y, hy, hd⟩ := hl
  rw [hget, if_neg hp] at hy
  by_cases hpo : p = o
  ·rw [if_pos hpo] at hy; cases hy; exact absurd rfl hd
  ·rw [if_neg hpo] at hy; exact ⟨⟨y, hy, hd⟩, hpo⟩
 have hput : ∀ p K, φ.put H.next L' p = some K -> p ≠ H.next -> φ p = some K := fun p K e hp => by simpa [Pl.put, hp] using e
 have hnew : ∀ K, φ.put H.next L' H.next = some K -> K = L' := fun K e => by simp [Pl.put] at e; exact e.symm
 refine ⟨⟨h.fl, Nat.le_succ_of_le h.fn, by rw [hsz]; exact h.wsz, ?_, ?_, ?_, ?_, ?_, ?_, fun w2 hk => h.good w2 fun b hb => (hk b hb).trans (hkeep b (by have := h.high o L ho hB hl0; omega))⟩, ⟨hle, ?_, Nat.le_succ _, rfl, hos, ht, hout, by omega, ?_, ?_, ?_, hdr⟩⟩
 ·intro p K e
  by_cases hp : p = H.next
  ·subst hp; exact .inl (Nat.lt_succ_self _)
  ·exact (h.dom p K (hput p K e hp)).imp Nat.lt_succ_of_lt id
 ·intro p hp
  have h1 : p ≠ H.next := by intro q; subst q; exact absurd hp (Nat.not_succ_le_self _)
  have h2 : p ≠ o := by have := h.get_lt hx0; intro q; subst q; exact absurd (Nat.le_of_succ_le hp) (by show ¬ H.next <= p; omega)
  rw [hget, if_neg h1, if_neg h2]; exact h.fresh p (Nat.le_of_succ_le hp)
 ·intro p K y e hy
  by_cases hp : p = H.next
  ·subst hp
   rw [hget, if_pos rfl] at hy; cases hy; rw [hnew K e]; exact hx
  ·have e' := hput p K e hp
   rw [hget, if_neg hp] at hy
   by_cases hpo : p = o
   ·rw [if_pos hpo] at hy; cases hy; trivial
   ·rw [if_neg hpo] at hy
    have hr := h.obj p K y e' hy
    by_cases hd : y = .dead
    ·subst hd; trivial
    ·refine hr.keep hle (hkeep _ fun q => ?_)
     by_cases hpB : B <= p
     ·exact hpo (h.inj p o K L e' ho hpB hB ⟨y, hy, hd⟩ hl0 q)
     ·have h1 := h.low p K e' (by omega)
      have h2 := h.high o L ho hB hl0
      omega
 ·intro p K e hp
  by_cases hn : p = H.next
  ·have := h.fn; have := h.fl; omega
  ·exact h.low p K (hput p K e hn) hp
 ·intro p K e hp hl
  by_cases hn : p = H.next
  ·subst hn; rw [hnew K e, hL']; exact h.high o L ho hB hl0
  ·exact h.high p K (hput p K e hn) hp (hlive p hn hl).1
 ·intro p p' K K' e e' hp hp' hl hl' hbb
  by_cases hn : p = H.next <;> by_cases hn' : p' = H.next
  ·omega
  ·subst hn
   rw [hnew K e, hL'] at hbb
   have hk := hlive p' hn' hl'
   exact absurd (h.inj o p' L K' ho (hput p' K' e' hn') hB hp' hl0 hk.1 hbb) fun q => hk.2 q.symm
  ·subst hn'
   rw [hnew K' e', hL'] at hbb
   have hk := hlive p hn hl
   exact absurd (h.inj p o K L (hput p K e hn) ho hp hB hk.1 hl0 hbb) hk.2
  ·exact h.inj p p' K K' (hput p K e hn) (hput p' K' e' hn') hp hp' (hlive p hn hl).1 (hlive p' hn' hl').1 hbb
 ·intro p K e hn
  by_cases hp : p = H.next
  ·subst hp; exact ⟨Nat.le_refl _, Nat.lt_succ_self _⟩
  ·rw [hput p K e hp] at hn; cases hn
 ·intro b _ hn
  exact hkeep b fun q => hn o L hf ho hl0 q.symm
 ·intro p K hp e hl
  by_cases hn : p = H.next
  ·subst hn; rw [hnew K e]; exact .inr ⟨o, L, hf, ho, hl0, hL'.symm⟩
  ·exact .inr ⟨p, K, hp, hput p K e hn, (hlive p hn hl).1, rfl⟩
 ·intro p hp
  rw [hget, if_neg (by have := h.fn; omega), if_neg (by omega)]
end Go.AI
