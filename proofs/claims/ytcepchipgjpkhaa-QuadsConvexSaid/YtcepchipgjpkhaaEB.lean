/- From the model's operations to abstract ones: the translation, and laws of memory. No claim by itself. -/
import Derived.Test.YtcepchipgjpkhaaE1
import Derived.Laws.StructEq
namespace Go.AI
variable {P : Program} {G : World -> Prop}
def zan4 : Value -> Option AV
 | .bool b => some (.bool b)
 | .int k n => some (.int k n)
 | .string b => some (.str (zd0 b))
 | .pointer none => some .nilp
 | .slice none 0 0 => some .nils
 | .map none => some .nilm
 | .nilFunc => some .nilf
 | .nilIface => some .nili
 | _ => none
def zax7 : List Value -> Option (List AV)
 | [] => some []
 | v :: vs => match zan4 v with | none => none | some a => (zax7 vs).map (a :: ·)
def cval : Value -> Option AV
 | .agg cs => (zax7 cs.toList).map .agg
 | .func (.func f) ⟨[]⟩ ⟨[]⟩ => some (.fn f [] [])
 | .tuple ⟨[]⟩ => some (.tup [])
 | v => zan4 v
theorem zaf7 {φ : Pl} {v : Value} {a : AV} (h : zan4 v = some a) : zc3 φ a v := by
 unfold zan4 at h
 split at h <;> first | cases h | skip
 all_goals constructor
theorem zas6 {φ : Pl} : ∀ {vs : List Value} {as : List AV}, zax7 vs = some as -> zg4 φ as vs
 | [], as, h => by simp [zax7] at h; subst h; exact .nil
 | v :: vs, as, h => by
  simp only [zax7] at h
  split at h
  ·cases h
  ·rename_i a ha
   cases hv : zax7 vs with
   | none => simp [hv] at h
   | some l => simp [hv] at h; subst h; exact .cons (zaf7 ha) (zas6 hv)
theorem zan3 {φ : Pl} {v : Value} {a : AV} (h : cval v = some a) : zc3 φ a v := by
 unfold cval at h
 split at h
 ·rename_i cs
  cases hv : zax7 cs.toList with
  | none => simp [hv] at h
  | some l => simp [hv] at h; subst h; exact .agg _ _ (zas6 hv)
 ·cases h; exact .fn _ [] [] _ _ .nil .nil
 ·cases h; exact .tup [] _ .nil
 ·exact zaf7 h
def zk0 : Operand -> Option Opd
 | .tmp t => some (.tmp t)
 | .const v => (cval v).map .const
 | .func f => some (.const (.fn f [] []))
 | .global _ => none
def zj8 : List Operand -> Option (List Opd)
 | [] => some []
 | x :: xs => match zk0 x with | none => none | some y => (zj8 xs).map (y :: ·)
def XRel (φ : Pl) (e : Opd -> AV) (ρ : Operand -> Value) (xs : List Operand) : Prop := ∀ x ∈ xs, ∀ y, zk0 x = some y -> zc3 φ (e y) (ρ x)
theorem XRel.list {φ : Pl} {e : Opd -> AV} {ρ : Operand -> Value} : ∀ {xs : List Operand} {ys : List Opd}, zj8 xs = some ys -> XRel φ e ρ xs -> zg4 φ (ys.map e) (xs.map ρ)
 | [], ys, h, _ => by simp [zj8] at h; subst h; exact .nil
 | x :: xs, ys, h, hr => by
  simp only [zj8] at h
  split at h
  ·cases h
  ·rename_i y hy
   cases hv : zj8 xs with
   | none => simp [hv] at h
   | some l =>
    simp [hv] at h; subst h
    exact .cons (hr x (by simp) y hy) (XRel.list hv fun z hz => hr z (by simp [hz]))
def zh9 (P : Program) (t : TypeId) : Option (Option Nat) :=
 match P.underlying t with
 | some (.struct _) => (P.info? t).map fun i => some i.size
 | some (.array _ _) => (P.info? t).map fun i => some i.size
 | some _ => some none
 | none => none
def zb3 (P : Program) (t : TypeId) : Option Nat := (P.info? t).map (·.size)
def zg7 (P : Program) (t : TypeId) : Option Nat := (P.info? t).map (·.bytes)
def zc5 (P : Program) (t : TypeId) : Option AV := ((P.info? t).bind (·.zero)).bind cval
@[simp] theorem run_typeInfo (t : TypeId) (w : World) : (typeInfo t).run P w = match P.info? t with | some i => .ok i w | none => .halt (.stuck "no such type") w := by
 simp only [typeInfo, Sem.run_bind, run_program, Result.andThen_ok]; split <;> simp_all
@[simp] theorem run_underlying (t : TypeId) (w : World) : (underlying t).run P w = match P.underlying t with | some i => .ok i w | none => .halt (.stuck "no such type") w := by
 simp only [underlying, Sem.run_bind, run_program, Result.andThen_ok]; split <;> simp_all
theorem run_sizeOf {t : TypeId} {n : Nat} (h : zb3 P t = some n) (w : World) : (sizeOf t).run P w = .ok n w := by
 unfold zb3 at h; unfold sizeOf
 cases hi : P.info? t with
 | none => simp [hi] at h
 | some i => simp [hi] at h; simp [hi, h]
theorem zf1 {t : TypeId} {a : AV} (h : zc5 P t = some a) (φ : Pl) : ∃ v, zc3 φ a v /\ cval v = some a /\ ∀ w, (zeroValue t).run P w = .ok v w := by
 unfold zc5 at h; unfold zeroValue
 cases hi : P.info? t with
 | none => simp [hi] at h
 | some i =>
  cases hz : i.zero with
  | none => simp [hi, hz] at h
  | some v => simp [hi, hz] at h; exact ⟨v, zan3 h, h, fun w => by simp [hi, hz]⟩
theorem ze7 {t : TypeId} {n : Nat} (h : zh9 P t = some (some n)) (w : World) : (isAgg t).run P w = .ok true w /\ zb3 P t = some n := by
 unfold zh9 at h; unfold isAgg zb3
 split at h
 ·rename_i hu; cases hi : P.info? t <;> simp [hi] at h; simp [hu, h]
 ·rename_i hu; cases hi : P.info? t <;> simp [hi] at h; simp [hu, h]
 ·simp at h
 ·cases h
theorem zj1 {t : TypeId} (h : zh9 P t = some none) (w : World) : (isAgg t).run P w = .ok false w := by
 unfold zh9 at h; unfold isAgg
 split at h
 ·cases hi : P.info? t <;> simp [hi] at h
 ·cases hi : P.info? t <;> simp [hi] at h
 ·rename_i d hu hn1 hn2
  cases d <;> simp_all
 ·cases h
theorem z09 (b o n : Nat) : Addr.add ⟨b, o, none⟩ n = ⟨b, o + n, none⟩ := by
 unfold Addr.add; split
 ·rename_i h; subst h; rfl
 ·rfl
theorem zy5 {cs xs : List AV} {off n : Nat} (h : seg cs off n = some xs) : off + n <= cs.length /\ xs = (cs.drop off).take n := by
 unfold seg at h
 cases hb : Nat.ble (off + n) cs.length with
 | true => rw [hb] at h; simp at h; exact ⟨Nat.le_of_ble_eq_true hb, h.symm⟩
 | false => rw [hb] at h; simp at h
theorem At.seg {φ : Pl} {w : World} {L : Loc} {cs xs : List AV} {off n : Nat} (h : At φ w L cs) (hs : seg cs off n = some xs) :
  xs.length = n /\ At φ w ⟨L.blk, L.base + off, L.size⟩ xs := by
 obtain ⟨h1, rfl⟩ := zy5 hs
 refine ⟨by simp; omega, fun i a ha => ?_⟩
 have : cs[off + i]? = some a := by
  rw [List.getElem?_take] at ha
  split at ha
  ·rw [List.getElem?_drop] at ha; exact ha
  ·cases ha
 obtain ⟨u, hu, hv⟩ := h (off + i) a this
 exact ⟨u, by simpa [Nat.add_assoc] using hu, hv⟩
theorem run_loadCellsFrom {φ : Pl} {w : World} (b : Nat) : ∀ (xs : List AV) (o i : Nat) (acc : Array Value), At φ w ⟨b, o + i, 0⟩ xs ->
  ∃ vs : List Value, (loadCellsFrom ⟨b, o, none⟩ i xs.length acc).run P w = .ok (acc ++ vs.toArray) w /\ zg4 φ xs vs
 | [], o, i, acc, _ => ⟨[], by simp [loadCellsFrom], .nil⟩
 | x :: xs, o, i, acc, h => by
  obtain ⟨u, hu, hv⟩ := h 0 x rfl
  simp only [Nat.add_zero] at hu
  obtain ⟨vs, hr, hl⟩ := run_loadCellsFrom b xs o (i + 1) (acc.push u) fun j a ha => by
   obtain ⟨u', h1, h2⟩ := h (j + 1) a (by simpa using ha)
   exact ⟨u', by simpa [Nat.add_assoc, Nat.add_comm 1 j] using h1, h2⟩
  refine ⟨u :: vs, ?_, .cons hv hl⟩
  simp only [loadCellsFrom, List.length_cons, Sem.run_bind, run_load, z09, hu, Result.andThen_ok, hr]
  simp
theorem run_loadCells {φ : Pl} {w : World} {b o : Nat} {xs : List AV} (h : At φ w ⟨b, o, 0⟩ xs) :
  ∃ vs : List Value, (loadCells ⟨b, o, none⟩ xs.length).run P w = .ok vs.toArray w /\ zg4 φ xs vs := by
 obtain ⟨vs, h1, h2⟩ := run_loadCellsFrom (P := P) b xs o 0 #[] h
 exact ⟨vs, by simpa [loadCells] using h1, h2⟩
theorem At.size {φ : Pl} {w : World} {b o s s' : Nat} {xs : List AV} (h : At φ w ⟨b, o, s⟩ xs) : At φ w ⟨b, o, s'⟩ xs := h
theorem zad1 {φ : Pl} {w : World} {t : TypeId} {L : Loc} {cs : List AV} {off : Nat} {n : Option Nat} {a : AV} (ht : zh9 P t = some n) (h : At φ w L cs) (hp : ze2 cs off n = some a) :
  ∃ v, (loadVar t ⟨L.blk, L.base + off, none⟩).run P w = .ok v w /\ zc3 φ a v := by
 cases n with
 | none =>
  simp only [ze2] at hp
  obtain ⟨u, hu, hv⟩ := h off a hp
  refine ⟨u, ?_, hv⟩
  simp [loadVar, zj1 ht, hu]
 | some n =>
  simp only [ze2] at hp
  cases hs : AI.seg cs off n with
  | none => simp [hs] at hp
  | some xs =>
   simp [hs] at hp; subst hp
   obtain ⟨hl, hat⟩ := h.seg hs
   obtain ⟨vs, hr, hv⟩ := run_loadCells (P := P) hat.size
   refine ⟨.agg vs.toArray, ?_, .agg _ _ (by simpa using hv)⟩
   have := ze7 ht w
   rw [hl] at hr
   simp [loadVar, this.1, run_sizeOf this.2, hr]
theorem za06 {φ : Pl} {w : World} {t : TypeId} {cs : List AV} {vs : Array Value} {off : Nat} {n : Option Nat} {a : AV} (ht : zh9 P t = some n) (h : zg4 φ cs vs.toList) (hp : ze2 cs off n = some a) :
  ∃ v, (part t vs off).run P w = .ok v w /\ zc3 φ a v := by
 cases n with
 | none =>
  simp only [ze2] at hp
  obtain ⟨v, hv, hr⟩ := h.getE hp
  refine ⟨v, ?_, hr⟩
  have : vs[off]? = some v := by rw [<- Array.getElem?_toList]; exact hv
  simp [part, zj1 ht, this]
 | some n =>
  simp only [ze2] at hp
  cases hs : AI.seg cs off n with
  | none => simp [hs] at hp
  | some xs =>
   simp [hs] at hp; subst hp
   obtain ⟨h1, rfl⟩ := zy5 hs
   have := ze7 ht w
   refine ⟨.agg (vs.extract off (off + n)), by simp [part, this.1, run_sizeOf this.2], .agg _ _ ?_⟩
   have e : (vs.extract off (off + n)).toList = (vs.toList.drop off).take n := by
    simp
   rw [e]; exact (h.drop off).take n
theorem zs5 {α : Type} : ∀ (l : List α) (n : Nat) (v : α), n < l.length -> (l.set n v).take (n + 1) = l.take n ++ [v]
 | [], _, _, h => by simp at h
 | x :: l, 0, v, _ => by simp
 | x :: l, n + 1, v, h => by simp at h; simp [zs5 l n v h]
theorem zv5 : ∀ (vs : List Value) (w : World) (b o i : Nat) (c : Array Value) (t : TypeId) (fz : Nat × Nat), w.heap[b]? = some (.cells c t fz) -> o + i + vs.length <= c.size ->
  (∀ v ∈ vs, v.oneCell' = true) -> (∀ j, o + i <= j -> j < o + i + vs.length -> ¬ (fz.1 <= j /\ j < fz.2)) ->
  ∃ w' c', (storeCells ⟨b, o, none⟩ vs i).run P w = .ok () w' /\ w'.heap[b]? = some (.cells c' t fz) /\ c'.toList = c.toList.take (o + i) ++ vs ++ c.toList.drop (o + i + vs.length) /\
   (∀ k, k ≠ b -> w'.heap[k]? = w.heap[k]?) /\ w'.heap.size = w.heap.size /\ w'.os = w.os /\ w'.tape = w.tape /\ w'.output = w.output /\ w'.drawn = w.drawn
 | [], w, b, o, i, c, t, fz, hc, _, _, _ => ⟨w, c, by simp [storeCells], hc, by simp, fun _ _ => rfl, rfl, rfl, rfl, rfl, rfl⟩
 | v :: vs, w, b, o, i, c, t, fz, hc, hl, h1, hf => by
  have hlt : o + i < c.size := by simp at hl; omega
  have hcell : w.cell? ⟨b, o + i, none⟩ = some c[o + i] := by simp [World.cell?, hc, hlt]
  have hfz : w.frozen? ⟨b, o + i, none⟩ = false := by
   simp only [World.frozen?, hc]
   have := hf (o + i) (Nat.le_refl _) (by simp)
   simpa using this
  have hset : (w.setCell ⟨b, o + i, none⟩ v).heap[b]? = some (.cells (c.setIfInBounds (o + i) v) t fz) := by
   simp only [World.setCell, Array.getElem?_modify, if_true, hc, Option.map_some]
   simp
  obtain ⟨w', c', hr, hb, hcl, hk, hs, e1, e2, e3, e4⟩ := zv5 vs (w.setCell ⟨b, o + i, none⟩ v) b o (i + 1) _ t fz hset (by simp at hl ⊢; omega) (fun u hu => h1 u (by simp [hu])) (fun j hj hj' => hf j (by omega) (by simp; omega))
  refine ⟨w', c', ?_, hb, ?_, fun k hk' => ?_, by rw [hs]; simp [World.setCell], e1, e2, e3, e4⟩
  ·rw [storeCells, Sem.run_bind, z09, run_store P w _ v _ (h1 v (by simp))]
   simp only [hcell, hfz, Bool.false_eq_true, if_false, Result.andThen_ok]
   exact hr
  ·rw [hcl]
   have e : o + (i + 1) = o + i + 1 := by omega
   rw [e]
   simp only [Array.toList_setIfInBounds, List.length_cons]
   have hlt' : o + i < c.toList.length := by simpa using hlt
   rw [zs5 _ _ _ hlt', List.drop_set_of_lt (by omega)]
   simp [Nat.add_assoc, Nat.add_comm 1]
  ·rw [hk k hk']
   simp only [World.setCell, Array.getElem?_modify]
   rw [if_neg (by omega)]
end Go.AI
namespace Go.AI
variable {P : Program} {G : World -> Prop}
def ckOf (P : Program) (t : TypeId) : Option CK :=
 match P.underlying t with
 | some .bool => some .bool
 | some (.int _) => some .int
 | some .string => some .str
 | _ => none
def fieldsOf (sub : TypeId -> Option (List CK)) : List Field -> Nat -> Option (List CK)
 | [], _ => some []
 | f :: fs, off =>
  if f.name ≠ "_" /\ f.offset = off then
   match sub f.type with
   | none => none
   | some ks => (fieldsOf sub fs (off + ks.length)).map (ks ++ ·)
  else none
def zr7 (P : Program) : Nat -> TypeId -> Option (List CK)
 | 0, _ => none
 | d + 1, t =>
  match P.underlying t with
  | some (.struct fs) =>
   if P.stoodInHeld t then none else
   match fieldsOf (zr7 P d) fs.toList 0 with
   | some ks => if zb3 P t = some ks.length then some ks else none
   | none => none
  | some (.array n e) =>
   match zr7 P d e with
   | some ks => if zb3 P e = some ks.length /\ zb3 P t = some (n * ks.length) then some (List.replicate n ks).flatten else none
   | none => none
  | _ => match ckOf P t with | some k => if zb3 P t = some 1 then some [k] else none | none => none
def zg2 (P : Program) (t : TypeId) : EqD :=
 match P.underlying t with
 | some .bool => .prim .bool
 | some (.int _) => .prim .int
 | some .string => .prim .str
 | some (.pointer _) => .ptr
 | some (.slice _) => .slice
 | some (.map _ _) => .map
 | some (.func _ _ _) => .func
 | some (.struct _) | some (.array _ _) =>
  if P.eqGuardType P.depth t then .none else
  match zr7 P 20 t with
  | some ks => .flat ks
  | none => .none
 | _ => .none
def zr8 (place : Nat -> Option (Nat × Nat)) : List (Nat × Operand) -> Option (List (Nat × Nat × Opd))
 | [] => some []
 | (i, x) :: r =>
  match place i, zk0 x with
  | some (off, size), some y => (zr8 place r).map ((off, size, y) :: ·)
  | _, _ => none
def placesOf (P : Program) : List Field -> Option (List (Nat × Nat))
 | [] => some []
 | f :: fs => match zb3 P f.type with | none => none | some n => (placesOf P fs).map ((f.offset, n) :: ·)
def zq8 : Option Operand -> Option (Option Opd)
 | none => some none
 | some x => (zk0 x).map some
def c1 (x : Operand) (f : Opd -> AOp) : Option AOp := (zk0 x).map f
def c2 (x y : Operand) (f : Opd -> Opd -> AOp) : Option AOp := (zk0 x).bind fun a => (zk0 y).map fun b => f a b
def c3 (x y z : Operand) (f : Opd -> Opd -> Opd -> AOp) : Option AOp := (zk0 x).bind fun a => (zk0 y).bind fun b => (zk0 z).map fun c => f a b c
def zv1 (P : Program) (b : Builtin) (ts : Array TypeId) (xs : Array Operand) : Option AOp :=
 match b, ts.toList, xs.toList with
 | .append, [t, u], [x, y] =>
  match P.underlying t, P.underlying u with
  | some (.slice e), some (.slice _) => (zb3 P e).bind fun n => (zg7 P e).bind fun by_ => (zc5 P e).bind fun z => if by_ = 0 \/ z.cells.length ≠ n \/ za5 z.cells = false then none else c2 x y (.append n by_)
  | some (.slice e), some .string => (zb3 P e).bind fun n => (zg7 P e).bind fun by_ => (zc5 P e).bind fun z => if by_ = 0 \/ z.cells.length ≠ n \/ za5 z.cells = false then none else c2 x y (.append n by_)
  | _, _ => none
 | .len, [t], [x] =>
  match P.underlying t with
  | some .string => c1 x (.len .str)
  | some (.slice _) => c1 x (.len .slice)
  | some (.map _ _) => c1 x (.len .map)
  | some (.array n _) => c1 x (.len (.arr n))
  | _ => none
 | .cap, [t], [x] => match P.underlying t with | some (.slice _) => c1 x .cap | _ => none
 | .copy, [t, _], [x, y] => match P.underlying t with | some (.slice e) => (zb3 P e).bind fun n => c2 x y (.copy n) | _ => none
 | .delete, [t, _], [x, y] => match P.underlying t with | some (.map k _) => c2 x y (.delete (zg2 P k)) | _ => none
 | .clear, [t], [x] =>
  match P.underlying t with
  | some (.map _ _) => c1 x .clearMap
  | some (.slice e) => (zc5 P e).bind fun z => c1 x (.clearSlice z.cells)
  | _ => none
 | .max, _, _ => (zj8 xs.toList).map (.minmax true)
 | .min, _, _ => (zj8 xs.toList).map (.minmax false)
 | _, _, _ => none
def zaw9 (P : Program) (t : TypeId) : Bool :=
 match P.underlying t with
 | some (.struct fs) =>
  match fs.toList with
  | [f, g] =>
   (match P.underlying f.type with | some (.pointer t') => t' == t | _ => false) &&
   (match P.underlying g.type with | some (.slice e) => (match P.underlying e with | some (.int .u8) => true | _ => false) | _ => false) &&
   (match zc5 P t with | some (.agg [.nilp, .nils]) => true | _ => false)
  | _ => false
 | _ => false
def cop (P : Program) : Op -> Option AOp
 | .move x => c1 x .mov
 | .assign x => c1 x .mov
 | .pick c a b => c3 c a b .pick
 | .alloc t => if zaw9 P t = true then some (.allocB t) else (zc5 P t).map fun z => .alloc z.cells
 | .box _ x => c1 x .box
 | .build t parts =>
  match P.underlying t with
  | some (.struct fs) => (zc5 P t).bind fun z => if za5 z.cells then (placesOf P fs.toList).bind fun pl => (zr8 (fun i => pl[i]?) parts.toList).map (.build z.cells) else none
  | some (.array _ e) => (zc5 P t).bind fun z => if za5 z.cells then (zb3 P e).bind fun n => (zr8 (fun i => some (i * n, n)) parts.toList).map (.build z.cells) else none
  | _ => none
 | .buildSlice t len parts =>
  match P.underlying t with
  | some (.slice e) =>
   (zb3 P e).bind fun n => (zc5 P e).bind fun z =>
    if z.cells.length = n /\ len * n <= 2 ^ 24 /\ za5 z.cells then (zr8 (fun i => some (i * n, n)) parts.toList).map (.buildSlice n len ((List.replicate len z.cells).flatten)) else none
  | _ => none
 | .load t a => (zh9 P t).bind fun n => c1 a (.load n)
 | .store t a x => (zb3 P t).bind fun n => c2 a x (.store n)
 | .nilCheck x => c1 x .nilCheck
 | .binOp op t x y _ => c2 x y (.binOp op (zg2 P t))
 | .unOp op _ x => c1 x (.unOp op)
 | .convert src dst x =>
  match P.underlying src, P.underlying dst with
  | some (.int _), some (.int k) => c1 x (.convert (.toInt k))
  | some .string, some .string => c1 x (.convert .same)
  | some (.slice e), some .string => match P.underlying e with | some (.int .u8) => c1 x (.convert .bytesToStr) | _ => none
  | some .string, some (.slice e) => match P.underlying e with | some (.int .u8) => c1 x (.convert .strToBytes) | _ => none
  | some (.slice _), some (.slice e) => if src = dst then (match P.underlying e with | some (.int .u8) => c1 x .freeze | _ => none) else none
  | _, _ => none
 | .makeFunc (.func f) first captured => (zj8 first.toList).bind fun a => (zj8 captured.toList).map fun b => .makeFunc f a b
 | .makeMap t r => match P.underlying t with | some (.map _ _) => (zq8 r).map .makeMap | _ => none
 | .makeSlice t l c =>
  match P.underlying t with
  | some (.slice e) => (zb3 P e).bind fun n => (zg7 P e).bind fun by_ => (zc5 P e).bind fun z => c2 l c (.makeSlice n by_ z.cells)
  | _ => none
 | .slice t x lo hi mx =>
  match P.underlying t with
  | some .string => if mx.isSome then none else (zk0 x).bind fun x => (zq8 lo).bind fun lo => (zq8 hi).map fun hi => .sliceS x lo hi
  | some (.slice e) => (zb3 P e).bind fun n => (zk0 x).bind fun x => (zq8 lo).bind fun lo => (zq8 hi).bind fun hi => (zq8 mx).map fun mx => .slice n x lo hi mx
  | some (.array k e) => if mx.isSome then none else (zb3 P e).bind fun n => (zk0 x).bind fun x => (zq8 lo).bind fun lo => (zq8 hi).map fun hi => .sliceA k n x lo hi
  | _ => none
 | .fieldAddr s x f =>
  match P.underlying s with
  | some (.struct fs) =>
   match fs[f]? with
   | some fd => match zb3 P fd.type with | some 0 => none | some _ => c1 x (.fieldAddr fd.offset) | none => none
   | none => none
  | _ => none
 | .field s x f =>
  match P.underlying s with
  | some (.struct fs) => match fs[f]? with | some fd => (zh9 P fd.type).bind fun n => c1 x (.field fd.offset n) | none => none
  | _ => none
 | .indexAddr t x i =>
  match P.underlying t with
  | some (.slice e) => (zb3 P e).bind fun n => c2 x i (.indexAddr n)
  | some (.array k e) => (zb3 P e).bind fun n => c2 x i (.indexAddrA k n)
  | _ => none
 | .index t x i =>
  match P.underlying t with
  | some (.array k e) => (zb3 P e).bind fun n => (zh9 P e).bind fun m => c2 x i (.index k n m)
  | some .string => c2 x i .indexS
  | _ => none
 | .lookup t x i ok => match P.underlying t with | some (.map k e) => (zc5 P e).bind fun z => c2 x i (.lookup (zg2 P k) z ok) | _ => none
 | .mapUpdate t m k x => match P.underlying t with | some (.map kt _) => c3 m k x (.mapUpdate (zg2 P kt)) | _ => none
 | .insert t m k x => match P.underlying t with | some (.map kt _) => c3 m k x (.mapUpdate (zg2 P kt)) | _ => none
 | .extract t i => c1 t (.extract i)
 | .call c =>
  match c.callee with
  | .value f => (zk0 f).bind fun f => (zj8 c.args.toList).map fun a => .call f a
  | .builtin b => zv1 P b c.argTypes c.args
  | _ => none
 | .range t x => match P.underlying t with | some .string => c1 x .rangeS | _ => none
 | .next it true => c1 it .nextS
 | .sliceToArrayPointer t x => match P.underlying t with | some (.array n _) => c1 x (.arrayAt n) | _ => none
 | _ => none
theorem zp4 {φ : Pl} {x : AV} {v : Value} {y n Y : Nat} (h : zc3 φ x v) (hb : zl1 x y = some n) (hy : y <= Y) (code : BoundsCode) (w : World) :
  (Instr.sliceBound v Y code).run P w = .ok n w /\ n <= y := by
 cases h <;> simp only [zl1] at hb <;> first | (cases hb; done) | skip
 rename_i k i
 split at hb
 ·rename_i hi
  cases hb
  have : 0 <= i /\ i <= (Y : Int) := ⟨hi.1, by omega⟩
  refine ⟨?_, by omega⟩
  simp [Instr.sliceBound, asIntOf, this]
 ·cases hb
def zab2 (φ : Pl) : Option AV -> Option Value -> Prop
 | none, none => True
 | some a, some v => zc3 φ a v
 | _, _ => False
theorem zn2 {φ : Pl} {len lo cap : Nat} {ex : Bool} {low high max : Option AV} {vl vh vm : Option Value} (hl : zab2 φ low vl) (hh : zab2 φ high vh) (hm : zab2 φ max vm)
  (hlen : len <= lo) (hc : lo <= cap) (hx : ex = true -> cap = lo) {l h m : Nat} {ex' : Bool} (hb : zd8 len lo ex low high max = some (l, h, m, ex')) (isSlice : Bool) (w : World) :
  ∃ M, (Instr.sliceBounds isSlice len cap vl vh vm).run P w = .ok (l, h, M) w /\ l <= h /\ h <= m /\ m <= M /\ (ex' = true -> M = m) /\ M <= cap := by
 unfold zd8 at hb
 cases max with
 | some mx =>
  cases vm with
  | none => exact hm.elim
  | some vm =>
   simp only at hb
   split at hb
   ·cases hb
   ·rename_i m1 hm1
    obtain ⟨r1, q1⟩ := zp4 (P := P) hm hm1 hc (if isSlice then .slice3Acap else .slice3Alen) w
    cases high with
    | none => cases hb
    | some hg =>
     cases vh with
     | none => exact hh.elim
     | some vh =>
      simp only at hb
      split at hb
      ·cases hb
      ·rename_i h1 hh1
       obtain ⟨r2, q2⟩ := zp4 (P := P) hh hh1 (Nat.le_refl _) .slice3B w
       cases low with
       | none =>
        cases vl with
        | some _ => exact hl.elim
        | none =>
         cases hb
         exact ⟨m, by simp [Instr.sliceBounds, r1, r2], by omega, q2, Nat.le_refl _, fun _ => rfl, by omega⟩
       | some lw =>
        cases vl with
        | none => exact hl.elim
        | some vl =>
         cases hb1 : zl1 lw h1 with
         | none => simp [hb1] at hb
         | some l1 =>
          simp [hb1] at hb
          obtain ⟨rfl, rfl, rfl, rfl⟩ := hb
          obtain ⟨r3, q3⟩ := zp4 (P := P) hl hb1 (Nat.le_refl _) .slice3C w
          exact ⟨m1, by simp [Instr.sliceBounds, r1, r2, r3], q3, q2, Nat.le_refl _, fun _ => rfl, by omega⟩
 | none =>
  cases vm with
  | some _ => exact hm.elim
  | none =>
   simp only at hb
   split at hb
   ·cases hb
   ·rename_i h1 hh1
    have key : ∃ r, (Instr.sliceBounds isSlice len cap vl vh none).run P w = r /\ (∀ (vl' : Value) (l : Nat), vl = some vl' -> (Instr.sliceBound vl' h1 .sliceB).run P w = .ok l w -> r = .ok (l, h1, cap) w) /\ (vl = none -> r = .ok (0, h1, cap) w) /\ h1 <= lo := by
     refine ⟨_, rfl, ?_⟩
     cases high with
     | none =>
      cases vh with
      | some _ => exact hh.elim
      | none =>
       cases hh1
       refine ⟨fun vl' l e hr => ?_, fun e => ?_, hlen⟩
       ·subst e; simp [Instr.sliceBounds, hr]
       ·subst e; simp [Instr.sliceBounds]
     | some hg =>
      cases vh with
      | none => exact hh.elim
      | some vh =>
       simp only at hh1
       obtain ⟨r2, q2⟩ := zp4 (P := P) hh hh1 hc (if isSlice then .sliceAcap else .sliceAlen) w
       refine ⟨fun vl' l e hr => ?_, fun e => ?_, q2⟩
       ·subst e; simp [Instr.sliceBounds, r2, hr]
       ·subst e; simp [Instr.sliceBounds, r2]
    obtain ⟨r, hr, k1, k2, k3⟩ := key
    rw [hr]
    cases low with
    | none =>
     cases vl with
     | some _ => exact hl.elim
     | none => cases hb; exact ⟨cap, k2 rfl, by omega, k3, hc, hx, Nat.le_refl _⟩
    | some lw =>
     cases vl with
     | none => exact hl.elim
     | some vl =>
      cases hb1 : zl1 lw h1 with
      | none => simp [hb1] at hb
      | some l1 =>
       simp [hb1] at hb
       obtain ⟨rfl, rfl, rfl, rfl⟩ := hb
       obtain ⟨r3, q3⟩ := zp4 (P := P) hl hb1 (Nat.le_refl _) .sliceB w
       exact ⟨cap, k1 vl l1 rfl r3, q3, k3, hc, hx, Nat.le_refl _⟩
theorem zbp0 {φ : Pl} {t e : TypeId} {sz o off len lo : Nat} {ex : Bool} {low high max : Option AV} {vl vh vm : Option Value} {xv : Value} (ht : P.underlying t = some (.slice e)) (hs : zb3 P e = some sz)
  (hx : zc3 φ (.slc o off len sz lo ex) xv) (hl : zab2 φ low vl) (hh : zab2 φ high vh) (hm : zab2 φ max vm) {l h m : Nat} {ex' : Bool} (hb : zd8 len lo ex low high max = some (l, h, m, ex')) (w : World) :
  ∃ v, (Instr.sliceAt t xv vl vh vm).run P w = .ok v w /\ zc3 φ (.slc o (off + l * sz) (h - l) sz (m - l) ex') v := by
 cases hx with
 | slc o off len e' lo ex L cap hL h1 h2 h3 h4 =>
  obtain ⟨M, hr, a1, a2, a3, a4, a5⟩ := zn2 (P := P) hl hh hm h1 h2 h3 hb true w
  refine ⟨_, by simp only [Instr.sliceAt, Sem.run_bind, run_underlying, ht, Result.andThen_ok, Instr.slice, hr, run_sizeOf hs, Sem.run_pure]; rfl, ?_⟩
  by_cases hML : M = l
  ·subst hML
   have e1 : h = M := by omega
   have e2 : m = M := by omega
   subst e1; subst e2
   simp only [if_true, Nat.sub_self]
   exact .slc0 _ _ _ _ _
  ·simp only [if_neg hML, Option.map_some, z09]
   have := zc3.slc (φ := φ) o (off + l * sz) (h - l) sz (m - l) ex' L (M - l) hL (by omega) (by omega) (fun q => by rw [a4 q]) (by
    have e1 : (M - l) * sz + l * sz <= cap * sz := by rw [<- Nat.add_mul]; exact Nat.mul_le_mul_right _ (by omega)
    omega)
   simpa [Nat.add_assoc] using this
 | slc0 o off e' ex a =>
  obtain ⟨M, hr, a1, a2, a3, a4, a5⟩ := zn2 (P := P) (cap := 0) hl hh hm (Nat.le_refl _) (Nat.le_refl _) (fun _ => rfl) hb true w
  have e0 : M = 0 := by omega
  have e1 : m = 0 := by omega
  have e2 : h = 0 := by omega
  have e3 : l = 0 := by omega
  subst e0; subst e1; subst e2; subst e3
  refine ⟨_, by simp only [Instr.sliceAt, Sem.run_bind, run_underlying, ht, Result.andThen_ok, Instr.slice, hr, run_sizeOf hs, Sem.run_pure]; rfl, ?_⟩
  simp only [if_true, Nat.sub_self]
  exact .slc0 _ _ _ _ _
theorem zbb7 {φ : Pl} {t e : TypeId} {sz : Nat} {low high max : Option AV} {vl vh vm : Option Value} {xv : Value} (ht : P.underlying t = some (.slice e)) (hs : zb3 P e = some sz)
  (hx : zc3 φ .nils xv) (hl : zab2 φ low vl) (hh : zab2 φ high vh) (hm : zab2 φ max vm) {r : Nat × Nat × Nat × Bool} (hb : zd8 0 0 true low high max = some r) (w : World) :
  ∃ v, (Instr.sliceAt t xv vl vh vm).run P w = .ok v w /\ zc3 φ .nils v := by
 obtain ⟨l, h, m, ex'⟩ := r
 cases hx
 obtain ⟨M, hr, a1, a2, a3, a4, a5⟩ := zn2 (P := P) (cap := 0) hl hh hm (Nat.le_refl _) (Nat.le_refl _) (fun _ => rfl) hb true w
 have e0 : M = 0 := by omega
 have e1 : m = 0 := by omega
 have e2 : h = 0 := by omega
 have e3 : l = 0 := by omega
 subst e0; subst e1; subst e2; subst e3
 refine ⟨_, by simp only [Instr.sliceAt, Sem.run_bind, run_underlying, ht, Result.andThen_ok, Instr.slice, hr, run_sizeOf hs, Sem.run_pure]; rfl, ?_⟩
 simp only [if_true, Nat.sub_self]
 exact .nils
theorem zbb8 {φ : Pl} {t e : TypeId} {n sz o off : Nat} {low high : Option AV} {vl vh : Option Value} {xv : Value} (ht : P.underlying t = some (.array n e)) (hs : zb3 P e = some sz)
  (hx : zc3 φ (.ptr o off) xv) (hroom : ∀ L, φ o = some L -> L.base + off + n * sz <= L.size) (hl : zab2 φ low vl) (hh : zab2 φ high vh) {l h m : Nat} {ex' : Bool} (hb : zd8 n n true low high none = some (l, h, m, ex')) (w : World) :
  ∃ v, (Instr.sliceAt t xv vl vh none).run P w = .ok v w /\ zc3 φ (.slc o (off + l * sz) (h - l) sz (m - l) ex') v := by
 cases hx with
 | ptr o off L hL =>
  obtain ⟨M, hr, a1, a2, a3, a4, a5⟩ := zn2 (P := P) (vm := none) (max := none) hl hh trivial (Nat.le_refl n) (Nat.le_refl n) (fun _ => rfl) hb false w
  refine ⟨_, by simp only [Instr.sliceAt, Sem.run_bind, run_underlying, ht, Result.andThen_ok, Instr.sureAddr, hr, run_sizeOf hs, Sem.run_pure]; rfl, ?_⟩
  have := hroom L hL
  by_cases hML : M = l
  ·subst hML
   have e1 : h = M := by omega
   have e2 : m = M := by omega
   subst e1; subst e2
   simp only [if_true, Nat.sub_self]
   exact .slc0 _ _ _ _ _
  ·simp only [if_neg hML, z09]
   have := zc3.slc (φ := φ) o (off + l * sz) (h - l) sz (m - l) ex' L (M - l) hL (by omega) (by omega) (fun q => by rw [a4 q]) (by
    have e1 : (M - l) * sz + l * sz <= n * sz := by rw [<- Nat.add_mul]; exact Nat.mul_le_mul_right _ (by omega)
    omega)
   simpa [Nat.add_assoc] using this
end Go.AI
namespace Go.AI
variable {P : Program} {G : World -> Prop}
theorem za68 {a b : ByteArray} : zd0 a = zd0 b ↔ a.toList = b.toList := by
 rw [ByteArray.toList_eq, ByteArray.toList_eq]
 unfold zd0
 constructor
 ·intro h
  exact List.map_inj_right (fun x y e => UInt8.toNat_inj.1 e) |>.1 h
 ·intro h; rw [h]
theorem z94 (a b : ByteArray) : (zd0 a == zd0 b) = (a.toList == b.toList) := by
 rw [Bool.eq_iff_iff]; simp [za68]
theorem zh6 (a : ByteArray) : (zd0 a).length = a.size := by simp [zd0]
theorem zal9 (a b : ByteArray) : zd0 (a ++ b) = zd0 a ++ zd0 b := by simp [zd0]
theorem zv7 (a : ByteArray) (l h : Nat) : zd0 (a.extract l h) = ((zd0 a).drop l).take (h - l) := by
 simp [zd0, List.map_drop, List.map_take]
theorem bytesLess_eq : ∀ (a b : List UInt8), bytesLess (a.map UInt8.toNat) (b.map UInt8.toNat) = Op.bytesLess a b
 | [], [] => rfl
 | _ :: _, [] => rfl
 | [], _ :: _ => rfl
 | x :: a, y :: b => by
  simp only [List.map_cons, bytesLess, Op.bytesLess, bytesLess_eq a b]
  have e1 : Nat.blt x.toNat y.toNat = decide (x < y) := by
   rw [Bool.eq_iff_iff]; simp [Nat.blt, UInt8.lt_iff_toNat_lt]; omega
  have e2 : Nat.beq x.toNat y.toNat = (x == y) := by
   rw [Tr.nbeq, Bool.eq_iff_iff]; simp [UInt8.toNat_inj]
  rw [e1, e2]
theorem zaw2 (a b : ByteArray) : bytesLess (zd0 a) (zd0 b) = Op.bytesLess a.toList b.toList := by
 rw [ByteArray.toList_eq, ByteArray.toList_eq]; exact bytesLess_eq _ _
theorem za69 (a : ByteArray) (i : Nat) : (zd0 a)[i]? = (a[i]?).map UInt8.toNat := by
 show _ = (a.data[i]?).map _
 simp [zd0]
theorem zq4 {φ : Pl} {k : CK} {x y : AV} {v u : Value} {b : Bool} {t : TypeId} (hk : ckOf P t = some k) (hx : zc3 φ x v) (hy : zc3 φ y u) (h : zh8 k x y = some b) (d : Nat) (w : World) :
  (Op.equalIn (d + 1) t v u).run P w = .ok b w := by
 unfold ckOf at hk
 split at hk <;> first | (cases hk; done) | skip
 ·rename_i hu; cases hk
  unfold zh8 at h; split at h <;> simp_all
  subst h; cases hx; cases hy; simp [Op.equalIn, hu]
 ·rename_i hu; cases hk
  unfold zh8 at h; split at h <;> simp_all
  obtain ⟨rfl, rfl⟩ := h; cases hx; cases hy; simp [Op.equalIn, hu]
 ·rename_i hu; cases hk
  unfold zh8 at h; split at h <;> simp_all
  subst h; cases hx; cases hy; simp [Op.equalIn, hu, z94, beq_toListBytes]
theorem zw0 {ks js : List CK} {xs ys xs' ys' : List AV} (hx : xs.length = ks.length) (hy : ys.length = ks.length) :
  zd5 (ks ++ js) (xs ++ xs') (ys ++ ys') = match zd5 ks xs ys with | some true => zd5 js xs' ys' | r => r := by
 induction ks generalizing xs ys with
 | nil => cases xs <;> cases ys <;> simp_all [zd5]
 | cons k ks ih =>
  cases xs with
  | nil => simp at hx
  | cons x xs =>
   cases ys with
   | nil => simp at hy
   | cons y ys =>
    simp only [List.cons_append, zd5]
    cases zh8 k x y with
    | none => rfl
    | some b => cases b with
     | false => rfl
     | true => exact ih (by simpa using hx) (by simpa using hy)
def EqAt (P : Program) (t : TypeId) (ks : List CK) (d : Nat) : Prop :=
 zb3 P t = some ks.length /\
 ∀ (φ : Pl) (D : Nat), d <= D -> ∀ (vs us : Array Value) (off : Nat) (xs ys : List AV) (b : Bool) (w : World), zg4 φ xs ((vs.toList.drop off).take ks.length) -> zg4 φ ys ((us.toList.drop off).take ks.length) ->
  xs.length = ks.length -> ys.length = ks.length -> zd5 ks xs ys = some b ->
  ∃ v u, (part t vs off).run P w = .ok v w /\ (part t us off).run P w = .ok u w /\ (Op.equalIn D t v u).run P w = .ok b w
theorem zax3 {t : TypeId} {k : CK} (hk : ckOf P t = some k) (hs : zb3 P t = some 1) (d : Nat) : EqAt P t [k] (d + 1) := by
 refine ⟨hs, fun φ D hD vs us off xs ys b w hx hy hxl hyl h => ?_⟩
 obtain ⟨D, rfl⟩ : ∃ n, D = n + 1 := ⟨D - 1, by omega⟩
 match xs, ys, hxl, hyl with
 | [x], [y], _, _ =>
  have hag : zh9 P t = some none := by
   unfold ckOf at hk; unfold zh9
   split at hk <;> simp_all
  have gx : ∃ v, vs[off]? = some v /\ zc3 φ x v := by
   obtain ⟨v, h1, h2⟩ := hx.getE (i := 0) rfl
   simp at h1; exact ⟨v, h1, h2⟩
  have gy : ∃ v, us[off]? = some v /\ zc3 φ y v := by
   obtain ⟨v, h1, h2⟩ := hy.getE (i := 0) rfl
   simp at h1; exact ⟨v, h1, h2⟩
  obtain ⟨v, hv, rv⟩ := gx
  obtain ⟨u, hu, ru⟩ := gy
  have hb : zh8 k x y = some b := by
   simp only [zd5] at h
   cases hc : zh8 k x y with
   | none => simp [hc] at h
   | some c => cases c <;> simp_all
  exact ⟨v, u, by simp [part, zj1 hag, hv], by simp [part, zj1 hag, hu], zq4 hk rv ru hb D w⟩
theorem zv9 {d : Nat} (sub : TypeId -> Option (List CK)) (hsub : ∀ t ks, sub t = some ks -> EqAt P t ks d) : ∀ (fs : List Field) (off : Nat) (ks : List CK), fieldsOf sub fs off = some ks ->
  ∀ (φ : Pl) (D : Nat), d <= D -> ∀ (vs us : Array Value) (xs ys : List AV) (b : Bool) (w : World), zg4 φ xs ((vs.toList.drop off).take ks.length) -> zg4 φ ys ((us.toList.drop off).take ks.length) ->
   xs.length = ks.length -> ys.length = ks.length -> zd5 ks xs ys = some b -> (Op.eqFields D vs us fs).run P w = .ok b w
 | [], off, ks, h, φ, D, _, vs, us, xs, ys, b, w, _, _, hx, hy, he => by
  simp [fieldsOf] at h; subst h
  match xs, ys, hx, hy with
  | [], [], _, _ => simp [zd5] at he; subst he; simp [Op.eqFields]
 | f :: fs, off, ks, h, φ, D, hD, vs, us, xs, ys, b, w, rx, ry, hx, hy, he => by
  simp only [fieldsOf] at h
  split at h
  ·rename_i hn
   obtain ⟨hn1, rfl⟩ := hn
   split at h
   ·cases h
   ·rename_i k1 hk1
    cases hr : fieldsOf sub fs (f.offset + k1.length) with
    | none => simp [hr] at h
    | some k2 =>
     simp [hr] at h; subst h
     have hd := hsub _ _ hk1
     have ex : xs = xs.take k1.length ++ xs.drop k1.length := (List.take_append_drop _ _).symm
     have ey : ys = ys.take k1.length ++ ys.drop k1.length := (List.take_append_drop _ _).symm
     have lx : (xs.take k1.length).length = k1.length := by simp at hx ⊢; omega
     have ly : (ys.take k1.length).length = k1.length := by simp at hy ⊢; omega
     have r1 : zg4 φ (xs.take k1.length) ((vs.toList.drop f.offset).take k1.length) := by
      have := rx.take k1.length
      rwa [List.take_take, Nat.min_eq_left (by simp)] at this
     have r2 : zg4 φ (ys.take k1.length) ((us.toList.drop f.offset).take k1.length) := by
      have := ry.take k1.length
      rwa [List.take_take, Nat.min_eq_left (by simp)] at this
     have r3 : zg4 φ (xs.drop k1.length) ((vs.toList.drop (f.offset + k1.length)).take k2.length) := by
      have := rx.drop k1.length
      rwa [List.drop_take, List.drop_drop, List.length_append, Nat.add_sub_cancel_left] at this
     have r4 : zg4 φ (ys.drop k1.length) ((us.toList.drop (f.offset + k1.length)).take k2.length) := by
      have := ry.drop k1.length
      rwa [List.drop_take, List.drop_drop, List.length_append, Nat.add_sub_cancel_left] at this
     rw [ex, ey, zw0 lx ly] at he
     cases hc : zd5 k1 (xs.take k1.length) (ys.take k1.length) with
     | none => simp [hc] at he
     | some c =>
      obtain ⟨v, u, p1, p2, p3⟩ := hd.2 φ D hD vs us f.offset _ _ c w r1 r2 lx ly hc
      simp only [Op.eqFields, hn1, ne_eq, not_false_eq_true, if_true, Sem.run_bind, p1, p2, p3, Result.andThen_ok]
      cases c with
      | false => simp [hc] at he; subst he; simp
      | true =>
       simp only [hc] at he
       simp only [Bool.not_true, Bool.false_eq_true, if_false]
       exact zv9 sub hsub fs (f.offset + k1.length) k2 hr φ D hD vs us _ _ b w r3 r4 (by simp at hx ⊢; omega) (by simp at hy ⊢; omega) he
  ·cases h
theorem zm9 : ∀ (d : Nat) (t : TypeId) (ks : List CK), zr7 P d t = some ks -> EqAt P t ks d
 | 0, t, ks, h => by simp [zr7] at h
 | d + 1, t, ks, h => by
  simp only [zr7] at h
  split at h
  ·rename_i fs hu
   split at h
   ·cases h
   ·rename_i hst
    split at h
    ·rename_i k1 hf
     split at h
     ·rename_i hsz
      cases h
      refine ⟨hsz, fun φ D hD vs us off xs ys b w rx ry hx hy he => ?_⟩
      obtain ⟨D, rfl⟩ : ∃ n, D = n + 1 := ⟨D - 1, by omega⟩
      have hag : zh9 P t = some (some ks.length) := by
       unfold zb3 at hsz; unfold zh9
       rw [hu]; cases hi : P.info? t <;> simp_all
      have ha := ze7 hag
      refine ⟨.agg (vs.extract off (off + ks.length)), .agg (us.extract off (off + ks.length)), by simp [part, (ha w).1, run_sizeOf hsz], by simp [part, (ha w).1, run_sizeOf hsz], ?_⟩
      have hst' : P.stoodInHeld t = false := by simpa using hst
      have hfs : P.fieldsOf t = fs := by simp [Program.fieldsOf, hu]
      rw [run_equalIn_struct w D t _ _ (by rw [hfs]; exact hu) hst', hfs]
      refine zv9 (zr7 P d) (fun t ks h => zm9 d t ks h) fs.toList 0 ks hf φ D (by omega) _ _ xs ys b w ?_ ?_ hx hy he
      ·simpa [List.take_take] using rx
      ·simpa [List.take_take] using ry
     ·cases h
    ·cases h
  ·rename_i n e hu
   split at h
   ·rename_i k1 hf
    split at h
    ·rename_i hsz
     cases h
     have hle : ((List.replicate n k1).flatten).length = n * k1.length := by simp
     refine ⟨by rw [hle]; exact hsz.2, fun φ D hD vs us off xs ys b w rx ry hx hy he => ?_⟩
     obtain ⟨D, rfl⟩ : ∃ n, D = n + 1 := ⟨D - 1, by omega⟩
     have hsz2 : zb3 P t = some ((List.replicate n k1).flatten).length := by rw [hle]; exact hsz.2
     have hag : zh9 P t = some (some ((List.replicate n k1).flatten).length) := by
      unfold zb3 at hsz2; unfold zh9
      rw [hu]; cases hi : P.info? t <;> simp_all
     have ha := ze7 hag
     refine ⟨.agg (vs.extract off (off + ((List.replicate n k1).flatten).length)), .agg (us.extract off (off + ((List.replicate n k1).flatten).length)), by simp [part, (ha w).1, run_sizeOf hsz2], by simp [part, (ha w).1, run_sizeOf hsz2], ?_⟩
     simp only [Op.equalIn, Sem.run_bind, run_underlying, hu, Result.andThen_ok, run_sizeOf hsz.1, Std.Legacy.Range.forIn_eq_forIn_range', Std.Legacy.Range.size, Nat.sub_zero, Nat.add_sub_cancel, Nat.div_one]
     have ih := zm9 d e k1 hf
     have key : ∀ (m i : Nat) (xs ys : List AV) (b : Bool) (VS US : Array Value), zg4 φ xs ((VS.toList.drop (i * k1.length)).take (m * k1.length)) -> zg4 φ ys ((US.toList.drop (i * k1.length)).take (m * k1.length)) ->
       xs.length = m * k1.length -> ys.length = m * k1.length -> zd5 (List.replicate m k1).flatten xs ys = some b ->
       ∀ (Z : Option Bool × Unit -> Sem Bool), Z (none, ()) = pure true -> Z (some false, ()) = pure false ->
       ((forIn (List.range' i m 1) ((none, ()) : Option Bool × Unit) (fun i r => (do
        let __do_lift <- part e VS (i * k1.length)
        let __do_lift_1 <- part e US (i * k1.length)
        let __do_lift <- Op.equalIn D e __do_lift __do_lift_1
        if (!__do_lift) = true then pure (ForInStep.done (some false, ())) else
          pure (ForInStep.yield (none, ())) : Sem (ForInStep (Option Bool × Unit)))) : Sem (Option Bool × Unit)).run P w).andThen (fun a w' => (Z a).run P w') = .ok b w := by
      intro m
      induction m with
      | zero =>
       intro i xs ys b VS US _ _ hx hy he Z z1 _
       simp at hx hy; subst hx; subst hy
       simp [zd5] at he; subst he
       simp [z1]
      | succ m ihm =>
       intro i xs ys b VS US rx ry hx hy he Z z1 z2
       have hmul : (m + 1) * k1.length = k1.length + m * k1.length := by rw [Nat.add_mul]; omega
       rw [hmul] at rx ry hx hy
       have ex : xs = xs.take k1.length ++ xs.drop k1.length := (List.take_append_drop _ _).symm
       have ey : ys = ys.take k1.length ++ ys.drop k1.length := (List.take_append_drop _ _).symm
       have lx : (xs.take k1.length).length = k1.length := by simp; omega
       have ly : (ys.take k1.length).length = k1.length := by simp; omega
       have r1 : zg4 φ (xs.take k1.length) ((VS.toList.drop (i * k1.length)).take k1.length) := by
        have := rx.take k1.length
        rwa [List.take_take, Nat.min_eq_left (by omega)] at this
       have r2 : zg4 φ (ys.take k1.length) ((US.toList.drop (i * k1.length)).take k1.length) := by
        have := ry.take k1.length
        rwa [List.take_take, Nat.min_eq_left (by omega)] at this
       have hi1 : (i + 1) * k1.length = i * k1.length + k1.length := by rw [Nat.add_mul]; omega
       have r3 : zg4 φ (xs.drop k1.length) ((VS.toList.drop ((i + 1) * k1.length)).take (m * k1.length)) := by
        have := rx.drop k1.length
        rwa [List.drop_take, List.drop_drop, Nat.add_sub_cancel_left, <- hi1] at this
       have r4 : zg4 φ (ys.drop k1.length) ((US.toList.drop ((i + 1) * k1.length)).take (m * k1.length)) := by
        have := ry.drop k1.length
        rwa [List.drop_take, List.drop_drop, Nat.add_sub_cancel_left, <- hi1] at this
       rw [List.replicate_succ, List.flatten_cons, ex, ey, zw0 lx ly] at he
       cases hc : zd5 k1 (xs.take k1.length) (ys.take k1.length) with
       | none => simp [hc] at he
       | some c =>
        obtain ⟨v, u, p1, p2, p3⟩ := ih.2 φ D (by omega) VS US _ _ _ c w r1 r2 lx ly hc
        simp only [List.range'_succ, List.forIn_cons, Sem.run_bind, p1, p2, p3, Result.andThen_ok]
        cases c with
        | false => simp [hc] at he; subst he; simp [z2]
        | true =>
         simp only [hc] at he
         have := ihm (i + 1) _ _ b VS US r3 r4 (by simp; omega) (by simp; omega) he Z z1 z2
         simpa using this
     have := key n 0 xs ys b (vs.extract off (off + ((List.replicate n k1).flatten).length)) (us.extract off (off + ((List.replicate n k1).flatten).length)) (by
       have e : n * k1.length = ((List.replicate n k1).flatten).length := hle.symm
       rw [e]; simpa [List.take_take] using rx) (by
       have e : n * k1.length = ((List.replicate n k1).flatten).length := hle.symm
       rw [e]; simpa [List.take_take] using ry) (by rw [hx, hle]) (by rw [hy, hle]) he
     refine Eq.trans ?_ (this (fun r => match r.fst with | none => pure true | some a => pure a) rfl rfl)
     congr 1
     funext a w'
     rcases a with ⟨_ | _, _⟩ <;> rfl
    ·cases h
   ·cases h
  ·split at h
   ·rename_i k hk
    split at h
    ·rename_i hs; cases h; exact zax3 hk hs d
    ·cases h
   ·cases h
end Go.AI
namespace Go.AI
variable {P : Program} {G : World -> Prop}
theorem za75 {φ : Pl} {a b : AV} {v u : Value} (hx : zc3 φ a v) (hy : zc3 φ b u) (op : BinOp) (t : TypeId) (x y : Operand)
  (hg : ∀ cs ds, a = .agg cs -> b = .agg ds -> (op = .eql \/ op = .neq) -> P.eqGuardType P.depth t = false) (hni : a ≠ .nili) (w : World) : (eqGuard op t x y v u).run P w = .ok () w := by
 have key : (op = .eql \/ op = .neq) -> (eqGuard op t x y v u).run P w = .ok () w := by
  intro ho
  by_cases hb : ∃ cs ds, a = .agg cs /\ b = .agg ds
  ·obtain ⟨cs, ds, rfl, rfl⟩ := hb
   have := hg _ _ rfl rfl ho
   cases hx; cases hy
   rcases ho with rfl | rfl <;> simp [eqGuard, this]
  ·have e : ∀ {v u : Value}, zc3 φ a v -> zc3 φ b u -> ((∃ cs ds, v = .agg cs /\ u = .agg ds) -> False) /\ (v ≠ .nilIface) := by
    intro v u hx hy
    refine ⟨fun ⟨cs, ds, e1, e2⟩ => ?_, fun e => ?_⟩
    ·subst e1; subst e2; cases hx; cases hy; exact hb ⟨_, _, rfl, rfl⟩
    ·subst e; cases hx; exact hni rfl
   obtain ⟨e1, e2⟩ := e hx hy
   rcases ho with rfl | rfl
   ·unfold eqGuard; simp only [Bool.not_true, Bool.false_eq_true, if_false]
    split
    ·exact absurd rfl e2
    ·exact (e1 ⟨_, _, rfl, rfl⟩).elim
    ·rfl
   ·unfold eqGuard; simp only [Bool.not_true, Bool.false_eq_true, if_false]
    split
    ·exact absurd rfl e2
    ·exact (e1 ⟨_, _, rfl, rfl⟩).elim
    ·rfl
 by_cases h1 : op = .eql
 ·exact key (.inl h1)
 ·by_cases h2 : op = .neq
  ·exact key (.inr h2)
  ·cases op <;> first | (exact absurd rfl h1) | (exact absurd rfl h2) | rfl
theorem z04 {a b : AV} {r : Bool} (h : eqA .none a b = some r) : False := by
 unfold eqA at h; split at h <;> simp_all
theorem za34 {φ : Pl} {a b : AV} {v u : Value} {t : TypeId} {r : Bool} {ks : List CK} (hf : zr7 P 20 t = some ks) (hag : zh9 P t = some (some ks.length)) (hx : zc3 φ a v) (hy : zc3 φ b u) (h : eqA (.flat ks) a b = some r) (d : Nat) (hd : 20 <= d) (w : World) :
  (Op.equalIn d t v u).run P w = .ok r w := by
 unfold eqA at h
 split at h <;> first | (cases h; done) | skip
 all_goals first | (rename_i e; cases e; done) | skip
 rename_i ks' xs ys e
 cases e
 cases hl : (Nat.beq xs.length ks.length && Nat.beq ys.length ks.length) with
 | false => rw [hl] at h; cases h
 | true =>
  rw [hl] at h
  simp only [Tr.nbeq, Bool.and_eq_true, decide_eq_true_eq] at hl
  simp only [cond_true] at h
  cases hx with | agg _ vs rx => ?_
  cases hy with | agg _ us ry => ?_
  have hs := zm9 20 t ks hf
  have e1 : vs.toList.length = ks.length := by rw [<- rx.len]; exact hl.1
  have e2 : us.toList.length = ks.length := by rw [<- ry.len]; exact hl.2
  obtain ⟨v, u, p1, p2, p3⟩ := hs.2 φ d hd vs us 0 xs ys r w (by rw [<- e1, List.drop_zero, List.take_length]; exact rx) (by rw [<- e2, List.drop_zero, List.take_length]; exact ry) hl.1 hl.2 h
  have ha := ze7 hag w
  have q1 : v = .agg vs := by
   have := p1
   simp [part, ha.1, run_sizeOf hs.1] at this
   rw [<- this]
   have : ks.length = vs.size := by simpa using e1.symm
   simp [this]
  have q2 : u = .agg us := by
   have := p2
   simp [part, ha.1, run_sizeOf hs.1] at this
   rw [<- this]
   have : ks.length = us.size := by simpa using e2.symm
   simp [this]
  rw [<- q1, <- q2]; exact p3
theorem flat_agg {t : TypeId} {ks : List CK} {d : Nat} (hf : zr7 P d t = some ks) (ht : (∃ fs, P.underlying t = some (.struct fs)) \/ ∃ n e, P.underlying t = some (.array n e)) : zh9 P t = some (some ks.length) := by
 have hs := (zm9 d t ks hf).1
 unfold zb3 at hs; unfold zh9
 cases hi : P.info? t <;> simp [hi] at hs
 rcases ht with ⟨fs, e⟩ | ⟨n, e', e⟩ <;> simp [e, hs]
theorem zaf3 {φ : Pl} {a b : AV} {v u : Value} {t : TypeId} {r : Bool} (hx : zc3 φ a v) (hy : zc3 φ b u) (h : eqA (zg2 P t) a b = some r) (d : Nat) (hd : 20 <= d) (w : World) :
  (Op.equalIn (d + 1) t v u).run P w = .ok r w /\ (∀ cs ds, a = .agg cs -> b = .agg ds -> P.eqGuardType P.depth t = false) := by
 unfold zg2 at h
 split at h
 ·rename_i hu; refine ⟨zq4 (k := .bool) (by simp [ckOf, hu]) hx hy h d w, fun cs ds e1 e2 => ?_⟩
  subst e1; simp [eqA, zh8] at h
 ·rename_i hu; refine ⟨zq4 (k := .int) (by simp [ckOf, hu]) hx hy h d w, fun cs ds e1 e2 => ?_⟩
  subst e1; simp [eqA, zh8] at h
 ·rename_i hu; refine ⟨zq4 (k := .str) (by simp [ckOf, hu]) hx hy h d w, fun cs ds e1 e2 => ?_⟩
  subst e1; simp [eqA, zh8] at h
 ·rename_i hu
  unfold eqA at h; split at h <;> first | (cases h; done) | skip
  all_goals first | (rename_i e; cases e; done) | skip
  all_goals (cases h; cases hx; cases hy; exact ⟨by simp [Op.equalIn, hu], fun _ _ e => by cases e⟩)
 ·rename_i hu
  unfold eqA at h; split at h <;> first | (cases h; done) | skip
  all_goals first | (rename_i e; cases e; done) | skip
  all_goals (cases h; cases hx <;> cases hy <;> exact ⟨by simp [Op.equalIn, hu], fun _ _ e => by cases e⟩)
 ·rename_i hu
  unfold eqA at h; split at h <;> first | (cases h; done) | skip
  all_goals first | (rename_i e; cases e; done) | skip
  all_goals (cases h; cases hx; cases hy; exact ⟨by simp [Op.equalIn, hu], fun _ _ e => by cases e⟩)
 ·rename_i hu
  unfold eqA at h; split at h <;> first | (cases h; done) | skip
  all_goals first | (rename_i e; cases e; done) | skip
  all_goals (cases h; cases hx; cases hy; exact ⟨by simp [Op.equalIn, hu], fun _ _ e => by cases e⟩)
 ·rename_i fs hu
  split at h
  ·exact (z04 h).elim
  ·rename_i hg
   split at h
   ·rename_i ks hf
    exact ⟨za34 hf (flat_agg hf (.inl ⟨_, hu⟩)) hx hy h _ (by omega) w, fun _ _ _ _ => by simpa using hg⟩
   ·exact (z04 h).elim
 ·rename_i n e hu
  split at h
  ·exact (z04 h).elim
  ·rename_i hg
   split at h
   ·rename_i ks hf
    exact ⟨za34 hf (flat_agg hf (.inr ⟨_, _, hu⟩)) hx hy h _ (by omega) w, fun _ _ _ _ => by simpa using hg⟩
   ·exact (z04 h).elim
 ·exact (z04 h).elim
theorem zx1 {φ : Pl} {a b : AV} {v u : Value} {t : TypeId} {r : Bool} (hx : zc3 φ a v) (hy : zc3 φ b u) (h : eqA (zg2 P t) a b = some r) (w : World) : (Op.equal t v u).run P w = .ok r w :=
 (zaf3 hx hy h 9999 (by omega) w).1
end Go.AI
namespace Go.AI
variable {P : Program} {G : World -> Prop}
theorem zb81 {φ : Pl} {op : BinOp} {k k' : IntKind} {n m : Int} {d : EqD} {r : AV} (t : TypeId) (h : zi8 op d (.int k n) (.int k' m) = some r) (w : World) :
  ∃ z, (binOp op t (.int k n) (.int k' m)).run P w = .ok z w /\ zc3 φ r z := by
 cases op
 case shl =>
  simp only [zi8] at h; split at h
  ·cases h
  ·rename_i hn; cases h; exact ⟨_, by simp only [binOp, Op.shift, if_neg hn]; rfl, .int _ _⟩
 case shr =>
  simp only [zi8] at h; split at h
  ·cases h
  ·rename_i hn; cases h; exact ⟨_, by simp only [binOp, Op.shift, if_neg hn]; rfl, .int _ _⟩
 case quo =>
  simp only [zi8] at h
  split at h
  ·rename_i hk; subst hk
   split at h
   ·cases h
   ·rename_i hn; cases h; exact ⟨_, by simp only [binOp, ne_eq, not_true_eq_false, if_false, Op.intDiv, if_neg hn]; rfl, .int _ _⟩
  ·cases h
 case rem =>
  simp only [zi8] at h
  split at h
  ·rename_i hk; subst hk
   split at h
   ·cases h
   ·rename_i hn; cases h; exact ⟨_, by simp only [binOp, ne_eq, not_true_eq_false, if_false, Op.intDiv, if_neg hn]; rfl, .int _ _⟩
  ·cases h
 all_goals
  simp only [zi8] at h
  split at h
  ·rename_i hk; subst hk
   cases h; exact ⟨_, by simp only [binOp, ne_eq, not_true_eq_false, if_false, Op.intArith, Op.intBits, Op.intCmp]; rfl, by constructor⟩
  ·cases h
theorem zb80 {φ : Pl} {op : BinOp} {s s' : ByteArray} {d : EqD} {r : AV} (t : TypeId) (h : zi8 op d (.str (zd0 s)) (.str (zd0 s')) = some r) (w : World) :
  ∃ z, (binOp op t (.string s) (.string s')).run P w = .ok z w /\ zc3 φ r z := by
 cases op <;> simp only [zi8, z94, zaw2, zh6] at h <;> first | (cases h; done) | skip
 case add =>
  split at h
  ·cases h
  ·rename_i hn; cases h
   rw [<- zal9]
   exact ⟨_, by simp only [binOp, Op.stringOp, if_neg hn]; rfl, .str _⟩
 all_goals (cases h; exact ⟨_, by simp only [binOp, Op.stringOp]; rfl, by constructor⟩)
theorem zbl3 {φ : Pl} {a b : AV} {v u : Value} {op : BinOp} {t : TypeId} {r : AV} (hx : zc3 φ a v) (hy : zc3 φ b u) (x y : Operand) (h : zi8 op (zg2 P t) a b = some r) (w : World) :
  ∃ z, ((do eqGuard op t x y v u; binOp op t v u) : Sem Value).run P w = .ok z w /\ zc3 φ r z := by
 have hg : ∀ cs ds, a = .agg cs -> b = .agg ds -> (op = .eql \/ op = .neq) -> P.eqGuardType P.depth t = false := by
  intro cs ds e1 e2 ho
  subst e1; subst e2
  rcases ho with rfl | rfl <;> simp only [zi8] at h
  ·cases he : eqA (zg2 P t) (.agg cs) (.agg ds) with
   | none => simp [he] at h
   | some q => exact (zaf3 hx hy he 9999 (by omega) w).2 cs ds rfl rfl
  ·cases he : eqA (zg2 P t) (.agg cs) (.agg ds) with
   | none => simp [he] at h
   | some q => exact (zaf3 hx hy he 9999 (by omega) w).2 cs ds rfl rfl
 have hni : a ≠ .nili := by
  rintro rfl
  have e : ∀ d y, eqA d .nili y = none := by intro d y; cases d <;> first | rfl | (rename_i k; cases k <;> rfl)
  cases op <;> simp [zi8, e] at h
 simp only [Sem.run_bind, za75 hx hy op t x y hg hni w, Result.andThen_ok]
 by_cases hi : ∃ k n k' n', a = .int k n /\ b = .int k' n'
 ·obtain ⟨k, n, k', n', rfl, rfl⟩ := hi
  cases hx; cases hy; exact zb81 t h w
 ·by_cases hs : ∃ s s', a = .str s /\ b = .str s'
  ·obtain ⟨s, s', rfl, rfl⟩ := hs
   cases hx; cases hy; exact zb80 t h w
  ·have h1 : zi8 op (zg2 P t) a b = (match op with | .eql => (eqA (zg2 P t) a b).map .bool | .neq => (eqA (zg2 P t) a b).map fun b => .bool !b | _ => none) := by
    unfold zi8
    split
    ·exact absurd ⟨_, _, _, _, rfl, rfl⟩ hi
    ·exact absurd ⟨_, _, _, _, rfl, rfl⟩ hi
    ·exact absurd ⟨_, _, _, _, rfl, rfl⟩ hi
    ·exact absurd ⟨_, _, rfl, rfl⟩ hs
    ·rfl
    ·rfl
    ·cases op <;> first | rfl | exact (‹BinOp.eql = BinOp.eql -> False› rfl).elim | exact (‹BinOp.neq = BinOp.neq -> False› rfl).elim
   rw [h1] at h
   have h2 : (op = .eql -> binOp op t v u = (do pure (.bool (<- Op.equal t v u)))) /\ (op = .neq -> binOp op t v u = (do pure (.bool (!(<- Op.equal t v u))))) := by
    constructor
    ·rintro rfl
     cases hx <;> cases hy <;> first | rfl | exact absurd ⟨_, _, _, _, rfl, rfl⟩ hi | exact absurd ⟨_, _, rfl, rfl⟩ hs
    ·rintro rfl
     cases hx <;> cases hy <;> first | rfl | exact absurd ⟨_, _, _, _, rfl, rfl⟩ hi | exact absurd ⟨_, _, rfl, rfl⟩ hs
   cases op <;> simp only at h <;> first | (cases h; done) | skip
   ·cases he : eqA (zg2 P t) a b with
    | none => simp [he] at h
    | some q =>
     simp [he] at h; subst h
     exact ⟨_, by rw [h2.1 rfl]; simp only [Sem.run_bind, zx1 hx hy he w, Result.andThen_ok]; rfl, .bool _⟩
   ·cases he : eqA (zg2 P t) a b with
    | none => simp [he] at h
    | some q =>
     simp [he] at h; subst h
     exact ⟨_, by rw [h2.2 rfl]; simp only [Sem.run_bind, zx1 hx hy he w, Result.andThen_ok]; rfl, .bool _⟩
theorem zbn8 {φ : Pl} {a : AV} {v : Value} {op : UnOp} {r : AV} (hx : zc3 φ a v) (h : unA op a = some r) (w : World) : ∃ z, (Op.unary op v).run P w = .ok z w /\ zc3 φ r z := by
 unfold unA at h
 split at h
 ·cases hx; cases h; exact ⟨_, rfl, .int _ _⟩
 ·cases hx; cases h; exact ⟨_, rfl, .int _ _⟩
 ·cases hx; cases h; exact ⟨_, rfl, .bool _⟩
 ·cases h
theorem foldl_set {n : Nat} : ∀ (vs : List Value) (cs : Array Value) (off i : Nat), off + i + vs.length <= cs.size -> i = n ->
  ((vs.zipIdx i).foldl (fun cs (c, j) => cs.setIfInBounds (off + j) c) cs).toList = cs.toList.take (off + i) ++ vs ++ cs.toList.drop (off + i + vs.length)
 | [], cs, off, i, _, _ => by simp
 | v :: vs, cs, off, i, h, _ => by
  simp only [List.length_cons] at h
  have hlt : off + i < cs.toList.length := by simp; omega
  rw [List.zipIdx_cons, List.foldl_cons, foldl_set (n := i + 1) vs _ off (i + 1) (by simp; omega) rfl]
  have e : off + (i + 1) = off + i + 1 := by omega
  rw [e, Array.toList_setIfInBounds, zs5 _ _ _ hlt, List.drop_set_of_lt (by omega)]
  simp [Nat.add_assoc, Nat.add_comm 1]
theorem zv0 {φ : Pl} {e : Opd -> AV} {ρ : Operand -> Value} {place : Nat -> Option (Nat × Nat)} : ∀ (parts : List (Nat × Operand)) (ps : List (Nat × Nat × Opd)) (cs : List AV) (vs : Array Value) (r : List AV),
  zr8 place parts = some ps -> XRel φ e ρ (parts.map (·.2)) -> zg4 φ cs vs.toList -> zh0 e cs ps = some r ->
  ∃ us, Instr.fill place vs (parts.map fun (i, x) => (i, ρ x)) = some us /\ zg4 φ r us.toList
 | [], ps, cs, vs, r, h, _, hl, hf => by
  simp [zr8] at h; subst h; simp [zh0] at hf; subst hf
  exact ⟨vs, by simp [Instr.fill], hl⟩
 | (i, x) :: parts, ps, cs, vs, r, h, hx, hl, hf => by
  simp only [zr8] at h
  split at h
  ·rename_i off size y hp hy
   cases hc : zr8 place parts with
   | none => simp [hc] at h
   | some qs =>
    simp [hc] at h; subst h
    simp only [zh0] at hf
    cases hb : (Nat.beq (e y).cells.length size && Nat.ble (off + size) cs.length && za5 (e y).cells) with
    | false => simp [hb] at hf
    | true =>
     simp only [hb, cond_true] at hf
     simp only [Bool.and_eq_true, Tr.nbeq, decide_eq_true_eq, Nat.ble_eq] at hb
     obtain ⟨⟨b1, b2⟩, b3⟩ := hb
     have hr := (hx x (by simp) y hy).cells b3
     have hlen : (ρ x).cells.size = size := by rw [<- b1, hr.len]; simp
     have hsz : off + size <= vs.size := by have := hl.len; simp at this; omega
     have hfold : ((ρ x).cells.zipIdx.foldl (fun cs (c, j) => cs.setIfInBounds (off + j) c) vs).toList = vs.toList.take off ++ (ρ x).cells.toList ++ vs.toList.drop (off + (ρ x).cells.toList.length) := by
      have := foldl_set (n := 0) (ρ x).cells.toList vs off 0 (by simp [hlen]; omega) rfl
      rw [<- Array.foldl_toList]
      simpa [Array.toList_zipIdx] using this
     have hset : zg4 φ (setSeg cs off (e y).cells) ((ρ x).cells.zipIdx.foldl (fun cs (c, j) => cs.setIfInBounds (off + j) c) vs).toList := by
      rw [hfold]; exact hl.setSeg hr off
     obtain ⟨us, g1, g2⟩ := zv0 parts qs _ _ r hc (fun z hz => hx z (by simp at hz ⊢; exact .inr hz)) hset hf
     refine ⟨us, ?_, g2⟩
     simp only [List.map_cons, Instr.fill, hp]
     rw [if_neg (by simp [hlen]; omega)]
     exact g1
  ·cases h
theorem zaa2 (w : World) : ∀ (fs : List Field) (pl : List (Nat × Nat)), placesOf P fs = some pl ->
  (fs.mapM (fun f => do pure (f.offset, <- sizeOf f.type) : Field -> Sem (Nat × Nat))).run P w = .ok pl w
 | [], pl, h => by simp [placesOf] at h; subst h; simp
 | f :: fs, pl, h => by
  simp only [placesOf] at h
  split at h
  ·cases h
  ·rename_i n hn
   cases hp : placesOf P fs with
   | none => simp [hp] at h
   | some l =>
    simp [hp] at h; subst h
    have := zaa2 w fs l hp
    simp [List.mapM_cons, run_sizeOf hn] at this ⊢
    simp [this]
theorem zat1 {φ : Pl} {e : Opd -> AV} {ρ : Operand -> Value} {t : TypeId} {fs : Array Field} {z : AV} {pl : List (Nat × Nat)} {parts : Array (Nat × Operand)} {ps : List (Nat × Nat × Opd)} {r : List AV}
  (ht : P.underlying t = some (.struct fs)) (hz : zc5 P t = some z) (hz1 : za5 z.cells = true) (hp : placesOf P fs.toList = some pl) (hc : zr8 (fun i => pl[i]?) parts.toList = some ps) (hx : XRel φ e ρ (parts.toList.map (·.2)))
  (hf : zh0 e z.cells ps = some r) (w : World) : ∃ v, (Instr.build t (parts.map fun (i, x) => (i, ρ x))).run P w = .ok v w /\ zc3 φ (.agg r) v := by
 obtain ⟨zv, rz, _, hzr⟩ := zf1 hz φ
 obtain ⟨us, g1, g2⟩ := zv0 parts.toList ps z.cells zv.cells r hc hx (rz.cells hz1) hf
 refine ⟨.agg us, ?_, .agg _ _ g2⟩
 have hm := zaa2 w fs.toList pl hp
 have hfun : (fun x : Nat => pl.toArray[x]?) = fun i => pl[i]? := by funext i; simp
 simp only [Instr.build, Sem.run_bind, hzr, Result.andThen_ok, run_underlying, ht, Array.mapM_eq_mapM_toList, Sem.run_map, hm, Array.toList_map]
 rw [hfun, g1]
 rfl
theorem zay1 {φ : Pl} {e : Opd -> AV} {ρ : Operand -> Value} {t el : TypeId} {k n : Nat} {z : AV} {parts : Array (Nat × Operand)} {ps : List (Nat × Nat × Opd)} {r : List AV}
  (ht : P.underlying t = some (.array k el)) (hz : zc5 P t = some z) (hz1 : za5 z.cells = true) (hn : zb3 P el = some n) (hc : zr8 (fun i => some (i * n, n)) parts.toList = some ps) (hx : XRel φ e ρ (parts.toList.map (·.2)))
  (hf : zh0 e z.cells ps = some r) (w : World) : ∃ v, (Instr.build t (parts.map fun (i, x) => (i, ρ x))).run P w = .ok v w /\ zc3 φ (.agg r) v := by
 obtain ⟨zv, rz, _, hzr⟩ := zf1 hz φ
 obtain ⟨us, g1, g2⟩ := zv0 parts.toList ps z.cells zv.cells r hc hx (rz.cells hz1) hf
 refine ⟨.agg us, ?_, .agg _ _ g2⟩
 simp only [Instr.build, Sem.run_bind, hzr, Result.andThen_ok, run_underlying, ht, run_sizeOf hn, Array.toList_map]
 rw [g1]
 rfl
end Go.AI
namespace Go.AI
variable {P : Program} {G : World -> Prop}
theorem zb0 {x : Operand} {f : Opd -> AOp} {ao : AOp} (h : c1 x f = some ao) : ∃ y, zk0 x = some y /\ ao = f y := by
 unfold c1 at h; cases hx : zk0 x <;> simp [hx] at h; exact ⟨_, rfl, h.symm⟩
theorem zc1 {x y : Operand} {f : Opd -> Opd -> AOp} {ao : AOp} (h : c2 x y f = some ao) : ∃ a b, zk0 x = some a /\ zk0 y = some b /\ ao = f a b := by
 unfold c2 at h; cases hx : zk0 x <;> cases hy : zk0 y <;> simp [hx, hy] at h; exact ⟨_, _, rfl, rfl, h.symm⟩
theorem zn5 {x y z : Operand} {f : Opd -> Opd -> Opd -> AOp} {ao : AOp} (h : c3 x y z f = some ao) : ∃ a b c, zk0 x = some a /\ zk0 y = some b /\ zk0 z = some c /\ ao = f a b c := by
 unfold c3 at h; cases hx : zk0 x <;> cases hy : zk0 y <;> cases hz : zk0 z <;> simp [hx, hy, hz] at h; exact ⟨_, _, _, rfl, rfl, rfl, h.symm⟩
theorem zn0 {φ : Pl} {e : Opd -> AV} {ρ : Operand -> Value} {x : Option Operand} {y : Option Opd} (h : zq8 x = some y) (hx : XRel φ e ρ x.toArray.toList) : zab2 φ (y.map e) (x.map ρ) := by
 cases x with
 | none => simp [zq8] at h; subst h; trivial
 | some x =>
  simp only [zq8] at h
  cases hc : zk0 x <;> simp [hc] at h
  subst h
  exact hx x (by simp) _ hc
theorem zae6 {φ : Pl} (mx : Bool) : ∀ (xs : List AV) (x : AV) (v : Value) (vs : List Value) (r : AV) (w : World), zc3 φ x v -> zg4 φ xs vs -> maxA mx x xs = some r ->
  ∃ z, (vs.foldlM (if mx then Builtin.max2 else Builtin.min2) v).run P w = .ok z w /\ zc3 φ r z
 | [], x, v, vs, r, w, hx, hl, h => by
  cases hl
  simp only [maxA] at h
  split at h
  ·cases h; exact ⟨v, by simp, hx⟩
  ·cases h
 | y :: xs, x, v, vs, r, w, hx, hl, h => by
  cases hl with
  | cons hy ht =>
   unfold maxA at h
   split at h
   ·rename_i e; cases e
   ·rename_i k a k' b r' e
    obtain ⟨rfl, rfl⟩ := by simpa using e
    split at h
    ·rename_i hk; subst hk
     cases hx; cases hy
     obtain ⟨z, h1, h2⟩ := zae6 mx xs _ _ _ r w (.int _ _) ht h
     refine ⟨z, ?_, h2⟩
     cases mx <;> simpa [Builtin.max2, Builtin.min2] using h1
    ·cases h
   ·cases h
theorem zt5 {s : Sem Value} {w w' : World} {v : Value} (h : s.run P w = .ok v w') : (do pure (.value (<- s)) : Sem Next).run P w = .ok (.value v) w' := by
 simp [h]
theorem zap5 {φ : Pl} {e : Opd -> AV} {ρ : Operand -> Value} {b : Builtin} {ts : Array TypeId} {xs : Array Operand} {dst : Option Tmp} {ty : TypeId} {pos : String} {after : Array Edge} {guard : Option (Nat × Bool)} {ao : AOp} {a : AV}
  (hc : zv1 P b ts xs = some ao) (hm : XRel φ e ρ xs.toList) (h : zb9 e ao = some a) (w : World) :
  ∃ v, (execOp ρ ⟨dst, .call ⟨.builtin b, xs, ts⟩, ty, pos, after, guard⟩).run P w = .ok (.value v) w /\ zc3 φ a v := by
 have hrun : ∀ {s : Sem Value} {v : Value}, (∀ cs, builtin b ts ty cs (xs.map ρ) = (do pure (.value (<- s)))) -> s.run P w = .ok v w -> zc3 φ a v ->
   ∃ v, (execOp ρ ⟨dst, .call ⟨.builtin b, xs, ts⟩, ty, pos, after, guard⟩).run P w = .ok (.value v) w /\ zc3 φ a v := by
  intro s v e1 e2 e3
  refine ⟨v, ?_, e3⟩
  simp only [execOp, resolve, Sem.run_bind, Sem.run_pure, Result.andThen_ok, invoke]
  rw [e1]; simp [e2]
 unfold zv1 at hc
 split at hc
 ·split at hc
  ·rename_i el _ _ _
   cases hn : zb3 P el <;> cases hb : zg7 P el <;> cases hz : zc5 P el <;> simp [hn, hb, hz] at hc
   obtain ⟨_, hc⟩ := hc
   obtain ⟨_, _, _, _, rfl⟩ := zc1 hc; simp [zb9] at h
  ·rename_i el _ _
   cases hn : zb3 P el <;> cases hb : zg7 P el <;> cases hz : zc5 P el <;> simp [hn, hb, hz] at hc
   obtain ⟨_, hc⟩ := hc
   obtain ⟨_, _, _, _, rfl⟩ := zc1 hc; simp [zb9] at h
  ·cases hc
 ·rename_i t x e1 e2
  obtain ⟨rfl⟩ : ts = #[t] := by apply Array.toList_inj.1; simpa using e1
  obtain ⟨rfl⟩ : xs = #[x] := by apply Array.toList_inj.1; simpa using e2
  split at hc
  ·rename_i ht
   obtain ⟨y, hy, rfl⟩ := zb0 hc
   have r := hm x (by simp) y hy
   simp only [zb9] at h
   generalize hv : ρ x = v at r
   split at h <;> first | (cases h; done) | skip
   rename_i hq; rw [hq] at r; cases h; cases r
   exact hrun (fun _ => rfl) (by simp only [Builtin.len_, List.map_toArray, List.map_cons, List.map_nil, hv]; simp [ht]; rfl) (by rw [zh6]; exact .int _ _)
  ·rename_i ht
   obtain ⟨y, hy, rfl⟩ := zb0 hc
   have r := hm x (by simp) y hy
   simp only [zb9] at h
   generalize hv : ρ x = v at r
   split at h <;> first | (cases h; done) | skip
   ·rename_i hq; rw [hq] at r; cases h; cases r
    exact hrun (fun _ => rfl) (by simp only [Builtin.len_, List.map_toArray, List.map_cons, List.map_nil, hv]; simp [ht]; rfl) (.int _ _)
   ·rename_i hq; rw [hq] at r; cases h; cases r
    ·exact hrun (fun _ => rfl) (by simp only [Builtin.len_, List.map_toArray, List.map_cons, List.map_nil, hv]; simp [ht]; rfl) (.int _ _)
    ·exact hrun (fun _ => rfl) (by simp only [Builtin.len_, List.map_toArray, List.map_cons, List.map_nil, hv]; simp [ht]; rfl) (.int _ _)
  ·obtain ⟨_, _, rfl⟩ := zb0 hc; simp [zb9] at h
  ·rename_i ht
   obtain ⟨y, hy, rfl⟩ := zb0 hc
   simp only [zb9] at h; cases h
   exact hrun (fun _ => rfl) (by simp only [Builtin.len_, List.map_toArray, List.map_cons, List.map_nil]; simp [ht]; rfl) (.int _ _)
  ·cases hc
 ·rename_i t x e1 e2
  obtain ⟨rfl⟩ : ts = #[t] := by apply Array.toList_inj.1; simpa using e1
  obtain ⟨rfl⟩ : xs = #[x] := by apply Array.toList_inj.1; simpa using e2
  split at hc
  ·rename_i ht
   obtain ⟨y, hy, rfl⟩ := zb0 hc
   have r := hm x (by simp) y hy
   simp only [zb9] at h
   generalize hv : ρ x = v at r
   split at h <;> first | (cases h; done) | skip
   ·rename_i hq; rw [hq] at r; cases h; cases r
    exact hrun (fun _ => rfl) (by simp only [Builtin.cap_, List.map_toArray, List.map_cons, List.map_nil, hv]; simp [ht]; rfl) (.int _ _)
   ·rename_i hq; rw [hq] at r; cases h
    cases r with
    | slc _ _ _ _ _ _ L cap hL q1 q2 q3 q4 =>
     have := q3 rfl; subst this
     exact hrun (fun _ => rfl) (by simp only [Builtin.cap_, List.map_toArray, List.map_cons, List.map_nil, hv]; simp [ht]; rfl) (.int _ _)
    | slc0 => exact hrun (fun _ => rfl) (by simp only [Builtin.cap_, List.map_toArray, List.map_cons, List.map_nil, hv]; simp [ht]; rfl) (.int _ _)
  ·cases hc
 ·split at hc
  ·rename_i el _
   cases hn : zb3 P el <;> simp [hn] at hc
   obtain ⟨_, _, _, _, rfl⟩ := zc1 hc; simp [zb9] at h
  ·cases hc
 ·split at hc
  ·obtain ⟨_, _, _, _, rfl⟩ := zc1 hc; simp [zb9] at h
  ·cases hc
 ·split at hc
  ·obtain ⟨_, _, rfl⟩ := zb0 hc; simp [zb9] at h
  ·rename_i el _
   cases hz : zc5 P el <;> simp [hz] at hc
   obtain ⟨_, _, rfl⟩ := zb0 hc; simp [zb9] at h
  ·cases hc
 ·cases hq : zj8 xs.toList <;> simp [hq] at hc
  subst hc
  rename_i ys
  have r := XRel.list hq hm
  simp only [zb9] at h
  split at h
  ·cases h
  ·rename_i x xr hxs
   rw [hxs] at r
   cases hv : xs.toList.map ρ with
   | nil => rw [hv] at r; cases r
   | cons v vs =>
    rw [hv] at r
    cases r with
    | cons r1 r2 =>
     obtain ⟨z, g1, g2⟩ := zae6 (P := P) true _ _ _ _ _ w r1 r2 h
     exact hrun (s := Builtin.max_ ts ty (xs.map ρ)) (fun _ => rfl) (by simp only [Builtin.max_, Array.toList_map, hv]; exact g1) g2
 ·cases hq : zj8 xs.toList <;> simp [hq] at hc
  subst hc
  rename_i ys
  have r := XRel.list hq hm
  simp only [zb9] at h
  split at h
  ·cases h
  ·rename_i x xr hxs
   rw [hxs] at r
   cases hv : xs.toList.map ρ with
   | nil => rw [hv] at r; cases r
   | cons v vs =>
    rw [hv] at r
    cases r with
    | cons r1 r2 =>
     obtain ⟨z, g1, g2⟩ := zae6 (P := P) false _ _ _ _ _ w r1 r2 h
     exact hrun (s := Builtin.min_ ts ty (xs.map ρ)) (fun _ => rfl) (by simp only [Builtin.min_, Array.toList_map, hv]; exact g1) g2
 ·cases hc
theorem za61 {φ : Pl} {e : Opd -> AV} {ρ : Operand -> Value} {o : Oper} {ao : AOp} {a : AV} (hc : cop P o.op = some ao) (hx : XRel φ e ρ o.op.operands.toList) (h : zb9 e ao = some a) (w : World) :
  ∃ v, (execOp ρ o).run P w = .ok (.value v) w /\ zc3 φ a v := by
 obtain ⟨dst, op, type, pos, after, guard⟩ := o
 simp only at hc hx
 have hm : ∀ x, x ∈ op.operands.toList -> ∀ y, zk0 x = some y -> zc3 φ (e y) (ρ x) := hx
 cases op <;> simp only [cop] at hc
 case move x =>
  obtain ⟨y, hy, rfl⟩ := zb0 hc
  simp only [zb9] at h; cases h
  exact ⟨_, rfl, hm x (by simp [Op.operands]) y hy⟩
 case assign x =>
  obtain ⟨y, hy, rfl⟩ := zb0 hc
  simp only [zb9] at h; cases h
  exact ⟨_, rfl, hm x (by simp [Op.operands]) y hy⟩
 case pick c x y =>
  obtain ⟨c', x', y', h1, h2, h3, rfl⟩ := zn5 hc
  simp only [zb9] at h
  have r1 := hm c (by simp [Op.operands]) c' h1
  have r2 := hm x (by simp [Op.operands]) x' h2
  have r3 := hm y (by simp [Op.operands]) y' h3
  split at h
  ·rename_i t ht; rw [ht] at r1
   generalize hcv : ρ c = cv at r1
   cases r1
   cases h
   cases t
   ·exact ⟨ρ y, by simp [execOp, hcv, asBool], by simpa using r3⟩
   ·exact ⟨ρ x, by simp [execOp, hcv, asBool], by simpa using r2⟩
  ·cases h
 case alloc t =>
  by_cases hb : zaw9 P t = true
  ·simp [hb] at hc; subst hc; simp [zb9] at h
  cases hz : zc5 P t <;> simp [hb, hz] at hc; subst hc; simp [zb9] at h
 case box t x => obtain ⟨y, hy, rfl⟩ := zb0 hc; simp [zb9] at h
 case build t parts =>
  split at hc
  ·rename_i fs ht
   cases hz : zc5 P t with
   | none => simp [hz] at hc
   | some z =>
    simp only [hz, Option.bind_some] at hc
    split at hc
    ·rename_i hz1
     cases hp : placesOf P fs.toList with
     | none => simp [hp] at hc
     | some pl =>
      simp only [hp, Option.bind_some] at hc
      cases hq : zr8 (fun i => pl[i]?) parts.toList with
      | none => simp [hq] at hc
      | some ps =>
       simp [hq] at hc; subst hc
       simp only [zb9] at h
       cases hf : zh0 e z.cells ps with
       | none => simp [hf] at h
       | some r =>
        simp [hf] at h; subst h
        obtain ⟨v, h1, h2⟩ := zat1 ht hz hz1 hp hq (fun x hx => hm x (by simpa [Op.operands] using hx)) hf w
        exact ⟨v, zt5 h1, h2⟩
    ·cases hc
  ·rename_i k el ht
   cases hz : zc5 P t with
   | none => simp [hz] at hc
   | some z =>
    simp only [hz, Option.bind_some] at hc
    split at hc
    ·rename_i hz1
     cases hp : zb3 P el with
     | none => simp [hp] at hc
     | some n =>
      simp only [hp, Option.bind_some] at hc
      cases hq : zr8 (fun i => some (i * n, n)) parts.toList with
      | none => simp [hq] at hc
      | some ps =>
       simp [hq] at hc; subst hc
       simp only [zb9] at h
       cases hf : zh0 e z.cells ps with
       | none => simp [hf] at h
       | some r =>
        simp [hf] at h; subst h
        obtain ⟨v, h1, h2⟩ := zay1 ht hz hz1 hp hq (fun x hx => hm x (by simpa [Op.operands] using hx)) hf w
        exact ⟨v, zt5 h1, h2⟩
    ·cases hc
  ·cases hc
 case buildSlice t len parts =>
  split at hc
  ·rename_i el ht
   cases hn : zb3 P el <;> cases hz : zc5 P el <;> simp [hn, hz] at hc
   obtain ⟨_, ps, _, rfl⟩ := hc
   simp [zb9] at h
  ·cases hc
 case insert t m k x =>
  split at hc
  ·obtain ⟨_, _, _, _, _, _, rfl⟩ := zn5 hc; simp [zb9] at h
  ·cases hc
 case load t a =>
  cases ht : zh9 P t <;> simp [ht] at hc
  obtain ⟨_, _, rfl⟩ := zb0 hc; simp [zb9] at h
 case store t a x =>
  cases ht : zb3 P t <;> simp [ht] at hc
  obtain ⟨_, _, _, _, rfl⟩ := zc1 hc; simp [zb9] at h
 case ready => cases hc
 case waits => cases hc
 case nilCheck x =>
  obtain ⟨y, hy, rfl⟩ := zb0 hc
  have r := hm x (by simp [Op.operands]) y hy
  simp only [zb9] at h
  generalize hv : ρ x = v at r
  split at h <;> first | (cases h; done) | skip
  ·rename_i hq; rw [hq] at r; cases h; cases r with | ptr _ _ L hL => exact ⟨_, by simp only [execOp, hv]; rfl, .ptr _ _ L hL⟩
  ·rename_i hq; rw [hq] at r; cases h; cases r with | fn _ _ _ _ _ r1 r2 => exact ⟨_, by simp only [execOp, hv]; rfl, .fn _ _ _ _ _ r1 r2⟩
 case binOp op t x y u =>
  obtain ⟨a', b', h1, h2, rfl⟩ := zc1 hc
  simp only [zb9] at h
  obtain ⟨z, g1, g2⟩ := zbl3 (hm x (by simp [Op.operands]) a' h1) (hm y (by simp [Op.operands]) b' h2) x y h w
  exact ⟨z, zt5 g1, g2⟩
 case unOp op t x =>
  obtain ⟨a', h1, rfl⟩ := zb0 hc
  simp only [zb9] at h
  obtain ⟨z, g1, g2⟩ := zbn8 (P := P) (hm x (by simp [Op.operands]) a' h1) h w
  exact ⟨z, zt5 g1, g2⟩
 case convert src dst x =>
  split at hc
  ·rename_i hs hd
   obtain ⟨a', h1, rfl⟩ := zb0 hc
   have r := hm x (by simp [Op.operands]) a' h1
   simp only [zb9] at h
   split at h <;> first | (cases h; done) | skip
   rename_i hq; rw [hq] at r; cases h
   generalize hv : ρ x = v at r
   cases r
   exact ⟨_, zt5 (by simp only [convert, Sem.run_bind, run_underlying, hs, hd, Result.andThen_ok, hv, Conv.intToInt]; rfl), .int _ _⟩
  ·rename_i hs hd
   obtain ⟨a', h1, rfl⟩ := zb0 hc
   have r := hm x (by simp [Op.operands]) a' h1
   simp only [zb9] at h
   split at h <;> first | (cases h; done) | skip
   rename_i hq; rw [hq] at r; cases h
   generalize hv : ρ x = v at r
   cases r
   exact ⟨_, zt5 (by simp only [convert, Sem.run_bind, run_underlying, hs, hd, Result.andThen_ok, hv]; rfl), .str _⟩
  ·split at hc
   ·obtain ⟨a', h1, rfl⟩ := zb0 hc; simp [zb9] at h
   ·cases hc
  ·split at hc
   ·obtain ⟨a', h1, rfl⟩ := zb0 hc; simp [zb9] at h
   ·cases hc
  ·by_cases hsd : src = dst
   ·rw [if_pos hsd] at hc
    split at hc
    ·obtain ⟨a', h1, rfl⟩ := zb0 hc; simp [zb9] at h
    ·cases hc
   ·rw [if_neg hsd] at hc; cases hc
  ·cases hc
 case sliceToArrayPointer t x =>
  split at hc
  ·rename_i n el ht
   obtain ⟨a', h1, rfl⟩ := zb0 hc
   have r := hm x (by simp [Op.operands]) a' h1
   simp only [zb9] at h
   split at h
   ·rename_i o off len sz lo ex hq
    rw [hq] at r
    generalize hv : ρ x = v at r
    cases hb : (Nat.ble n len && Nat.ble 1 n) with
    | false => simp [hb] at h
    | true =>
     simp [hb] at h; subst h
     simp only [Bool.and_eq_true, Nat.ble_eq] at hb
     cases r with
     | slc _ _ _ _ _ _ L cap hL q1 q2 q3 q4 =>
      refine ⟨_, zt5 (v := .pointer (some ⟨L.blk, L.base + off, none⟩)) ?_, .ptr _ _ L hL⟩
      have : ¬ len < n := by omega
      simp [Instr.arrayAt, ht, hv, this]
     | slc0 => omega
   ·cases h
  ·cases hc
 case makeInterface => cases hc
 case makeFunc fn first captured =>
  cases fn <;> simp only at hc <;> first | (cases hc; done) | skip
  rename_i f
  cases h1 : zj8 first.toList with
  | none => simp [h1] at hc
  | some fs =>
   cases h2 : zj8 captured.toList with
   | none => simp [h1, h2] at hc
   | some cs =>
    simp [h1, h2] at hc; subst hc
    simp only [zb9] at h
    cases hb : za5 (cs.map e) with
    | false => simp [hb] at h
    | true =>
     simp [hb] at h; subst h
     refine ⟨_, rfl, .fn _ _ _ _ _ ?_ ?_⟩
     ·simpa using XRel.list h1 (fun x hx => hm x (by simp [Op.operands] at hx ⊢; exact .inl hx))
     ·simpa using XRel.list h2 (fun x hx => hm x (by simp [Op.operands] at hx ⊢; exact .inr hx))
 case makeMap t r =>
  split at hc
  ·cases hr : zq8 r <;> simp [hr] at hc; subst hc; simp [zb9] at h
  ·cases hc
 case makeChan => cases hc
 case makeSlice t l c =>
  split at hc
  ·rename_i el ht
   cases hn : zb3 P el <;> cases hb : zg7 P el <;> cases hz : zc5 P el <;> simp [hn, hb, hz] at hc
   obtain ⟨_, _, _, _, rfl⟩ := zc1 hc; simp [zb9] at h
  ·cases hc
 case slice t x lo hi mx =>
  split at hc
  ·rename_i ht
   split at hc
   ·cases hc
   ·rename_i hmx
    have hmx' : mx = none := by simpa using hmx
    subst hmx'
    cases h1 : zk0 x <;> cases h2 : zq8 lo <;> cases h3 : zq8 hi <;> simp [h1, h2, h3] at hc
    subst hc
    rename_i x' lo' hi'
    have r := hm x (by simp [Op.operands]) x' h1
    have r2 := zn0 (e := e) (ρ := ρ) h2 (fun z hz => hm z (by simp [Op.operands] at hz ⊢; exact .inr (.inl hz)))
    have r3 := zn0 (e := e) (ρ := ρ) h3 (fun z hz => hm z (by simp [Op.operands] at hz ⊢; exact .inr (.inr hz)))
    simp only [zb9] at h
    split at h
    ·rename_i s hq
     rw [hq] at r
     generalize hv : ρ x = v at r
     cases r with
     | str b =>
      cases hb : zd8 (zd0 b).length (zd0 b).length true (lo'.map e) (hi'.map e) none with
      | none => simp [hb] at h
      | some q =>
       obtain ⟨l, hh, m, ex⟩ := q
       simp [hb] at h; subst h
       rw [zh6] at hb
       obtain ⟨M, g1, g2, g3, g4, g5, g6⟩ := zn2 (P := P) (vm := none) (max := none) r2 r3 trivial (Nat.le_refl _) (Nat.le_refl _) (fun _ => rfl) hb false w
       rw [<- zv7]
       exact ⟨_, zt5 (by simp only [Instr.sliceAt, Sem.run_bind, run_underlying, ht, Result.andThen_ok, Instr.slice, hv, Option.map_none, Option.isSome_none, Bool.false_eq_true, if_false, g1]; rfl), .str _⟩
    ·cases h
  ·rename_i el ht
   cases hn : zb3 P el <;> cases h1 : zk0 x <;> cases h2 : zq8 lo <;> cases h3 : zq8 hi <;> cases h4 : zq8 mx <;> simp [hn, h1, h2, h3, h4] at hc
   subst hc
   rename_i n x' lo' hi' mx'
   have r := hm x (by simp [Op.operands]) x' h1
   have r2 := zn0 (e := e) (ρ := ρ) h2 (fun z hz => hm z (by simp [Op.operands] at hz ⊢; exact .inr (.inl hz)))
   have r3 := zn0 (e := e) (ρ := ρ) h3 (fun z hz => hm z (by simp [Op.operands] at hz ⊢; exact .inr (.inr (.inl hz))))
   have r4 := zn0 (e := e) (ρ := ρ) h4 (fun z hz => hm z (by simp [Op.operands] at hz ⊢; exact .inr (.inr (.inr hz))))
   simp only [zb9] at h
   split at h
   ·rename_i hq; rw [hq] at r
    cases hb : zd8 0 0 true (lo'.map e) (hi'.map e) (mx'.map e) with
    | none => simp [hb] at h
    | some q =>
     simp [hb] at h; subst h
     obtain ⟨v, g1, g2⟩ := zbb7 (P := P) ht hn r r2 r3 r4 hb w
     exact ⟨v, zt5 g1, g2⟩
   ·rename_i o off len sz' cap ex hq; rw [hq] at r
    cases hbe : Nat.beq n sz' with
    | false => simp [hbe] at h
    | true =>
     have := Nat.eq_of_beq_eq_true hbe; subst this
     simp only [hbe, cond_true] at h
     cases hb : zd8 len cap ex (lo'.map e) (hi'.map e) (mx'.map e) with
     | none => simp [hb] at h
     | some q =>
      obtain ⟨l, hh, m, ex'⟩ := q
      simp [hb] at h; subst h
      obtain ⟨v, g1, g2⟩ := zbp0 (P := P) ht hn r r2 r3 r4 hb w
      exact ⟨v, zt5 g1, g2⟩
   ·cases h
  ·split at hc
   ·cases hc
   ·rename_i k el ht _
    cases hn : zb3 P el <;> cases h1 : zk0 x <;> cases h2 : zq8 lo <;> cases h3 : zq8 hi <;> simp [hn, h1, h2, h3] at hc
    subst hc; simp [zb9] at h
  ·cases hc
 case fieldAddr s x f =>
  split at hc
  ·rename_i fs ht
   split at hc
   ·rename_i fd hfd
    split at hc
    ·cases hc
    ·rename_i n hn hs
     obtain ⟨a', h1, rfl⟩ := zb0 hc
     have r := hm x (by simp [Op.operands]) a' h1
     simp only [zb9] at h
     split at h
     ·rename_i o off hq; rw [hq] at r; cases h
      generalize hv : ρ x = v at r
      cases r with
      | ptr _ _ L hL =>
       refine ⟨.pointer (some ⟨L.blk, L.base + (off + fd.offset), none⟩), zt5 ?_, .ptr _ _ L hL⟩
       have hn0 : ¬ n = 0 := fun q => hn q
       simp [Instr.fieldAt, ht, hfd, hv, Instr.sureAddr, fieldPlace, run_sizeOf hs, hn0, z09, Nat.add_assoc]
     ·cases h
    ·cases hc
   ·cases hc
  ·cases hc
 case field s x f =>
  split at hc
  ·rename_i fs ht
   split at hc
   ·rename_i fd hfd
    cases hn : zh9 P fd.type <;> simp [hn] at hc
    rename_i n
    obtain ⟨a', h1, rfl⟩ := zb0 hc
    have r := hm x (by simp [Op.operands]) a' h1
    simp only [zb9] at h
    split at h
    ·rename_i cs hq; rw [hq] at r
     generalize hv : ρ x = v at r
     cases r with
     | agg _ vs hl =>
      obtain ⟨v, g1, g2⟩ := za06 (P := P) (w := w) hn hl h
      exact ⟨v, zt5 (by simp [Instr.field, ht, hfd, hv, asAgg, g1]), g2⟩
    ·cases h
   ·cases hc
  ·cases hc
 case indexAddr t x i =>
  split at hc
  ·rename_i el ht
   cases hn : zb3 P el <;> simp [hn] at hc
   rename_i n
   obtain ⟨a', b', h1, h2, rfl⟩ := zc1 hc
   have r1 := hm x (by simp [Op.operands]) a' h1
   have r2 := hm i (by simp [Op.operands]) b' h2
   simp only [zb9] at h
   split at h
   ·rename_i o off len sz lo ex k ii hq hq2
    rw [hq] at r1; rw [hq2] at r2
    split at h
    ·rename_i hb; obtain ⟨b1, b2, b3⟩ := hb; subst b3; cases h
     generalize hv : ρ x = v at r1
     generalize hv2 : ρ i = iv at r2
     cases r2
     cases r1 with
     | slc _ _ _ _ _ _ L cap hL q1 q2 q3 q4 =>
      refine ⟨_, zt5 (v := .pointer (some ⟨L.blk, L.base + (off + ii.toNat * n), none⟩)) ?_, .ptr _ _ L hL⟩
      simp [Instr.indexAt, asIntOf, ht, hv, hv2, b1, b2, run_sizeOf hn, z09, Nat.add_assoc]
     | slc0 => simp at b2; omega
    ·cases h
   ·cases h
  ·rename_i k el ht
   cases hn : zb3 P el <;> simp [hn] at hc
   rename_i n
   obtain ⟨a', b', h1, h2, rfl⟩ := zc1 hc
   have r1 := hm x (by simp [Op.operands]) a' h1
   have r2 := hm i (by simp [Op.operands]) b' h2
   simp only [zb9] at h
   split at h
   ·rename_i o off kk ii hq hq2
    rw [hq] at r1; rw [hq2] at r2
    split at h
    ·rename_i hb; obtain ⟨b1, b2⟩ := hb; cases h
     generalize hv : ρ x = v at r1
     generalize hv2 : ρ i = iv at r2
     cases r2
     cases r1 with
     | ptr _ _ L hL =>
      refine ⟨_, zt5 (v := .pointer (some ⟨L.blk, L.base + (off + ii.toNat * n), none⟩)) ?_, .ptr _ _ L hL⟩
      simp [Instr.indexAt, asIntOf, ht, hv, hv2, b1, b2, run_sizeOf hn, z09, Nat.add_assoc, Instr.sureAddr]
    ·cases h
   ·cases h
  ·cases hc
 case index t x i =>
  split at hc
  ·rename_i k el ht
   cases hn : zb3 P el <;> cases ha : zh9 P el <;> simp [hn, ha] at hc
   rename_i n m
   obtain ⟨a', b', h1, h2, rfl⟩ := zc1 hc
   have r1 := hm x (by simp [Op.operands]) a' h1
   have r2 := hm i (by simp [Op.operands]) b' h2
   simp only [zb9] at h
   split at h
   ·rename_i cs kk ii hq hq2
    rw [hq] at r1; rw [hq2] at r2
    split at h
    ·rename_i hb
     generalize hv : ρ x = v at r1
     generalize hv2 : ρ i = iv at r2
     cases r2
     cases r1 with
     | agg _ vs hl =>
      obtain ⟨v, g1, g2⟩ := za06 (P := P) (w := w) ha hl h
      exact ⟨v, zt5 (by simp [Instr.index, asIntOf, ht, hv, hv2, hb, run_sizeOf hn, g1]), g2⟩
    ·cases h
   ·cases h
  ·rename_i ht
   obtain ⟨a', b', h1, h2, rfl⟩ := zc1 hc
   have r1 := hm x (by simp [Op.operands]) a' h1
   have r2 := hm i (by simp [Op.operands]) b' h2
   simp only [zb9] at h
   split at h
   ·rename_i s kk ii hq hq2
    rw [hq] at r1; rw [hq2] at r2
    split at h
    ·rename_i hb
     generalize hv : ρ x = v at r1
     generalize hv2 : ρ i = iv at r2
     cases r2
     cases r1 with
     | str b =>
      rw [za69] at h
      cases hg : b[ii.toNat]? with
      | none => simp [hg] at h
      | some c =>
       simp [hg] at h; subst h
       refine ⟨.int .u8 c.toNat, zt5 ?_, .int _ _⟩
       simp only [Instr.index, Sem.run_bind, hv2, asIntOf, run_underlying, ht, hv, Result.andThen_ok, Sem.run_pure, hb, if_true, hg]
    ·cases h
   ·cases h
  ·cases hc
 case lookup t x i ok =>
  split at hc
  ·rename_i k el ht
   cases hz : zc5 P el <;> simp [hz] at hc
   obtain ⟨_, _, _, _, rfl⟩ := zc1 hc; simp [zb9] at h
  ·cases hc
 case mapUpdate t m k x =>
  split at hc
  ·obtain ⟨_, _, _, _, _, _, rfl⟩ := zn5 hc; simp [zb9] at h
  ·cases hc
 case mapEntry => cases hc
 case entryStore => cases hc
 case range t x =>
  split at hc
  ·obtain ⟨_, _, rfl⟩ := zb0 hc; simp [zb9] at h
  ·cases hc
 case next it s =>
  cases s <;> simp only at hc
  ·cases hc
  ·obtain ⟨_, _, rfl⟩ := zb0 hc; simp [zb9] at h
 case entry => cases hc
 case typeAssert => cases hc
 case extract t i =>
  obtain ⟨a', h1, rfl⟩ := zb0 hc
  have r := hm t (by simp [Op.operands]) a' h1
  simp only [zb9] at h
  split at h
  ·rename_i vs hq; rw [hq] at r
   generalize hv : ρ t = v at r
   cases r with
   | tup _ us hl =>
    obtain ⟨v, g1, g2⟩ := hl.getE h
    have : us[i]? = some v := by rw [<- Array.getElem?_toList]; exact g1
    exact ⟨v, zt5 (by simp [Instr.extract, hv, this]), g2⟩
  ·cases h
 case call c =>
  obtain ⟨callee, args, argTypes⟩ := c
  cases callee with
  | value f =>
   simp only at hc
   cases h1 : zk0 f <;> cases h2 : zj8 args.toList <;> simp [h1, h2] at hc
   subst hc; simp [zb9] at h
  | invoke r m => simp at hc
  | builtin b =>
   simp only at hc
   exact zap5 hc (fun x hx y hy => hm x (by simpa [Op.operands, Call.operands] using hx) y hy) h w
 case go => cases hc
 case defer => cases hc
 case panic => cases hc
 case send => cases hc
 case recv => cases hc
 case select => cases hc
end Go.AI
namespace Go.AI
variable {P : Program} {G : World -> Prop}
def AOp.isRead : AOp -> Bool
 | .allocB _ | .alloc _ | .box _ | .buildSlice .. | .load .. | .convert .bytesToStr _ | .convert .strToBytes _ | .makeMap _ | .makeSlice .. | .lookup .. | .len .map _ | .sliceA .. | .rangeS _ => true
 | _ => false
theorem zw4 (e : Opd -> AV) (H : Heap) (ao : AOp) (h : ao.isRead = false) : ze8 e H ao = (zb9 e ao).map fun v => (v, H) := by
 cases ao <;> first | (cases h; done) | rfl | skip
 ·rename_i c x; cases c <;> first | (cases h; done) | rfl
 ·rename_i d x; cases d <;> first | (cases h; done) | rfl
theorem zr3 {B W Z : Nat} {φ : Pl} {H : Heap} {w : World} (h : zc7 G B W Z φ H w) (hK : H.next < Z) (t : TypeId) (cs : List AV) (vs : List Value) (rest : List Value) (hl : zg4 φ cs vs) :
  zc7 G B W Z (φ.put H.next ⟨w.heap.size, 0, (vs ++ rest).length⟩) (H.push (.cells cs)) { w with heap := w.heap.push (.cells (vs ++ rest).toArray t (0, 0)) } /\
  Step φ H w (φ.put H.next ⟨w.heap.size, 0, (vs ++ rest).length⟩) (H.push (.cells cs)) { w with heap := w.heap.push (.cells (vs ++ rest).toArray t (0, 0)) } := by
 refine h.push hK (.cells cs) _ (.cells (vs ++ rest).toArray t (0, 0)) rfl rfl rfl rfl rfl ⟨fun i a ha => ?_, ?_, fun _ => ⟨(vs ++ rest).toArray, t, (0, 0), by simp, by simp, .inl rfl⟩⟩
 ·obtain ⟨v, hv, hr⟩ := hl.getE ha
  have hi : i < vs.length := by
   rcases Nat.lt_or_ge i vs.length with q | q
   ·exact q
   ·simp [List.getElem?_eq_none q] at hv
  refine ⟨v, ?_, hr.mono (Pl.le_put _ (h.next_none hK))⟩
  simp only [World.cell?, Nat.zero_add, Array.getElem?_push_size]
  simp [List.getElem?_append_left hi, hv]
 ·simp [hl.len]
theorem z19 {w : World} (t : TypeId) (v : Value) : (newVar t v).run P w = .ok ⟨w.heap.size, 0, none⟩ { w with heap := w.heap.push (.cells v.cells t (0, 0)) } := by
 simp [newVar, newRow]
theorem zay6 {B W Z : Nat} {φ : Pl} {H : Heap} {w : World} {t : TypeId} {z : AV} (h : zc7 G B W Z φ H w) (hK : H.next < Z) (hz : zc5 P t = some z) (h1 : za5 z.cells = true) :
  ∃ v φ' w', (Instr.alloc t true (.tuple #[])).run P w = .ok v w' /\ zc3 φ' (.ptr H.next 0) v /\ zc7 G B W Z φ' (H.push (.cells z.cells)) w' /\ Step φ H w φ' (H.push (.cells z.cells)) w' := by
 obtain ⟨zv, rz, _, hr⟩ := zf1 hz φ
 have := zr3 h hK t z.cells zv.cells.toList [] (rz.cells h1)
 simp only [List.append_nil] at this
 refine ⟨.pointer (some ⟨w.heap.size, 0, none⟩), _, _, ?_, .ptr H.next 0 _ (Pl.put_same _ _ _), this.1, this.2⟩
 simp [Instr.alloc, hr, z19]
theorem zat8 {B W Z : Nat} {φ : Pl} {H : Heap} {w : World} {t : TypeId} (h : zc7 G B W Z φ H w) (hK : H.next < Z) (hb : zaw9 P t = true) :
  ∃ v φ' w', (Instr.alloc t true (.tuple #[])).run P w = .ok v w' /\ zc3 φ' (.ptr H.next 0) v /\ zc7 G B W Z φ' (H.push (.bld t none)) w' /\ Step φ H w φ' (H.push (.bld t none)) w' := by
 have hz : zc5 P t = some (.agg [.nilp, .nils]) := by
  unfold zaw9 at hb
  split at hb
  ·split at hb
   ·simp only [Bool.and_eq_true] at hb
    obtain ⟨_, hb⟩ := hb
    split at hb
    ·rename_i hz; exact hz
    ·cases hb
   ·cases hb
  ·cases hb
 obtain ⟨zv, rz, _, hr⟩ := zf1 hz φ
 have hzv : zv.cells = #[.pointer none, .slice none 0 0] := by
  cases rz with
  | agg _ vs hl =>
   simp only [Value.cells]
   apply Array.toList_inj.1
   generalize vs.toList = l at hl
   cases hl with
   | cons h1 t1 => cases t1 with | cons h2 t2 => cases t2; cases h1; cases h2; rfl
 have hp := h.push hK (w' := { w with heap := w.heap.push (.cells #[.pointer none, .slice none 0 0] t (0, 0)) }) (.bld t none) ⟨w.heap.size, 0, 2⟩ (.cells #[.pointer none, .slice none 0 0] t (0, 0)) rfl rfl rfl rfl rfl
  ⟨.pointer none, by simp, .inl rfl, rfl⟩
 refine ⟨.pointer (some ⟨w.heap.size, 0, none⟩), _, _, ?_, .ptr H.next 0 _ (Pl.put_same _ _ _), hp.1, hp.2⟩
 simp [Instr.alloc, hr, z19, hzv]
theorem zbl1 {B W Z : Nat} {φ : Pl} {H : Heap} {w : World} (t : TypeId) {a : AV} {v : Value} (h : zc7 G B W Z φ H w) (hK : H.next < Z) (hv : zc3 φ a v) (h1 : za5 a.cells = true) :
  ∃ u φ' w', (Instr.box t v).run P w = .ok u w' /\ zc3 φ' (.ptr H.next 0) u /\ zc7 G B W Z φ' (H.push (.cells a.cells)) w' /\ Step φ H w φ' (H.push (.cells a.cells)) w' := by
 have := zr3 h hK t a.cells v.cells.toList [] (hv.cells h1)
 simp only [List.append_nil] at this
 refine ⟨.pointer (some ⟨w.heap.size, 0, none⟩), _, _, ?_, .ptr H.next 0 _ (Pl.put_same _ _ _), this.1, this.2⟩
 simp [Instr.box, z19]
theorem zal3 {φ : Pl} (zs : List AV) (vs : Array Value) (h : zg4 φ zs vs.toList) (k n : Nat) (hn : zs.length = n) :
  zg4 φ ((List.replicate k zs).flatten) ((Array.range (k * n)).map (vs[· % vs.size]!)).toList := by
 have hsz : vs.size = n := by have := h.len; simp at this; omega
 refine .ofGet (by simp [hn]) fun i a v ha hv => ?_
 have hi : i < k * n := by
  rcases Nat.lt_or_ge i (k * n) with q | q
  ·exact q
  ·rw [List.getElem?_eq_none (by simp [hn]; exact q)] at ha; cases ha
 have hn0 : 0 < n := by
  rcases Nat.eq_zero_or_pos n with q | q
  ·subst q; simp at hi
  ·exact q
 have hv' : v = vs[i % n]! := by
  simp [hi, hsz] at hv; rw [<- hv]
 have ha' : a = zs[i % n]'(by rw [hn]; exact Nat.mod_lt _ hn0) := by
  have key : ∀ (k i : Nat), i < k * n -> (List.replicate k zs).flatten[i]? = zs[i % n]? := by
   intro k
   induction k with
   | zero => intro i hi; simp at hi
   | succ k ih =>
    intro i hi
    rw [List.replicate_succ, List.flatten_cons]
    by_cases hlt : i < n
    ·rw [List.getElem?_append_left (by omega), Nat.mod_eq_of_lt hlt]
    ·rw [List.getElem?_append_right (by omega), hn, ih (i - n) (by rw [Nat.add_mul] at hi; omega)]
     have : i % n = (i - n) % n := by rw [Nat.mod_eq_sub_mod (by omega)]
     rw [this]
  rw [key k i hi, List.getElem?_eq_getElem (by rw [hn]; exact Nat.mod_lt _ hn0)] at ha
  simpa using ha.symm
 have hm : i % n < vs.size := by rw [hsz]; exact Nat.mod_lt _ hn0
 obtain ⟨u, hu, hr⟩ := h.getE (i := i % n) (a := a) (by rw [ha']; exact List.getElem?_eq_getElem _)
 have : u = v := by
  rw [hv', getElem!_pos vs _ hm]
  simpa [hm] using hu.symm
 rw [<- this]; exact hr
theorem zab1 {B W Z : Nat} {φ : Pl} {H : Heap} {w : World} {e : Opd -> AV} {ρ : Operand -> Value} {t el : TypeId} {n len : Nat} {z : AV} {parts : Array (Nat × Operand)} {ps : List (Nat × Nat × Opd)} {r : List AV}
  (h : zc7 G B W Z φ H w) (hK : H.next < Z) (ht : P.underlying t = some (.slice el)) (hn : zb3 P el = some n) (hz : zc5 P el = some z) (hzn : z.cells.length = n) (hl : len * n <= 2 ^ 24) (h1 : za5 z.cells = true)
  (hc : zr8 (fun i => some (i * n, n)) parts.toList = some ps) (hx : XRel φ e ρ (parts.toList.map (·.2))) (hf : zh0 e ((List.replicate len z.cells).flatten) ps = some r) :
  ∃ u φ' w', (Instr.buildSlice t len (parts.map fun (i, x) => (i, ρ x))).run P w = .ok u w' /\ zc3 φ' (.slc H.next 0 len n len true) u /\ zc7 G B W Z φ' (H.push (.cells r)) w' /\ Step φ H w φ' (H.push (.cells r)) w' := by
 obtain ⟨zv, rz, _, hr⟩ := zf1 hz φ
 have hrz := rz.cells h1
 have base : ∃ vs : Array Value, (len * n = 0 -> vs = #[]) /\ (len * n ≠ 0 -> vs = zv.cells) /\ zg4 φ ((List.replicate len z.cells).flatten) ((Array.range (len * n)).map (vs[· % vs.size]!)).toList := by
  by_cases h0 : len * n = 0
  ·refine ⟨#[], fun _ => rfl, fun q => absurd h0 q, ?_⟩
   have : ((List.replicate len z.cells).flatten).length = 0 := by simp [hzn, h0]
   rw [List.length_eq_zero_iff.1 this, h0]; simp; exact .nil
  ·exact ⟨zv.cells, fun q => absurd q h0, fun _ => rfl, zal3 _ _ hrz len n hzn⟩
 obtain ⟨vs, hv1, hv2, hrel⟩ := base
 obtain ⟨us, g1, g2⟩ := zv0 parts.toList ps _ _ r hc hx hrel hf
 have hus : us.size = len * n := by
  have e1 := g2.len
  have key : ∀ (ps : List (Nat × Nat × Opd)) (cs r : List AV), zh0 e cs ps = some r -> r.length = cs.length := by
   intro ps
   induction ps with
   | nil => intro cs r h; simp [zh0] at h; rw [h]
   | cons p ps ih =>
    obtain ⟨off, size, x⟩ := p
    intro cs r h
    simp only [zh0] at h
    cases hb : (Nat.beq (e x).cells.length size && Nat.ble (off + size) cs.length && za5 (e x).cells) with
    | false => simp [hb] at h
    | true =>
     simp only [hb, cond_true] at h
     simp only [Bool.and_eq_true, Tr.nbeq, decide_eq_true_eq, Nat.ble_eq] at hb
     rw [ih _ _ h]; simp [setSeg]; omega
  have := key ps _ r hf
  simp at e1; simp [hzn] at this; omega
 have := zr3 h hK el r us.toList [] g2
 simp only [List.append_nil, Array.length_toList] at this
 refine ⟨.slice (some ⟨w.heap.size, 0, none⟩) len len, _, _, ?_, .slc H.next 0 len n len true _ len (Pl.put_same _ _ _) (Nat.le_refl _) (Nat.le_refl _) (fun _ => rfl) (by simp [hus]), this.1, this.2⟩
 have hng : ¬ len * n > 2 ^ 24 := by omega
 have g1' : Instr.fill (fun i => some (i * n, n)) ((Array.range (len * n)).map (vs[· % vs.size]!)) ((parts.map fun (i, x) => (i, ρ x)).toList) = some us := by rw [Array.toList_map]; exact g1
 simp only [Instr.buildSlice, Sem.run_bind, run_underlying, ht, Result.andThen_ok, run_sizeOf hn, if_neg hng]
 by_cases h0 : len * n = 0
 ·rw [if_pos h0]
  rw [hv1 h0] at g1'
  simp only [Sem.run_bind, Sem.run_pure, Result.andThen_ok]
  rw [g1']
  simp [newRow]
 ·rw [if_neg h0]
  rw [hv2 h0] at g1'
  simp only [Sem.run_bind, hr, Sem.run_pure, Result.andThen_ok]
  rw [g1']
  simp [newRow]
theorem z05 {φ : Pl} : ∀ (xs : List AV) (vs : List Value) (s : List Nat), zg4 φ xs vs -> bytesOf xs = some s -> ∀ (b : ByteArray) (w : World),
  ∃ b' : ByteArray, (forIn vs b (fun c s => (do
   let .int .u8 n := c | stuck "bytesToString: byte expected"
   pure (ForInStep.yield (s.push (UInt8.ofNat n.toNat))) : Sem (ForInStep ByteArray))) : Sem ByteArray).run P w = .ok b' w /\ zd0 b' = zd0 b ++ s
 | [], vs, s, hl, h, b, w => by cases hl; simp [bytesOf] at h; subst h; exact ⟨b, by simp, by simp⟩
 | x :: xs, vs, s, hl, h, b, w => by
  cases hl with
  | cons hx ht =>
   unfold bytesOf at h
   split at h
   ·rename_i e; cases e
   ·rename_i n r e
    obtain ⟨rfl, rfl⟩ := by simpa using e
    split at h
    ·rename_i hn
     cases hr : bytesOf xs with
     | none => simp [hr] at h
     | some q =>
      simp [hr] at h; subst h
      cases hx
      obtain ⟨b', g1, g2⟩ := z05 xs _ q ht hr (b.push (UInt8.ofNat n.toNat)) w
      refine ⟨b', ?_, ?_⟩
      ·simp only [List.forIn_cons, Sem.run_bind, Sem.run_pure, Result.andThen_ok]; exact g1
      ·rw [g2]
       have : zd0 (b.push (UInt8.ofNat n.toNat)) = zd0 b ++ [n.toNat] := by
        simp [zd0, ByteArray.push, UInt8.toNat_ofNat']
        omega
       simp [this]
    ·cases h
   ·cases h
end Go.AI
namespace Go.AI
variable {P : Program} {G : World -> Prop}
theorem zo1 {t : TypeId} {k : CK} (hk : ckOf P t = some k) (em : Bool) (d : Nat) (v : Value) (w : World) : (Instr.checkKey em (d + 1) t v).run P w = .ok () w := by
 unfold ckOf at hk
 split at hk <;> first | (cases hk; done) | skip
 all_goals (rename_i hu; simp [Instr.checkKey, hu])
def zcj6 (P : Program) (t : TypeId) (ks : List CK) (d : Nat) : Prop :=
 zb3 P t = some ks.length /\
 ∀ (D : Nat) (em : Bool), d <= D -> ∀ (vs : Array Value) (off : Nat) (w : World), off + ks.length <= vs.size -> ∃ v, (part t vs off).run P w = .ok v w /\ (Instr.checkKey em D t v).run P w = .ok () w
theorem zak5 {d D : Nat} {em : Bool} (hD : d <= D) (sub : TypeId -> Option (List CK)) (hsub : ∀ t ks, sub t = some ks -> zcj6 P t ks d) (vs : Array Value) (w : World) : ∀ (fs : List Field) (off : Nat) (ks : List CK), fieldsOf sub fs off = some ks -> off + ks.length <= vs.size ->
  (forIn fs () (fun f _ => (do
   if f.name ≠ "_" then do Instr.checkKey em D f.type (<- part f.type vs f.offset); pure (ForInStep.yield ())
   else pure (ForInStep.yield ()) : Sem (ForInStep Unit))) : Sem Unit).run P w = .ok () w
 | [], off, ks, _, _ => by simp
 | f :: fs, off, ks, h, hl => by
  simp only [fieldsOf] at h
  split at h
  ·rename_i hn
   obtain ⟨hn1, rfl⟩ := hn
   split at h
   ·cases h
   ·rename_i k1 hk1
    cases hr : fieldsOf sub fs (f.offset + k1.length) with
    | none => simp [hr] at h
    | some k2 =>
     simp [hr] at h; subst h
     simp only [List.length_append] at hl
     obtain ⟨v, g1, g2⟩ := (hsub _ _ hk1).2 D em hD vs f.offset w (by omega)
     have := zak5 (em := em) hD sub hsub vs w fs _ k2 hr (by omega)
     simp only [List.forIn_cons, ne_eq, hn1, not_false_eq_true, if_true, Sem.run_bind, g1, g2, Sem.run_pure, Result.andThen_ok]
     exact this
  ·cases h
theorem zab9 : ∀ (d : Nat) (t : TypeId) (ks : List CK), zr7 P d t = some ks -> zcj6 P t ks d
 | 0, t, ks, h => by simp [zr7] at h
 | d + 1, t, ks, h0 => by
  have hsz := (zm9 (d + 1) t ks h0).1
  refine ⟨hsz, ?_⟩
  have h := h0
  intro D em hD vs off w hl
  obtain ⟨D, rfl⟩ : ∃ n, D = n + 1 := ⟨D - 1, by omega⟩
  simp only [zr7] at h
  split at h
  ·rename_i fs hu
   have ha := ze7 (flat_agg h0 (.inl ⟨_, hu⟩)) w
   refine ⟨.agg (vs.extract off (off + ks.length)), by simp [part, ha.1, run_sizeOf hsz], ?_⟩
   split at h
   ·cases h
   ·split at h
    ·rename_i k1 hf
     split at h
     ·cases h
      have := zak5 (d := d) (D := D) (em := em) (by omega) (zr7 P d) (fun t ks h => zab9 d t ks h) (vs.extract off (off + ks.length)) w fs.toList 0 ks hf (by simp; omega)
      simp only [Instr.checkKey, Sem.run_bind, run_underlying, hu, Result.andThen_ok]
      rw [<- Array.forIn_toList]
      have e2 : ∀ r : Result Unit, r = .ok () w -> (r.andThen fun a w' => Sem.run P (pure () : Sem Unit) w') = .ok () w := by rintro r rfl; rfl
      exact e2 _ this
     ·cases h
    ·cases h
  ·rename_i n e hu
   have ha := ze7 (flat_agg h0 (.inr ⟨_, _, hu⟩)) w
   refine ⟨.agg (vs.extract off (off + ks.length)), by simp [part, ha.1, run_sizeOf hsz], ?_⟩
   split at h
   ·rename_i k1 hf
    split at h
    ·rename_i hs2
     cases h
     have hle : ((List.replicate n k1).flatten).length = n * k1.length := by simp
     have ih := zab9 d e k1 hf
     simp only [Instr.checkKey, Sem.run_bind, run_underlying, hu, Result.andThen_ok, Std.Legacy.Range.forIn_eq_forIn_range', Std.Legacy.Range.size, Nat.sub_zero, Nat.add_sub_cancel, Nat.div_one]
     have key : ∀ (m i : Nat), i + m <= n ->
       (forIn (List.range' i m 1) () (fun i _ => (do Instr.checkKey em D e (<- part e (vs.extract off (off + ((List.replicate n k1).flatten).length)) (i * (<- sizeOf e))); pure (ForInStep.yield ()) : Sem (ForInStep Unit))) : Sem Unit).run P w = .ok () w := by
      intro m
      induction m with
      | zero => intro i _; simp
      | succ m ihm =>
       intro i hi
       have hle2 : i * k1.length + k1.length <= n * k1.length := by
        rw [<- Nat.succ_mul]; exact Nat.mul_le_mul_right _ (by omega)
       obtain ⟨v, g1, g2⟩ := ih.2 D em (by omega) (vs.extract off (off + ((List.replicate n k1).flatten).length)) (i * k1.length) w (by simp at hl ⊢; omega)
       have := ihm (i + 1) (by omega)
       simp only [List.range'_succ, List.forIn_cons, Sem.run_bind, run_sizeOf hs2.1, g1, g2, Sem.run_pure, Result.andThen_ok]
       simpa [run_sizeOf hs2.1] using this
     have := key n 0 (by omega)
     have e2 : ∀ r : Result Unit, r = .ok () w -> (r.andThen fun a w' => Sem.run P (pure () : Sem Unit) w') = .ok () w := by rintro r rfl; rfl
     exact e2 _ this
    ·cases h
   ·cases h
  ·split at h
   ·rename_i k hk
    split at h
    ·cases h
     have hag : zh9 P t = some none := by
      unfold ckOf at hk; unfold zh9
      split at hk <;> simp_all
     simp at hl
     have : vs[off]? = some vs[off] := Array.getElem?_eq_getElem (by omega)
     exact ⟨vs[off], by simp [part, zj1 hag, this], zo1 hk em D _ w⟩
    ·cases h
   ·cases h
theorem zj4 {φ : Pl} {kt : TypeId} {k : AV} {kv : Value} (hk : zc3 φ k kv) (hp : plainKey (zg2 P kt) k = true) (em : Bool) (w : World) : (Instr.checkKey em 10000 kt kv).run P w = .ok () w := by
 have gen : ∀ d, 20 <= d -> (Instr.checkKey em (d + 1) kt kv).run P w = .ok () w := by
  intro d hd
  have hno : ∀ c, zg2 P kt = c -> (∀ q, c ≠ .prim q) -> (∀ ks, c ≠ .flat ks) -> False := by
   intro c hc h1 h2
   rw [hc] at hp
   cases c <;> simp_all [plainKey]
  unfold zg2 at hno hp
  split at hp
  ·rename_i hu; exact zo1 (k := .bool) (by simp [ckOf, hu]) em d kv w
  ·rename_i hu; exact zo1 (k := .int) (by simp [ckOf, hu]) em d kv w
  ·rename_i hu; exact zo1 (k := .str) (by simp [ckOf, hu]) em d kv w
  ·simp [plainKey] at hp
  ·simp [plainKey] at hp
  ·simp [plainKey] at hp
  ·simp [plainKey] at hp
  ·rename_i fs hu
   split at hp
   ·simp [plainKey] at hp
   ·split at hp
    ·rename_i ks hf
     unfold plainKey at hp
     split at hp <;> first | (cases hp; done) | skip
     all_goals first | (rename_i e; cases e; done) | skip
     rename_i ks' cs e
     cases e
     cases hk with | agg _ vs hl => ?_
     have hlen : cs.length = ks.length := by
      have : ∀ (ks : List CK) (cs : List AV), (zd5 ks cs cs).isSome = true -> (∀ k c, zh8 k c c ≠ some false) -> cs.length = ks.length := by
       intro ks
       induction ks with
       | nil => intro cs h _; cases cs <;> simp_all [zd5]
       | cons k ks ih =>
        intro cs h h2
        cases cs with
        | nil => simp [zd5] at h
        | cons c cs =>
         simp only [zd5] at h
         cases hc : zh8 k c c with
         | none => simp [hc] at h
         | some b => cases b with
          | false => exact absurd hc (h2 k c)
          | true => simp only [hc] at h; simp [ih cs h h2]
      refine this ks cs hp fun k c => ?_
      unfold zh8; split <;> simp_all
     have hf2 := zab9 20 kt ks hf
     have e1 : vs.size = ks.length := by have := hl.len; simp at this; omega
     obtain ⟨v, g1, g2⟩ := hf2.2 (d + 1) em (by omega) vs 0 w (by omega)
     have ha := ze7 (flat_agg hf (.inl ⟨_, hu⟩)) w
     have : v = .agg vs := by
      simp [part, ha.1, run_sizeOf hf2.1] at g1
      rw [<- g1, <- e1]; simp
     rw [<- this]; exact g2
    ·simp [plainKey] at hp
  ·rename_i n e hu
   split at hp
   ·simp [plainKey] at hp
   ·split at hp
    ·rename_i ks hf
     unfold plainKey at hp
     split at hp <;> first | (cases hp; done) | skip
     all_goals first | (rename_i e; cases e; done) | skip
     rename_i ks' cs e
     cases e
     cases hk with | agg _ vs hl => ?_
     have hlen : cs.length = ks.length := by
      have : ∀ (ks : List CK) (cs : List AV), (zd5 ks cs cs).isSome = true -> (∀ k c, zh8 k c c ≠ some false) -> cs.length = ks.length := by
       intro ks
       induction ks with
       | nil => intro cs h _; cases cs <;> simp_all [zd5]
       | cons k ks ih =>
        intro cs h h2
        cases cs with
        | nil => simp [zd5] at h
        | cons c cs =>
         simp only [zd5] at h
         cases hc : zh8 k c c with
         | none => simp [hc] at h
         | some b => cases b with
          | false => exact absurd hc (h2 k c)
          | true => simp only [hc] at h; simp [ih cs h h2]
      refine this ks cs hp fun k c => ?_
      unfold zh8; split <;> simp_all
     have hf2 := zab9 20 kt ks hf
     have e1 : vs.size = ks.length := by have := hl.len; simp at this; omega
     obtain ⟨v, g1, g2⟩ := hf2.2 (d + 1) em (by omega) vs 0 w (by omega)
     have ha := ze7 (flat_agg hf (.inr ⟨_, _, hu⟩)) w
     have : v = .agg vs := by
      simp [part, ha.1, run_sizeOf hf2.1] at g1
      rw [<- g1, <- e1]; simp
     rw [<- this]; exact g2
    ·simp [plainKey] at hp
  ·simp [plainKey] at hp
 exact gen 9999 (by omega)
def zaa0 (φ : Pl) : Option (Nat × AV) -> Option (Nat × Value) -> Prop
 | none, none => True
 | some (i, a), some (j, v) => i = j /\ zc3 φ a v
 | _, _ => False
theorem zt1 {φ : Pl} {kt : TypeId} {k : AV} {kv : Value} (hk : zc3 φ k kv) (w : World) : ∀ (es : List (AV × AV)) (fs : List MapEntry) (i : Nat) (r : Option (Nat × AV)), zn3 φ es fs -> zk2 (zg2 P kt) k es i = some r ->
  ∃ r', (Instr.findAsking kt kv fs i).run P w = .ok r' w /\ zaa0 φ r r'
 | [], [], i, r, _, h => by simp [zk2] at h; subst h; exact ⟨none, by simp [Instr.findAsking], trivial⟩
 | [], _ :: _, i, r, h, _ => by simp [zn3] at h
 | (_, _) :: _, [], i, r, h, _ => by simp [zn3] at h
 | (x, v) :: es, f :: fs, i, r, hr, h => by
  obtain ⟨h1, h2, h3⟩ := hr
  simp only [zk2] at h
  cases he : eqA (zg2 P kt) k x with
  | none => simp [he] at h
  | some b =>
   have g := zx1 (P := P) hk h1 he w
   cases b with
   | true => simp [he] at h; subst h; exact ⟨some (i, f.val), by simp [Instr.findAsking, g], rfl, h2⟩
   | false =>
    simp only [he] at h
    obtain ⟨r', g1, g2⟩ := zt1 hk w es fs (i + 1) r h3 h
    exact ⟨r', by simp [Instr.findAsking, g, g1], g2⟩
theorem z02 {φ : Pl} {kind : TypeDesc} {c : CK} {k : AV} {kv : Value} (hk : zc3 φ k kv) (hkind : (kind = .bool /\ c = .bool) \/ ((∃ q, kind = .int q) /\ c = .int) \/ (kind = .string /\ c = .str)) :
  ∀ (es : List (AV × AV)) (fs : List MapEntry) (i : Nat) (r : Option (Nat × AV)), zn3 φ es fs -> zk2 (.prim c) k es i = some r ->
  ∃ r', Instr.findNow kind kv fs i = some r' /\ zaa0 φ r r'
 | [], [], i, r, _, h => by simp [zk2] at h; subst h; exact ⟨none, by simp [Instr.findNow], trivial⟩
 | [], _ :: _, i, r, h, _ => by simp [zn3] at h
 | (_, _) :: _, [], i, r, h, _ => by simp [zn3] at h
 | (x, v) :: es, f :: fs, i, r, hr, h => by
  obtain ⟨h1, h2, h3⟩ := hr
  simp only [zk2] at h
  cases he : eqA (.prim c) k x with
  | none => simp [he] at h
  | some b =>
   have g : Instr.sameNow kind kv f.key = some b := by
    simp only [eqA] at he
    unfold zh8 at he
    generalize f.key = fk at h1
    split at he <;> first | (cases he; done) | skip
    ·split at he
     ·rename_i hkk; subst hkk; cases he; cases hk; cases h1
      rcases hkind with ⟨_, e⟩ | ⟨⟨q, rfl⟩, _⟩ | ⟨_, e⟩ <;> first | (cases e; done) | simp [Instr.sameNow]
     ·cases he
    ·cases he; cases hk; cases h1
     rcases hkind with ⟨rfl, e⟩ | ⟨⟨q, rfl⟩, e⟩ | ⟨_, e⟩ <;> first | (cases e; done) | simp [Instr.sameNow]
    ·cases he; cases hk; cases h1
     rcases hkind with ⟨_, e⟩ | ⟨⟨q, rfl⟩, e⟩ | ⟨rfl, e⟩ <;> first | (cases e; done) | simp [Instr.sameNow, z94, beq_toListBytes]
   cases b with
   | true => simp [he] at h; subst h; exact ⟨some (i, f.val), by simp [Instr.findNow, g], rfl, h2⟩
   | false =>
    simp only [he] at h
    obtain ⟨r', g1, g2⟩ := z02 hk hkind es fs (i + 1) r h3 h
    exact ⟨r', by simp [Instr.findNow, g, g1], g2⟩
theorem zn9 {φ : Pl} {kt : TypeId} {k : AV} {kv : Value} (hk : zc3 φ k kv) (hp : plainKey (zg2 P kt) k = true) (w : World) (es : List (AV × AV)) (fs : List MapEntry) (r : Option (Nat × AV)) (hr : zn3 φ es fs) (h : zk2 (zg2 P kt) k es 0 = some r) :
  ∃ r', (Instr.findKey kt kv fs).run P w = .ok r' w /\ zaa0 φ r r' := by
 have ask : ∀ d, P.underlying kt = some d -> Instr.findNow d kv fs 0 = none -> ∃ r', (Instr.findKey kt kv fs).run P w = .ok r' w /\ zaa0 φ r r' := by
  intro d hd hn
  obtain ⟨r', g1, g2⟩ := zt1 (P := P) hk w es fs 0 r hr h
  exact ⟨r', by simp [Instr.findKey, hd, hn, g1], g2⟩
 have now : ∀ d c, P.underlying kt = some d -> zg2 P kt = .prim c -> ((d = .bool /\ c = .bool) \/ ((∃ q, d = .int q) /\ c = .int) \/ (d = .string /\ c = .str)) -> ∃ r', (Instr.findKey kt kv fs).run P w = .ok r' w /\ zaa0 φ r r' := by
  intro d c hd he hc
  rw [he] at h
  obtain ⟨r', g1, g2⟩ := z02 hk hc es fs 0 r hr h
  exact ⟨r', by simp [Instr.findKey, hd, g1], g2⟩
 have nil : ∀ d, P.underlying kt = some d -> fs = [] -> ∃ r', (Instr.findKey kt kv fs).run P w = .ok r' w /\ zaa0 φ r r' := by
  intro d hd hf
  subst hf
  cases es with
  | nil => simp [zk2] at h; subst h; exact ⟨none, by simp [Instr.findKey, hd, Instr.findNow], trivial⟩
  | cons e es => obtain ⟨a, b⟩ := e; simp [zn3] at hr
 cases hu : P.underlying kt with
 | none => simp [zg2, hu, plainKey] at hp
 | some d =>
  have hd : zg2 P kt = zg2 P kt := rfl
  cases d <;> first | (simp [zg2, hu, plainKey] at hp; done) | skip
  ·exact now _ .bool hu (by simp [zg2, hu]) (.inl ⟨rfl, rfl⟩)
  ·exact now _ .int hu (by simp [zg2, hu]) (.inr (.inl ⟨⟨_, rfl⟩, rfl⟩))
  ·exact now _ .str hu (by simp [zg2, hu]) (.inr (.inr ⟨rfl, rfl⟩))
  ·cases fs with
   | nil => exact nil _ hu rfl
   | cons f fs => exact ask _ hu (by simp [Instr.findNow, Instr.sameNow])
  ·cases fs with
   | nil => exact nil _ hu rfl
   | cons f fs => exact ask _ hu (by simp [Instr.findNow, Instr.sameNow])
theorem zn3.len {φ : Pl} : ∀ {es : List (AV × AV)} {fs : List MapEntry}, zn3 φ es fs -> es.length = fs.length
 | [], [], _ => rfl
 | [], _ :: _, h => by simp [zn3] at h
 | (_, _) :: _, [], h => by simp [zn3] at h
 | (_, _) :: es, _ :: fs, h => by simp [zn3.len h.2.2]
end Go.AI
namespace Go.AI
variable {P : Program} {G : World -> Prop}
theorem zn1 {H : Heap} {o : Nat} {cs : List AV} (h : H.cellsAt o = some cs) : H.get o = some (.cells cs) := by
 unfold Heap.cellsAt at h; split at h
 ·rename_i x hx; cases h; exact hx
 ·cases h
theorem zc7.at_ {B W Z : Nat} {φ : Pl} {H : Heap} {w : World} (h : zc7 G B W Z φ H w) {o : Nat} {L : Loc} {cs : List AV} (ho : φ o = some L) (hc : H.cellsAt o = some cs) : At φ w L cs /\ L.base + cs.length <= L.size /\ (B <= o -> Own w L) :=
 h.obj o L _ ho (zn1 hc)
theorem za72 {B W Z : Nat} {φ : Pl} {H : Heap} {w : World} {t : TypeId} {n : Option Nat} {o off : Nat} {cs : List AV} {a : AV} {v : Value} (h : zc7 G B W Z φ H w) (hv : zc3 φ (.ptr o off) v) (hc : H.cellsAt o = some cs) (ht : zh9 P t = some n) (hp : ze2 cs off n = some a) :
  ∃ u, (Instr.loadAt t v).run P w = .ok u w /\ zc3 φ a u := by
 cases hv with
 | ptr _ _ L hL =>
  obtain ⟨u, g1, g2⟩ := zad1 (P := P) ht (h.at_ hL hc).1 hp
  exact ⟨u, by simp [Instr.loadAt, Instr.sureAddr, g1], g2⟩
theorem zq1 {H : Heap} {o off n : Nat} {xs : List AV} (h : H.readSeg o off n = some xs) : ∃ cs, H.cellsAt o = some cs /\ seg cs off n = some xs := by
 unfold Heap.readSeg at h
 cases hc : H.cellsAt o with
 | none => simp [hc] at h
 | some cs => simp [hc] at h; exact ⟨cs, rfl, h⟩
theorem zs6 {B W Z : Nat} {φ : Pl} {H : Heap} {w : World} {o off len e lo n : Nat} {ex : Bool} {xs : List AV} {v : Value} (h : zc7 G B W Z φ H w) (hv : zc3 φ (.slc o off len e lo ex) v) (hn : n <= len * e) (hr : H.readSeg o off n = some xs) :
  ∃ a cap vs, v = .slice (some a) len cap /\ (loadCells a n).run P w = .ok vs.toArray w /\ zg4 φ xs vs := by
 obtain ⟨cs, hc, hs⟩ := zq1 hr
 cases hv with
 | slc _ _ _ _ _ _ L cap hL q1 q2 q3 q4 =>
  obtain ⟨hl, hat⟩ := (h.at_ hL hc).1.seg hs
  obtain ⟨vs, g1, g2⟩ := run_loadCells (P := P) hat.size
  rw [hl] at g1
  exact ⟨_, cap, vs, rfl, g1, g2⟩
 | slc0 _ _ _ _ a =>
  have : n = 0 := by omega
  subst this
  obtain ⟨_, rfl⟩ := zy5 hs
  exact ⟨a, 0, [], rfl, by simp [loadCells, loadCellsFrom], by simp; exact .nil⟩
theorem zx5 {B W Z : Nat} {φ : Pl} {H : Heap} {w : World} {o off len lo : Nat} {ex : Bool} {xs : List AV} {s : List Nat} {v : Value} (h : zc7 G B W Z φ H w) (hv : zc3 φ (.slc o off len 1 lo ex) v) (hr : H.readSeg o off len = some xs) (hb : bytesOf xs = some s) :
  ∃ u, (Conv.bytesToString v).run P w = .ok u w /\ zc3 φ (.str s) u := by
 obtain ⟨a, cap, vs, rfl, g1, g2⟩ := zs6 (P := P) h hv (by omega) hr
 obtain ⟨b', k1, k2⟩ := z05 (P := P) xs vs s g2 hb ByteArray.empty w
 refine ⟨.string b', ?_, ?_⟩
 ·simp only [Conv.bytesToString, Sem.run_bind, g1, Result.andThen_ok]
  rw [<- Array.forIn_toList]
  have e2 : ∀ r : Result ByteArray, r = .ok b' w -> (r.andThen fun a w' => Sem.run P (pure (Value.string a) : Sem Value) w') = .ok (.string b') w := by rintro r rfl; rfl
  exact e2 _ k1
 ·have : zd0 ByteArray.empty = [] := rfl
  rw [this, List.nil_append] at k2
  rw [<- k2]; exact .str b'
theorem zaw4 {α : Type} (xs : Array α) (x : α) (f : α -> α) : (xs.push x).modify xs.size f = xs.push (f x) := by
 apply Array.ext
 ·simp
 ·intro i h1 h2
  rw [Array.getElem_modify]
  by_cases hi : xs.size = i
  ·subst hi; simp
  ·rw [if_neg hi]
   simp only [Array.size_modify, Array.size_push] at h1
   have : i < xs.size := by omega
   simp [Array.getElem_push, this]
theorem zw3 {B W Z : Nat} {φ : Pl} {H : Heap} {w : World} (el : TypeId) (s : ByteArray) (h : zc7 G B W Z φ H w) (hK : H.next < Z) :
  ∃ u φ' w', (Conv.stringToBytes el s).run P w = .ok u w' /\ zc3 φ' (.slc H.next 0 (zd0 s).length 1 (zd0 s).length false) u /\ zc7 G B W Z φ' (H.push (.cells ((zd0 s).map zag5))) w' /\ Step φ H w φ' (H.push (.cells ((zd0 s).map zag5))) w' := by
 have hcut : s.size <= Question.cut (.appendCap s.size 0 el) (w.tape w.drawn (.appendCap s.size 0 el)) := by simp only [Question.cut]; exact Nat.le_add_right _ _
 generalize hcap : Question.cut (.appendCap s.size 0 el) (w.tape w.drawn (.appendCap s.size 0 el)) = cap at hcut
 let w1 : World := { w with drawn := w.drawn + 1 }
 let vs : List Value := (s.data.map fun b => .int .u8 b.toNat).toList ++ (Array.replicate (cap - s.size) (Value.int .u8 0)).toList
 have h1 : zc7 G B W Z φ H w1 := h.congr rfl
 have hs1 : Step φ H w φ H w1 := Step.congr rfl rfl rfl rfl
 have hlen : vs.length = cap := by simp [vs]; omega
 let w2 : World := { w1 with heap := w.heap.push (.cells vs.toArray el (cap, cap + 1)) }
 have hp := h1.push hK (w' := w2) (.cells ((zd0 s).map zag5)) ⟨w.heap.size, 0, cap⟩ (.cells vs.toArray el (cap, cap + 1)) rfl rfl rfl rfl rfl
  ⟨fun i a ha => by
   have hi : i < s.size := by
    rcases Nat.lt_or_ge i s.size with q | q
    ·exact q
    ·rw [List.getElem?_eq_none (by simp [zh6]; exact q)] at ha; cases ha
   have hi' : i < s.data.size := hi
   refine ⟨.int .u8 (s.data[i]).toNat, ?_, ?_⟩
   ·simp only [World.cell?, w2, Nat.zero_add, Array.getElem?_push_size]
    have e : vs[i]? = some (.int .u8 (s.data[i]).toNat) := by
     simp only [vs]
     rw [List.getElem?_append_left (by simp; exact hi)]
     simp; exact ⟨_, Array.getElem?_eq_getElem hi', rfl⟩
    simpa using e
   ·simp [zd0] at ha
    obtain ⟨c, hc, rfl⟩ := ha
    have : s.data[i] = c := by rw [Array.getElem?_eq_getElem hi'] at hc; exact Option.some.inj hc
    rw [this]; exact .int _ _, by simp [zh6]; exact hcut, fun _ => ⟨vs.toArray, el, (cap, cap + 1), by simp [w2], by simp [hlen], .inr (Nat.le_refl _)⟩⟩
 refine ⟨.slice (some ⟨w.heap.size, 0, none⟩) s.size cap, _, w2, ?_, ?_, hp.1, hs1.trans hp.2⟩
 ·simp only [Conv.stringToBytes, Sem.run_bind, run_choose, Question.forced, Bool.false_eq_true, if_false, hcap, Result.andThen_ok, newRow, run_newObj, Sem.run_pure, markStringish, run_shape, World.shape?]
  simp only [Array.getElem?_push_size]
  simp only [run_freeze, Result.andThen_ok, World.freeze]
  have e1 : (s.data.map fun b => Value.int .u8 b.toNat) ++ Array.replicate (cap - s.size) (Value.int .u8 0) = vs.toArray := by
   apply Array.toList_inj.1; simp [vs]
  rw [e1]
  have hvs : vs.toArray.size = cap := by simp [hlen]
  simp only [Nat.one_ne_zero, if_false, zaw4, hvs]
  rfl
 ·have := zc3.slc (φ := φ.put H.next ⟨w.heap.size, 0, cap⟩) H.next 0 s.size 1 s.size false ⟨w.heap.size, 0, cap⟩ cap (Pl.put_same _ _ _) (Nat.le_refl _) hcut (fun q => by cases q) (by simp)
  rw [zh6]; exact this
theorem zz5 {B W Z : Nat} {φ : Pl} {H : Heap} {w : World} (t : TypeId) {kt et : TypeId} (ht : P.underlying t = some (.map kt et)) (hint : Option Value) (hh : ∀ v, hint = some v -> ∃ k n, v = .int k n) (h : zc7 G B W Z φ H w) (hK : H.next < Z) :
  ∃ u φ' w', (Instr.makeMap t hint).run P w = .ok u w' /\ zc3 φ' (.map H.next) u /\ zc7 G B W Z φ' (H.push (.map [])) w' /\ Step φ H w φ' (H.push (.map [])) w' := by
 have hp := h.push hK (w' := { w with heap := w.heap.push (.map #[] 0) }) (.map []) ⟨w.heap.size, 0, 0⟩ (.map #[] 0) rfl rfl rfl rfl rfl ⟨#[], 0, by simp, by simp [zn3], ⟨by simp, by simp⟩⟩
 refine ⟨.map (some w.heap.size), _, _, ?_, .map H.next _ (Pl.put_same _ _ _), hp.1, hp.2⟩
 cases hint with
 | none => simp [Instr.makeMap]
 | some v =>
  obtain ⟨k, n, rfl⟩ := hh v rfl
  simp [Instr.makeMap, ht, asInt, asIntOf]
theorem wrap_small (n : Int) (h0 : 0 <= n) (h1 : n <= 2 ^ 62) : IntKind.i64.wrap n = n := by
 have e : n % (2 ^ 64 : Int) = n := Int.emod_eq_of_lt h0 (by omega)
 simp only [IntKind.wrap, IntKind.bits, IntKind.signed, e, Bool.true_and]
 rw [if_neg (by simp; omega)]
theorem zae7 {B W Z : Nat} {φ : Pl} {H : Heap} {w : World} {t el : TypeId} {n by_ : Nat} {z : AV} {k k' : IntKind} {l c : Int} (ht : P.underlying t = some (.slice el)) (hn : zb3 P el = some n) (hb : zg7 P el = some by_) (hz : zc5 P el = some z)
  (hzn : z.cells.length = n) (h1 : za5 z.cells = true) (hl0 : 0 <= l) (hlc : l <= c) (hcb : c * by_ <= 2 ^ 48) (hc : c <= 2 ^ 62) (h : zc7 G B W Z φ H w) (hK : H.next < Z) :
  ∃ u φ' w', (Instr.makeSlice t (.int k l) (.int k' c)).run P w = .ok u w' /\ zc3 φ' (.slc H.next 0 l.toNat n c.toNat true) u /\ zc7 G B W Z φ' (H.push (.cells ((List.replicate c.toNat z.cells).flatten))) w' /\ Step φ H w φ' (H.push (.cells ((List.replicate c.toNat z.cells).flatten))) w' := by
 obtain ⟨zv, rz, _, hr⟩ := zf1 hz φ
 have hrz := rz.cells h1
 obtain ⟨i, hi, hib⟩ : ∃ i, P.info? el = some i /\ i.bytes = by_ := by
  unfold zg7 at hb
  cases hi : P.info? el with
  | none => simp [hi] at hb
  | some i => simp [hi] at hb; exact ⟨i, rfl, hb⟩
 have ew1 := wrap_small l hl0 (by omega)
 have ew2 := wrap_small c (by omega) hc
 have hcb' : ¬ ((by_ : Int) * c > 2 ^ 48) := by rw [Int.mul_comm]; omega
 have base : ∃ vs : Array Value, (c.toNat * n = 0 -> vs = #[]) /\ (c.toNat * n ≠ 0 -> vs = zv.cells) /\ zg4 φ ((List.replicate c.toNat z.cells).flatten) ((Array.range (c.toNat * n)).map (vs[· % vs.size]!)).toList := by
  by_cases h0 : c.toNat * n = 0
  ·refine ⟨#[], fun _ => rfl, fun q => absurd h0 q, ?_⟩
   have : ((List.replicate c.toNat z.cells).flatten).length = 0 := by simp [hzn]; simpa using h0
   rw [List.length_eq_zero_iff.1 this, h0]; simp; exact .nil
  ·exact ⟨zv.cells, fun q => absurd q h0, fun _ => rfl, zal3 _ _ hrz _ n hzn⟩
 obtain ⟨vs, hv1, hv2, hrel⟩ := base
 have hp := zr3 h hK el _ _ [] hrel
 simp only [List.append_nil, Array.length_toList, Array.size_map, Array.size_range] at hp
 have hsl : zc3 (φ.put H.next ⟨w.heap.size, 0, c.toNat * n⟩) (.slc H.next 0 l.toNat n c.toNat true) (.slice (some ⟨w.heap.size, 0, none⟩) l.toNat c.toNat) :=
  .slc H.next 0 l.toNat n c.toNat true ⟨w.heap.size, 0, c.toNat * n⟩ c.toNat (Pl.put_same _ _ _) (by omega) (Nat.le_refl _) (fun _ => rfl) (by simp)
 refine ⟨_, _, _, ?_, hsl, hp.1, hp.2⟩
 have c1 : ¬ (c < 0) := by omega
 have c2 : ¬ (l < 0) := by omega
 have c3 : ¬ (l > c) := by omega
 simp only [Instr.makeSlice, Sem.run_bind, run_underlying, ht, Result.andThen_ok, asInt, asIntOf, Sem.run_pure, run_typeInfo, hi, ew1, ew2, hib, run_askRoom, run_sizeOf hn, Sem.run_ite]
 rw [if_neg (by simp [c1, c2, c3]; omega)]
 by_cases h0 : c.toNat * n = 0
 ·simp only [h0, if_true, Result.andThen_ok, newRow, Sem.run_bind, run_newObj, Sem.run_pure, hv1 h0]
 ·simp only [if_neg h0, hr, Result.andThen_ok, newRow, Sem.run_bind, run_newObj, Sem.run_pure, hv2 h0]
theorem zaq6 {B W Z : Nat} {φ : Pl} {H : Heap} {w : World} {t kt et : TypeId} {z : AV} {m k : AV} {mv kv : Value} {r : Option (Nat × AV)} (ok : Bool) (ht : P.underlying t = some (.map kt et)) (hz : zc5 P et = some z) (hm : zc3 φ m mv) (hk : zc3 φ k kv) (h : zc7 G B W Z φ H w)
  (hr : zp1 H (zg2 P kt) m k = some r) :
  ∃ v, (Instr.lookup t mv kv ok).run P w = .ok v w /\ zc3 φ (zt3 z ok r) v := by
 obtain ⟨zv, rz, _, hzr⟩ := zf1 hz φ
 have fin : ∀ (a : AV) (v : Value) (b : Bool), zc3 φ a v -> zc3 φ (bif ok then .tup [a, .bool b] else a) (if ok then .tuple #[v, .bool b] else v) := by
  intro a v b hv; cases ok
  ·exact hv
  ·exact .tup _ _ (.cons hv (.cons (.bool b) .nil))
 unfold zp1 at hr
 split at hr
 ·cases hm
  cases hp : plainKey (zg2 P kt) k with
  | false => simp [hp] at hr
  | true =>
   simp [hp] at hr; subst hr
   have hc := zj4 (P := P) hk hp true w
   obtain ⟨r', g1, g2⟩ := zn9 (P := P) hk hp w [] [] none trivial rfl
   cases r' with
   | some q => exact g2.elim
   | none => exact ⟨_, by simp [Instr.lookup, ht, hc, g1, hzr], fin z zv false rz⟩
 ·rename_i o
  cases hm with
  | map _ L hL =>
   split at hr
   ·rename_i es he
    cases hp : plainKey (zg2 P kt) k with
    | false => simp [hp] at hr
    | true =>
     simp [hp] at hr
     obtain ⟨en, cl, q1, q2, _⟩ := h.obj o L _ hL he
     obtain ⟨r', g1, g2⟩ := zn9 (P := P) hk hp w es en.toList r q2 hr
     have hget : (getObj L.blk).run P w = .ok (.map en cl) w := by simp [getObj, Sem.run, q1]
     have hc := zj4 (P := P) hk hp en.isEmpty w
     cases r with
     | none =>
      cases r' with
      | some q => exact g2.elim
      | none => exact ⟨_, by simp [Instr.lookup, ht, hget, hc, g1, hzr], fin z zv false rz⟩
     | some ja =>
      obtain ⟨j, a⟩ := ja
      cases r' with
      | none => exact g2.elim
      | some q =>
       obtain ⟨j', v⟩ := q
       exact ⟨_, by simp [Instr.lookup, ht, hget, hc, g1], fin a v true g2.2⟩
   ·cases hr
 ·cases hr
end Go.AI
namespace Go.AI
variable {P : Program} {G : World -> Prop}
theorem zi2 {s : Sem Value} {w w' : World} {v : Value} (h : s.run P w = .ok v w') : (do pure (.value (<- s)) : Sem Next).run P w = .ok (.value v) w' := by
 simp [h]
def zbv6 (P : Program) (G : World -> Prop) (B W Z : Nat) (φ : Pl) (H : Heap) (w : World) (s : Sem Next) (a : AV) (H' : Heap) : Prop :=
 ∃ v φ' w', (s.run P w = .ok (.value v) w' \/ (s.run P w = .ok .skip w' /\ v = undef)) /\ zc3 φ' a v /\ zc7 G B W Z φ' H' w' /\ Step φ H w φ' H' w'
theorem za58 {B W Z : Nat} {φ : Pl} {H H' : Heap} {w : World} {e : Opd -> AV} {ρ : Operand -> Value} {o : Oper} {ao : AOp} {a : AV} (hc : cop P o.op = some ao) (hx : XRel φ e ρ o.op.operands.toList) (hH : zc7 G B W Z φ H w)
  (h : ze8 e H ao = some (a, H')) (hK : H'.next <= Z) : zbv6 P G B W Z φ H w (execOp ρ o) a H' := by
 by_cases hr : ao.isRead = true
 case neg =>
  rw [zw4 e H ao (by simpa using hr)] at h
  cases hp : zb9 e ao with
  | none => simp [hp] at h
  | some b =>
   simp [hp] at h; obtain ⟨rfl, rfl⟩ := h
   obtain ⟨v, g1, g2⟩ := za61 hc hx hp w
   exact ⟨v, φ, w, .inl g1, g2, hH, Step.refl _ _ _⟩
 obtain ⟨dst, op, type, pos, after, guard⟩ := o
 simp only at hc hx
 have hm : ∀ x, x ∈ op.operands.toList -> ∀ y, zk0 x = some y -> zc3 φ (e y) (ρ x) := hx
 cases op <;> simp only [cop] at hc
 case move x => obtain ⟨y, hy, rfl⟩ := zb0 hc; cases hr
 case assign x => obtain ⟨y, hy, rfl⟩ := zb0 hc; cases hr
 case pick c x y => obtain ⟨_, _, _, _, _, _, rfl⟩ := zn5 hc; cases hr
 case alloc t =>
  by_cases hbl : zaw9 P t = true
  ·simp [hbl] at hc; subst hc
   simp only [ze8] at h
   cases h
   obtain ⟨v, φ', w', g1, g2, g3, g4⟩ := zat8 (P := P) hH hK hbl
   exact ⟨v, φ', w', .inl (zi2 g1), g2, g3, g4⟩
  cases hz : zc5 P t with
  | none => simp [hbl, hz] at hc
  | some z =>
   simp [hbl, hz] at hc; subst hc
   simp only [ze8] at h
   cases h1 : za5 z.cells with
   | false => simp [h1] at h
   | true =>
    simp [h1] at h; obtain ⟨rfl, rfl⟩ := h
    obtain ⟨v, φ', w', g1, g2, g3, g4⟩ := zay6 hH hK hz h1
    exact ⟨v, φ', w', .inl (zi2 g1), g2, g3, g4⟩
 case box t x =>
  obtain ⟨y, hy, rfl⟩ := zb0 hc
  simp only [ze8] at h
  cases h1 : za5 (e y).cells with
  | false => simp [h1] at h
  | true =>
   simp [h1] at h; obtain ⟨rfl, rfl⟩ := h
   obtain ⟨v, φ', w', g1, g2, g3, g4⟩ := zbl1 (P := P) t hH hK (hm x (by simp [Op.operands]) y hy) h1
   exact ⟨v, φ', w', .inl (zi2 g1), g2, g3, g4⟩
 case build t parts =>
  split at hc
  ·rename_i fs _
   cases hz : zc5 P t <;> cases hp : placesOf P fs.toList <;> simp [hz, hp] at hc
   obtain ⟨_, b, _, rfl⟩ := hc; cases hr
  ·rename_i el _
   cases hz : zc5 P t <;> cases hp : zb3 P el <;> simp [hz, hp] at hc
   obtain ⟨_, b, _, rfl⟩ := hc; cases hr
  ·cases hc
 case buildSlice t len parts =>
  split at hc
  ·rename_i el ht
   cases hn : zb3 P el <;> cases hz : zc5 P el <;> simp [hn, hz] at hc
   obtain ⟨⟨z1, z2, z3⟩, ps, hq, rfl⟩ := hc
   simp only [ze8] at h
   rename_i n z
   cases hb : Nat.beq ((List.replicate len z.cells).flatten).length (len * n) with
   | false => simp only [hb, cond_false] at h; cases h
   | true =>
    simp only [hb, cond_true] at h
    cases hf : zh0 e ((List.replicate len z.cells).flatten) ps with
    | none => simp [hf] at h
    | some r =>
     simp [hf] at h; obtain ⟨rfl, rfl⟩ := h
     obtain ⟨v, φ', w', g1, g2, g3, g4⟩ := zab1 hH hK ht hn hz z1 z2 z3 hq (fun x hx => hm x (by simpa [Op.operands] using hx)) hf
     exact ⟨v, φ', w', .inl (zi2 g1), g2, g3, g4⟩
  ·cases hc
 case insert t m k x =>
  split at hc
  ·obtain ⟨_, _, _, _, _, _, rfl⟩ := zn5 hc; cases hr
  ·cases hc
 case load t x =>
  cases ht : zh9 P t <;> simp [ht] at hc
  rename_i n
  obtain ⟨y, hy, rfl⟩ := zb0 hc
  simp only [ze8] at h
  have r := hm x (by simp [Op.operands]) y hy
  split at h
  ·rename_i oo off hq
   rw [hq] at r
   cases hcs : H.cellsAt oo with
   | none => simp [hcs] at h
   | some cs =>
    cases hp : ze2 cs off n with
    | none => simp [hcs, hp] at h
    | some b =>
     simp [hcs, hp] at h; obtain ⟨rfl, rfl⟩ := h
     obtain ⟨v, g1, g2⟩ := za72 (P := P) hH r hcs ht hp
     exact ⟨v, φ, w, .inl (zi2 g1), g2, hH, Step.refl _ _ _⟩
  ·cases h
 case store t a x =>
  cases ht : zb3 P t <;> simp [ht] at hc
  obtain ⟨_, _, _, _, rfl⟩ := zc1 hc; cases hr
 case ready => cases hc
 case waits => cases hc
 case nilCheck x => obtain ⟨y, hy, rfl⟩ := zb0 hc; cases hr
 case binOp op t x y u => obtain ⟨_, _, _, _, rfl⟩ := zc1 hc; cases hr
 case unOp op t x => obtain ⟨_, _, rfl⟩ := zb0 hc; cases hr
 case convert src dst x =>
  split at hc
  ·obtain ⟨_, _, rfl⟩ := zb0 hc; cases hr
  ·obtain ⟨_, _, rfl⟩ := zb0 hc; cases hr
  ·rename_i el hs hd
   split at hc
   ·rename_i he
    obtain ⟨y, hy, rfl⟩ := zb0 hc
    have r := hm x (by simp [Op.operands]) y hy
    simp only [ze8] at h
    split at h
    ·rename_i hq; rw [hq] at r; cases h
     generalize hv : ρ x = v at r
     cases r
     refine ⟨.string .empty, φ, w, .inl (zi2 ?_), ?_, hH, Step.refl _ _ _⟩
     ·simp [convert, hs, hd, hv, he, Conv.bytesToString]
     ·have : zd0 ByteArray.empty = [] := rfl
      rw [<- this]; exact .str _
    ·rename_i oo off len lo ex hq; rw [hq] at r
     generalize hv : ρ x = v at r
     cases hrs : H.readSeg oo off len with
     | none => simp [hrs] at h
     | some xs =>
      cases hb : bytesOf xs with
      | none => simp [hrs, hb] at h
      | some s =>
       simp [hrs, hb] at h; obtain ⟨rfl, rfl⟩ := h
       obtain ⟨u, g1, g2⟩ := zx5 (P := P) hH r hrs hb
       refine ⟨u, φ, w, .inl (zi2 ?_), g2, hH, Step.refl _ _ _⟩
       have hsl : ∃ a n c, v = .slice a n c := by cases r <;> exact ⟨_, _, _, rfl⟩
       obtain ⟨a, n, c, rfl⟩ := hsl
       simp [convert, hs, hd, hv, he, g1]
    ·cases h
   ·cases hc
  ·rename_i el hs hd
   split at hc
   ·rename_i he
    obtain ⟨y, hy, rfl⟩ := zb0 hc
    have r := hm x (by simp [Op.operands]) y hy
    simp only [ze8] at h
    split at h
    ·rename_i s hq; rw [hq] at r
     generalize hv : ρ x = v at r
     cases r with
     | str b =>
      cases h
      obtain ⟨u, φ', w', g1, g2, g3, g4⟩ := zw3 (P := P) el b hH hK
      exact ⟨u, φ', w', .inl (zi2 (by simp [convert, hs, hd, hv, he, g1])), g2, g3, g4⟩
    ·cases h
   ·cases hc
  ·by_cases hsd : src = dst
   ·rw [if_pos hsd] at hc
    split at hc
    ·obtain ⟨_, _, rfl⟩ := zb0 hc; cases hr
    ·cases hc
   ·rw [if_neg hsd] at hc; cases hc
  ·cases hc
 case sliceToArrayPointer t x =>
  split at hc
  ·obtain ⟨_, _, rfl⟩ := zb0 hc; cases hr
  ·cases hc
 case makeInterface => cases hc
 case makeFunc fn first captured =>
  cases fn <;> simp only at hc <;> first | (cases hc; done) | skip
  cases h1 : zj8 first.toList <;> cases h2 : zj8 captured.toList <;> simp [h1, h2] at hc
  subst hc; cases hr
 case makeMap t r =>
  split at hc
  ·rename_i kt et ht
   cases hq : zq8 r with
   | none => simp [hq] at hc
   | some y =>
    simp [hq] at hc; subst hc
    have r2 := zn0 (e := e) (ρ := ρ) hq (fun z hz => hm z (by simpa [Op.operands] using hz))
    simp only [ze8] at h
    cases y with
    | none =>
     cases r with
     | some _ => exact r2.elim
     | none =>
      cases h
      obtain ⟨u, φ', w', g1, g2, g3, g4⟩ := zz5 (P := P) t ht none (fun v q => by cases q) hH hK
      exact ⟨u, φ', w', .inl (zi2 g1), g2, g3, g4⟩
    | some y =>
     cases r with
     | none => exact r2.elim
     | some x =>
      simp only at h
      split at h
      ·rename_i k n hk
       cases h
       have r3 : zc3 φ (e y) (ρ x) := r2
       rw [hk] at r3
       generalize hv : ρ x = v at r3
       cases r3
       obtain ⟨u, φ', w', g1, g2, g3, g4⟩ := zz5 (P := P) t ht (some (.int k n)) (fun v q => by cases q; exact ⟨_, _, rfl⟩) hH hK
       exact ⟨u, φ', w', .inl (zi2 (by simpa [hv] using g1)), g2, g3, g4⟩
      ·cases h
  ·cases hc
 case makeChan => cases hc
 case makeSlice t l c =>
  split at hc
  ·rename_i el ht
   cases hn : zb3 P el <;> cases hb : zg7 P el <;> cases hz : zc5 P el <;> simp [hn, hb, hz] at hc
   obtain ⟨l', c', h1, h2, rfl⟩ := zc1 hc
   rename_i n by_ z
   have r1 := hm l (by simp [Op.operands]) l' h1
   have r2 := hm c (by simp [Op.operands]) c' h2
   simp only [ze8] at h
   split at h
   ·rename_i k1 li k2 ci hl hcc
    rw [hl] at r1; rw [hcc] at r2
    split at h
    ·rename_i hcond
     obtain ⟨q1, q2, q3, q4⟩ := hcond
     cases hz1 : (Nat.beq z.cells.length n && za5 z.cells) with
     | false => simp only [hz1, cond_false] at h; cases h
     | true =>
      simp only [hz1, cond_true] at h
      simp only [Bool.and_eq_true, Tr.nbeq, decide_eq_true_eq] at hz1
      cases h
      generalize hv1 : ρ l = v1 at r1
      generalize hv2 : ρ c = v2 at r2
      cases r1; cases r2
      obtain ⟨u, φ', w', g1, g2, g3, g4⟩ := zae7 (P := P) (k := k1) (k' := k2) ht hn hb hz hz1.1 hz1.2 q1 q2 q3 q4 hH hK
      exact ⟨u, φ', w', .inl (zi2 (by simpa [hv1, hv2] using g1)), g2, g3, g4⟩
    ·cases h
   ·cases h
  ·cases hc
 case slice t x lo hi mx =>
  split at hc
  ·split at hc
   ·cases hc
   ·cases h1 : zk0 x <;> cases h2 : zq8 lo <;> cases h3 : zq8 hi <;> simp [h1, h2, h3] at hc
    subst hc; cases hr
  ·rename_i el ht
   cases hn : zb3 P el <;> cases h1 : zk0 x <;> cases h2 : zq8 lo <;> cases h3 : zq8 hi <;> cases h4 : zq8 mx <;> simp [hn, h1, h2, h3, h4] at hc
   subst hc; cases hr
  ·split at hc
   ·cases hc
   ·rename_i k el ht hmx
    have hmx' : mx = none := by simpa using hmx
    subst hmx'
    cases hn : zb3 P el <;> cases h1 : zk0 x <;> cases h2 : zq8 lo <;> cases h3 : zq8 hi <;> simp [hn, h1, h2, h3] at hc
    subst hc
    rename_i n x' lo' hi'
    have r := hm x (by simp [Op.operands]) x' h1
    have r2 := zn0 (e := e) (ρ := ρ) h2 (fun z hz => hm z (by simp [Op.operands] at hz ⊢; exact .inr (.inl hz)))
    have r3 := zn0 (e := e) (ρ := ρ) h3 (fun z hz => hm z (by simp [Op.operands] at hz ⊢; exact .inr (.inr hz)))
    simp only [ze8] at h
    split at h
    ·rename_i oo off hq; rw [hq] at r
     cases hcs : H.cellsAt oo with
     | none => simp [hcs] at h
     | some cs =>
      simp only [hcs] at h
      cases hb : Nat.ble (off + k * n) cs.length with
      | false => simp [hb] at h
      | true =>
       simp only [hb, cond_true] at h
       cases hbd : zd8 k k true (lo'.map e) (hi'.map e) none with
       | none => simp [hbd] at h
       | some q =>
        obtain ⟨l, hh, m, ex'⟩ := q
        simp [hbd] at h; obtain ⟨rfl, rfl⟩ := h
        obtain ⟨v, g1, g2⟩ := zbb8 (P := P) ht hn r (fun L hL => by
         have := (hH.at_ hL hcs).2.1
         have := Nat.le_of_ble_eq_true hb
         omega) r2 r3 hbd w
        exact ⟨v, φ, w, .inl (zi2 g1), g2, hH, Step.refl _ _ _⟩
    ·cases h
  ·cases hc
 case fieldAddr s x f =>
  split at hc
  ·split at hc
   ·split at hc
    ·cases hc
    ·obtain ⟨_, _, rfl⟩ := zb0 hc; cases hr
    ·cases hc
   ·cases hc
  ·cases hc
 case field s x f =>
  split at hc
  ·split at hc
   ·rename_i fd hfd
    cases hn : zh9 P fd.type <;> simp [hn] at hc
    obtain ⟨_, _, rfl⟩ := zb0 hc; cases hr
   ·cases hc
  ·cases hc
 case indexAddr t x i =>
  split at hc
  ·rename_i el ht
   cases hn : zb3 P el <;> simp [hn] at hc
   obtain ⟨_, _, _, _, rfl⟩ := zc1 hc; cases hr
  ·rename_i k el ht
   cases hn : zb3 P el <;> simp [hn] at hc
   obtain ⟨_, _, _, _, rfl⟩ := zc1 hc; cases hr
  ·cases hc
 case index t x i =>
  split at hc
  ·rename_i k el ht
   cases hn : zb3 P el <;> cases ha : zh9 P el <;> simp [hn, ha] at hc
   obtain ⟨_, _, _, _, rfl⟩ := zc1 hc; cases hr
  ·obtain ⟨_, _, _, _, rfl⟩ := zc1 hc; cases hr
  ·cases hc
 case lookup t x i ok =>
  split at hc
  ·rename_i k el ht
   cases hz : zc5 P el <;> simp [hz] at hc
   obtain ⟨m', k', h1, h2, rfl⟩ := zc1 hc
   rename_i z
   have r1 := hm x (by simp [Op.operands]) m' h1
   have r2 := hm i (by simp [Op.operands]) k' h2
   simp only [ze8] at h
   cases hl : zp1 H (zg2 P k) (e m') (e k') with
   | none => simp [hl] at h
   | some r =>
    simp [hl] at h; obtain ⟨rfl, rfl⟩ := h
    obtain ⟨v, g1, g2⟩ := zaq6 (P := P) ok ht hz r1 r2 hH hl
    exact ⟨v, φ, w, .inl (zi2 g1), g2, hH, Step.refl _ _ _⟩
  ·cases hc
 case mapUpdate t m k x =>
  split at hc
  ·obtain ⟨_, _, _, _, _, _, rfl⟩ := zn5 hc; cases hr
  ·cases hc
 case mapEntry => cases hc
 case entryStore => cases hc
 case range t x =>
  split at hc
  ·rename_i ht
   obtain ⟨y, hy, rfl⟩ := zb0 hc
   have r := hm x (by simp [Op.operands]) y hy
   simp only [ze8] at h
   split at h
   ·rename_i s hq; rw [hq] at r; cases h
    generalize hv : ρ x = v at r
    cases r with
    | str b =>
     have hp := hH.push hK (w' := { w with heap := w.heap.push (.stringIter b 0) }) (.siter (zd0 b) 0) ⟨w.heap.size, 0, 0⟩ (.stringIter b 0) rfl rfl rfl rfl rfl ⟨b, by simp, rfl, rfl⟩
     exact ⟨.pointer (some ⟨w.heap.size, 0, none⟩), _, _, .inl (zi2 (by simp [Instr.range, ht, hv])), .ptr H.next 0 _ (Pl.put_same _ _ _), hp.1, hp.2⟩
   ·cases h
  ·cases hc
 case next it s =>
  cases s <;> simp only at hc
  ·cases hc
  ·obtain ⟨_, _, rfl⟩ := zb0 hc; cases hr
 case entry => cases hc
 case typeAssert => cases hc
 case extract t i => obtain ⟨_, _, rfl⟩ := zb0 hc; cases hr
 case call c =>
  obtain ⟨callee, args, argTypes⟩ := c
  cases callee with
  | value f =>
   simp only at hc
   cases h1 : zk0 f <;> cases h2 : zj8 args.toList <;> simp [h1, h2] at hc
   subst hc; cases hr
  | invoke r m => simp at hc
  | builtin b =>
   simp only at hc
   unfold zv1 at hc
   split at hc
   ·split at hc
    ·rename_i el _ _ _
     cases hn : zb3 P el <;> cases hb : zg7 P el <;> cases hz : zc5 P el <;> simp [hn, hb, hz] at hc
     obtain ⟨_, hc⟩ := hc
     obtain ⟨_, _, _, _, rfl⟩ := zc1 hc; cases hr
    ·rename_i el _ _
     cases hn : zb3 P el <;> cases hb : zg7 P el <;> cases hz : zc5 P el <;> simp [hn, hb, hz] at hc
     obtain ⟨_, hc⟩ := hc
     obtain ⟨_, _, _, _, rfl⟩ := zc1 hc; cases hr
    ·cases hc
   ·rename_i t x e1 e2
    obtain ⟨rfl⟩ : argTypes = #[t] := by apply Array.toList_inj.1; simpa using e1
    obtain ⟨rfl⟩ : args = #[x] := by apply Array.toList_inj.1; simpa using e2
    split at hc
    ·obtain ⟨_, _, rfl⟩ := zb0 hc; cases hr
    ·obtain ⟨_, _, rfl⟩ := zb0 hc; cases hr
    ·rename_i kt et ht
     obtain ⟨y, hy, rfl⟩ := zb0 hc
     have r := hm x (by simp [Op.operands, Call.operands]) y hy
     simp only [ze8] at h
     generalize hv : ρ x = v at r
     split at h
     ·rename_i hq; rw [hq] at r; cases h; cases r
      refine ⟨.int .i64 0, φ, w, .inl ?_, .int _ _, hH, Step.refl _ _ _⟩
      simp [execOp, resolve, invoke, builtin, Builtin.len_, ht, hv, goInt]
     ·rename_i oo hq; rw [hq] at r
      split at h
      ·rename_i es he
       cases h
       cases r with
       | map _ L hL =>
        obtain ⟨en, cl, q1, q2, q3⟩ := hH.obj oo L _ hL he
        have hget : (getObj L.blk).run P w = .ok (.map en cl) w := by simp [getObj, Sem.run, q1]
        refine ⟨.int .i64 en.size, φ, w, .inl ?_, ?_, hH, Step.refl _ _ _⟩
        ·simp [execOp, resolve, invoke, builtin, Builtin.len_, ht, hv, goInt, hget]
        ·have := q2.len
         simp at this
         rw [aInt, this]; exact .int _ _
      ·cases h
     ·cases h
    ·obtain ⟨_, _, rfl⟩ := zb0 hc; cases hr
    ·cases hc
   ·split at hc
    ·obtain ⟨_, _, rfl⟩ := zb0 hc; cases hr
    ·cases hc
   ·split at hc
    ·rename_i el _
     cases hn : zb3 P el <;> simp [hn] at hc
     obtain ⟨_, _, _, _, rfl⟩ := zc1 hc; cases hr
    ·cases hc
   ·split at hc
    ·obtain ⟨_, _, _, _, rfl⟩ := zc1 hc; cases hr
    ·cases hc
   ·split at hc
    ·obtain ⟨_, _, rfl⟩ := zb0 hc; cases hr
    ·rename_i el _
     cases hz : zc5 P el <;> simp [hz] at hc
     obtain ⟨_, _, rfl⟩ := zb0 hc; cases hr
    ·cases hc
   ·cases hq : zj8 args.toList <;> simp [hq] at hc
    subst hc; cases hr
   ·cases hq : zj8 args.toList <;> simp [hq] at hc
    subst hc; cases hr
   ·cases hc
 case go => cases hc
 case defer => cases hc
 case panic => cases hc
 case send => cases hc
 case recv => cases hc
 case select => cases hc
end Go.AI
namespace Go.AI
variable {P : Program} {G : World -> Prop}
theorem zaj2 {α : Type} (l m : List α) (p i : Nat) (h : p + m.length <= l.length) :
  (l.take p ++ m ++ l.drop (p + m.length))[i]? = if i < p then l[i]? else if i < p + m.length then m[i - p]? else l[i]? := by
 by_cases h1 : i < p
 ·rw [if_pos h1, List.append_assoc, List.getElem?_append_left (by simp; omega), List.getElem?_take, if_pos h1]
 ·rw [if_neg h1]
  by_cases h2 : i < p + m.length
  ·rw [if_pos h2, List.append_assoc, List.getElem?_append_right (by simp; omega), List.getElem?_append_left (by simp; omega)]
   congr 1; simp; omega
  ·rw [if_neg h2, List.getElem?_append_right (by simp; omega), List.getElem?_drop]
   congr 1; simp; omega
theorem zk3 {H H' : Heap} {o off : Nat} {xs : List AV} (h : H.writeSeg o off xs = some H') : H.floor <= o /\ ∃ cs, H.cellsAt o = some cs /\ off + xs.length <= cs.length /\ za5 xs = true /\ H' = H.set o (.cells (setSeg cs off xs)) := by
 unfold Heap.writeSeg at h
 cases hf : Nat.ble H.floor o with
 | false => simp [hf] at h
 | true =>
  simp only [hf, cond_true] at h
  refine ⟨Nat.le_of_ble_eq_true hf, ?_⟩
  split at h
  ·rename_i cs hc
   cases hb : (Nat.ble (off + xs.length) cs.length && za5 xs) with
   | false => simp [hb] at h
   | true =>
    simp [hb] at h
    simp only [Bool.and_eq_true, Nat.ble_eq] at hb
    exact ⟨cs, hc, hb.1, hb.2, h.symm⟩
  ·cases h
theorem zf8 {H : Heap} {o : Nat} {cs : List AV} (h : H.cellsAt o = some cs) : H.get o = some (.cells cs) /\ (.cells cs : zo4) ≠ .dead := ⟨zn1 h, by simp⟩
theorem zac4 {φ : Pl} {w : World} {L : Loc} {off : Nat} {xs : List AV} {vs : List Value} (hown : Own w L) (hl : zg4 φ xs vs) (h1 : za5 xs = true) (hr : L.base + off + xs.length <= L.size) :
  ∃ w' c c' t fz, (storeCells ⟨L.blk, L.base + off, none⟩ vs).run P w = .ok () w' /\ w.heap[L.blk]? = some (.cells c t fz) /\ w'.heap[L.blk]? = some (.cells c' t fz) /\ c'.size = L.size /\
   (∀ i, c'[i]? = if i < L.base + off then c[i]? else if i < L.base + off + vs.length then vs[i - (L.base + off)]? else c[i]?) /\ (fz.1 = fz.2 \/ L.size <= fz.1) /\
   (∀ k, k ≠ L.blk -> w'.heap[k]? = w.heap[k]?) /\ w'.heap.size = w.heap.size /\ w'.os = w.os /\ w'.tape = w.tape /\ w'.output = w.output /\ w'.drawn = w.drawn := by
 obtain ⟨c, t, fz, hc, hs, hf⟩ := hown
 have hlen := hl.len
 obtain ⟨w', c', g1, g2, g3, g4, g5, g6, g7, g8, g9⟩ := zv5 (P := P) vs w L.blk (L.base + off) 0 c t fz hc (by omega) (hl.oneCells h1) (fun j hj hj' => by rcases hf with q | q <;> omega)
 simp only [Nat.add_zero] at g3
 have hcl : L.base + off + vs.length <= c.toList.length := by simp; omega
 refine ⟨w', c, c', t, fz, g1, hc, g2, ?_, fun i => ?_, hf, g4, g5, g6, g7, g8, g9⟩
 ·have := congrArg List.length g3
  simp at this
  omega
 ·rw [<- Array.getElem?_toList, g3, zaj2 _ _ _ _ hcl]
  simp
theorem cell_of_block {w : World} {b i : Nat} {c : Array Value} {t : TypeId} {fz : Nat × Nat} (h : w.heap[b]? = some (.cells c t fz)) : w.cell? ⟨b, i, none⟩ = c[i]? := by
 simp [World.cell?, h]
theorem zl9 {B W Z : Nat} {φ : Pl} {H H' : Heap} {w : World} {o off : Nat} {L : Loc} {xs : List AV} {vs : List Value} (hH : zc7 G B W Z φ H w) (hL : φ o = some L) (hw : H.writeSeg o off xs = some H') (hl : zg4 φ xs vs) :
  ∃ w', (storeCells ⟨L.blk, L.base + off, none⟩ vs).run P w = .ok () w' /\ zc7 G B W Z φ H' w' /\ Step φ H w φ H' w' := by
 obtain ⟨hf, cs, hc, hlen, h1, rfl⟩ := zk3 hw
 obtain ⟨hat, hsz, hown⟩ := hH.at_ hL hc
 obtain ⟨w', c, c', t, fz, g1, g2, g3, g4, g5, g6, g7, g8, g9, g10, g11, g12⟩ := zac4 (P := P) (off := off) (hown (Nat.le_trans hH.fl hf)) hl h1 (by omega)
 have hlv := hl.len
 refine ⟨w', g1, hH.set _ hL (zf8 hc).1 (zf8 hc).2 hf g9 g10 g11 g8 g7 ⟨fun i a ha => ?_, ?_, fun _ => ⟨c', t, fz, g3, g4, g6⟩⟩⟩
 ·rw [cell_of_block g3, g5]
  unfold setSeg at ha
  rw [zaj2 _ _ _ _ hlen] at ha
  by_cases q1 : i < off
  ·rw [if_pos q1] at ha
   obtain ⟨u, k1, k2⟩ := hat i a ha
   rw [cell_of_block g2] at k1
   exact ⟨u, by rw [if_pos (by omega)]; exact k1, k2⟩
  ·rw [if_neg q1] at ha
   by_cases q2 : i < off + xs.length
   ·rw [if_pos q2] at ha
    obtain ⟨u, k1, k2⟩ := hl.getE ha
    refine ⟨u, ?_, k2⟩
    rw [if_neg (by omega), if_pos (by omega)]
    have : L.base + i - (L.base + off) = i - off := by omega
    rw [this]; exact k1
   ·rw [if_neg q2] at ha
    obtain ⟨u, k1, k2⟩ := hat i a ha
    rw [cell_of_block g2] at k1
    exact ⟨u, by rw [if_neg (by omega), if_neg (by omega)]; exact k1, k2⟩
 ·simp [setSeg]; omega
theorem zau6 {B W Z : Nat} {φ : Pl} {H H' : Heap} {w : World} {t : TypeId} {n o off : Nat} {a : AV} {v pv : Value} (hH : zc7 G B W Z φ H w) (hp : zc3 φ (.ptr o off) pv) (hv : zc3 φ a v) (hn : zb3 P t = some n) (hlen : a.cells.length = n) (hw : H.writeSeg o off a.cells = some H') :
  ∃ w', (Instr.storeAt t pv v).run P w = .ok () w' /\ zc7 G B W Z φ H' w' /\ Step φ H w φ H' w' := by
 cases hp with
 | ptr _ _ L hL =>
  obtain ⟨_, _, _, _, h1, _⟩ := zk3 hw
  have hl := hv.cells h1
  obtain ⟨w', g1, g2, g3⟩ := zl9 (P := P) hH hL hw hl
  refine ⟨w', ?_, g2, g3⟩
  have : v.cells.size = n := by have := hl.len; simp at this; omega
  simp [Instr.storeAt, Instr.sureAddr, storeVar, run_sizeOf hn, this, g1]
theorem zar4 (newLen : Nat) : ∀ (r c : Nat), c <= 2 * newLen + 1024 -> Builtin.growBy newLen r c <= 2 * newLen + 1024
 | 0, c, h => h
 | r + 1, c, h => by
  simp only [Builtin.growBy]
  split
  ·exact h
  ·exact zar4 newLen r _ (by omega)
theorem za65 (need c : Nat) (h : c < need) : Builtin.nextslicecap need c <= 2 * need + 1024 := by
 unfold Builtin.nextslicecap
 split
 ·omega
 ·split
  ·omega
  ·exact zar4 _ _ _ (by omega)
theorem zbb1 {B W Z : Nat} {φ : Pl} {H : Heap} {w : World} {e n : Nat} {y : AV} {v : Value} {new : List AV} (hH : zc7 G B W Z φ H w) (hy : zc3 φ y v) (h : srcA e H y = some (n, new)) :
  (Builtin.lenOf v).run P w = .ok n w /\ ∃ vs : List Value, (Builtin.firstCells e n v).run P w = .ok vs.toArray w /\ zg4 φ new vs /\ new.length = n * e := by
 unfold srcA at h
 split at h
 ·cases h; cases hy; exact ⟨by simp [Builtin.lenOf], [], by simp [Builtin.firstCells], .nil, by simp⟩
 ·rename_i o off len e' lo ex
  cases hb : Nat.beq e e' with
  | false => simp [hb] at h
  | true =>
   have := Nat.eq_of_beq_eq_true hb; subst this
   simp only [hb, cond_true] at h
   cases hr : H.readSeg o off (len * e) with
   | none => simp [hr] at h
   | some cs =>
    simp [hr] at h; obtain ⟨rfl, rfl⟩ := h
    obtain ⟨a, cap, vs, rfl, g1, g2⟩ := zs6 (P := P) hH hy (Nat.le_refl _) hr
    obtain ⟨cs', _, hs⟩ := zq1 hr
    obtain ⟨q1, rfl⟩ := zy5 hs
    exact ⟨by simp [Builtin.lenOf], vs, by simp [Builtin.firstCells, g1], g2, by simp; omega⟩
 ·cases hb : Nat.beq e 1 with
  | false => simp [hb] at h
  | true =>
   have := Nat.eq_of_beq_eq_true hb; subst this
   simp at h; obtain ⟨rfl, rfl⟩ := h
   cases hy with
   | str b =>
    refine ⟨by simp [Builtin.lenOf, zh6], (b.data.map fun b => .int .u8 b.toNat).toList, ?_, ?_, by simp⟩
    ·have : b.extract 0 (zd0 b).length = b := by
      rw [zh6]
      apply ByteArray.ext
      simp
     simp only [Builtin.firstCells, this, Sem.run_pure]
    ·simp only [zd0, List.map_map, Array.toList_map]
     exact zg4.mapL _ _ _ fun x _ => .int _ _
 ·cases h
theorem zah7 (zero : Array Value) (n : Nat) : (Builtin.zeroCells zero n).size = n * zero.size := by simp [Builtin.zeroCells]
theorem zu3 {B W Z : Nat} {φ : Pl} {H : Heap} {w : World} {t u el : TypeId} {ty : TypeId} {e by_ n len cap : Nat} {z : AV} {base : Option Addr} {yv : Value} {new old : List AV} {nv ov : List Value}
  (hH : zc7 G B W Z φ H w) (hK : H.next < Z) (ht : P.underlying t = some (.slice el)) (hu : (∃ q, P.underlying u = some (.slice q)) \/ P.underlying u = some .string) (he : zb3 P el = some e) (hb : zg7 P el = some by_) (hz : zc5 P el = some z) (hz1 : z.cells.length = e) (hz2 : za5 z.cells = true) (hb0 : by_ ≠ 0)
  (hlen : (Builtin.lenOf yv).run P w = .ok n w) (hnew : ∀ d', (Builtin.firstCells e n yv).run P { w with drawn := d' } = .ok nv.toArray { w with drawn := d' }) (hold : ∀ d', (Builtin.firstCells e len (.slice base len cap)).run P { w with drawn := d' } = .ok ov.toArray { w with drawn := d' })
  (rn : zg4 φ new nv) (ro : zg4 φ old ov) (ln : new.length = n * e) (lo_ : old.length = len * e) (hcap : cap < len + n) (hbound : (2 * (len + n) + 1024) * by_ <= 2 ^ 48) :
  ∃ v φ' w', (Builtin.append_ #[t, u] ty #[.slice base len cap, yv]).run P w = .ok v w' /\ zc3 φ' (.slc H.next 0 (len + n) e (len + n) false) v /\ zc7 G B W Z φ' (H.push (.cells (old ++ new))) w' /\ Step φ H w φ' (H.push (.cells (old ++ new))) w' := by
 obtain ⟨zv, rz, _, hzr⟩ := zf1 hz φ
 have hzs : zv.cells.size = e := by have := (rz.cells hz2).len; simp at this; omega
 obtain ⟨i, hi, hib⟩ : ∃ i, P.info? el = some i /\ i.bytes = by_ := by
  unfold zg7 at hb
  cases hi : P.info? el with
  | none => simp [hi] at hb
  | some i => simp [hi] at hb; exact ⟨i, rfl, hb⟩
 have hnc := za65 (len + n) cap hcap
 have hq1 : ¬ (Builtin.nextslicecap (len + n) cap * by_ > 2 ^ 48) := by
  have : Builtin.nextslicecap (len + n) cap * by_ <= (2 * (len + n) + 1024) * by_ := Nat.mul_le_mul_right _ hnc
  omega
 have hcut : len + n <= Question.cut (.appendCap (len + n) cap el) (w.tape w.drawn (.appendCap (len + n) cap el)) := by simp only [Question.cut]; exact Nat.le_add_right _ _
 generalize hnewCap : Question.cut (.appendCap (len + n) cap el) (w.tape w.drawn (.appendCap (len + n) cap el)) = newCap at hcut
 let w1 : World := { w with drawn := w.drawn + 1 }
 have h1 : zc7 G B W Z φ H w1 := hH.congr rfl
 have hs1 : Step φ H w φ H w1 := Step.congr rfl rfl rfl rfl
 have hp := zr3 h1 hK el (old ++ new) (ov ++ nv) (Builtin.zeroCells zv.cells (newCap - (len + n))).toList (ro.append rn)
 have hsz : (ov ++ nv ++ (Builtin.zeroCells zv.cells (newCap - (len + n))).toList).length = newCap * e := by
  have e1 := ro.len; have e2 := rn.len
  simp only [List.length_append, Array.length_toList, zah7, hzs]
  rw [<- e1, <- e2, lo_, ln, <- Nat.add_mul, <- Nat.add_mul]; congr 1; omega
 rw [hsz] at hp
 refine ⟨.slice (some ⟨w.heap.size, 0, none⟩) (len + n) newCap, _, _, ?_, .slc H.next 0 (len + n) e (len + n) false ⟨w.heap.size, 0, newCap * e⟩ newCap (Pl.put_same _ _ _) (Nat.le_refl _) hcut (fun q => by cases q) (by simp), hp.1, hs1.trans hp.2⟩
 have hc1 : ¬ (len + n <= cap) := by omega
 have hnew1 := hnew (w.drawn + 1)
 have hold1 := hold (w.drawn + 1)
 have e0 : (#[t, u] : Array TypeId)[0]? = some t := rfl
 have e1 : (#[t, u] : Array TypeId)[1]? = some u := rfl
 have e2 : (#[Value.slice base len cap, yv] : Array Value)[0]? = some (.slice base len cap) := rfl
 have e3 : (#[Value.slice base len cap, yv] : Array Value)[1]? = some yv := rfl
 rcases hu with ⟨q, hu⟩ | hu
 ·simp only [Builtin.append_, e0, e1, e2, e3, Sem.run_bind, run_underlying, ht, hu, Result.andThen_ok, run_sizeOf he, Sem.run_pure, Bool.false_eq_true, if_false, hlen, if_neg hc1, run_typeInfo, hi, hib, hb0, or_self, and_false, if_neg hq1, run_choose, Question.forced, hnewCap, run_askRoom, hold1, Bool.not_false, if_true, hnew1, hzr, newRow, run_newObj]
  simp only [w1]
  congr 2
  congr 1
  congr 1
  apply Array.toList_inj.1; simp
 ·simp only [Builtin.append_, e0, e1, e2, e3, Sem.run_bind, run_underlying, ht, hu, Result.andThen_ok, run_sizeOf he, Sem.run_pure, Bool.false_eq_true, if_false, hlen, if_neg hc1, run_typeInfo, hi, hib, hb0, or_self, and_false, if_neg hq1, run_choose, Question.forced, hnewCap, run_askRoom, hold1, Bool.not_false, if_true, hnew1, hzr, newRow, run_newObj]
  simp only [w1]
  congr 2
  congr 1
  congr 1
  apply Array.toList_inj.1; simp
end Go.AI
namespace Go.AI
variable {P : Program} {G : World -> Prop}
theorem zv8 (w : World) : ∀ (k i : Nat) (a : Addr) (acc r : Array Value) (d1 d2 : Nat), (loadCellsFrom a i k acc).run P { w with drawn := d1 } = .ok r { w with drawn := d1 } -> (loadCellsFrom a i k acc).run P { w with drawn := d2 } = .ok r { w with drawn := d2 } := by
 intro k
 induction k with
 | zero => intro i a acc r d1 d2 h; simp [loadCellsFrom] at h ⊢; exact h
 | succ k ih =>
  intro i a acc r d1 d2 h
  simp only [loadCellsFrom, Sem.run_bind, run_load] at h ⊢
  have ec : World.cell? { w with drawn := d1 } (a.add i) = World.cell? { w with drawn := d2 } (a.add i) := rfl
  rw [ec] at h
  cases hc : World.cell? { w with drawn := d2 } (a.add i) with
  | some v => simp only [hc, Result.andThen_ok] at h ⊢; exact ih _ _ _ _ _ _ h
  | none =>
   simp only [hc] at h ⊢
   have ef : World.farLoad P { w with drawn := d1 } (a.add i) (Mode.plain == Mode.atomic) = World.farLoad P { w with drawn := d2 } (a.add i) (Mode.plain == Mode.atomic) := rfl
   rw [ef] at h
   cases hfl : World.farLoad P { w with drawn := d2 } (a.add i) (Mode.plain == Mode.atomic) with
   | ok q => obtain ⟨v, _⟩ := q; simp only [hfl, Result.andThen_ok] at h ⊢; exact ih _ _ _ _ _ _ h
   | error q => simp [hfl] at h
theorem kill {B W Z : Nat} {φ : Pl} {H : Heap} {w : World} {o : Nat} {L : Loc} {x0 : zo4} (hH : zc7 G B W Z φ H w) (hL : φ o = some L) (hx : H.get o = some x0) (hd : x0 ≠ .dead) (hf : H.floor <= o) :
  zc7 G B W Z φ (H.set o .dead) w /\ Step φ H w φ (H.set o .dead) w :=
 hH.set (w' := w) .dead hL hx hd hf rfl rfl rfl rfl (fun _ _ => rfl) trivial
theorem zab8 {H : Heap} {o p : Nat} {x : zo4} : (H.set o x).get p = if p = o then some x else H.get p := Tr.get_set _ _ _ _
theorem zcq2 {B W Z : Nat} {φ : Pl} {H : Heap} {w : World} {o : Nat} {x0 : zo4} (hH : zc7 G B W Z φ H w) (hL : φ o = none) (hx : H.get o = some x0) (hf : H.floor <= o) :
  zc7 G B W Z φ (H.set o .dead) w /\ Step φ H w φ (H.set o .dead) w := by
 have ne : ∀ p L, φ p = some L -> p ≠ o := fun p L h q => by subst q; rw [hL] at h; cases h
 have lv : ∀ p L, φ p = some L -> live (H.set o .dead) p -> live H p := fun p L h l => by
  obtain ⟨x, hx, hd⟩ := l
  rw [zab8, if_neg (ne p L h)] at hx
  exact ⟨x, hx, hd⟩
 refine ⟨⟨hH.fl, hH.fn, hH.wsz, hH.dom, ?_, ?_, hH.low, ?_, ?_, hH.good⟩, ⟨Pl.le_refl φ, ?_, Nat.le_refl _, rfl, rfl, rfl, rfl, Nat.le_refl _, fun _ _ _ => rfl, ?_, ?_, Nat.le_refl _⟩⟩
 ·intro p hp
  have hp' : H.next <= p := hp
  have : p ≠ o := fun q => by subst q; rw [hH.fresh p hp'] at hx; cases hx
  rw [zab8, if_neg this]; exact hH.fresh p hp'
 ·intro p L x h hx
  rw [zab8, if_neg (ne p L h)] at hx
  exact hH.obj p L x h hx
 ·exact fun p L h hp l => hH.high p L h hp (lv p L h l)
 ·exact fun p p' L L' h h' hp hp' l l' => hH.inj p p' L L' h h' hp hp' (lv p L h l) (lv p' L' h' l')
 ·intro p L h k; rw [h] at k; cases k
 ·exact fun p L h k l => .inr ⟨p, L, h, k, lv p L k l, rfl⟩
 ·intro p hp
  have : p ≠ o := fun q => by subst q; exact absurd hf (by omega)
  rw [zab8, if_neg this]
theorem zag8 {_B _W _Z : Nat} {_φ : Pl} {_H : Heap} {w : World} {t u el ty : TypeId} {e n len cap : Nat} {a : Addr} {yv : Value} {nv : List Value} {w' : World}
  (ht : P.underlying t = some (.slice el)) (hu : (∃ q, P.underlying u = some (.slice q)) \/ P.underlying u = some .string) (he : zb3 P el = some e)
  (hlen : (Builtin.lenOf yv).run P w = .ok n w) (hnew : (Builtin.firstCells e n yv).run P w = .ok nv.toArray w) (hcap : len + n <= cap) (hst : (storeCells (a.add (len * e)) nv).run P w = .ok () w') :
  (Builtin.append_ #[t, u] ty #[.slice (some a) len cap, yv]).run P w = .ok (.slice (some a) (len + n) cap) w' := by
 have e0 : (#[t, u] : Array TypeId)[0]? = some t := rfl
 have e1 : (#[t, u] : Array TypeId)[1]? = some u := rfl
 have e2 : (#[Value.slice (some a) len cap, yv] : Array Value)[0]? = some (.slice (some a) len cap) := rfl
 have e3 : (#[Value.slice (some a) len cap, yv] : Array Value)[1]? = some yv := rfl
 rcases hu with ⟨q, hu⟩ | hu
 ·simp only [Builtin.append_, e0, e1, e2, e3, Sem.run_bind, run_underlying, ht, hu, Result.andThen_ok, run_sizeOf he, Sem.run_pure, Bool.false_eq_true, if_false, hlen, hcap, if_true, Bool.not_false, hnew, hst]
 ·simp only [Builtin.append_, e0, e1, e2, e3, Sem.run_bind, run_underlying, ht, hu, Result.andThen_ok, run_sizeOf he, Sem.run_pure, Bool.false_eq_true, if_false, hlen, hcap, if_true, Bool.not_false, hnew, hst]
theorem append_nil {w : World} {t u el ty : TypeId} {e len cap : Nat} {base : Option Addr} {yv : Value}
  (ht : P.underlying t = some (.slice el)) (hu : (∃ q, P.underlying u = some (.slice q)) \/ P.underlying u = some .string) (he : zb3 P el = some e)
  (hlen : (Builtin.lenOf yv).run P w = .ok 0 w) (hnew : (Builtin.firstCells e 0 yv).run P w = .ok #[] w) (hcap : len <= cap) :
  (Builtin.append_ #[t, u] ty #[.slice base len cap, yv]).run P w = .ok (.slice base len cap) w := by
 have e0 : (#[t, u] : Array TypeId)[0]? = some t := rfl
 have e1 : (#[t, u] : Array TypeId)[1]? = some u := rfl
 have e2 : (#[Value.slice base len cap, yv] : Array Value)[0]? = some (.slice base len cap) := rfl
 have e3 : (#[Value.slice base len cap, yv] : Array Value)[1]? = some yv := rfl
 have hs : ∀ a : Addr, (storeCells a []).run P w = .ok () w := fun a => by simp [storeCells]
 cases base <;> rcases hu with ⟨q, hu⟩ | hu <;>
  simp [Builtin.append_, run_underlying, ht, hu, run_sizeOf he, hlen, hcap, hnew, hs]
theorem zat7 {B W Z : Nat} {φ : Pl} {H H' : Heap} {w : World} {t u el ty : TypeId} {e by_ : Nat} {z x y a : AV} {xv yv : Value}
  (hH : zc7 G B W Z φ H w) (ht : P.underlying t = some (.slice el)) (hu : (∃ q, P.underlying u = some (.slice q)) \/ P.underlying u = some .string) (he : zb3 P el = some e) (hb : zg7 P el = some by_) (hz : zc5 P el = some z) (hz1 : z.cells.length = e) (hz2 : za5 z.cells = true) (hb0 : by_ ≠ 0)
  (hx : zc3 φ x xv) (hy : zc3 φ y yv) (h : zc4 e by_ H x y = some (a, H')) (hK : H'.next <= Z) :
  ∃ v φ' w', (Builtin.append_ #[t, u] ty #[xv, yv]).run P w = .ok v w' /\ zc3 φ' a v /\ zc7 G B W Z φ' H' w' /\ Step φ H w φ' H' w' := by
 unfold zc4 at h
 split at h
 ·cases h
 rename_i n new hsrc
 cases h1 : za5 new with
 | false => simp [h1] at h
 | true =>
 simp only [h1, cond_true] at h
 have src : ∀ d', (Builtin.lenOf yv).run P { w with drawn := d' } = .ok n { w with drawn := d' } /\ ∃ vs : List Value, (Builtin.firstCells e n yv).run P { w with drawn := d' } = .ok vs.toArray { w with drawn := d' } /\ zg4 φ new vs /\ new.length = n * e :=
  fun d' => zbb1 (P := P) (hH.congr (w' := { w with drawn := d' }) rfl) hy hsrc
 obtain ⟨hlen, nv, hnew, rn, ln⟩ := src w.drawn
 have hnew' : ∀ d', (Builtin.firstCells e n yv).run P { w with drawn := d' } = .ok nv.toArray { w with drawn := d' } := by
  intro d'
  obtain ⟨_, vs, q1, q2, q3⟩ := src d'
  cases hy with
  | nils => simp [Builtin.firstCells] at hnew q1 ⊢; rw [hnew]
  | str b => simp only [Builtin.firstCells, Sem.run_pure, Result.ok.injEq, and_true] at hnew ⊢; exact hnew
  | slc o off len e' lo ex L cap hL a1 a2 a3 a4 =>
   simp only [Builtin.firstCells] at hnew q1 ⊢
   exact zv8 w _ _ _ _ _ _ _ hnew
  | slc0 o off e' ex a =>
   unfold srcA at hsrc
   cases hbe : Nat.beq e e' with
   | false => simp [hbe] at hsrc
   | true =>
    simp only [hbe, cond_true] at hsrc
    rw [Nat.zero_mul] at hsrc
    cases hr : H.readSeg o off 0 with
    | none => simp [hr] at hsrc
    | some cs =>
     simp [hr] at hsrc; obtain ⟨rfl, rfl⟩ := hsrc
     simp [Builtin.firstCells, loadCells, loadCellsFrom] at hnew ⊢; exact hnew
  | _ => simp [srcA] at hsrc
 split at h
 ·cases hx
  cases hn : Nat.beq n 0 with
  | true =>
   have := Nat.eq_of_beq_eq_true hn; subst this
   simp only [hn, cond_true] at h; cases h
   have : nv = [] := by have := rn.len; simp at ln; rw [ln] at this; simpa using this.symm
   subst this
   exact ⟨_, φ, w, append_nil ht hu he hlen hnew (Nat.le_refl _), .nils, hH, Step.refl _ _ _⟩
  | false =>
   have hn0 : n ≠ 0 := fun q => by subst q; simp at hn
   simp only [hn, cond_false] at h
   cases hbd : Nat.ble ((2 * n + 1024) * by_) (2 ^ 48) with
   | false => simp only [hbd, cond_false] at h; cases h
   | true =>
    simp only [hbd, cond_true] at h; cases h
    have := zu3 (P := P) (ty := ty) (len := 0) (cap := 0) (base := none) (old := []) (ov := []) hH hK ht hu he hb hz hz1 hz2 hb0 hlen hnew' (fun d' => by simp [Builtin.firstCells]) rn .nil ln (by simp) (by omega) (by have := Nat.le_of_ble_eq_true hbd; simpa using this)
    simpa using this
 ·rename_i o off len e' lo ex
  cases hee : Nat.beq e e' with
  | false => simp [hee] at h
  | true =>
   have := Nat.eq_of_beq_eq_true hee; subst this
   simp only [hee, cond_true] at h
   cases hn : Nat.beq n 0 with
   | true =>
    have := Nat.eq_of_beq_eq_true hn; subst this
    simp only [hn, cond_true] at h; cases h
    have : nv = [] := by have := rn.len; simp at ln; rw [ln] at this; simpa using this.symm
    subst this
    have hx' := hx
    cases hx with
    | slc _ _ _ _ _ _ L cap hL a1 a2 a3 a4 => exact ⟨_, φ, w, append_nil ht hu he hlen hnew (by omega), hx', hH, Step.refl _ _ _⟩
    | slc0 => exact ⟨_, φ, w, append_nil ht hu he hlen hnew (Nat.le_refl _), hx', hH, Step.refl _ _ _⟩
   | false =>
    have hn0 : n ≠ 0 := fun q => by subst q; simp at hn
    simp only [hn, cond_false] at h
    cases hlo : Nat.ble (len + n) lo with
    | true =>
     have hlo' := Nat.le_of_ble_eq_true hlo
     simp only [hlo, cond_true] at h
     cases hw : H.writeSeg o (off + len * e) new with
     | none => simp [hw] at h
     | some H2 =>
      simp [hw] at h; obtain ⟨rfl, rfl⟩ := h
      cases hx with
      | slc _ _ _ _ _ _ L cap hL a1 a2 a3 a4 =>
       obtain ⟨w', g1, g2, g3⟩ := zl9 (P := P) hH hL hw rn
       rw [<- Nat.add_assoc] at g1
       refine ⟨_, φ, w', zag8 (_B := B) (_W := W) (_Z := Z) (_φ := φ) (_H := H) ht hu he hlen hnew (by omega) (by rw [z09]; exact g1), ?_, g2, g3⟩
       exact .slc o off (len + n) e lo ex L cap hL hlo' a2 a3 a4
      | slc0 => omega
    | false =>
     have hlo' : lo < len + n := by
      rcases Nat.lt_or_ge lo (len + n) with q | q
      ·exact q
      ·rw [Nat.ble_eq_true_of_le q] at hlo; cases hlo
     simp only [hlo, cond_false] at h
     cases hbd : Nat.ble ((2 * (len + n) + 1024) * by_) (2 ^ 48) with
     | false => simp only [hbd, cond_false] at h; cases h
     | true =>
      have hbd' := Nat.le_of_ble_eq_true hbd
      simp only [hbd, cond_true] at h
      split at h
      ·cases h
      rename_i old hrs
      have hold : ∀ d', ∃ (a0 : Addr) (cap : Nat) (ov : List Value), xv = .slice (some a0) len cap /\ (loadCells a0 (len * e)).run P { w with drawn := d' } = .ok ov.toArray { w with drawn := d' } /\ zg4 φ old ov := fun d' =>
       zs6 (P := P) (hH.congr (w' := { w with drawn := d' }) rfl) hx (Nat.le_refl _) hrs
      obtain ⟨a0, cap, ov, rfl, hld, ro⟩ := hold w.drawn
      obtain ⟨cs, hcs, hsg⟩ := zq1 hrs
      obtain ⟨sg1, sg2⟩ := zy5 hsg
      have lold : old.length = len * e := by rw [sg2]; simp; omega
      have hld' : ∀ d', (Builtin.firstCells e len (.slice (some a0) len cap)).run P { w with drawn := d' } = .ok ov.toArray { w with drawn := d' } := by
       intro d'
       simp only [Builtin.firstCells]
       exact zv8 w _ _ _ _ _ _ _ hld
      have hK0 : H.next < Z := by
       cases ex with
       | true => simp only [cond_true] at h; cases h; exact hK
       | false =>
        simp only [cond_false] at h
        cases hf : Nat.ble H.floor o with
        | false => simp [hf] at h
        | true => simp only [hf, cond_true] at h; cases h; exact hK
      have grows : cap < len + n -> ∃ v φ' w', (Builtin.append_ #[t, u] ty #[.slice (some a0) len cap, yv]).run P w = .ok v w' /\ zc3 φ' (.slc H.next 0 (len + n) e (len + n) false) v /\ zc7 G B W Z φ' (H.push (.cells (old ++ new))) w' /\ Step φ H w φ' (H.push (.cells (old ++ new))) w' := fun hc =>
       zu3 hH hK0 ht hu he hb hz hz1 hz2 hb0 hlen hnew' hld' rn ro ln lold hc hbd'
      cases ex with
      | true =>
       simp only [cond_true] at h; cases h
       refine grows ?_
       cases hx with
       | slc _ _ _ _ _ _ L _ hL a1 a2 a3 a4 => have := a3 rfl; omega
       | slc0 => omega
      | false =>
       simp only [cond_false] at h
       cases hf : Nat.ble H.floor o with
       | false => simp [hf] at h
       | true =>
        have hf' := Nat.le_of_ble_eq_true hf
        simp only [hf, cond_true] at h; cases h
        by_cases hc : cap < len + n
        ·have hk : zc7 G B W Z φ (H.set o .dead) w /\ Step φ H w φ (H.set o .dead) w := by
          cases hL : φ o with
          | none => exact zcq2 hH hL (zf8 hcs).1 hf'
          | some L => exact kill hH hL (zf8 hcs).1 (zf8 hcs).2 hf'
         obtain ⟨v, φ', w', g1, g2, g3, g4⟩ := zu3 (P := P) (ty := ty) (t := t) (u := u) hk.1 hK ht hu he hb hz hz1 hz2 hb0 hlen hnew' hld' rn ro ln lold hc hbd'
         exact ⟨v, φ', w', g1, g2, g3, hk.2.trans g4⟩
        ·cases hx with
         | slc0 => omega
         | slc _ _ _ _ _ _ L _ hL a1 a2 a3 a4 =>
          obtain ⟨hat, hsz, hown⟩ := hH.at_ hL hcs
          have hroom : L.base + off + (len + n) * e <= L.size := by
           have : (len + n) * e <= cap * e := Nat.mul_le_mul_right _ (by omega)
           omega
          have hadd : (len + n) * e = len * e + n * e := Nat.add_mul _ _ _
          obtain ⟨w', c, c', ct, fz, g1, g2, g3, g4, g5, g6, g7, g8, g9, g10, g11, g12⟩ := zac4 (P := P) (off := off + len * e) (hown (Nat.le_trans hH.fl hf')) rn h1 (by omega)
          have hrun := zag8 (P := P) (_B := B) (_W := W) (_Z := Z) (_φ := φ) (_H := H) (ty := ty) (a := ⟨L.blk, L.base + off, none⟩) (cap := cap) (len := len) ht hu he hlen hnew (by omega) (by rw [z09, Nat.add_assoc]; exact g1)
          have hle := Pl.le_put ⟨L.blk, L.base + off, L.size⟩ (hH.next_none hK)
          have ht' := hH.take hK (w' := w') (L' := ⟨L.blk, L.base + off, L.size⟩) (.cells (old ++ new)) hL (zf8 hcs).1 (zf8 hcs).2 hf' g9 g10 g11 g8 rfl g7
           ⟨fun i b hb => by
            have hlv := rn.len
            by_cases q : i < len * e
            ·rw [List.getElem?_append_left (by omega)] at hb
             rw [sg2, List.getElem?_take, if_pos q, List.getElem?_drop] at hb
             obtain ⟨v, k1, k2⟩ := hat (off + i) b hb
             refine ⟨v, ?_, k2.mono hle⟩
             rw [cell_of_block g2] at k1
             rw [cell_of_block g3, g5, if_pos (by simp only; omega)]
             simpa [Nat.add_assoc] using k1
            ·rw [List.getElem?_append_right (by omega), lold] at hb
             obtain ⟨v, k1, k2⟩ := rn.getE hb
             have hi : i - len * e < nv.length := by
              rcases Nat.lt_or_ge (i - len * e) nv.length with r | r
              ·exact r
              ·rw [List.getElem?_eq_none r] at k1; cases k1
             refine ⟨v, ?_, k2.mono hle⟩
             rw [cell_of_block g3, g5, if_neg (by simp only; omega), if_pos (by simp only; omega)]
             have : L.base + off + i - (L.base + (off + len * e)) = i - len * e := by omega
             simp only [this]; exact k1, by simp only [List.length_append, lold, ln]; omega, fun _ => ⟨c', ct, fz, g3, g4, g6⟩⟩
          refine ⟨_, _, w', hrun, ?_, ht'.1, ht'.2⟩
          have := zc3.slc (φ := φ.put H.next ⟨L.blk, L.base + off, L.size⟩) H.next 0 (len + n) e (len + n) false ⟨L.blk, L.base + off, L.size⟩ cap (Pl.put_same _ _ _) (Nat.le_refl _) (by omega) (fun q => by cases q) (by simpa using a4)
          simpa using this
 ·cases h
end Go.AI
namespace Go.AI
variable {P : Program} {G : World -> Prop}
theorem zaj1 {B W Z : Nat} {φ : Pl} {H : Heap} {w : World} {e m n : Nat} {y : AV} {v : Value} {cs : List AV} (hH : zc7 G B W Z φ H w) (hy : zc3 φ y v) (h : srcN e H m y = some (n, cs)) :
  ∃ k, (Builtin.lenOf v).run P w = .ok k w /\ n = Nat.min k m /\ ∃ vs : List Value, (Builtin.firstCells e n v).run P w = .ok vs.toArray w /\ zg4 φ cs vs := by
 unfold srcN at h
 split at h
 ·cases h; cases hy; exact ⟨0, by simp [Builtin.lenOf], by simp, [], by simp [Builtin.firstCells], .nil⟩
 ·rename_i o off len e' lo ex
  cases hb : Nat.beq e e' with
  | false => simp [hb] at h
  | true =>
   have := Nat.eq_of_beq_eq_true hb; subst this
   simp only [hb, cond_true] at h
   cases hr : H.readSeg o off (Nat.min len m * e) with
   | none => simp [hr] at h
   | some xs =>
    simp [hr] at h; obtain ⟨rfl, rfl⟩ := h
    obtain ⟨a, cap, vs, rfl, g1, g2⟩ := zs6 (P := P) hH hy (Nat.mul_le_mul_right _ (Nat.min_le_left _ _)) hr
    exact ⟨len, by simp [Builtin.lenOf], rfl, vs, by simp only [Builtin.firstCells]; exact g1, g2⟩
 ·cases hb : Nat.beq e 1 with
  | false => simp [hb] at h
  | true =>
   have := Nat.eq_of_beq_eq_true hb; subst this
   simp only [hb, cond_true] at h; cases h
   cases hy with
   | str b =>
    refine ⟨b.size, by simp [Builtin.lenOf], by rw [zh6], ((b.extract 0 (Nat.min (zd0 b).length m)).data.map fun b => .int .u8 b.toNat).toList, by simp only [Builtin.firstCells, Sem.run_pure, Array.toArray_toList], ?_⟩
    have e1 := zv7 b 0 (Nat.min (zd0 b).length m)
    simp only [List.drop_zero, Nat.sub_zero] at e1
    rw [<- e1]
    simp only [zd0, List.map_map, Array.toList_map]
    exact zg4.mapL _ _ _ fun x _ => .int _ _
 ·cases h
theorem za79 {B W Z : Nat} {φ : Pl} {H H' : Heap} {w : World} {t u el ty : TypeId} {e : Nat} {x y a : AV} {xv yv : Value}
  (hH : zc7 G B W Z φ H w) (ht : P.underlying t = some (.slice el)) (he : zb3 P el = some e) (hx : zc3 φ x xv) (hy : zc3 φ y yv) (h : zaf8 e H x y = some (a, H')) :
  ∃ v w', (Builtin.copy_ #[t, u] ty #[xv, yv]).run P w = .ok v w' /\ zc3 φ a v /\ zc7 G B W Z φ H' w' /\ Step φ H w φ H' w' := by
 have e0 : (#[t, u] : Array TypeId)[0]? = some t := rfl
 have e2 : ∀ v : Value, (#[v, yv] : Array Value)[0]? = some v := fun _ => rfl
 have e3 : ∀ v : Value, (#[v, yv] : Array Value)[1]? = some yv := fun _ => rfl
 unfold zaf8 at h
 split at h
 ·cases hs : srcN e H 0 y with
  | none => simp [hs] at h
  | some q =>
   obtain ⟨n, cs⟩ := q
   simp [hs] at h; obtain ⟨rfl, rfl⟩ := h
   obtain ⟨k, g1, g2, vs, g3, g4⟩ := zaj1 (P := P) hH hy hs
   cases hx
   have hn : n = 0 := by rw [g2]; simp
   refine ⟨.int .i64 0, w, ?_, .int _ _, hH, Step.refl _ _ _⟩
   have g2' : Nat.min k 0 = n := g2.symm
   rw [hn] at g2' g3
   simp only [Builtin.copy_, e0, e2, e3, Sem.run_bind, run_underlying, ht, Result.andThen_ok, g1, run_sizeOf he, Sem.run_pure, g2', g3, goInt]
   rfl
 ·rename_i o off len e' lo ex
  cases hee : Nat.beq e e' with
  | false => simp [hee] at h
  | true =>
   have := Nat.eq_of_beq_eq_true hee; subst this
   simp only [hee, cond_true] at h
   split at h
   ·cases h
   rename_i n cs hs
   obtain ⟨k, g1, g2, vs, g3, g4⟩ := zaj1 (P := P) hH hy hs
   have run : ∀ (a0 : Addr) (cap : Nat) (w' : World), (storeCells a0 vs).run P w = .ok () w' -> (Builtin.copy_ #[t, u] ty #[.slice (some a0) len cap, yv]).run P w = .ok (.int .i64 n) w' := by
    intro a0 cap w' hst
    have g2' : Nat.min k len = n := g2.symm
    simp only [Builtin.copy_, e0, e2, e3, Sem.run_bind, run_underlying, ht, Result.andThen_ok, g1, run_sizeOf he, Sem.run_pure, g2', g3, goInt, hst]
   cases hz : Nat.beq cs.length 0 with
   | true =>
    simp only [hz, cond_true] at h; cases h
    have : cs = [] := List.length_eq_zero_iff.1 (Nat.eq_of_beq_eq_true hz)
    subst this
    cases g4
    have hsl : ∃ a0 cap, xv = .slice (some a0) len cap := by cases hx <;> exact ⟨_, _, rfl⟩
    obtain ⟨a0, cap, rfl⟩ := hsl
    exact ⟨_, w, run a0 cap w (by simp [storeCells]), .int _ _, hH, Step.refl _ _ _⟩
   | false =>
    simp only [hz, cond_false] at h
    cases hw : H.writeSeg o off cs with
    | none => simp [hw] at h
    | some H2 =>
     simp [hw] at h; obtain ⟨rfl, rfl⟩ := h
     cases hx with
     | slc _ _ _ _ _ _ L cap hL a1 a2 a3 a4 =>
      obtain ⟨w', k1, k2, k3⟩ := zl9 (P := P) hH hL hw g4
      exact ⟨_, w', run _ cap w' k1, .int _ _, k2, k3⟩
     | slc0 _ _ _ _ a0 =>
      exfalso
      have hn0 : n = 0 := by rw [g2]; simp
      subst hn0
      have : vs = [] := by
       have hk : ∀ v, (Builtin.firstCells e 0 v).run P w = .ok vs.toArray w -> vs = [] := by
        intro v hv
        cases v <;> simp [Builtin.firstCells] at hv
        ·exact hv
        ·rename_i a b c
         cases a <;> simp [loadCells, loadCellsFrom] at hv
         ·exact hv
         ·exact hv
       exact hk _ g3
      subst this
      cases g4
      simp at hz
 ·cases h
theorem zbt0 {d : EqD} {k x : AV} (hp : plainKey d k = true) (h : eqA d k x = some true) : k = x := by
 have cell : ∀ (c : CK) (a b : AV), zh8 c a b = some true -> a = b := by
  intro c a b h
  unfold zh8 at h
  split at h <;> first | (cases h; done) | skip
  ·split at h
   ·rename_i hk; subst hk; simp at h; rw [h]
   ·cases h
  ·simp at h; rw [h]
  ·simp at h; rw [h]
 have cells : ∀ (ks : List CK) (a b : List AV), zd5 ks a b = some true -> a = b := by
  intro ks
  induction ks with
  | nil => intro a b h; cases a <;> cases b <;> simp_all [zd5]
  | cons c ks ih =>
   intro a b h
   cases a <;> cases b <;> simp only [zd5] at h <;> first | (cases h; done) | skip
   rename_i x xs y ys
   cases hc : zh8 c x y with
   | none => simp [hc] at h
   | some q => cases q with
    | false => simp [hc] at h
    | true => simp only [hc] at h; rw [cell c x y hc, ih xs ys h]
 cases d <;> first | (cases k <;> simp_all [plainKey]; done) | skip
 ·rename_i c; simp only [eqA] at h; exact cell c k x h
 ·rename_i ks
  unfold eqA at h
  split at h <;> first | (cases h; done) | skip
  all_goals first | (rename_i e; cases e; done) | skip
  rename_i ks' xs ys e; cases e
  cases hb : (Nat.beq xs.length ks.length && Nat.beq ys.length ks.length) with
  | false => rw [hb] at h; cases h
  | true => rw [hb] at h; rw [cells ks xs ys h]
theorem z97 {d : EqD} {k : AV} (hp : plainKey d k = true) : ∀ (es : List (AV × AV)) (i j : Nat) (v : AV), zk2 d k es i = some (some (j, v)) -> i <= j /\ es[j - i]? = some (k, v)
 | [], i, j, v, h => by simp [zk2] at h
 | (x, u) :: es, i, j, v, h => by
  simp only [zk2] at h
  cases he : eqA d k x with
  | none => simp [he] at h
  | some b =>
   cases b with
   | true => simp [he] at h; obtain ⟨rfl, rfl⟩ := h; rw [zbt0 hp he]; simp
   | false =>
    simp only [he] at h
    obtain ⟨q1, q2⟩ := z97 hp es (i + 1) j v h
    refine ⟨by omega, ?_⟩
    have : j - i = (j - (i + 1)) + 1 := by omega
    rw [this]; simpa using q2
theorem zn3.get {φ : Pl} : ∀ {es : List (AV × AV)} {fs : List MapEntry}, zn3 φ es fs -> ∀ {i : Nat} {k v : AV}, es[i]? = some (k, v) -> ∃ f, fs[i]? = some f /\ zc3 φ k f.key /\ zc3 φ v f.val
 | [], [], _, i, k, v, h => by simp at h
 | [], _ :: _, h, _, _, _, _ => by simp [zn3] at h
 | (_, _) :: _, [], h, _, _, _, _ => by simp [zn3] at h
 | (a, b) :: es, f :: fs, h, 0, k, v, e => by simp at e; obtain ⟨rfl, rfl⟩ := e; exact ⟨f, rfl, h.1, h.2.1⟩
 | (a, b) :: es, f :: fs, h, i + 1, k, v, e => by simp at e; obtain ⟨g, g1, g2⟩ := h.2.2.get e; exact ⟨g, by simpa using g1, g2⟩
theorem zn3.set {φ : Pl} {k v : AV} {g : MapEntry} (hk : zc3 φ k g.key) (hv : zc3 φ v g.val) : ∀ {es : List (AV × AV)} {fs : List MapEntry}, zn3 φ es fs -> ∀ (i : Nat), zn3 φ (es.set i (k, v)) (fs.set i g)
 | [], [], _, i => by simp [zn3]
 | [], _ :: _, h, _ => by simp [zn3] at h
 | (_, _) :: _, [], h, _ => by simp [zn3] at h
 | (a, b) :: es, f :: fs, h, 0 => by simp only [List.set_cons_zero, zn3]; exact ⟨hk, hv, h.2.2⟩
 | (a, b) :: es, f :: fs, h, i + 1 => by simp only [List.set_cons_succ, zn3]; exact ⟨h.1, h.2.1, zn3.set hk hv h.2.2 i⟩
theorem zn3.snoc {φ : Pl} {k v : AV} {g : MapEntry} (hk : zc3 φ k g.key) (hv : zc3 φ v g.val) : ∀ {es : List (AV × AV)} {fs : List MapEntry}, zn3 φ es fs -> zn3 φ (es ++ [(k, v)]) (fs ++ [g])
 | [], [], _ => by simp only [List.nil_append, zn3]; exact ⟨hk, hv, trivial⟩
 | [], _ :: _, h => by simp [zn3] at h
 | (_, _) :: _, [], h => by simp [zn3] at h
 | (a, b) :: es, f :: fs, h => by simp only [List.cons_append, zn3]; exact ⟨h.1, h.2.1, zn3.snoc hk hv h.2.2⟩
theorem zn3.erase {φ : Pl} : ∀ {es : List (AV × AV)} {fs : List MapEntry}, zn3 φ es fs -> ∀ (i : Nat), zn3 φ (es.eraseIdx i) (fs.eraseIdx i)
 | [], [], _, i => by simp [zn3]
 | [], _ :: _, h, _ => by simp [zn3] at h
 | (_, _) :: _, [], h, _ => by simp [zn3] at h
 | (a, b) :: es, f :: fs, h, 0 => by simpa using h.2.2
 | (a, b) :: es, f :: fs, h, i + 1 => by simp only [List.eraseIdx_cons_succ, zn3]; exact ⟨h.1, h.2.1, zn3.erase h.2.2 i⟩
theorem Stamped.snoc {l : List MapEntry} {cl : Nat} {k v : Value} (h : Stamped l cl) : Stamped (l ++ [{ key := k, val := v, born := cl }]) (cl + 1) := by
 refine ⟨fun e he => ?_, ?_⟩
 ·rcases List.mem_append.1 he with q | q
  ·have := h.lt e q; omega
  ·simp at q; subst q; exact Nat.lt_succ_self _
 ·rw [List.map_append, List.nodup_append]
  refine ⟨h.nd, by simp, fun a ha b hb => ?_⟩
  obtain ⟨e, he, rfl⟩ := List.mem_map.1 ha
  simp at hb; subst hb
  have := h.lt e he; omega
theorem Stamped.set {l : List MapEntry} {cl j : Nat} {f g : MapEntry} (h : Stamped l cl) (hj : l[j]? = some f) (hg : g.born = f.born) : Stamped (l.set j g) cl := by
 have hm : (l.set j g).map (·.born) = l.map (·.born) := by
  apply List.ext_getElem?
  intro i
  rw [List.getElem?_map, List.getElem?_set, List.getElem?_map]
  by_cases q : j = i
  ·subst q
   have h1 := (List.getElem?_eq_some_iff.1 hj).1
   rw [if_pos rfl, if_pos h1, hj]
   simp [hg]
  ·simp [q]
 refine ⟨fun e he => ?_, by rw [hm]; exact h.nd⟩
 have : e.born ∈ (l.set j g).map (·.born) := List.mem_map.2 ⟨e, he, rfl⟩
 rw [hm] at this
 obtain ⟨e', h1, h2⟩ := List.mem_map.1 this
 rw [<- h2]; exact h.lt e' h1
theorem Stamped.erase {l : List MapEntry} {cl : Nat} (h : Stamped l cl) (j : Nat) : Stamped (l.eraseIdx j) cl :=
 ⟨fun e he => h.lt e (List.mem_of_mem_eraseIdx he), by
  have : (l.eraseIdx j).map (·.born) = (l.map (·.born)).eraseIdx j := by rw [List.eraseIdx_eq_take_drop_succ, List.eraseIdx_eq_take_drop_succ]; simp [List.map_take, List.map_drop]
  rw [this]; exact h.nd.sublist (List.eraseIdx_sublist _ _)⟩
theorem za04 {B W Z : Nat} {φ : Pl} {H : Heap} {w : World} {o : Nat} {L : Loc} {es es' : List (AV × AV)} {en en' : Array MapEntry} {cl : Nat} (cl' d' : Nat) (hH : zc7 G B W Z φ H w) (hL : φ o = some L) (he : H.get o = some (.map es)) (hf : H.floor <= o) (hb : w.heap[L.blk]? = some (.map en cl)) (hr : zn3 φ es' en'.toList) (hst : Stamped en'.toList cl') (hdd : w.drawn <= d' := by exact Nat.le_refl _) :
  (setObj L.blk (.map en' cl')).run P { w with drawn := d' } = .ok () { w with drawn := d', heap := w.heap.setIfInBounds L.blk (.map en' cl') } /\
  zc7 G B W Z φ (H.set o (.map es')) { w with drawn := d', heap := w.heap.setIfInBounds L.blk (.map en' cl') } /\ Step φ H w φ (H.set o (.map es')) { w with drawn := d', heap := w.heap.setIfInBounds L.blk (.map en' cl') } := by
 have hlt : L.blk < w.heap.size := by
  rcases Nat.lt_or_ge L.blk w.heap.size with q | q
  ·exact q
  ·simp [Array.getElem?_eq_none q] at hb
 have := hH.set (w' := { w with drawn := d', heap := w.heap.setIfInBounds L.blk (.map en' cl') }) (.map es') hL he (by simp) hf rfl rfl rfl (by simp) (fun k hk => by simp [Ne.symm hk]) ⟨en', cl', by simp [hlt], hr, hst⟩
 exact ⟨by simp [setObj, Sem.run, hb], this.1, this.2⟩
theorem zbi2 {w : World} {r cl d' : Nat} {en : Array MapEntry} (hb : w.heap[r]? = some (.map en cl)) : (getObj r).run P { w with drawn := d' } = .ok (.map en cl) { w with drawn := d' } := by
 simp [getObj, Sem.run, hb]
theorem zbr7 (old new : Value) (w : World) : ∃ k d', (Instr.keyThatStays old new).run P w = .ok k { w with drawn := d' } /\ (k = old \/ k = new) /\ w.drawn <= d' := by
 unfold Instr.keyThatStays
 by_cases h : Instr.sameBits 10000 old new = true
 ·exact ⟨new, w.drawn, by simp [h], .inr rfl, Nat.le_refl _⟩
 ·simp only [h]
  by_cases h2 : Question.cut (.extern "map.whichKeyStays" 2) (w.tape w.drawn (.extern "map.whichKeyStays" 2)) = 0
  ·exact ⟨new, w.drawn + 1, by simp [Question.forced, h2], .inr rfl, Nat.le_succ _⟩
  ·exact ⟨old, w.drawn + 1, by simp [Question.forced, h2], .inl rfl, Nat.le_succ _⟩
theorem zt8 {B W Z : Nat} {φ : Pl} {H : Heap} {w : World} {t kt et : TypeId} {o : Nat} {k v : AV} {mv kv vv : Value} {es : List (AV × AV)} {r : Option (Nat × AV)} (ht : P.underlying t = some (.map kt et)) (hm : zc3 φ (.map o) mv) (hk : zc3 φ k kv) (hv : zc3 φ v vv)
  (hH : zc7 G B W Z φ H w) (he : H.get o = some (.map es)) (hf : H.floor <= o) (hp : plainKey (zg2 P kt) k = true) (hr : zk2 (zg2 P kt) k es 0 = some r) :
  ∃ w', (Instr.mapUpdate t mv kv vv).run P w = .ok () w' /\
   zc7 G B W Z φ (H.set o (.map (match r with | some (i, _) => es.set i (k, v) | none => es ++ [(k, v)]))) w' /\ Step φ H w φ (H.set o (.map (match r with | some (i, _) => es.set i (k, v) | none => es ++ [(k, v)]))) w' := by
 cases hm with
 | map _ L hL =>
  obtain ⟨en, cl, q1, q2, q3⟩ := hH.obj o L _ hL he
  have hget := zbi2 (P := P) (d' := w.drawn) q1
  have hc := zj4 (P := P) hk hp false w
  obtain ⟨r', g1, g2⟩ := zn9 (P := P) hk hp w es en.toList r q2 hr
  cases r with
  | none =>
   cases r' with
   | some q => exact g2.elim
   | none =>
    have := za04 (P := P) (cl + 1) w.drawn hH hL he hf q1 (es' := es ++ [(k, v)]) (en' := en.push { key := kv, val := vv, born := cl }) (by rw [Array.toList_push]; exact zn3.snoc hk hv q2) (by rw [Array.toList_push]; exact q3.snoc)
    refine ⟨_, ?_, this.2.1, this.2.2⟩
    simp only [Instr.mapUpdate, Sem.run_bind, run_underlying, ht, Result.andThen_ok, hget, hc, g1]
    exact this.1
  | some ja =>
   obtain ⟨j, a⟩ := ja
   cases r' with
   | none => exact g2.elim
   | some q =>
    obtain ⟨j', v'⟩ := q
    obtain ⟨rfl, _⟩ := g2
    obtain ⟨_, hes⟩ := z97 hp es 0 j a hr
    obtain ⟨f, hfs, hk2, _⟩ := q2.get hes
    simp only [Nat.sub_zero] at hfs
    obtain ⟨kk, d', ks1, ks2, ks3⟩ := zbr7 (P := P) (((en[j]?).map (·.key)).getD kv) kv w
    have hkk : zc3 φ k kk := by
     rcases ks2 with rfl | rfl
     ·have : en[j]? = some f := by rw [<- Array.getElem?_toList]; exact hfs
      rw [this]; exact hk2
     ·exact hk
    have hmod : (en.modify j fun e => { e with key := kk, val := vv }).toList = en.toList.set j { f with key := kk, val := vv } := by
     rw [Array.toList_modify]
     have hj : j < en.toList.length := by
      rcases Nat.lt_or_ge j en.toList.length with q | q
      ·exact q
      ·rw [List.getElem?_eq_none q] at hfs; cases hfs
     apply List.ext_getElem?
     intro i
     rw [List.getElem?_modify, List.getElem?_set]
     by_cases hi : j = i
     ·subst hi; simp [hfs]; simpa using hj
     ·simp [hi]
    have := za04 (P := P) cl d' hH hL he hf q1 (es' := es.set j (k, v)) (en' := en.modify j fun e => { e with key := kk, val := vv }) (by rw [hmod]; exact zn3.set (g := { f with key := kk, val := vv }) hkk hv q2 j) (by rw [hmod]; exact q3.set hfs rfl) ks3
    refine ⟨_, ?_, this.2.1, this.2.2⟩
    simp only [Instr.mapUpdate, Sem.run_bind, run_underlying, ht, Result.andThen_ok, hget, hc, g1, ks1]
    exact this.1
theorem zbc3 {w : World} {r : Nat} {ob : Obj} (h : w.heap[r]? = some ob) : w.heap.setIfInBounds r ob = w.heap := by
 apply Array.ext
 ·simp
 ·intro i h1 h2
  simp only [Array.getElem_setIfInBounds h2]
  split
  ·rename_i q; subst q
   rw [Array.getElem?_eq_getElem h2] at h; exact (Option.some.inj h).symm
  ·rfl
theorem zaa5 {B W Z : Nat} {φ : Pl} {H : Heap} {w : World} {t u kt et ty : TypeId} {o : Nat} {k : AV} {mv kv : Value} {es : List (AV × AV)} {r : Option (Nat × AV)} (ht : P.underlying t = some (.map kt et)) (hm : zc3 φ (.map o) mv) (hk : zc3 φ k kv)
  (hH : zc7 G B W Z φ H w) (he : H.get o = some (.map es)) (hf : H.floor <= o) (hp : plainKey (zg2 P kt) k = true) (hr : zk2 (zg2 P kt) k es 0 = some r) :
  ∃ w', (Builtin.delete_ #[t, u] ty #[mv, kv]).run P w = .ok (.tuple #[]) w' /\
   zc7 G B W Z φ (match r with | some (i, _) => H.set o (.map (es.eraseIdx i)) | none => H) w' /\ Step φ H w φ (match r with | some (i, _) => H.set o (.map (es.eraseIdx i)) | none => H) w' := by
 have e0 : (#[t, u] : Array TypeId)[0]? = some t := rfl
 have e2 : ∀ v : Value, (#[v, kv] : Array Value)[0]? = some v := fun _ => rfl
 have e3 : ∀ v : Value, (#[v, kv] : Array Value)[1]? = some kv := fun _ => rfl
 cases hm with
 | map _ L hL =>
  obtain ⟨en, cl, q1, q2, q3⟩ := hH.obj o L _ hL he
  have hget := zbi2 (P := P) (d' := w.drawn) q1
  have hc := zj4 (P := P) hk hp en.isEmpty w
  obtain ⟨r', g1, g2⟩ := zn9 (P := P) hk hp w es en.toList r q2 hr
  cases r with
  | none =>
   cases r' with
   | some q => exact g2.elim
   | none =>
    refine ⟨{ w with heap := w.heap.setIfInBounds L.blk (.map en cl) }, ?_, ?_, ?_⟩
    ·simp [Builtin.delete_, ht, hget, hc, g1, setObj, Sem.run, q1]
    ·exact hH.congr (zbc3 q1)
    ·exact Step.congr (zbc3 q1) rfl rfl rfl
  | some ja =>
   obtain ⟨j, a⟩ := ja
   cases r' with
   | none => exact g2.elim
   | some q =>
    obtain ⟨j', v'⟩ := q
    obtain ⟨rfl, _⟩ := g2
    have hj : j < en.size := by
     obtain ⟨_, hes⟩ := z97 hp es 0 j a hr
     obtain ⟨f, hfs, _⟩ := q2.get hes
     rcases Nat.lt_or_ge j en.size with q | q
     ·exact q
     ·simp [q] at hfs
    have := za04 (P := P) cl w.drawn hH hL he hf q1 (es' := es.eraseIdx j) (en' := en.eraseIdxIfInBounds j) (by
     have : (en.eraseIdxIfInBounds j).toList = en.toList.eraseIdx j := by simp
     rw [this]; exact zn3.erase q2 j) (by
     have : (en.eraseIdxIfInBounds j).toList = en.toList.eraseIdx j := by simp
     rw [this]; exact q3.erase j)
    refine ⟨_, ?_, this.2.1, this.2.2⟩
    simp only [Builtin.delete_, e0, e2, e3, Sem.run_bind, run_underlying, ht, Result.andThen_ok, hget, hc, g1, this.1, Sem.run_pure]
theorem za66 {B W Z : Nat} {φ : Pl} {H : Heap} {w : World} {ty : TypeId} {o pos : Nat} {s : List Nat} {iv : Value} (hi : zc3 φ (.ptr o 0) iv) (hH : zc7 G B W Z φ H w) (he : H.get o = some (.siter s pos)) (hf : H.floor <= o) :
  ∃ v w', (Instr.next iv true ty).run P w = .ok v w' /\
   (if pos < s.length then zc3 φ (.tup [.bool true, aInt pos, .int .i32 (zx3 s pos).1]) v /\ zc7 G B W Z φ (H.set o (.siter s (pos + (zx3 s pos).2))) w' /\ Step φ H w φ (H.set o (.siter s (pos + (zx3 s pos).2))) w'
   else zc3 φ (.tup [.bool false]) v /\ w' = w) := by
 cases hi with
 | ptr _ _ L hL =>
  obtain ⟨b, q1, q2, q3⟩ := hH.obj o L _ hL he
  subst q2
  have hget : (getObj L.blk).run P w = .ok (.stringIter b pos) w := by simp [getObj, Sem.run, q1]
  have hdec : zx3 (zd0 b) pos = Utf8.decode b pos := by
   unfold zx3
   have : (⟨((zd0 b).map UInt8.ofNat).toArray⟩ : ByteArray) = b := by
    apply ByteArray.ext
    apply Array.toList_inj.1
    simp only [zd0, List.map_map]
    have e : UInt8.ofNat ∘ UInt8.toNat = id := by funext x; simp
    rw [e]; simp
   rw [this]
  rw [zh6, hdec]
  have hz : L.base + 0 = 0 := by omega
  by_cases hp : pos < b.size
  ·simp only [if_pos hp]
   have hlt : L.blk < w.heap.size := by
    rcases Nat.lt_or_ge L.blk w.heap.size with q | q
    ·exact q
    ·simp [Array.getElem?_eq_none q] at q1
   have := hH.set (w' := { w with heap := w.heap.setIfInBounds L.blk (.stringIter b (pos + (Utf8.decode b pos).2)) }) (.siter (zd0 b) (pos + (Utf8.decode b pos).2)) hL he (by simp) hf rfl rfl rfl (by simp) (fun k hk => by simp [Ne.symm hk]) ⟨b, by simp [hlt], rfl, q3⟩
   refine ⟨.tuple #[.bool true, .int .i64 pos, .int .i32 (Utf8.decode b pos).1], _, ?_, .tup _ _ (.cons (.bool _) (.cons (.int _ _) (.cons (.int _ _) .nil))), this.1, this.2⟩
   simp only [Instr.next, hz, Sem.run_bind, hget, Result.andThen_ok, hp, if_true]
   simp [setObj, Sem.run, q1, goInt]
  ·simp only [if_neg hp]
   refine ⟨.tuple #[.bool false], w, ?_, .tup _ _ (.cons (.bool _) .nil), rfl⟩
   simp only [Instr.next, hz, Sem.run_bind, hget, Result.andThen_ok, hp, if_false, Sem.run_pure]
theorem zar6 {B W Z : Nat} {φ : Pl} {H : Heap} {w : World} {src dst e0 el : TypeId} {o off len sz lo : Nat} {ex : Bool} {cs : List AV} {v : Value} (hs : P.underlying src = some (.slice e0)) (hd : P.underlying dst = some (.slice el)) (hsd : src = dst) (he : P.underlying el = some (.int .u8))
  (hH : zc7 G B W Z φ H w) (hv : zc3 φ (.slc o off len sz lo ex) v) (hf : H.floor <= o) (hlo : 1 <= lo) (hc : H.cellsAt o = some cs) :
  ∃ w', (convert src dst v).run P w = .ok v w' /\ zc7 G B W Z φ H w' /\ Step φ H w φ H w' := by
 subst hsd
 have hee : e0 = el := by rw [hs] at hd; cases hd; rfl
 subst hee
 cases hv with
 | slc0 => omega
 | slc _ _ _ _ _ _ L cap hL q1 q2 q3 q4 =>
  obtain ⟨hat, hsz, hown⟩ := hH.at_ hL hc
  obtain ⟨c, t, fz, hb, hcs, hfz⟩ := hown (Nat.le_trans hH.fl hf)
  have hlt : L.blk < w.heap.size := hH.live_in hL ⟨_, (zf8 hc).1, (zf8 hc).2⟩ (Nat.le_trans hH.fl hf)
  let fz' : Nat × Nat := if fz.1 == fz.2 then (c.size, c.size + 1) else (min fz.1 c.size, max fz.2 (c.size + 1))
  let w' : World := { w with heap := w.heap.setIfInBounds L.blk (.cells c t fz') }
  have hset : H.set o (.cells cs) = H \/ True := .inr trivial
  have hb' : w'.heap[L.blk]? = some (.cells c t fz') := by simp [w', hlt]
  have hk : ∀ b, b ≠ L.blk -> w'.heap[b]? = w.heap[b]? := fun b hne => by
   simp only [w', Array.getElem?_setIfInBounds]; rw [if_neg (fun q => hne q.symm)]
  have hfz' : fz'.1 = fz'.2 \/ L.size <= fz'.1 := by
   simp only [fz']
   split
   ·right; simp; omega
   ·rename_i hq
    rcases hfz with q | q
    ·exact absurd (by simpa using q) (by simpa using hq)
    ·right; simp only; rw [Nat.le_min]; omega
  have hobj : ORel φ w' B o L (.cells cs) := by
   refine ⟨fun i a ha => ?_, hsz, fun _ => ⟨c, t, fz', hb', hcs, hfz'⟩⟩
   obtain ⟨u, h1, h2⟩ := hat i a ha
   refine ⟨u, ?_, h2⟩
   rw [cell_of_block hb] at h1
   rw [cell_of_block hb']; exact h1
  have r := hH.set (.cells cs) hL (zf8 hc).1 (zf8 hc).2 hf (w' := w') rfl rfl rfl (by simp [w']) hk hobj
  have same : ∀ p, (H.set o (.cells cs)).get p = H.get p := fun p => by
   rw [Heap.get_set]; split
   ·rename_i q; rw [q]; exact (zf8 hc).1.symm
   ·rfl
  have lv : ∀ p, live (H.set o (.cells cs)) p ↔ live H p := fun p => by unfold live; rw [same]
  refine ⟨w', ?_, ?_, ?_⟩
  ·have hsh : w.shape? L.blk = some (t, c.size) := by simp [World.shape?, hb]
   simp only [convert, Sem.run_bind, run_underlying, hs, Result.andThen_ok, beq_self_eq_true, he, markStringish, run_shape, hsh, run_freeze, Sem.run_pure, World.freeze]
   refine congrArg (fun h => Result.ok _ { w with heap := h }) ?_
   apply Array.ext_getElem?
   intro i
   simp only [Array.getElem?_modify, Array.getElem?_setIfInBounds]
   by_cases hi : L.blk = i
   ·subst hi
    rw [if_pos rfl, if_pos rfl, if_pos hlt, hb]
    simp only [Option.map_some, fz']
   ·rw [if_neg hi, if_neg hi]
  ·exact { fl := r.1.fl, fn := r.1.fn, wsz := r.1.wsz, dom := r.1.dom, fresh := fun p hp => by rw [<- same]; exact r.1.fresh p hp, obj := fun p K x e hx => r.1.obj p K x e (by rw [same]; exact hx), low := r.1.low, high := fun p K e hp hl => r.1.high p K e hp ((lv p).2 hl), inj := fun p p' K K' e e' hp hp' hl hl' => r.1.inj p p' K K' e e' hp hp' ((lv p).2 hl) ((lv p').2 hl'), good := r.1.good }
  ·exact { ext := r.2.ext, new := r.2.new, next := r.2.next, floor := r.2.floor, os := r.2.os, tape := r.2.tape, drawn := r.2.drawn, output := r.2.output, size := r.2.size, kept := r.2.kept, made := fun p K hp e hl => r.2.made p K hp e ((lv p).2 hl), low := fun _ _ => rfl }
end Go.AI
namespace Go.AI
variable {P : Program} {G : World -> Prop}
theorem zb27 {s : Sem Unit} {w w' : World} (h : s.run P w = .ok () w') : (do s; pure .skip : Sem Next).run P w = .ok .skip w' := by
 simp [h]
theorem zau2 {B W Z : Nat} {φ : Pl} {H H' : Heap} {w : World} {e : Opd -> AV} {ρ : Operand -> Value} {o : Oper} {ao : AOp} {a : AV} (hc : cop P o.op = some ao) (hx : XRel φ e ρ o.op.operands.toList) (hH : zc7 G B W Z φ H w)
  (h : zd1 e H ao = some (a, H')) (hK : H'.next <= Z) : zbv6 P G B W Z φ H w (execOp ρ o) a H' := by
 have hw : ao.writes = true := by
  cases ao <;> first | rfl | (simp [zd1] at h)
 obtain ⟨dst, op, type, pos, after, guard⟩ := o
 simp only at hc hx
 have hm : ∀ x, x ∈ op.operands.toList -> ∀ y, zk0 x = some y -> zc3 φ (e y) (ρ x) := hx
 have mapw : ∀ (t kt et : TypeId) (m k x : Operand) (m' k' x' : Opd), P.underlying t = some (.map kt et) -> zc3 φ (e m') (ρ m) -> zc3 φ (e k') (ρ k) -> zc3 φ (e x') (ρ x) -> zd1 e H (.mapUpdate (zg2 P kt) m' k' x') = some (a, H') ->
   ∃ w', (Instr.mapUpdate t (ρ m) (ρ k) (ρ x)).run P w = .ok () w' /\ a = zb8 /\ zc7 G B W Z φ H' w' /\ Step φ H w φ H' w' := by
  intro t kt et m k x m' k' x' ht r1 r2 r3 h
  simp only [zd1] at h
  split at h
  ·rename_i oo hq; rw [hq] at r1
   cases hf : Nat.ble H.floor oo with
   | false => simp [hf] at h
   | true =>
    have hf' := Nat.le_of_ble_eq_true hf
    simp only [hf, cond_true] at h
    split at h
    ·rename_i es he
     cases hp : plainKey (zg2 P kt) (e k') with
     | false => simp [hp] at h
     | true =>
      simp only [hp, cond_true] at h
      split at h
      ·cases h
      ·rename_i i v hfd; cases h
       obtain ⟨w', g1, g2, g3⟩ := zt8 (P := P) ht r1 r2 r3 hH he hf' hp hfd
       exact ⟨w', g1, rfl, g2, g3⟩
      ·rename_i hfd; cases h
       obtain ⟨w', g1, g2, g3⟩ := zt8 (P := P) ht r1 r2 r3 hH he hf' hp hfd
       exact ⟨w', g1, rfl, g2, g3⟩
    ·cases h
  ·cases h
 cases op <;> simp only [cop] at hc
 case move x => obtain ⟨y, hy, rfl⟩ := zb0 hc; cases hw
 case assign x => obtain ⟨y, hy, rfl⟩ := zb0 hc; cases hw
 case pick c x y => obtain ⟨_, _, _, _, _, _, rfl⟩ := zn5 hc; cases hw
 case alloc t =>
  by_cases hbl : zaw9 P t = true
  ·simp [hbl] at hc; subst hc; cases hw
  cases hz : zc5 P t <;> simp [hbl, hz] at hc; subst hc; cases hw
 case box t x => obtain ⟨y, hy, rfl⟩ := zb0 hc; cases hw
 case build t parts =>
  split at hc
  ·rename_i fs _
   cases hz : zc5 P t <;> cases hp : placesOf P fs.toList <;> simp [hz, hp] at hc
   obtain ⟨_, b, _, rfl⟩ := hc; cases hw
  ·rename_i el _
   cases hz : zc5 P t <;> cases hp : zb3 P el <;> simp [hz, hp] at hc
   obtain ⟨_, b, _, rfl⟩ := hc; cases hw
  ·cases hc
 case buildSlice t len parts =>
  split at hc
  ·rename_i el ht
   cases hn : zb3 P el <;> cases hz : zc5 P el <;> simp [hn, hz] at hc
   obtain ⟨_, ps, _, rfl⟩ := hc; cases hw
  ·cases hc
 case insert t m k x =>
  split at hc
  ·rename_i kt et ht
   obtain ⟨m', k', x', h1, h2, h3, rfl⟩ := zn5 hc
   obtain ⟨w', g1, rfl, g2, g3⟩ := mapw t kt et m k x m' k' x' ht (hm m (by simp [Op.operands]) m' h1) (hm k (by simp [Op.operands]) k' h2) (hm x (by simp [Op.operands]) x' h3) h
   exact ⟨undef, φ, w', .inr ⟨zb27 g1, rfl⟩, zc3.undef _, g2, g3⟩
  ·cases hc
 case load t x =>
  cases ht : zh9 P t <;> simp [ht] at hc
  obtain ⟨y, hy, rfl⟩ := zb0 hc; cases hw
 case store t p x =>
  cases hn : zb3 P t <;> simp [hn] at hc
  obtain ⟨p', x', h1, h2, rfl⟩ := zc1 hc
  rename_i n
  have r1 := hm p (by simp [Op.operands]) p' h1
  have r2 := hm x (by simp [Op.operands]) x' h2
  simp only [zd1] at h
  split at h
  ·rename_i oo off hq; rw [hq] at r1
   cases hb : Nat.beq (e x').cells.length n with
   | false => simp [hb] at h
   | true =>
    simp only [hb, cond_true] at h
    cases hws : H.writeSeg oo off (e x').cells with
    | none => simp [hws] at h
    | some H2 =>
     simp [hws] at h; obtain ⟨rfl, rfl⟩ := h
     obtain ⟨w', g1, g2, g3⟩ := zau6 (P := P) hH r1 r2 hn (Nat.eq_of_beq_eq_true hb) hws
     exact ⟨undef, φ, w', .inr ⟨zb27 g1, rfl⟩, zc3.undef _, g2, g3⟩
  ·cases h
 case ready => cases hc
 case waits => cases hc
 case nilCheck x => obtain ⟨y, hy, rfl⟩ := zb0 hc; cases hw
 case binOp op t x y u => obtain ⟨_, _, _, _, rfl⟩ := zc1 hc; cases hw
 case unOp op t x => obtain ⟨_, _, rfl⟩ := zb0 hc; cases hw
 case convert src dst x =>
  split at hc
  ·obtain ⟨_, _, rfl⟩ := zb0 hc; cases hw
  ·obtain ⟨_, _, rfl⟩ := zb0 hc; cases hw
  ·split at hc
   ·obtain ⟨_, _, rfl⟩ := zb0 hc; cases hw
   ·cases hc
  ·split at hc
   ·obtain ⟨_, _, rfl⟩ := zb0 hc; cases hw
   ·cases hc
  ·rename_i e0 el hs hd
   by_cases hsd : src = dst
   ·rw [if_pos hsd] at hc
    split at hc
    ·rename_i he
     obtain ⟨y, hy, rfl⟩ := zb0 hc
     have r := hm x (by simp [Op.operands]) y hy
     simp only [zd1] at h
     split at h
     ·rename_i oo off len sz lo ex hq
      rw [hq] at r
      cases hf : (Nat.ble H.floor oo && Nat.ble 1 lo) with
      | false => simp only [hf, cond_false] at h; cases h
      | true =>
       simp only [hf, cond_true] at h
       simp only [Bool.and_eq_true, Nat.ble_eq] at hf
       split at h
       ·rename_i cs hcs
        cases h
        generalize hv : ρ x = v at r
        obtain ⟨w', g1, g2, g3⟩ := zar6 (P := P) hs hd hsd he hH r hf.1 hf.2 hcs
        exact ⟨v, φ, w', .inl (zi2 (by rw [hv]; exact g1)), r, g2, g3⟩
       ·cases h
     ·cases h
    ·cases hc
   ·rw [if_neg hsd] at hc; cases hc
  ·cases hc
 case sliceToArrayPointer t x =>
  split at hc
  ·obtain ⟨_, _, rfl⟩ := zb0 hc; cases hw
  ·cases hc
 case makeInterface => cases hc
 case makeFunc fn first captured =>
  cases fn <;> simp only at hc <;> first | (cases hc; done) | skip
  cases h1 : zj8 first.toList <;> cases h2 : zj8 captured.toList <;> simp [h1, h2] at hc
  subst hc; cases hw
 case makeMap t r =>
  split at hc
  ·cases hq : zq8 r <;> simp [hq] at hc; subst hc; cases hw
  ·cases hc
 case makeChan => cases hc
 case makeSlice t l c =>
  split at hc
  ·rename_i el ht
   cases hn : zb3 P el <;> cases hb : zg7 P el <;> cases hz : zc5 P el <;> simp [hn, hb, hz] at hc
   obtain ⟨_, _, _, _, rfl⟩ := zc1 hc; cases hw
  ·cases hc
 case slice t x lo hi mx =>
  split at hc
  ·split at hc
   ·cases hc
   ·cases h1 : zk0 x <;> cases h2 : zq8 lo <;> cases h3 : zq8 hi <;> simp [h1, h2, h3] at hc
    subst hc; cases hw
  ·rename_i el ht
   cases hn : zb3 P el <;> cases h1 : zk0 x <;> cases h2 : zq8 lo <;> cases h3 : zq8 hi <;> cases h4 : zq8 mx <;> simp [hn, h1, h2, h3, h4] at hc
   subst hc; cases hw
  ·split at hc
   ·cases hc
   ·rename_i k el ht hmx
    cases hn : zb3 P el <;> cases h1 : zk0 x <;> cases h2 : zq8 lo <;> cases h3 : zq8 hi <;> simp [hn, h1, h2, h3] at hc
    subst hc; cases hw
  ·cases hc
 case fieldAddr s x f =>
  split at hc
  ·split at hc
   ·split at hc
    ·cases hc
    ·obtain ⟨_, _, rfl⟩ := zb0 hc; cases hw
    ·cases hc
   ·cases hc
  ·cases hc
 case field s x f =>
  split at hc
  ·split at hc
   ·rename_i fd hfd
    cases hn : zh9 P fd.type <;> simp [hn] at hc
    obtain ⟨_, _, rfl⟩ := zb0 hc; cases hw
   ·cases hc
  ·cases hc
 case indexAddr t x i =>
  split at hc
  ·rename_i el ht
   cases hn : zb3 P el <;> simp [hn] at hc
   obtain ⟨_, _, _, _, rfl⟩ := zc1 hc; cases hw
  ·rename_i k el ht
   cases hn : zb3 P el <;> simp [hn] at hc
   obtain ⟨_, _, _, _, rfl⟩ := zc1 hc; cases hw
  ·cases hc
 case index t x i =>
  split at hc
  ·rename_i k el ht
   cases hn : zb3 P el <;> cases ha : zh9 P el <;> simp [hn, ha] at hc
   obtain ⟨_, _, _, _, rfl⟩ := zc1 hc; cases hw
  ·obtain ⟨_, _, _, _, rfl⟩ := zc1 hc; cases hw
  ·cases hc
 case lookup t x i ok =>
  split at hc
  ·rename_i k el ht
   cases hz : zc5 P el <;> simp [hz] at hc
   obtain ⟨m', k', h1, h2, rfl⟩ := zc1 hc; cases hw
  ·cases hc
 case mapUpdate t m k x =>
  split at hc
  ·rename_i kt et ht
   obtain ⟨m', k', x', h1, h2, h3, rfl⟩ := zn5 hc
   obtain ⟨w', g1, rfl, g2, g3⟩ := mapw t kt et m k x m' k' x' ht (hm m (by simp [Op.operands]) m' h1) (hm k (by simp [Op.operands]) k' h2) (hm x (by simp [Op.operands]) x' h3) h
   exact ⟨undef, φ, w', .inr ⟨zb27 g1, rfl⟩, zc3.undef _, g2, g3⟩
  ·cases hc
 case mapEntry => cases hc
 case entryStore => cases hc
 case range t x =>
  split at hc
  ·obtain ⟨y, hy, rfl⟩ := zb0 hc; cases hw
  ·cases hc
 case next it s =>
  cases s <;> simp only at hc
  ·cases hc
  ·obtain ⟨y, hy, rfl⟩ := zb0 hc
   have r := hm it (by simp [Op.operands]) y hy
   simp only [zd1] at h
   split at h
   ·rename_i oo hq; rw [hq] at r
    cases hf : Nat.ble H.floor oo with
    | false => simp [hf] at h
    | true =>
     have hf' := Nat.le_of_ble_eq_true hf
     simp only [hf, cond_true] at h
     split at h
     ·rename_i s pos he
      obtain ⟨v, w', g1, g2⟩ := za66 (P := P) (ty := type) r hH he hf'
      split at h
      ·rename_i hp; cases h
       rw [if_pos hp] at g2
       exact ⟨v, φ, w', .inl (zi2 g1), g2.1, g2.2.1, g2.2.2⟩
      ·rename_i hp; cases h
       rw [if_neg hp] at g2
       obtain ⟨g3, rfl⟩ := g2
       exact ⟨v, φ, _, .inl (zi2 g1), g3, hH, Step.refl _ _ _⟩
     ·cases h
   ·cases h
 case entry => cases hc
 case typeAssert => cases hc
 case extract t i => obtain ⟨_, _, rfl⟩ := zb0 hc; cases hw
 case call c =>
  obtain ⟨callee, args, argTypes⟩ := c
  cases callee with
  | value f =>
   simp only at hc
   cases h1 : zk0 f <;> cases h2 : zj8 args.toList <;> simp [h1, h2] at hc
   subst hc; cases hw
  | invoke r m => simp at hc
  | builtin b =>
   simp only at hc
   have hrun : ∀ {s : Sem Value} {v : Value} {w' : World}, (∀ cs, builtin b argTypes type cs (args.map ρ) = (do pure (.value (<- s)))) -> s.run P w = .ok v w' ->
     (execOp ρ ⟨dst, .call ⟨.builtin b, args, argTypes⟩, type, pos, after, guard⟩).run P w = .ok (.value v) w' := by
    intro s v w' e1 e2
    simp only [execOp, resolve, Sem.run_bind, Sem.run_pure, Result.andThen_ok, invoke]
    rw [e1]; simp [e2]
   unfold zv1 at hc
   split at hc
   ·rename_i t u x y e1 e2
    obtain ⟨rfl⟩ : argTypes = #[t, u] := by apply Array.toList_inj.1; simpa using e1
    obtain ⟨rfl⟩ : args = #[x, y] := by apply Array.toList_inj.1; simpa using e2
    have main : ∀ (el : TypeId), P.underlying t = some (.slice el) -> ((∃ q, P.underlying u = some (.slice q)) \/ P.underlying u = some .string) ->
      ((zb3 P el).bind fun n => (zg7 P el).bind fun by_ => (zc5 P el).bind fun z => if by_ = 0 \/ z.cells.length ≠ n \/ za5 z.cells = false then none else c2 x y (.append n by_)) = some ao -> zbv6 P G B W Z φ H w (execOp ρ ⟨dst, .call ⟨.builtin .append, #[x, y], #[t, u]⟩, type, pos, after, guard⟩) a H' := by
     intro el ht hu hc
     cases hn : zb3 P el <;> cases hb : zg7 P el <;> cases hz : zc5 P el <;> simp [hn, hb, hz] at hc
     rename_i n by_ z
     obtain ⟨⟨hb0, hzn, hz1⟩, hc⟩ := hc
     obtain ⟨x', y', h1, h2, rfl⟩ := zc1 hc
     simp only [zd1] at h
     obtain ⟨v, φ', w', g1, g2, g3, g4⟩ := zat7 (P := P) (ty := type) hH ht hu hn hb hz hzn hz1 hb0 (hm x (by simp [Op.operands, Call.operands]) x' h1) (hm y (by simp [Op.operands, Call.operands]) y' h2) h hK
     exact ⟨v, φ', w', .inl (hrun (s := Builtin.append_ #[t, u] type #[ρ x, ρ y]) (fun _ => by simp [builtin]) g1), g2, g3, g4⟩
    split at hc
    ·rename_i el q ht hu; exact main el ht (.inl ⟨q, hu⟩) hc
    ·rename_i el ht hu; exact main el ht (.inr hu) hc
    ·cases hc
   ·split at hc
    ·obtain ⟨_, _, rfl⟩ := zb0 hc; cases hw
    ·obtain ⟨_, _, rfl⟩ := zb0 hc; cases hw
    ·obtain ⟨_, _, rfl⟩ := zb0 hc; cases hw
    ·obtain ⟨_, _, rfl⟩ := zb0 hc; cases hw
    ·cases hc
   ·split at hc
    ·obtain ⟨_, _, rfl⟩ := zb0 hc; cases hw
    ·cases hc
   ·rename_i t u x y e1 e2
    obtain ⟨rfl⟩ : argTypes = #[t, u] := by apply Array.toList_inj.1; simpa using e1
    obtain ⟨rfl⟩ : args = #[x, y] := by apply Array.toList_inj.1; simpa using e2
    split at hc
    ·rename_i el ht
     cases hn : zb3 P el <;> simp [hn] at hc
     obtain ⟨x', y', h1, h2, rfl⟩ := zc1 hc
     simp only [zd1] at h
     obtain ⟨v, w', g1, g2, g3, g4⟩ := za79 (P := P) (ty := type) (u := u) hH ht hn (hm x (by simp [Op.operands, Call.operands]) x' h1) (hm y (by simp [Op.operands, Call.operands]) y' h2) h
     exact ⟨v, φ, w', .inl (hrun (s := Builtin.copy_ #[t, u] type #[ρ x, ρ y]) (fun _ => by simp [builtin]) g1), g2, g3, g4⟩
    ·cases hc
   ·rename_i t u x y e1 e2
    obtain ⟨rfl⟩ : argTypes = #[t, u] := by apply Array.toList_inj.1; simpa using e1
    obtain ⟨rfl⟩ : args = #[x, y] := by apply Array.toList_inj.1; simpa using e2
    split at hc
    ·rename_i kt et ht
     obtain ⟨m', k', h1, h2, rfl⟩ := zc1 hc
     have r1 := hm x (by simp [Op.operands, Call.operands]) m' h1
     have r2 := hm y (by simp [Op.operands, Call.operands]) k' h2
     simp only [zd1] at h
     split at h
     ·rename_i hq; rw [hq] at r1
      cases hp : plainKey (zg2 P kt) (e k') with
      | false => simp [hp] at h
      | true =>
       simp [hp] at h; obtain ⟨rfl, rfl⟩ := h
       generalize hv : ρ x = v at r1
       cases r1
       have hck := zj4 (P := P) r2 hp true w
       exact ⟨.tuple #[], φ, w, .inl (hrun (s := Builtin.delete_ #[t, u] type #[ρ x, ρ y]) (fun _ => by simp [builtin]) (by simp [Builtin.delete_, ht, hv, hck])), zc3.undef _, hH, Step.refl _ _ _⟩
     ·rename_i oo hq; rw [hq] at r1
      cases hf : Nat.ble H.floor oo with
      | false => simp [hf] at h
      | true =>
       have hf' := Nat.le_of_ble_eq_true hf
       simp only [hf, cond_true] at h
       split at h
       ·rename_i es he
        cases hp : plainKey (zg2 P kt) (e k') with
        | false => simp [hp] at h
        | true =>
         simp only [hp, cond_true] at h
         split at h
         ·cases h
         ·rename_i i v hfd; cases h
          obtain ⟨w', g1, g2, g3⟩ := zaa5 (P := P) (u := u) (ty := type) ht r1 r2 hH he hf' hp hfd
          exact ⟨.tuple #[], φ, w', .inl (hrun (s := Builtin.delete_ #[t, u] type #[ρ x, ρ y]) (fun _ => by simp [builtin]) g1), zc3.undef _, g2, g3⟩
         ·rename_i hfd; cases h
          obtain ⟨w', g1, g2, g3⟩ := zaa5 (P := P) (u := u) (ty := type) ht r1 r2 hH he hf' hp hfd
          exact ⟨.tuple #[], φ, w', .inl (hrun (s := Builtin.delete_ #[t, u] type #[ρ x, ρ y]) (fun _ => by simp [builtin]) g1), zc3.undef _, g2, g3⟩
       ·cases h
     ·cases h
    ·cases hc
   ·rename_i t x e1 e2
    obtain ⟨rfl⟩ : argTypes = #[t] := by apply Array.toList_inj.1; simpa using e1
    obtain ⟨rfl⟩ : args = #[x] := by apply Array.toList_inj.1; simpa using e2
    split at hc
    ·rename_i kt et ht
     obtain ⟨m', h1, rfl⟩ := zb0 hc
     have r1 := hm x (by simp [Op.operands, Call.operands]) m' h1
     simp only [zd1] at h
     split at h
     ·rename_i hq; rw [hq] at r1; cases h
      generalize hv : ρ x = v at r1
      cases r1
      exact ⟨.tuple #[], φ, w, .inl (hrun (s := Builtin.clear_ #[t] type #[ρ x]) (fun _ => by simp [builtin]) (by simp [Builtin.clear_, ht, hv])), zc3.undef _, hH, Step.refl _ _ _⟩
     ·rename_i oo hq; rw [hq] at r1
      cases hf : Nat.ble H.floor oo with
      | false => simp [hf] at h
      | true =>
       have hf' := Nat.le_of_ble_eq_true hf
       simp only [hf, cond_true] at h
       split at h
       ·rename_i es he
        cases h
        generalize hv : ρ x = v at r1
        cases r1 with
        | map _ L hL =>
         obtain ⟨en, cl, q1, q2, q3⟩ := hH.obj oo L _ hL he
         have hget := zbi2 (P := P) (d' := w.drawn) q1
         have := za04 (P := P) cl w.drawn hH hL he hf' q1 (es' := []) (en' := #[]) trivial ⟨by simp, by simp⟩
         exact ⟨.tuple #[], φ, _, .inl (hrun (s := Builtin.clear_ #[t] type #[ρ x]) (fun _ => by simp [builtin]) (by simp [Builtin.clear_, ht, hv, hget, this.1])), zc3.undef _, this.2.1, this.2.2⟩
       ·cases h
     ·cases h
    ·rename_i el ht
     cases hz : zc5 P el <;> simp [hz] at hc
     rename_i z
     obtain ⟨m', h1, rfl⟩ := zb0 hc
     have r1 := hm x (by simp [Op.operands, Call.operands]) m' h1
     obtain ⟨zv, rz, _, hzr⟩ := zf1 hz φ
     simp only [zd1] at h
     split at h
     ·rename_i hq; rw [hq] at r1; cases h
      generalize hv : ρ x = v at r1
      cases r1
      exact ⟨.tuple #[], φ, w, .inl (hrun (s := Builtin.clear_ #[t] type #[ρ x]) (fun _ => by simp [builtin]) (by simp [Builtin.clear_, ht, hv])), zc3.undef _, hH, Step.refl _ _ _⟩
     ·rename_i oo off len sz lo ex hq; rw [hq] at r1
      cases hb : (Nat.beq z.cells.length sz && Nat.ble 1 sz) with
      | false => simp only [hb, cond_false] at h; cases h
      | true =>
       simp only [hb, cond_true] at h
       simp only [Bool.and_eq_true, Tr.nbeq, decide_eq_true_eq, Nat.ble_eq] at hb
       generalize hv : ρ x = v at r1
       cases hl0 : Nat.beq len 0 with
       | true =>
        have := Nat.eq_of_beq_eq_true hl0; subst this
        simp only [hl0, cond_true] at h; cases h
        have hsl : ∃ a0 cap, v = .slice (some a0) 0 cap := by cases r1 <;> exact ⟨_, _, rfl⟩
        obtain ⟨a0, cap, rfl⟩ := hsl
        exact ⟨.tuple #[], φ, w, .inl (hrun (s := Builtin.clear_ #[t] type #[ρ x]) (fun _ => by simp [builtin]) (by simp [Builtin.clear_, ht, hv])), zc3.undef _, hH, Step.refl _ _ _⟩
       | false =>
        simp only [hl0, cond_false] at h
        cases hws : H.writeSeg oo off ((List.replicate len z.cells).flatten) with
        | none => simp [hws] at h
        | some H2 =>
         simp [hws] at h; obtain ⟨rfl, rfl⟩ := h
         obtain ⟨_, _, _, _, hone, _⟩ := zk3 hws
         have hlen : len ≠ 0 := fun q => by subst q; simp at hl0
         have hz1 : za5 z.cells = true := by
          obtain ⟨k, rfl⟩ : ∃ k, len = k + 1 := ⟨len - 1, by omega⟩
          simp only [List.replicate_succ, List.flatten_cons, za5, List.all_append, Bool.and_eq_true] at hone
          exact hone.1
         have hzv : zv.cells.size = sz := by have := (rz.cells hz1).len; simp at this; omega
         cases r1 with
         | slc _ _ _ _ _ _ L cap hL a1 a2 a3 a4 =>
          have hrep := zal3 _ _ (rz.cells hz1) len sz hb.1
          obtain ⟨w', g1, g2, g3⟩ := zl9 (P := P) hH hL hws hrep
          refine ⟨.tuple #[], φ, w', .inl (hrun (s := Builtin.clear_ #[t] type #[ρ x]) (fun _ => by simp [builtin]) ?_), zc3.undef _, g2, g3⟩
          obtain ⟨k, rfl⟩ : ∃ k, len = k + 1 := ⟨len - 1, by omega⟩
          have e1 : (Builtin.zeroCells zv.cells (k + 1)).toList = ((Array.range ((k + 1) * sz)).map (zv.cells[· % zv.cells.size]!)).toList := by
           simp only [Builtin.zeroCells, hzv]
          simp only [Builtin.clear_, hv]
          simp only [Sem.run_bind, run_underlying, ht, hzr, Result.andThen_ok, e1, List.getElem?_toArray, List.getElem?_cons_zero]
          rw [g1]; simp
         | slc0 => omega
     ·cases h
    ·cases hc
   ·cases hq : zj8 args.toList <;> simp [hq] at hc
    subst hc; cases hw
   ·cases hq : zj8 args.toList <;> simp [hq] at hc
    subst hc; cases hw
   ·cases hc
 case go => cases hc
 case defer => cases hc
 case panic => cases hc
 case send => cases hc
 case recv => cases hc
 case select => cases hc
theorem zav8 {B W Z : Nat} {φ : Pl} {H H' : Heap} {w : World} {e : Opd -> AV} {ρ : Operand -> Value} {o : Oper} {ao : AOp} {a : AV} (hc : cop P o.op = some ao) (hx : XRel φ e ρ o.op.operands.toList) (hH : zc7 G B W Z φ H w)
  (h : zb2 e H ao = some (a, H')) (hK : H'.next <= Z) : zbv6 P G B W Z φ H w (execOp ρ o) a H' := by
 unfold zb2 at h
 cases hw : ao.writes with
 | true => rw [hw] at h; exact zau2 hc hx hH h hK
 | false => rw [hw] at h; exact za58 hc hx hH h hK
end Go.AI
