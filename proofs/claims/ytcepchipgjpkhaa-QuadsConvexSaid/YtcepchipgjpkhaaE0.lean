/- The abstract interpreter: abstract values, heap, operations, code, and its run. No claim by itself. -/
import GoSem.Dispatch
namespace Go.AI
inductive Tr (α : Type) where
 | leaf
 | node (l : Tr α) (v : Option α) (r : Tr α)
 deriving Inhabited
namespace Tr
variable {α : Type}
def get : Tr α -> Nat -> Option α
 | .leaf, _ => none
 | .node l v r, n => bif Nat.beq n 0 then v else bif Nat.beq (n % 2) 1 then l.get (n / 2) else r.get (n / 2 - 1)
def setF : Nat -> Nat -> α -> Tr α -> Tr α
 | 0, _, _, t => t
 | f + 1, n, x, t =>
  match t with
  | .leaf => bif Nat.beq n 0 then .node .leaf (some x) .leaf else bif Nat.beq (n % 2) 1 then .node (setF f (n / 2) x .leaf) none .leaf else .node .leaf none (setF f (n / 2 - 1) x .leaf)
  | .node l v r => bif Nat.beq n 0 then .node l (some x) r else bif Nat.beq (n % 2) 1 then .node (setF f (n / 2) x l) v r else .node l v (setF f (n / 2 - 1) x r)
def set (t : Tr α) (n : Nat) (x : α) : Tr α := setF (n + 1) n x t
theorem nbeq (n m : Nat) : Nat.beq n m = decide (n = m) := by
 cases h : Nat.beq n m with
 | true => simp [Nat.eq_of_beq_eq_true h]
 | false => simp [Nat.ne_of_beq_eq_false h]
theorem zam5 : ∀ (f n m : Nat) (x : α) (t : Tr α), n < f -> (setF f n x t).get m = if m = n then some x else t.get m
 | 0, n, _, _, _, h => absurd h (by omega)
 | f + 1, n, m, x, t, h => by
  have lem : ∀ (l : Tr α) (v : Option α) (r : Tr α), (setF (f + 1) n x (.node l v r)).get m = if m = n then some x else (Tr.node l v r).get m := by
   intro l v r
   have hl := fun q => zam5 f (n / 2) q x l
   have hr := fun q => zam5 f (n / 2 - 1) q x r
   by_cases hn : n = 0
   ·subst hn
    by_cases hm : m = 0
    ·subst hm; simp [setF, get, nbeq]
    ·simp [setF, get, nbeq, hm]
   ·by_cases hn2 : n % 2 = 1
    ·simp only [setF, nbeq, hn, hn2, decide_true, decide_false, cond_true, cond_false]
     by_cases hm : m = 0
     ·have : ¬ (0 = n) := fun e => hn e.symm
      subst hm; simp [get, nbeq, this]
     ·by_cases hm2 : m % 2 = 1
      ·simp only [get, nbeq, hm, hm2, decide_true, decide_false, cond_true, cond_false]
       rw [hl _ (by omega)]
       by_cases e : m / 2 = n / 2
       ·have : m = n := by omega
        simp [this]
       ·have : ¬ m = n := by omega
        simp [this, e]
      ·have : ¬ m = n := by omega
       simp [get, nbeq, hm, hm2, this]
    ·simp only [setF, nbeq, hn, hn2, decide_false, cond_false]
     by_cases hm : m = 0
     ·have : ¬ (0 = n) := fun e => hn e.symm
      subst hm; simp [get, nbeq, this]
     ·by_cases hm2 : m % 2 = 1
      ·have : ¬ m = n := by omega
       simp [get, nbeq, hm, hm2, this]
      ·simp only [get, nbeq, hm, hm2, decide_false, cond_false]
       rw [hr _ (by omega)]
       by_cases e : m / 2 - 1 = n / 2 - 1
       ·have : m = n := by omega
        simp [this]
       ·have : ¬ m = n := by omega
        simp [this, e]
  cases t with
  | node l v r => exact lem l v r
  | leaf =>
   have e1 : setF (f + 1) n x (Tr.leaf : Tr α) = setF (f + 1) n x (.node .leaf none .leaf) := by simp [setF]
   have e2 : (Tr.leaf : Tr α).get m = (Tr.node .leaf none .leaf : Tr α).get m := by
    simp only [get]; cases Nat.beq m 0 <;> cases Nat.beq (m % 2) 1 <;> rfl
   rw [e1, e2]; exact lem _ _ _
theorem get_set (t : Tr α) (n m : Nat) (x : α) : (t.set n x).get m = if m = n then some x else t.get m := zam5 _ _ _ _ _ (by omega)
end Tr
inductive AV where
 | bool (b : Bool)
 | int (k : IntKind) (n : Int)
 | str (s : List Nat)
 | nilp
 | ptr (o off : Nat)
 | nils
 | slc (o off len e lo : Nat) (ex : Bool)
 | nilm
 | map (o : Nat)
 | nilf
 | fn (f : Nat) (first captured : List AV)
 | agg (cs : List AV)
 | tup (vs : List AV)
 | nili
 deriving Inhabited
def zb8 : AV := .tup []
def AV.cells : AV -> List AV
 | .agg cs => cs
 | v => [v]
def AV.one : AV -> Bool
 | .agg _ | .tup _ => false
 | _ => true
inductive Opd where
 | tmp (t : Nat)
 | const (v : AV)
 deriving Inhabited
abbrev Env := Tr AV
def Env.at (τ : Env) (t : Nat) : AV := (Tr.get τ t).getD zb8
def ev (τ : Env) : Opd -> AV
 | .tmp t => Env.at τ t
 | .const v => v
inductive zo4 where
 | cells (cs : List AV)
 | map (es : List (AV × AV))
 | siter (s : List Nat) (pos : Nat)
 | dead
 | bld (T : Nat) (b : Option (Nat × Nat))
 | buf (E : Nat) (bs : List Nat)
 deriving Inhabited
structure Heap where
 t : Tr zo4
 next : Nat
 floor : Nat
 deriving Inhabited
def Heap.get (H : Heap) (o : Nat) : Option zo4 := H.t.get o
def Heap.set (H : Heap) (o : Nat) (x : zo4) : Heap := { H with t := H.t.set o x }
def Heap.push (H : Heap) (x : zo4) : Heap := { H with t := H.t.set H.next x, next := H.next + 1 }
def Heap.cellsAt (H : Heap) (o : Nat) : Option (List AV) :=
 match H.get o with
 | some (.cells cs) => some cs
 | _ => none
def seg (cs : List AV) (off n : Nat) : Option (List AV) := bif Nat.ble (off + n) cs.length then some ((cs.drop off).take n) else none
def setSeg (cs : List AV) (off : Nat) (vs : List AV) : List AV := cs.take off ++ vs ++ cs.drop (off + vs.length)
def Heap.readSeg (H : Heap) (o off n : Nat) : Option (List AV) := (H.cellsAt o).bind fun cs => seg cs off n
def za5 (vs : List AV) : Bool := vs.all AV.one
def Heap.writeSeg (H : Heap) (o off : Nat) (vs : List AV) : Option Heap :=
 bif Nat.ble H.floor o then
  match H.cellsAt o with
  | some cs => bif Nat.ble (off + vs.length) cs.length && za5 vs then some (H.set o (.cells (setSeg cs off vs))) else none
  | none => none
 else none
inductive CK where
 | int | bool | str
 deriving Inhabited, DecidableEq
inductive EqD where
 | prim (k : CK)
 | flat (ks : List CK)
 | ptr | slice | map | func
 | none
 deriving Inhabited
inductive zcs6 where
 | toInt (k : IntKind)
 | same
 | bytesToStr
 | strToBytes
 deriving Inhabited
inductive LenD where
 | str | slice | map | arr (n : Nat)
 deriving Inhabited
inductive AOp where
 | mov (x : Opd)
 | pick (c a b : Opd)
 | alloc (zero : List AV)
 | box (x : Opd)
 | build (zero : List AV) (parts : List (Nat × Nat × Opd))
 | buildSlice (e len : Nat) (zero : List AV) (parts : List (Nat × Nat × Opd))
 | load (n : Option Nat) (a : Opd)
 | store (n : Nat) (a x : Opd)
 | nilCheck (x : Opd)
 | binOp (op : BinOp) (d : EqD) (x y : Opd)
 | unOp (op : UnOp) (x : Opd)
 | convert (c : zcs6) (x : Opd)
 | makeFunc (f : Nat) (first captured : List Opd)
 | makeMap (hint : Option Opd)
 | makeSlice (e bytes : Nat) (zero : List AV) (len cap : Opd)
 | sliceS (x : Opd) (lo hi : Option Opd)
 | slice (e : Nat) (x : Opd) (lo hi max : Option Opd)
 | sliceA (n e : Nat) (x : Opd) (lo hi : Option Opd)
 | fieldAddr (off : Nat) (x : Opd)
 | field (off : Nat) (n : Option Nat) (x : Opd)
 | indexAddr (e : Nat) (x i : Opd)
 | indexAddrA (len e : Nat) (x i : Opd)
 | index (len e : Nat) (n : Option Nat) (x i : Opd)
 | indexS (x i : Opd)
 | lookup (d : EqD) (zero : AV) (ok : Bool) (m k : Opd)
 | mapUpdate (d : EqD) (m k v : Opd)
 | extract (i : Nat) (x : Opd)
 | call (f : Opd) (args : List Opd)
 | append (e bytes : Nat) (x y : Opd)
 | len (d : LenD) (x : Opd)
 | cap (x : Opd)
 | copy (e : Nat) (x y : Opd)
 | delete (d : EqD) (m k : Opd)
 | clearMap (m : Opd)
 | clearSlice (zero : List AV) (x : Opd)
 | minmax (max : Bool) (xs : List Opd)
 | rangeS (x : Opd)
 | nextS (it : Opd)
 | arrayAt (n : Nat) (x : Opd)
 | allocB (t : Nat)
 | freeze (x : Opd)
 | bad
 deriving Inhabited
structure zb6 where
 dst : Option Nat
 op : AOp
 guard : Option (Nat × Bool)
 quiet : Bool
 frees : List Nat
 deriving Inhabited
inductive za0 where
 | skip
 | region (ops : List zb6)
 | seq (a b : za0)
 | cond (c : Opd) (thn els : za0)
 | block (id : Nat) (body : za0)
 | loop (body : za0)
 | exit (id : Nat)
 | ret
 | bad
 deriving Inhabited
inductive zf7 where
 | tmp (t : Nat)
 | cell (t : Nat) (n : Option Nat)
 deriving Inhabited
structure zc2 where
 ntmps : Nat
 results : List zf7
 body : za0
 deriving Inhabited
inductive FnD where
 | code (f : zc2)
 | ext (g : List AV -> Heap -> Option (AV × Heap))
def zh8 : CK -> AV -> AV -> Option Bool
 | .int, .int k a, .int k' b => if k = k' then some (a == b) else none
 | .bool, .bool a, .bool b => some (a == b)
 | .str, .str a, .str b => some (a == b)
 | _, _, _ => none
def zd5 : List CK -> List AV -> List AV -> Option Bool
 | [], [], [] => some true
 | k :: ks, x :: xs, y :: ys =>
  match zh8 k x y with
  | some true => zd5 ks xs ys
  | some false => some false
  | none => none
 | _, _, _ => none
def eqA : EqD -> AV -> AV -> Option Bool
 | .prim k, x, y => zh8 k x y
 | .flat ks, .agg xs, .agg ys => bif Nat.beq xs.length ks.length && Nat.beq ys.length ks.length then zd5 ks xs ys else none
 | .ptr, .nilp, .nilp => some true
 | .ptr, .nilp, .ptr _ _ => some false
 | .ptr, .ptr _ _, .nilp => some false
 | .slice, .nils, .nils => some true
 | .slice, .nils, .slc .. => some false
 | .slice, .slc .., .nils => some false
 | .map, .nilm, .nilm => some true
 | .map, .nilm, .map _ => some false
 | .map, .map _, .nilm => some false
 | .func, .nilf, .nilf => some true
 | .func, .nilf, .fn .. => some false
 | .func, .fn .., .nilf => some false
 | _, _, _ => none
def bytesLess : List Nat -> List Nat -> Bool
 | _, [] => false
 | [], _ :: _ => true
 | a :: x, b :: y => Nat.blt a b || (Nat.beq a b && bytesLess x y)
def zi8 (op : BinOp) (d : EqD) (x y : AV) : Option AV :=
 match op, x, y with
 | .shl, .int k a, .int _ b => if b < 0 then none else some (.int k (k.wrap (a * 2 ^ (min b.toNat k.bits))))
 | .shr, .int k a, .int _ b => if b < 0 then none else some (.int k (a.fdiv (2 ^ (min b.toNat k.bits))))
 | op, .int k a, .int k' b =>
  if k = k' then
   match op with
   | .add => some (.int k (k.wrap (a + b)))
   | .sub => some (.int k (k.wrap (a - b)))
   | .mul => some (.int k (k.wrap (a * b)))
   | .quo => if b = 0 then none else some (.int k (k.wrap (a.tdiv b)))
   | .rem => if b = 0 then none else some (.int k (a.tmod b))
   | .and => some (.int k (k.wrap (BitVec.ofInt k.bits a &&& BitVec.ofInt k.bits b).toNat))
   | .or => some (.int k (k.wrap (BitVec.ofInt k.bits a ||| BitVec.ofInt k.bits b).toNat))
   | .xor => some (.int k (k.wrap (BitVec.ofInt k.bits a ^^^ BitVec.ofInt k.bits b).toNat))
   | .andNot => some (.int k (k.wrap (BitVec.ofInt k.bits a &&& ~~~ BitVec.ofInt k.bits b).toNat))
   | .eql => some (.bool (a == b))
   | .neq => some (.bool (a != b))
   | .lss => some (.bool (a < b))
   | .leq => some (.bool (a <= b))
   | .gtr => some (.bool (a > b))
   | .geq => some (.bool (a >= b))
   | _ => none
  else none
 | op, .str a, .str b =>
  match op with
  | .add => if ((a.length + b.length : Nat) : Int) > IntKind.i64.max then none else some (.str (a ++ b))
  | .eql => some (.bool (a == b))
  | .neq => some (.bool !(a == b))
  | .lss => some (.bool (bytesLess a b))
  | .leq => some (.bool (bytesLess a b || a == b))
  | .gtr => some (.bool !(bytesLess a b || a == b))
  | .geq => some (.bool !(bytesLess a b))
  | _ => none
 | .eql, x, y => (eqA d x y).map .bool
 | .neq, x, y => (eqA d x y).map fun b => .bool !b
 | _, _, _ => none
def unA (op : UnOp) (x : AV) : Option AV :=
 match op, x with
 | .neg, .int k n => some (.int k (k.wrap (0 - n)))
 | .xor, .int k n => some (.int k (k.wrap (BitVec.ofInt k.bits (if k.signed then -1 else k.max) ^^^ BitVec.ofInt k.bits n).toNat))
 | .not, .bool b => some (.bool !b)
 | _, _ => none
def zh0 (ev : Opd -> AV) : List AV -> List (Nat × Nat × Opd) -> Option (List AV)
 | cs, [] => some cs
 | cs, (off, size, x) :: rest =>
  bif Nat.beq (ev x).cells.length size && Nat.ble (off + size) cs.length && za5 (ev x).cells then zh0 ev (setSeg cs off (ev x).cells) rest else none
def ze2 (cs : List AV) (off : Nat) : Option Nat -> Option AV
 | some n => (seg cs off n).map .agg
 | none => cs[off]?
def zl1 (x : AV) (y : Nat) : Option Nat :=
 match x with
 | .int _ i => if 0 <= i /\ i <= y then some i.toNat else none
 | _ => none
def zd8 (len lo : Nat) (ex : Bool) (low high max : Option AV) : Option (Nat × Nat × Nat × Bool) :=
 match max with
 | some m =>
  match zl1 m lo with
  | none => none
  | some m =>
   match high with
   | none => none
   | some h =>
    match zl1 h m with
    | none => none
    | some h =>
     match low with
     | none => some (0, h, m, true)
     | some l => (zl1 l h).map fun l => (l, h, m, true)
 | none =>
  match (match high with | none => some len | some h => zl1 h lo) with
  | none => none
  | some h =>
   match low with
   | none => some (0, h, lo, ex)
   | some l => (zl1 l h).map fun l => (l, h, lo, ex)
def zk2 (d : EqD) (k : AV) : List (AV × AV) -> Nat -> Option (Option (Nat × AV))
 | [], _ => some none
 | (x, v) :: es, i =>
  match eqA d k x with
  | some true => some (some (i, v))
  | some false => zk2 d k es (i + 1)
  | none => none
def bytesOf : List AV -> Option (List Nat)
 | [] => some []
 | .int .u8 n :: r => if 0 <= n /\ n < 256 then (bytesOf r).map (n.toNat :: ·) else none
 | _ :: _ => none
def aInt (n : Int) : AV := .int .i64 n
def zag5 (b : Nat) : AV := .int .u8 b
def zx3 (s : List Nat) (pos : Nat) : Nat × Nat := Utf8.decode ⟨(s.map UInt8.ofNat).toArray⟩ pos
def plainKey : EqD -> AV -> Bool
 | .prim .int, .int _ _ => true
 | .prim .bool, .bool _ => true
 | .prim .str, .str _ => true
 | .flat ks, .agg cs => (zd5 ks cs cs).isSome
 | _, _ => false
def srcA (e : Nat) (H : Heap) : AV -> Option (Nat × List AV)
 | .nils => some (0, [])
 | .slc o off len e' _ _ => bif Nat.beq e e' then (H.readSeg o off (len * e)).map fun cs => (len, cs) else none
 | .str s => bif Nat.beq e 1 then some (s.length, s.map zag5) else none
 | _ => none
def zc4 (e bytes : Nat) (H : Heap) (x y : AV) : Option (AV × Heap) :=
 match srcA e H y with
 | none => none
 | some (n, new) =>
  bif za5 new then
  match x with
  | .nils =>
   bif Nat.beq n 0 then some (.nils, H)
   else bif Nat.ble ((2 * n + 1024) * bytes) (2 ^ 48) then some (.slc H.next 0 n e n false, H.push (.cells new)) else none
  | .slc o off len e' lo ex =>
   bif Nat.beq e e' then
    bif Nat.beq n 0 then some (x, H)
    else bif Nat.ble (len + n) lo then
     (H.writeSeg o (off + len * e) new).map fun H' => (.slc o off (len + n) e lo ex, H')
    else bif Nat.ble ((2 * (len + n) + 1024) * bytes) (2 ^ 48) then
     match H.readSeg o off (len * e) with
     | none => none
     | some old =>
      bif ex then some (.slc H.next 0 (len + n) e (len + n) false, H.push (.cells (old ++ new)))
      else bif Nat.ble H.floor o then some (.slc H.next 0 (len + n) e (len + n) false, (H.set o .dead).push (.cells (old ++ new)))
      else none
    else none
   else none
  | _ => none
  else none
def srcN (e : Nat) (H : Heap) (m : Nat) : AV -> Option (Nat × List AV)
 | .nils => some (0, [])
 | .slc o off len e' _ _ => bif Nat.beq e e' then (H.readSeg o off (Nat.min len m * e)).map fun cs => (Nat.min len m, cs) else none
 | .str s => bif Nat.beq e 1 then some (Nat.min s.length m, (s.take (Nat.min s.length m)).map zag5) else none
 | _ => none
def zaf8 (e : Nat) (H : Heap) (x y : AV) : Option (AV × Heap) :=
 match x with
 | .nils => (srcN e H 0 y).map fun _ => (aInt 0, H)
 | .slc o off len e' _ _ =>
  bif Nat.beq e e' then
   match srcN e H len y with
   | none => none
   | some (n, cs) =>
    bif Nat.beq cs.length 0 then some (aInt n, H)
    else (H.writeSeg o off cs).map fun H' => (aInt n, H')
  else none
 | _ => none
def maxA (max : Bool) : AV -> List AV -> Option AV
 | x, [] => match x with | .int .. => some x | _ => none
 | .int k a, .int k' b :: r => if k = k' then maxA max (.int k (if max then (if b > a then b else a) else (if b < a then b else a))) r else none
 | _, _ => none
def zb9 (e : Opd -> AV) : AOp -> Option AV
 | .mov x => some (e x)
 | .pick c a b => match e c with | .bool t => some (e (if t then a else b)) | _ => none
 | .build zero parts => (zh0 e zero parts).map .agg
 | .nilCheck x => match e x with | .nilp => none | .nilf => none | .ptr o off => some (.ptr o off) | .fn f a b => some (.fn f a b) | _ => none
 | .binOp op d x y => zi8 op d (e x) (e y)
 | .unOp op x => unA op (e x)
 | .convert (.toInt k) x => match e x with | .int _ n => some (.int k (k.wrap n)) | _ => none
 | .convert .same x => match e x with | .str s => some (.str s) | _ => none
 | .makeFunc f first captured => bif za5 (captured.map e) then some (.fn f (first.map e) (captured.map e)) else none
 | .sliceS x lo hi =>
  match e x with
  | .str s => (zd8 s.length s.length true (lo.map e) (hi.map e) none).map fun (l, h, _, _) => .str ((s.drop l).take (h - l))
  | _ => none
 | .slice sz x lo hi max =>
  match e x with
  | .nils => (zd8 0 0 true (lo.map e) (hi.map e) (max.map e)).map fun _ => .nils
  | .slc o off len sz' cap ex =>
   bif Nat.beq sz sz' then (zd8 len cap ex (lo.map e) (hi.map e) (max.map e)).map fun (l, h, m, ex) => .slc o (off + l * sz) (h - l) sz (m - l) ex
   else none
  | _ => none
 | .fieldAddr off x => match e x with | .ptr o b => some (.ptr o (b + off)) | _ => none
 | .field off n x => match e x with | .agg cs => ze2 cs off n | _ => none
 | .indexAddr sz x i =>
  match e x, e i with
  | .slc o off len sz' _ _, .int _ i => if 0 <= i /\ i < len /\ sz = sz' then some (.ptr o (off + i.toNat * sz)) else none
  | _, _ => none
 | .indexAddrA len sz x i =>
  match e x, e i with
  | .ptr o off, .int _ i => if 0 <= i /\ i < len then some (.ptr o (off + i.toNat * sz)) else none
  | _, _ => none
 | .index len sz n x i =>
  match e x, e i with
  | .agg cs, .int _ i => if 0 <= i /\ i < len then ze2 cs (i.toNat * sz) n else none
  | _, _ => none
 | .indexS x i =>
  match e x, e i with
  | .str s, .int _ i => if 0 <= i then (s[i.toNat]?).map zag5 else none
  | _, _ => none
 | .extract i x => match e x with | .tup vs => vs[i]? | _ => none
 | .len .str x => match e x with | .str s => some (aInt s.length) | _ => none
 | .len .slice x => match e x with | .nils => some (aInt 0) | .slc _ _ n _ _ _ => some (aInt n) | _ => none
 | .len (.arr n) _ => some (aInt n)
 | .cap x => match e x with | .nils => some (aInt 0) | .slc _ _ _ _ lo true => some (aInt lo) | _ => none
 | .minmax max xs => match xs.map e with | [] => none | x :: r => maxA max x r
 | .arrayAt n x => match e x with | .slc o off len _ _ _ => bif Nat.ble n len && Nat.ble 1 n then some (.ptr o off) else none | _ => none
 | _ => none
def zp1 (H : Heap) (d : EqD) (m k : AV) : Option (Option (Nat × AV)) :=
 match m with
 | .nilm => bif plainKey d k then some none else none
 | .map o => match H.get o with | some (.map es) => bif plainKey d k then zk2 d k es 0 else none | _ => none
 | _ => none
def zt3 (zero : AV) (ok : Bool) : Option (Nat × AV) -> AV
 | some (_, v) => bif ok then .tup [v, .bool true] else v
 | none => bif ok then .tup [zero, .bool false] else zero
def ze8 (e : Opd -> AV) (H : Heap) : AOp -> Option (AV × Heap)
 | .allocB t => some (.ptr H.next 0, H.push (.bld t none))
 | .alloc zero => bif za5 zero then some (.ptr H.next 0, H.push (.cells zero)) else none
 | .box x => bif za5 (e x).cells then some (.ptr H.next 0, H.push (.cells (e x).cells)) else none
 | .buildSlice sz len zero parts =>
  bif Nat.beq zero.length (len * sz) then (zh0 e zero parts).map fun cs => (.slc H.next 0 len sz len true, H.push (.cells cs)) else none
 | .load n a => match e a with | .ptr o off => ((H.cellsAt o).bind fun cs => ze2 cs off n).map fun v => (v, H) | _ => none
 | .convert .bytesToStr x =>
  match e x with
  | .nils => some (.str [], H)
  | .slc o off len 1 _ _ => ((H.readSeg o off len).bind bytesOf).map fun s => (.str s, H)
  | _ => none
 | .convert .strToBytes x =>
  match e x with
  | .str s => some (.slc H.next 0 s.length 1 s.length false, H.push (.cells (s.map zag5)))
  | _ => none
 | .makeMap hint =>
  match hint with
  | none => some (.map H.next, H.push (.map []))
  | some h => match e h with | .int _ _ => some (.map H.next, H.push (.map [])) | _ => none
 | .makeSlice sz bytes zero len cap =>
  match e len, e cap with
  | .int _ l, .int _ c =>
   if 0 <= l /\ l <= c /\ c * bytes <= 2 ^ 48 /\ c <= 2 ^ 62 then
    bif Nat.beq zero.length sz && za5 zero then
     some (.slc H.next 0 l.toNat sz c.toNat true, H.push (.cells ((List.replicate c.toNat zero).flatten)))
    else none
   else none
  | _, _ => none
 | .lookup d zero ok m k => (zp1 H d (e m) (e k)).map fun r => (zt3 zero ok r, H)
 | .len .map m =>
  match e m with
  | .nilm => some (aInt 0, H)
  | .map o => match H.get o with | some (.map es) => some (aInt es.length, H) | _ => none
  | _ => none
 | .sliceA n sz x lo hi =>
  match e x with
  | .ptr o off =>
   match H.cellsAt o with
   | some cs =>
    bif Nat.ble (off + n * sz) cs.length then (zd8 n n true (lo.map e) (hi.map e) none).map fun (l, h, m, ex) => (.slc o (off + l * sz) (h - l) sz (m - l) ex, H)
    else none
   | none => none
  | _ => none
 | .rangeS x => match e x with | .str s => some (.ptr H.next 0, H.push (.siter s 0)) | _ => none
 | o => (zb9 e o).map fun v => (v, H)
def zd1 (e : Opd -> AV) (H : Heap) : AOp -> Option (AV × Heap)
 | .store n a x =>
  match e a with
  | .ptr o off => bif Nat.beq (e x).cells.length n then (H.writeSeg o off (e x).cells).map fun H' => (zb8, H') else none
  | _ => none
 | .mapUpdate d m k v =>
  match e m with
  | .map o =>
   bif Nat.ble H.floor o then
    match H.get o with
    | some (.map es) =>
     bif plainKey d (e k) then
      match zk2 d (e k) es 0 with
      | none => none
      | some (some (i, _)) => some (zb8, H.set o (.map (es.set i (e k, e v))))
      | some none => some (zb8, H.set o (.map (es ++ [(e k, e v)])))
     else none
    | _ => none
   else none
  | _ => none
 | .freeze x =>
  match e x with
  | .slc o off len sz lo ex => bif Nat.ble H.floor o && Nat.ble 1 lo then (match H.cellsAt o with | some _ => some (.slc o off len sz lo ex, H) | none => none) else none
  | _ => none
 | .append sz bytes x y => zc4 sz bytes H (e x) (e y)
 | .copy sz x y => zaf8 sz H (e x) (e y)
 | .delete d m k =>
  match e m with
  | .nilm => bif plainKey d (e k) then some (zb8, H) else none
  | .map o =>
   bif Nat.ble H.floor o then
    match H.get o with
    | some (.map es) =>
     bif plainKey d (e k) then
      match zk2 d (e k) es 0 with
      | none => none
      | some (some (i, _)) => some (zb8, H.set o (.map (es.eraseIdx i)))
      | some none => some (zb8, H)
     else none
    | _ => none
   else none
  | _ => none
 | .clearMap m =>
  match e m with
  | .nilm => some (zb8, H)
  | .map o =>
   bif Nat.ble H.floor o then match H.get o with | some (.map _) => some (zb8, H.set o (.map [])) | _ => none
   else none
  | _ => none
 | .clearSlice zero x =>
  match e x with
  | .nils => some (zb8, H)
  | .slc o off len sz _ _ =>
   bif Nat.beq zero.length sz && Nat.ble 1 sz then
    bif Nat.beq len 0 then some (zb8, H)
    else (H.writeSeg o off ((List.replicate len zero).flatten)).map fun H' => (zb8, H')
   else none
  | _ => none
 | .nextS it =>
  match e it with
  | .ptr o 0 =>
   bif Nat.ble H.floor o then
    match H.get o with
    | some (.siter s pos) =>
     if pos < s.length then
      let (c, w) := zx3 s pos
      some (.tup [.bool true, aInt pos, .int .i32 c], H.set o (.siter s (pos + w)))
     else some (.tup [.bool false], H)
    | _ => none
   else none
  | _ => none
 | _ => none
def AOp.writes : AOp -> Bool
 | .store .. | .freeze _ | .mapUpdate .. | .append .. | .copy .. | .delete .. | .clearMap .. | .clearSlice .. | .nextS .. => true
 | _ => false
def zb2 (e : Opd -> AV) (H : Heap) (o : AOp) : Option (AV × Heap) := bif o.writes then zd1 e H o else ze8 e H o
def ze5 (τ : Env) : Option (Nat × Bool) -> Bool
 | none => true
 | some (t, want) => match Env.at τ t with | .bool b => b == want | _ => false
def putA (τ : Env) : Option Nat -> AV -> Env
 | none, _ => τ
 | some d, v => Tr.set τ d v
abbrev zj5 := Nat -> List AV -> Heap -> Option (AV × Heap)
def zl6 (cf : zj5) (τ : Env) (H : Heap) (o : AOp) : Option (AV × Heap) :=
 match o with
 | .call f args =>
  match ev τ f with
  | .fn f first captured => cf f (first ++ args.map (ev τ) ++ captured) H
  | _ => none
 | o => zb2 (ev τ) H o
def zf0 (q : Bool) (H : Heap) (g : Heap -> Option (AV × Heap)) : Option (AV × Heap) :=
 bif q then (g { H with floor := H.next }).map fun (v, H') => (v, { H' with floor := H.floor }) else g H
def AOp.target (e : Opd -> AV) : AOp -> Option Nat
 | .store _ a _ => match e a with | .ptr o _ => some o | _ => none
 | .freeze x => match e x with | .slc o _ _ _ _ _ => some o | _ => none
 | .append _ _ x _ => match e x with | .slc o _ _ _ _ _ => some o | _ => none
 | .mapUpdate _ m _ _ => match e m with | .map o => some o | _ => none
 | .copy _ x _ => match e x with | .slc o _ _ _ _ _ => some o | _ => none
 | .delete _ m _ => match e m with | .map o => some o | _ => none
 | .clearMap m => match e m with | .map o => some o | _ => none
 | .clearSlice _ x => match e x with | .slc o _ _ _ _ _ => some o | _ => none
 | .nextS it => match e it with | .ptr o _ => some o | _ => none
 | _ => none
def zg1 (τ : Env) (o : zb6) : Bool :=
 o.frees.all fun t =>
  match Env.at τ t with
  | .ptr p _ => o.op.writes && (match o.op.target (ev τ) with | some q => !(Nat.beq p q) | none => true)
  | _ => false
def zv3 (cf : zj5) : List zb6 -> Env -> Heap -> Option (Env × Heap)
 | [], τ, H => some (τ, H)
 | o :: rest, τ, H =>
  bif ze5 τ o.guard then
   bif zg1 τ o then
    match zf0 o.quiet H fun H => zl6 cf τ H o.op with
    | some (v, H') => zv3 cf rest (putA τ o.dst v) H'
    | none => none
   else none
  else zv3 cf rest (putA τ o.dst zb8) H
inductive Sig where
 | next
 | exit (id : Nat)
 | ret
 deriving Inhabited, DecidableEq
def zf9 : Nat -> List AV -> Env -> Env
 | _, [], τ => τ
 | i, x :: xs, τ => zf9 (i + 1) xs (Tr.set τ i x)
def ze1 (τ : Env) (H : Heap) : zf7 -> Option AV
 | .tmp t => some (Env.at τ t)
 | .cell t n => match Env.at τ t with | .ptr o off => (H.cellsAt o).bind fun cs => ze2 cs off n | _ => none
def zb5 (τ : Env) (H : Heap) : List zf7 -> Option (List AV)
 | [] => some []
 | r :: rs => match ze1 τ H r with | none => none | some v => (zb5 τ H rs).map (v :: ·)
def zg8 : List AV -> AV
 | [v] => v
 | vs => .tup vs
def zq6 (rs : List zf7) : Option (Sig × Env × Heap) -> Option (AV × Heap)
 | some (.next, τ, H) => (zb5 τ H rs).map fun vs => (zg8 vs, H)
 | some (.ret, τ, H) => (zb5 τ H rs).map fun vs => (zg8 vs, H)
 | _ => none
def run (FT : Nat -> Option FnD) : Nat -> za0 -> Env -> Heap -> Option (Sig × Env × Heap)
 | 0, _, _, _ => none
 | n + 1, c, τ, H =>
  match c with
  | .skip => some (.next, τ, H)
  | .ret => some (.ret, τ, H)
  | .exit id => some (.exit id, τ, H)
  | .bad => none
  | .seq a b =>
   match run FT n a τ H with
   | some (.next, τ', H') => run FT n b τ' H'
   | r => r
  | .cond x a b =>
   match ev τ x with
   | .bool true => run FT n a τ H
   | .bool false => run FT n b τ H
   | _ => none
  | .block id b =>
   match run FT n b τ H with
   | some (.exit id', τ', H') => bif Nat.beq id' id then some (.next, τ', H') else some (.exit id', τ', H')
   | r => r
  | .loop b =>
   match run FT n b τ H with
   | some (.next, τ', H') => run FT n (.loop b) τ' H'
   | r => r
  | .region ops =>
   match zv3 (fun f args H =>
     match FT f with
     | some (.code af) => bif Nat.ble args.length af.ntmps then zq6 af.results (run FT n af.body (zf9 0 args .leaf) H) else none
     | some (.ext g) => g args H
     | none => none) ops τ H with
   | some (τ', H') => some (.next, τ', H')
   | none => none
def zo3 (FT : Nat -> Option FnD) (n : Nat) : zj5 := fun f args H =>
 match FT f with
 | some (.code af) => bif Nat.ble args.length af.ntmps then zq6 af.results (run FT n af.body (zf9 0 args .leaf) H) else none
 | some (.ext g) => g args H
 | none => none
end Go.AI
