/- The translation of operations, and that each does in memory what its abstract one does. No claim by itself. -/
import Derived.Test.YtjhhicmlflelhaaE2
namespace Go.AI
variable {P : Program}
/-! ### The translation -/
def ckOf (P : Program) (t : TypeId) : Option CK :=
  match P.underlying t with
  | some .bool => some .bool
  | some (.int _) => some .int
  | some .string => some .str
  | _ => none
def fieldsOf (sub : TypeId → Option (List CK)) : List Field → Nat → Option (List CK)
  | [], _ => some []
  | f :: fs, off =>
    if f.name ≠ "_" ∧ f.offset = off then
      match sub f.type with
      | none => none
      | some ks => (fieldsOf sub fs (off + ks.length)).map (ks ++ ·)
    else none
/-- The cells of a type that is all plain. -/
def flatOf (P : Program) : Nat → TypeId → Option (List CK)
  | 0, _ => none
  | d + 1, t =>
    match P.underlying t with
    | some (.struct fs) =>
      if P.stoodInHeld t then none else
      match fieldsOf (flatOf P d) fs.toList 0 with
      | some ks => if tySize P t = some ks.length then some ks else none
      | none => none
    | some (.array n e) =>
      match flatOf P d e with
      | some ks => if tySize P e = some ks.length ∧ tySize P t = some (n * ks.length) then some (List.replicate n ks).flatten else none
      | none => none
    | _ => match ckOf P t with | some k => if tySize P t = some 1 then some [k] else none | none => none
def eqDOf (P : Program) (t : TypeId) : EqD :=
  match P.underlying t with
  | some .bool => .prim .bool
  | some (.int _) => .prim .int
  | some .string => .prim .str
  | some (.pointer _) => .ptr
  | some (.slice _) => .slice
  | some (.map _ _) => .map
  | some (.func _ _ _) => .func
  | some (.struct _) | some (.array _ _) =>
    if P.eqGuardType P.depth t then .none else
    match flatOf P 20 t with
    | some ks => .flat ks
    | none => .none
  | _ => .none
def cparts (place : Nat → Option (Nat × Nat)) : List (Nat × Operand) → Option (List (Nat × Nat × Opd))
  | [] => some []
  | (i, x) :: r =>
    match place i, copd x with
    | some (off, size), some y => (cparts place r).map ((off, size, y) :: ·)
    | _, _ => none
def placesOf (P : Program) : List Field → Option (List (Nat × Nat))
  | [] => some []
  | f :: fs => match tySize P f.type with | none => none | some n => (placesOf P fs).map ((f.offset, n) :: ·)
def copt : Option Operand → Option (Option Opd)
  | none => some none
  | some x => (copd x).map some
def c1 (x : Operand) (f : Opd → AOp) : Option AOp := (copd x).map f
def c2 (x y : Operand) (f : Opd → Opd → AOp) : Option AOp := (copd x).bind fun a => (copd y).map fun b => f a b
def c3 (x y z : Operand) (f : Opd → Opd → Opd → AOp) : Option AOp := (copd x).bind fun a => (copd y).bind fun b => (copd z).map fun c => f a b c
def cbuiltin (P : Program) (b : Builtin) (ts : Array TypeId) (xs : Array Operand) : Option AOp :=
  match b, ts.toList, xs.toList with
  | .append, [t, u], [x, y] =>
    match P.underlying t, P.underlying u with
    | some (.slice e), some (.slice _) => (tySize P e).bind fun n => (tyBytes P e).bind fun by_ => (tyZero P e).bind fun z => if by_ = 0 ∨ z.cells.length ≠ n ∨ allOne z.cells = false then none else c2 x y (.append n by_)
    | some (.slice e), some .string => (tySize P e).bind fun n => (tyBytes P e).bind fun by_ => (tyZero P e).bind fun z => if by_ = 0 ∨ z.cells.length ≠ n ∨ allOne z.cells = false then none else c2 x y (.append n by_)
    | _, _ => none
  | .len, [t], [x] =>
    match P.underlying t with
    | some .string => c1 x (.len .str)
    | some (.slice _) => c1 x (.len .slice)
    | some (.map _ _) => c1 x (.len .map)
    | some (.array n _) => c1 x (.len (.arr n))
    | _ => none
  | .cap, [t], [x] => match P.underlying t with | some (.slice _) => c1 x .cap | _ => none
  | .copy, [t, _], [x, y] => match P.underlying t with | some (.slice e) => (tySize P e).bind fun n => c2 x y (.copy n) | _ => none
  | .delete, [t, _], [x, y] => match P.underlying t with | some (.map k _) => c2 x y (.delete (eqDOf P k)) | _ => none
  | .clear, [t], [x] =>
    match P.underlying t with
    | some (.map _ _) => c1 x .clearMap
    | some (.slice e) => (tyZero P e).bind fun z => c1 x (.clearSlice z.cells)
    | _ => none
  | .max, _, _ => (copds xs.toList).map (.minmax true)
  | .min, _, _ => (copds xs.toList).map (.minmax false)
  | _, _, _ => none
def cop (P : Program) : Op → Option AOp
  | .move x => c1 x .mov
  | .assign x => c1 x .mov
  | .pick c a b => c3 c a b .pick
  | .alloc t => (tyZero P t).map fun z => .alloc z.cells
  | .box _ x => c1 x .box
  | .build t parts =>
    match P.underlying t with
    | some (.struct fs) => (tyZero P t).bind fun z => if allOne z.cells then (placesOf P fs.toList).bind fun pl => (cparts (fun i => pl[i]?) parts.toList).map (.build z.cells) else none
    | some (.array _ e) => (tyZero P t).bind fun z => if allOne z.cells then (tySize P e).bind fun n => (cparts (fun i => some (i * n, n)) parts.toList).map (.build z.cells) else none
    | _ => none
  | .buildSlice t len parts =>
    match P.underlying t with
    | some (.slice e) =>
      (tySize P e).bind fun n => (tyZero P e).bind fun z =>
        if z.cells.length = n ∧ len * n ≤ 2 ^ 24 ∧ allOne z.cells then (cparts (fun i => some (i * n, n)) parts.toList).map (.buildSlice n len ((List.replicate len z.cells).flatten)) else none
    | _ => none
  | .load t a => (tyAgg P t).bind fun n => c1 a (.load n)
  | .store t a x => (tySize P t).bind fun n => c2 a x (.store n)
  | .nilCheck x => c1 x .nilCheck
  | .binOp op t x y _ => c2 x y (.binOp op (eqDOf P t))
  | .unOp op _ x => c1 x (.unOp op)
  | .convert src dst x =>
    match P.underlying src, P.underlying dst with
    | some (.int _), some (.int k) => c1 x (.convert (.toInt k))
    | some .string, some .string => c1 x (.convert .same)
    | some (.slice e), some .string => match P.underlying e with | some (.int .u8) => c1 x (.convert .bytesToStr) | _ => none
    | some .string, some (.slice e) => match P.underlying e with | some (.int .u8) => c1 x (.convert .strToBytes) | _ => none
    | _, _ => none
  | .makeFunc (.func f) first captured => (copds first.toList).bind fun a => (copds captured.toList).map fun b => .makeFunc f a b
  | .makeMap t r => match P.underlying t with | some (.map _ _) => (copt r).map .makeMap | _ => none
  | .makeSlice t l c =>
    match P.underlying t with
    | some (.slice e) => (tySize P e).bind fun n => (tyBytes P e).bind fun by_ => (tyZero P e).bind fun z => c2 l c (.makeSlice n by_ z.cells)
    | _ => none
  | .slice t x lo hi mx =>
    match P.underlying t with
    | some .string => if mx.isSome then none else (copd x).bind fun x => (copt lo).bind fun lo => (copt hi).map fun hi => .sliceS x lo hi
    | some (.slice e) => (tySize P e).bind fun n => (copd x).bind fun x => (copt lo).bind fun lo => (copt hi).bind fun hi => (copt mx).map fun mx => .slice n x lo hi mx
    | some (.array k e) => if mx.isSome then none else (tySize P e).bind fun n => (copd x).bind fun x => (copt lo).bind fun lo => (copt hi).map fun hi => .sliceA k n x lo hi
    | _ => none
  | .fieldAddr s x f =>
    match P.underlying s with
    | some (.struct fs) =>
      match fs[f]? with
      | some fd => match tySize P fd.type with | some 0 => none | some _ => c1 x (.fieldAddr fd.offset) | none => none
      | none => none
    | _ => none
  | .field s x f =>
    match P.underlying s with
    | some (.struct fs) => match fs[f]? with | some fd => (tyAgg P fd.type).bind fun n => c1 x (.field fd.offset n) | none => none
    | _ => none
  | .indexAddr t x i =>
    match P.underlying t with
    | some (.slice e) => (tySize P e).bind fun n => c2 x i (.indexAddr n)
    | some (.array k e) => (tySize P e).bind fun n => c2 x i (.indexAddrA k n)
    | _ => none
  | .index t x i =>
    match P.underlying t with
    | some (.array k e) => (tySize P e).bind fun n => (tyAgg P e).bind fun m => c2 x i (.index k n m)
    | some .string => c2 x i .indexS
    | _ => none
  | .lookup t x i ok => match P.underlying t with | some (.map k e) => (tyZero P e).bind fun z => c2 x i (.lookup (eqDOf P k) z ok) | _ => none
  | .mapUpdate t m k x => match P.underlying t with | some (.map kt _) => c3 m k x (.mapUpdate (eqDOf P kt)) | _ => none
  | .insert t m k x => match P.underlying t with | some (.map kt _) => c3 m k x (.mapUpdate (eqDOf P kt)) | _ => none
  | .extract t i => c1 t (.extract i)
  | .call c =>
    match c.callee with
    | .value f => (copd f).bind fun f => (copds c.args.toList).map fun a => .call f a
    | .builtin b => cbuiltin P b c.argTypes c.args
    | _ => none
  | .range t x => match P.underlying t with | some .string => c1 x .rangeS | _ => none
  | .next it true => c1 it .nextS
  | .sliceToArrayPointer t x => match P.underlying t with | some (.array n _) => c1 x (.arrayAt n) | _ => none
  | _ => none
/-! ### Bounds -/
theorem bound_sound {φ : Pl} {x : AV} {v : Value} {y n Y : Nat} (h : VRel φ x v) (hb : boundA x y = some n) (hy : y ≤ Y) (code : BoundsCode) (w : World) :
    (Instr.sliceBound v Y code).run P w = .ok n w ∧ n ≤ y := by
  cases h <;> simp only [boundA] at hb <;> first | (cases hb; done) | skip
  rename_i k i
  split at hb
  · rename_i hi
    cases hb
    have : 0 ≤ i ∧ i ≤ (Y : Int) := ⟨hi.1, by omega⟩
    refine ⟨?_, by omega⟩
    simp [Instr.sliceBound, asIntOf, this]
  · cases hb
/-- An operand that may be absent. -/
def ORelO (φ : Pl) : Option AV → Option Value → Prop
  | none, none => True
  | some a, some v => VRel φ a v
  | _, _ => False
theorem bounds_sound {φ : Pl} {len lo cap : Nat} {ex : Bool} {low high max : Option AV} {vl vh vm : Option Value} (hl : ORelO φ low vl) (hh : ORelO φ high vh) (hm : ORelO φ max vm)
    (hlen : len ≤ lo) (hc : lo ≤ cap) (hx : ex = true → cap = lo) {l h m : Nat} {ex' : Bool} (hb : boundsA len lo ex low high max = some (l, h, m, ex')) (isSlice : Bool) (w : World) :
    ∃ M, (Instr.sliceBounds isSlice len cap vl vh vm).run P w = .ok (l, h, M) w ∧ l ≤ h ∧ h ≤ m ∧ m ≤ M ∧ (ex' = true → M = m) ∧ M ≤ cap := by
  unfold boundsA at hb
  cases max with
  | some mx =>
    cases vm with
    | none => exact hm.elim
    | some vm =>
      simp only at hb
      split at hb
      · cases hb
      · rename_i m1 hm1
        obtain ⟨r1, q1⟩ := bound_sound (P := P) hm hm1 hc (if isSlice then .slice3Acap else .slice3Alen) w
        cases high with
        | none => cases hb
        | some hg =>
          cases vh with
          | none => exact hh.elim
          | some vh =>
            simp only at hb
            split at hb
            · cases hb
            · rename_i h1 hh1
              obtain ⟨r2, q2⟩ := bound_sound (P := P) hh hh1 (Nat.le_refl _) .slice3B w
              cases low with
              | none =>
                cases vl with
                | some _ => exact hl.elim
                | none =>
                  cases hb
                  exact ⟨m, by simp [Instr.sliceBounds, r1, r2], by omega, q2, Nat.le_refl _, fun _ => rfl, by omega⟩
              | some lw =>
                cases vl with
                | none => exact hl.elim
                | some vl =>
                  cases hb1 : boundA lw h1 with
                  | none => simp [hb1] at hb
                  | some l1 =>
                    simp [hb1] at hb
                    obtain ⟨rfl, rfl, rfl, rfl⟩ := hb
                    obtain ⟨r3, q3⟩ := bound_sound (P := P) hl hb1 (Nat.le_refl _) .slice3C w
                    exact ⟨m1, by simp [Instr.sliceBounds, r1, r2, r3], q3, q2, Nat.le_refl _, fun _ => rfl, by omega⟩
  | none =>
    cases vm with
    | some _ => exact hm.elim
    | none =>
      simp only at hb
      split at hb
      · cases hb
      · rename_i h1 hh1
        have key : ∃ r, (Instr.sliceBounds isSlice len cap vl vh none).run P w = r ∧ (∀ (vl' : Value) (l : Nat), vl = some vl' → (Instr.sliceBound vl' h1 .sliceB).run P w = .ok l w → r = .ok (l, h1, cap) w) ∧ (vl = none → r = .ok (0, h1, cap) w) ∧ h1 ≤ lo := by
          refine ⟨_, rfl, ?_⟩
          cases high with
          | none =>
            cases vh with
            | some _ => exact hh.elim
            | none =>
              cases hh1
              refine ⟨fun vl' l e hr => ?_, fun e => ?_, hlen⟩
              · subst e; simp [Instr.sliceBounds, hr]
              · subst e; simp [Instr.sliceBounds]
          | some hg =>
            cases vh with
            | none => exact hh.elim
            | some vh =>
              simp only at hh1
              obtain ⟨r2, q2⟩ := bound_sound (P := P) hh hh1 hc (if isSlice then .sliceAcap else .sliceAlen) w
              refine ⟨fun vl' l e hr => ?_, fun e => ?_, q2⟩
              · subst e; simp [Instr.sliceBounds, r2, hr]
              · subst e; simp [Instr.sliceBounds, r2]
        obtain ⟨r, hr, k1, k2, k3⟩ := key
        rw [hr]
        cases low with
        | none =>
          cases vl with
          | some _ => exact hl.elim
          | none => cases hb; exact ⟨cap, k2 rfl, by omega, k3, hc, hx, Nat.le_refl _⟩
        | some lw =>
          cases vl with
          | none => exact hl.elim
          | some vl =>
            cases hb1 : boundA lw h1 with
            | none => simp [hb1] at hb
            | some l1 =>
              simp [hb1] at hb
              obtain ⟨rfl, rfl, rfl, rfl⟩ := hb
              obtain ⟨r3, q3⟩ := bound_sound (P := P) hl hb1 (Nat.le_refl _) .sliceB w
              exact ⟨cap, k1 vl l1 rfl r3, q3, k3, hc, hx, Nat.le_refl _⟩
theorem slice_at {φ : Pl} {t e : TypeId} {sz o off len lo : Nat} {ex : Bool} {low high max : Option AV} {vl vh vm : Option Value} {xv : Value} (ht : P.underlying t = some (.slice e)) (hs : tySize P e = some sz)
    (hx : VRel φ (.slc o off len sz lo ex) xv) (hl : ORelO φ low vl) (hh : ORelO φ high vh) (hm : ORelO φ max vm) {l h m : Nat} {ex' : Bool} (hb : boundsA len lo ex low high max = some (l, h, m, ex')) (w : World) :
    ∃ v, (Instr.sliceAt t xv vl vh vm).run P w = .ok v w ∧ VRel φ (.slc o (off + l * sz) (h - l) sz (m - l) ex') v := by
  cases hx with
  | slc o off len e' lo ex L cap hL h1 h2 h3 h4 =>
    obtain ⟨M, hr, a1, a2, a3, a4, a5⟩ := bounds_sound (P := P) hl hh hm h1 h2 h3 hb true w
    refine ⟨_, by simp only [Instr.sliceAt, Sem.run_bind, run_underlying, ht, Result.andThen_ok, Instr.slice, hr, run_sizeOf hs, Sem.run_pure]; rfl, ?_⟩
    by_cases hML : M = l
    · subst hML
      have e1 : h = M := by omega
      have e2 : m = M := by omega
      subst e1; subst e2
      simp only [if_true, Nat.sub_self]
      exact .slc0 _ _ _ _ _
    · simp only [if_neg hML, Option.map_some, add_mk]
      have := VRel.slc (φ := φ) o (off + l * sz) (h - l) sz (m - l) ex' L (M - l) hL (by omega) (by omega) (fun q => by rw [a4 q]) (by
        have e1 : (M - l) * sz + l * sz ≤ cap * sz := by rw [← Nat.add_mul]; exact Nat.mul_le_mul_right _ (by omega)
        omega)
      simpa [Nat.add_assoc] using this
  | slc0 o off e' ex a =>
    obtain ⟨M, hr, a1, a2, a3, a4, a5⟩ := bounds_sound (P := P) (cap := 0) hl hh hm (Nat.le_refl _) (Nat.le_refl _) (fun _ => rfl) hb true w
    have e0 : M = 0 := by omega
    have e1 : m = 0 := by omega
    have e2 : h = 0 := by omega
    have e3 : l = 0 := by omega
    subst e0; subst e1; subst e2; subst e3
    refine ⟨_, by simp only [Instr.sliceAt, Sem.run_bind, run_underlying, ht, Result.andThen_ok, Instr.slice, hr, run_sizeOf hs, Sem.run_pure]; rfl, ?_⟩
    simp only [if_true, Nat.sub_self]
    exact .slc0 _ _ _ _ _
theorem slice_nil {φ : Pl} {t e : TypeId} {sz : Nat} {low high max : Option AV} {vl vh vm : Option Value} {xv : Value} (ht : P.underlying t = some (.slice e)) (hs : tySize P e = some sz)
    (hx : VRel φ .nils xv) (hl : ORelO φ low vl) (hh : ORelO φ high vh) (hm : ORelO φ max vm) {r : Nat × Nat × Nat × Bool} (hb : boundsA 0 0 true low high max = some r) (w : World) :
    ∃ v, (Instr.sliceAt t xv vl vh vm).run P w = .ok v w ∧ VRel φ .nils v := by
  obtain ⟨l, h, m, ex'⟩ := r
  cases hx
  obtain ⟨M, hr, a1, a2, a3, a4, a5⟩ := bounds_sound (P := P) (cap := 0) hl hh hm (Nat.le_refl _) (Nat.le_refl _) (fun _ => rfl) hb true w
  have e0 : M = 0 := by omega
  have e1 : m = 0 := by omega
  have e2 : h = 0 := by omega
  have e3 : l = 0 := by omega
  subst e0; subst e1; subst e2; subst e3
  refine ⟨_, by simp only [Instr.sliceAt, Sem.run_bind, run_underlying, ht, Result.andThen_ok, Instr.slice, hr, run_sizeOf hs, Sem.run_pure]; rfl, ?_⟩
  simp only [if_true, Nat.sub_self]
  exact .nils
theorem slice_arr {φ : Pl} {t e : TypeId} {n sz o off : Nat} {low high : Option AV} {vl vh : Option Value} {xv : Value} (ht : P.underlying t = some (.array n e)) (hs : tySize P e = some sz)
    (hx : VRel φ (.ptr o off) xv) (hroom : ∀ L, φ o = some L → L.base + off + n * sz ≤ L.size) (hl : ORelO φ low vl) (hh : ORelO φ high vh) {l h m : Nat} {ex' : Bool} (hb : boundsA n n true low high none = some (l, h, m, ex')) (w : World) :
    ∃ v, (Instr.sliceAt t xv vl vh none).run P w = .ok v w ∧ VRel φ (.slc o (off + l * sz) (h - l) sz (m - l) ex') v := by
  cases hx with
  | ptr o off L hL =>
    obtain ⟨M, hr, a1, a2, a3, a4, a5⟩ := bounds_sound (P := P) (vm := none) (max := none) hl hh trivial (Nat.le_refl n) (Nat.le_refl n) (fun _ => rfl) hb false w
    refine ⟨_, by simp only [Instr.sliceAt, Sem.run_bind, run_underlying, ht, Result.andThen_ok, Instr.sureAddr, hr, run_sizeOf hs, Sem.run_pure]; rfl, ?_⟩
    have := hroom L hL
    by_cases hML : M = l
    · subst hML
      have e1 : h = M := by omega
      have e2 : m = M := by omega
      subst e1; subst e2
      simp only [if_true, Nat.sub_self]
      exact .slc0 _ _ _ _ _
    · simp only [if_neg hML, add_mk]
      have := VRel.slc (φ := φ) o (off + l * sz) (h - l) sz (m - l) ex' L (M - l) hL (by omega) (by omega) (fun q => by rw [a4 q]) (by
        have e1 : (M - l) * sz + l * sz ≤ n * sz := by rw [← Nat.add_mul]; exact Nat.mul_le_mul_right _ (by omega)
        omega)
      simpa [Nat.add_assoc] using this
end Go.AI
