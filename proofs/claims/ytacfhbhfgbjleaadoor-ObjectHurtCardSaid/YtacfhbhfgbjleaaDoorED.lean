/- Functions of the library that are told: strings.Builder, strconv.Itoa. No claim by itself. -/
import Derived.Test.YtacfhbhfgbjleaaDoorE24
import Derived.Lib.ItoaNum
import Derived.Lib.AppendStr
import Derived.Laws.AppendOwn
import Derived.Sort.Grow
import Derived.Deep.Draws
import Derived.Test.YtacfhbhfgbjleaaDoorE25
import Derived.Deep.Strs
import Derived.Lib.LaidTab
namespace Go.AI
variable {P : Program} {G : World → Prop}
/-- The heap has grown, and nothing else. -/
theorem HRel.grown {B W Z : Nat} {φ : Pl} {H : Heap} {w w' : World} (h : HRel G B W Z φ H w) (hs : w.heap.size ≤ w'.heap.size) (hk : ∀ b, b < w.heap.size → w'.heap[b]? = w.heap[b]?) (h1 : w'.os = w.os) (h2 : w'.tape = w.tape) (h3 : w'.output = w.output) :
    HRel G B W Z φ H w' ∧ Step φ H w φ H w' :=
  ⟨h.keepAll hs hk, { Step.refl φ H w with os := h1, tape := h2, output := h3, size := hs, kept := fun b hb _ => hk b hb }⟩
/-- A new object in a block that was not there. -/
theorem HRel.pushAny {B W Z : Nat} {φ : Pl} {H : Heap} {w w' : World} (h : HRel G B W Z φ H w) (hK : H.next < Z) (x : AObj) (L : Loc) (hL : w.heap.size ≤ L.blk)
    (hsz : w.heap.size ≤ w'.heap.size) (hkeep : ∀ b, b < w.heap.size → w'.heap[b]? = w.heap[b]?) (hos : w'.os = w.os) (ht : w'.tape = w.tape) (hout : w'.output = w.output)
    (hx : ORel (φ.put H.next L) w' B H.next L x) : HRel G B W Z (φ.put H.next L) (H.push x) w' ∧ Step φ H w (φ.put H.next L) (H.push x) w' := by
  have hle := Pl.le_put L (h.next_none hK)
  have hlive : ∀ o, o ≠ H.next → (live (H.push x) o ↔ live H o) := fun o ho => by
    unfold live; rw [Heap.get_push, if_neg ho]
  have hget : ∀ o K, φ.put H.next L o = some K → o ≠ H.next → φ o = some K := fun o K e ho => by simpa [Pl.put, ho] using e
  have hnew : ∀ K, φ.put H.next L H.next = some K → K = L := fun K e => by simp [Pl.put] at e; exact e.symm
  have hblk : ∀ o K, φ o = some K → live H o → K.blk < w.heap.size := fun o K e hl => by
    by_cases hb : B ≤ o
    · exact h.live_in e hl hb
    · exact Nat.lt_of_lt_of_le (h.low o K e (by omega)) h.wsz
  refine ⟨⟨h.fl, Nat.le_succ_of_le h.fn, Nat.le_trans h.wsz hsz, ?_, ?_, ?_, ?_, ?_, ?_, fun w2 hk => h.good w2 fun b hb => (hk b hb).trans (hkeep b (Nat.lt_of_lt_of_le hb h.wsz))⟩, ⟨hle, ?_, Nat.le_succ _, rfl, hos, ht, hout, hsz, fun b hb _ => hkeep b hb, ?_, ?_⟩⟩
  · intro o K e
    by_cases ho : o = H.next
    · subst ho; exact .inl (Nat.lt_succ_self _)
    · exact (h.dom o K (hget o K e ho)).imp Nat.lt_succ_of_lt id
  · intro o ho
    have : o ≠ H.next := by intro q; subst q; exact absurd ho (Nat.not_succ_le_self _)
    rw [Heap.get_push, if_neg this]; exact h.fresh o (Nat.le_of_succ_le ho)
  · intro o K y e hy
    by_cases ho : o = H.next
    · subst ho
      rw [Heap.get_push, if_pos rfl] at hy
      cases hy; rw [hnew K e]; exact hx
    · rw [Heap.get_push, if_neg ho] at hy
      have e' := hget o K e ho
      have hr := h.obj o K y e' hy
      by_cases hd : y = .dead
      · subst hd; trivial
      · exact hr.keep hle (hkeep _ (hblk o K e' ⟨y, hy, hd⟩))
  · intro o K e ho
    by_cases hn : o = H.next
    · have := h.fn; have := h.fl; omega
    · exact h.low o K (hget o K e hn) ho
  · intro o K e ho hl
    by_cases hn : o = H.next
    · subst hn; rw [hnew K e]; exact Nat.le_trans h.wsz hL
    · exact h.high o K (hget o K e hn) ho ((hlive o hn).1 hl)
  · intro o o' K K' e e' ho ho' hl hl' hbb
    by_cases hn : o = H.next <;> by_cases hn' : o' = H.next
    · omega
    · subst hn
      rw [hnew K e] at hbb
      have := hblk o' K' (hget o' K' e' hn') ((hlive o' hn').1 hl')
      omega
    · subst hn'
      rw [hnew K' e'] at hbb
      have := hblk o K (hget o K e hn) ((hlive o hn).1 hl)
      omega
    · exact h.inj o o' K K' (hget o K e hn) (hget o' K' e' hn') ho ho' ((hlive o hn).1 hl) ((hlive o' hn').1 hl') hbb
  · intro o K e hn
    by_cases ho : o = H.next
    · subst ho; exact ⟨Nat.le_refl _, Nat.lt_succ_self _⟩
    · rw [hget o K e ho] at hn; cases hn
  · intro o K ho e hl
    by_cases hn : o = H.next
    · subst hn; rw [hnew K e]; exact .inl hL
    · exact .inr ⟨o, K, ho, hget o K e hn, (hlive o hn).1 hl, rfl⟩
  · intro o ho
    rw [Heap.get_push, if_neg (by have := h.fn; omega)]
/-! ### strconv.Itoa -/
def decF : Nat → Nat → List Nat → List Nat
  | 0, _, acc => acc
  | f + 1, u, acc => bif Nat.blt u 10 then (48 + u) :: acc else decF f (u / 10) ((48 + u % 10) :: acc)
def itoaN : Int → List Nat
  | .ofNat k => decF 25 k []
  | .negSucc k => 45 :: decF 25 (k + 1) []
theorem u8_48 {d : Nat} (h : d < 10) : (UInt8.ofNat (48 + d)).toNat = 48 + d := by
  rw [UInt8.toNat_ofNat']; omega
theorem decF_eq : ∀ (f u : Nat) (acc : List Nat), u < 10 ^ f → 0 < f → decF f u acc = (Lib.decDigits u).map UInt8.toNat ++ acc
  | 0, _, _, _, h => by omega
  | f + 1, u, acc, h, _ => by
    rw [Lib.decDigits]
    unfold decF
    by_cases hu : u < 10
    · have : Nat.blt u 10 = true := by have : u ≤ 9 := by omega
                                       simpa [Nat.blt] using this
      rw [this, dif_pos hu]; simp only [cond_true, List.map_cons, List.map_nil, u8_48 hu]; rfl
    · have : Nat.blt u 10 = false := by
        cases hq : Nat.blt u 10 with
        | false => rfl
        | true => simp [Nat.blt] at hq; omega
      rw [this, dif_neg hu, cond_false]
      have hf : 0 < f := by
        rcases Nat.eq_zero_or_pos f with r | r
        · subst r; simp at h; omega
        · exact r
      rw [decF_eq f (u / 10) _ (by rw [Nat.div_lt_iff_lt_mul (by omega)]; rw [Nat.pow_succ] at h; exact h) hf]
      simp only [List.map_append, List.map_cons, List.map_nil, List.append_assoc, List.singleton_append]
      rw [u8_48 (Nat.mod_lt _ (by omega))]
theorem itoaN_eq {n : Int} (h0 : -9223372036854775808 ≤ n) (h1 : n ≤ 9223372036854775807) : itoaN n = (Lib.itoa n).map UInt8.toNat := by
  unfold Lib.itoa
  cases n with
  | ofNat k =>
    have : ¬ (Int.ofNat k < 0) := by simp
    rw [if_neg this]
    show decF 25 k [] = _
    rw [decF_eq 25 k [] (by simp at h1; have : (10 : Nat) ^ 25 = 10000000000000000000000000 := by decide
                            omega) (by omega)]
    simp
  | negSucc k =>
    have : Int.negSucc k < 0 := Int.negSucc_lt_zero k
    rw [if_pos this]
    show 45 :: decF 25 (k + 1) [] = _
    rw [decF_eq 25 (k + 1) [] (by have : (10 : Nat) ^ 25 = 10000000000000000000000000 := by decide
                                  omega) (by omega)]
    simp
def itoaG : List AV → Heap → Option (AV × Heap)
  | [.int .i64 n], H => bif (decide (-9223372036854775808 ≤ n)) && decide (n ≤ 9223372036854775807) then some (.str (itoaN n), H) else none
  | _, _ => none
theorem natsOf_mk (l : List UInt8) : natsOf ⟨l.toArray⟩ = l.map UInt8.toNat := by simp [natsOf]
theorem itoa_ok {f : Nat} (hfn : FnOk P f) (hc : ∀ (n : Int) (w : World), -9223372036854775808 ≤ n → n ≤ 9223372036854775807 → G w → Calls P f #[.int .i64 n] w fun e w' => e = .returned (.string ⟨(Lib.itoa n).toArray⟩) ∧ ∃ k os, w' = Go.Sort.grow (w.drewN k) os) : ExtOk P G f itoaG := by
  have key : ∀ (args : List AV) (H : Heap) (v : AV) (H' : Heap), itoaG args H = some (v, H') → ∃ n, args = [.int .i64 n] ∧ -9223372036854775808 ≤ n ∧ n ≤ 9223372036854775807 ∧ v = .str (itoaN n) ∧ H' = H := by
    intro args H v H' hg
    unfold itoaG at hg
    split at hg
    · rename_i n
      cases hb : (decide (-9223372036854775808 ≤ n) && decide (n ≤ 9223372036854775807)) with
      | false => rw [hb] at hg; cases hg
      | true =>
        rw [hb] at hg; simp at hb hg
        exact ⟨n, rfl, hb.1, hb.2, hg.1.symm, hg.2.symm⟩
    · cases hg
  refine ⟨fun args H v H' hg _ => ?_, fun B W Z args H v H' φ w avs hg hl hH _ => ?_⟩
  · obtain ⟨n, _, _, _, _, rfl⟩ := key _ _ _ _ hg; exact Mono.refl _
  · obtain ⟨n, rfl, h0, h1, rfl, rfl⟩ := key _ _ _ _ hg
    cases hl with
    | cons h t =>
      cases t; cases h
      refine ⟨hfn, (hc n w h0 h1 (hH.good w fun _ _ => rfl)).mono ?_⟩
      rintro e w' ⟨rfl, k, os, rfl⟩
      have hgr := hH.grown (w' := Go.Sort.grow (w.drewN k) os) (by simp [Go.Sort.grow, World.drewN]) (fun b hb => by simp only [Go.Sort.grow, World.drewN]; rw [Array.getElem?_append_left hb]) rfl rfl rfl
      refine ⟨φ, _, rfl, ?_, hgr.1, hgr.2⟩
      rw [itoaN_eq h0 h1, ← natsOf_mk]; exact .str _
/-! ### strings.Builder -/
def bldAt (H : Heap) (o : Nat) : Option (Nat × Option (Nat × Nat)) :=
  match H.get o with
  | some (.bld T b) => some (T, b)
  | _ => none
def bufAt (H : Heap) (q : Nat) : Option (Nat × List Nat) :=
  match H.get q with
  | some (.buf E bs) => some (E, bs)
  | _ => none
theorem bldAt_some {H : Heap} {o T : Nat} {b : Option (Nat × Nat)} (h : bldAt H o = some (T, b)) : H.get o = some (.bld T b) := by
  unfold bldAt at h; split at h
  · rename_i q; cases h; exact q
  · cases h
theorem bufAt_some {H : Heap} {q E : Nat} {bs : List Nat} (h : bufAt H q = some (E, bs)) : H.get q = some (.buf E bs) := by
  unfold bufAt at h; split at h
  · rename_i q; cases h; exact q
  · cases h
/-- What the builder's object o holds: the bytes. -/
def writeB (T E : Nat) (o : Nat) (s : List Nat) (H : Heap) : Option Heap :=
  match bldAt H o with
  | some (T', none) =>
    bif Nat.beq T' T && Nat.ble s.length 140737488355328 then
      (match s with | [] => some (H.set o (.bld T none)) | _ :: _ => some ((H.push (.buf E s)).set o (.bld T (some (H.next, s.length)))))
    else none
  | some (T', some (q, n)) =>
    match bufAt H q with
    | some (E', bs) =>
      bif Nat.beq T' T && Nat.beq E' E && Nat.beq n bs.length && Nat.ble H.floor q && Nat.ble (n + s.length) 140737488355328 then
        some (((H.set q .dead).push (.buf E (bs ++ s))).set o (.bld T (some (H.next, n + s.length))))
      else none
    | none => none
  | none => none
def writeG (T E : Nat) : List AV → Heap → Option (AV × Heap)
  | [.ptr o 0, .str s], H => bif Nat.ble H.floor o then (writeB T E o s H).map fun H' => (.tup [.int .i64 s.length, .nili], H') else none
  | _, _ => none
def stringG (T E : Nat) : List AV → Heap → Option (AV × Heap)
  | [.ptr o 0], H =>
    match bldAt H o with
    | some (T', none) => bif Nat.beq T' T then some (.str [], H) else none
    | some (T', some (q, n)) =>
      match bufAt H q with
      | some (E', bs) => bif Nat.beq T' T && Nat.beq E' E && Nat.beq n bs.length && Nat.ble H.floor q && Nat.blt 0 n && Nat.ble H.floor o then some (.str bs, H.set q .dead) else none
      | none => none
    | none => none
  | _, _ => none
def byteV (b : Nat) : Value := .int .u8 (b : Int)
def WriteSpec (P : Program) (f T E : Nat) : Prop :=
  ∀ {b : Nat} {p v : Value} {bs : List Value} (s : ByteArray) {w : World}, w.heap[b]? = some (.cells #[p, v] T (0, 0)) → (p = .pointer none ∨ p = .pointer (some ⟨b, 0, none⟩)) → w.ownsRow 0 E 1 v bs.length bs → v.ownBlock ≠ some b →
    bs.length + s.size ≤ 140737488355328 →
    Calls P f #[.pointer (some ⟨b, 0, none⟩), .string s] w fun e w' => e = .returned (.tuple #[.int .i64 s.size, .nilIface]) ∧ ∃ v', w'.heap[b]? = some (.cells #[.pointer (some ⟨b, 0, none⟩), v'] T (0, 0)) ∧
      w'.ownsRow 0 E 1 v' (bs.length + s.size) (bs ++ Lib.strCells s) ∧ (v' = .slice none 0 0 ↔ v = .slice none 0 0 ∧ s.size = 0) ∧ (v'.ownBlock = v.ownBlock ∨ v'.ownBlock = some w.heap.size) ∧
      (∀ k, k < w.heap.size → k ≠ b → some k ≠ v.ownBlock → w'.heap[k]? = w.heap[k]?) ∧ w.heap.size ≤ w'.heap.size ∧ w'.os = w.os ∧ w'.tape = w.tape ∧ w'.output = w.output
def StringSpec (P : Program) (f T E : Nat) : Prop :=
  (∀ {b : Nat} {p : Value} {w : World}, w.heap[b]? = some (.cells #[p, .slice none 0 0] T (0, 0)) → Calls P f #[.pointer (some ⟨b, 0, none⟩)] w fun e w' => e = .returned (.string ⟨#[]⟩) ∧ w' = w.drew) ∧
  (∀ {b g cap : Nat} {p : Value} {cur : Array Value} {w : World} (l : List UInt8), l ≠ [] → w.heap[b]? = some (.cells #[p, .slice (some ⟨g, 0, none⟩) l.length cap] T (0, 0)) → w.heap[g]? = some (.cells cur E (0, 0)) →
    l.length ≤ cap → cap ≤ 9223372036854775807 → cur.size = cap → cur.toList.take l.length = l.map (fun x => Value.int .u8 x.toNat) →
    Calls P f #[.pointer (some ⟨b, 0, none⟩)] w fun e w' => e = .returned (.string ⟨l.toArray⟩) ∧ w' = w.drew.freeze ⟨g, 0, none⟩ l.length)
theorem strCells_eq (s : ByteArray) : Lib.strCells s = s.data.toList.map fun x => Value.int .u8 x.toNat := rfl
/-- The world with one block as it was. -/
def withBlk (w' : World) (b : Nat) (ob : Obj) : World := { w' with heap := w'.heap.setIfInBounds b ob }
theorem withBlk_same {w' : World} {b : Nat} {ob : Obj} (h : b < w'.heap.size) : (withBlk w' b ob).heap[b]? = some ob := by simp [withBlk, h]
theorem withBlk_other {w' : World} {b k : Nat} {ob : Obj} (h : k ≠ b) : (withBlk w' b ob).heap[k]? = w'.heap[k]? := by
  simp only [withBlk, Array.getElem?_setIfInBounds]; rw [if_neg fun q => h q.symm]
theorem withBlk_size {w' : World} {b : Nat} {ob : Obj} : (withBlk w' b ob).heap.size = w'.heap.size := by simp [withBlk]
/-- The last step: the builder's own block is as it is. -/
theorem builder_last {B W Z : Nat} {φ : Pl} {H : Heap} {w' : World} {o : Nat} {L : Loc} {x0 x : AObj} {ob : Obj} (h : HRel G B W Z φ H (withBlk w' L.blk ob)) (hL : φ o = some L) (hx0 : H.get o = some x0) (hd : x0 ≠ .dead) (hf : H.floor ≤ o)
    (hx : ORel φ w' B o L x) : HRel G B W Z φ (H.set o x) w' ∧ Step φ H (withBlk w' L.blk ob) φ (H.set o x) w' :=
  h.set x hL hx0 hd hf rfl rfl rfl withBlk_size.symm (fun _ hb => (withBlk_other hb).symm) hx
theorem Mono.push_set {H : Heap} {o : Nat} {x0 : AObj} (x y : AObj) (h : H.floor ≤ H.next) (hf : H.floor ≤ o) (ho : H.get o = some x0) : Mono H ((H.push x).set o y) :=
  ⟨Nat.le_succ _, rfl, fun p hp => by rw [Heap.get_set, if_neg (by omega), Heap.get_push, if_neg (by omega)], fun f p hp => by
    have hp' : H.next + 1 ≤ p := hp
    have : p ≠ o := by intro q; subst q; rw [f p (by omega)] at ho; cases ho
    rw [Heap.get_set, if_neg this, Heap.get_push, if_neg (by omega)]; exact f p (by omega)⟩
theorem row_some {w : World} {E n : Nat} {v : Value} {xs : List Value} (h : w.ownsRow 0 E 1 v n xs) (hn : v ≠ .slice none 0 0) :
    ∃ g cap cur, v = .slice (some ⟨g, 0, none⟩) n cap ∧ w.heap[g]? = some (.cells cur E (0, 0)) ∧ n ≤ cap ∧ cap ≤ 9223372036854775807 ∧ cur.size = cap ∧ cur.toList.take n = xs := by
  rcases h.2 with ⟨rfl, _⟩ | ⟨g, cap, cur, rfl, _, hg, h1, h2, h3, h4⟩
  · exact absurd rfl hn
  · exact ⟨g, cap, cur, rfl, hg, h1, h2, by simpa using h3, by simpa using h4⟩
theorem write_ok {f T E : Nat} (hfn : FnOk P f) (hc : WriteSpec P f T E) : ExtOk P G f (writeG T E) := by
  have key : ∀ (args : List AV) (H : Heap) (v : AV) (H' : Heap), writeG T E args H = some (v, H') → ∃ o s, args = [.ptr o 0, .str s] ∧ H.floor ≤ o ∧ v = .tup [.int .i64 s.length, .nili] ∧
      ((∃ b, H.get o = some (.bld T none) ∧ b = s.length ∧ s.length ≤ 140737488355328 ∧ ((s = [] ∧ H' = H.set o (.bld T none)) ∨ (s ≠ [] ∧ H' = (H.push (.buf E s)).set o (.bld T (some (H.next, s.length)))))) ∨
       (∃ q bs, H.get o = some (.bld T (some (q, bs.length))) ∧ H.get q = some (.buf E bs) ∧ H.floor ≤ q ∧ bs.length + s.length ≤ 140737488355328 ∧ H' = ((H.set q .dead).push (.buf E (bs ++ s))).set o (.bld T (some (H.next, bs.length + s.length))))) := by
    intro args H v H' hg
    unfold writeG at hg
    split at hg
    · rename_i o s
      cases hf : Nat.ble H.floor o with
      | false => rw [hf] at hg; cases hg
      | true =>
        rw [hf, cond_true] at hg
        cases hw : writeB T E o s H with
        | none => rw [hw] at hg; cases hg
        | some H2 =>
          rw [hw] at hg; simp only [Option.map_some, Option.some.injEq, Prod.mk.injEq] at hg
          obtain ⟨rfl, rfl⟩ := hg
          refine ⟨o, s, rfl, Nat.le_of_ble_eq_true hf, rfl, ?_⟩
          unfold writeB at hw
          split at hw
          · rename_i T' hb
            cases hq : (Nat.beq T' T && Nat.ble s.length 140737488355328) with
            | false => rw [hq] at hw; cases hw
            | true =>
              rw [hq, cond_true] at hw
              simp at hq
              obtain ⟨rfl, hl⟩ := hq
              refine .inl ⟨_, bldAt_some hb, rfl, hl, ?_⟩
              cases s with
              | nil => simp at hw; exact .inl ⟨rfl, hw.symm⟩
              | cons a s => simp at hw; exact .inr ⟨by simp, by rw [← hw]; rfl⟩
          · rename_i T' q n hb
            split at hw
            · rename_i E' bs hq
              cases hh : (Nat.beq T' T && Nat.beq E' E && Nat.beq n bs.length && Nat.ble H.floor q && Nat.ble (n + s.length) 140737488355328) with
              | false => rw [hh] at hw; cases hw
              | true =>
                rw [hh, cond_true] at hw
                simp at hh
                obtain ⟨⟨⟨⟨rfl, rfl⟩, rfl⟩, hfq⟩, hl⟩ := hh
                exact .inr ⟨q, bs, bldAt_some hb, bufAt_some hq, hfq, hl, by simpa using hw.symm⟩
            · cases hw
          · cases hw
    · cases hg
  refine ⟨fun args H v H' hg hfn => ?_, fun B W Z args H v H' φ w avs hg hl hH hK => ?_⟩
  · obtain ⟨o, s, _, hf, _, hcs⟩ := key _ _ _ _ hg
    rcases hcs with ⟨_, ho, _, _, ⟨_, rfl⟩ | ⟨_, rfl⟩⟩ | ⟨q, bs, ho, hq, hfq, _, rfl⟩
    · exact Mono.set _ hf ho
    · exact Mono.push_set _ _ hfn hf ho
    · have hso : ∃ x, (H.set q .dead).get o = some x := by
        rw [Heap.get_set]; split
        · exact ⟨_, rfl⟩
        · exact ⟨_, ho⟩
      obtain ⟨x, hx⟩ := hso
      exact (Mono.set .dead hfq hq).trans (Mono.push_set _ _ hfn hf hx)
  · obtain ⟨o, s, rfl, hf, rfl, hcs⟩ := key _ _ _ _ hg
    cases hl with
    | cons h1 t =>
      cases t with
      | cons h2 t =>
        cases t
        cases h1 with
        | ptr _ _ L hL =>
          cases h2 with
          | str b0 =>
            have hs0 : (natsOf b0).length = b0.size := natsOf_len b0
            have hoB : B ≤ o := Nat.le_trans hH.fl hf
            refine ⟨hfn, ?_⟩
            rcases hcs with ⟨_, ho, _, hlen, hcase⟩ | ⟨q, bs, ho, hq, hfq, hlen, rfl⟩
            · obtain ⟨p, hb, hp, hbase⟩ := hH.obj o L _ hL ho
              have hlt : L.blk < w.heap.size := hH.live_in hL ⟨_, ho, by simp⟩ hoB
              have hon : o < H.next := hH.get_lt ho
              rw [hbase]
              refine (hc (b := L.blk) (p := p) (v := .slice none 0 0) (bs := []) b0 hb hp (World.ownsRow_nil w 0 E 1) (by simp [Value.ownBlock]) (by simp; omega)).mono ?_
              rintro e w' ⟨rfl, v', hb', hown', hnil, hwh, hkept, hsz, e1, e2, e3⟩
              have hgr := hH.grown (w' := withBlk w' L.blk (.cells #[p, .slice none 0 0] T (0, 0))) (by rw [withBlk_size]; exact hsz) (fun k hk => by
                by_cases hkb : k = L.blk
                · subst hkb; rw [withBlk_same (by omega), hb]
                · rw [withBlk_other hkb]; exact hkept k hk hkb (by simp [Value.ownBlock])) e1 e2 e3
              have hret : ∀ φ' : Pl, VRel φ' (.tup [.int .i64 (natsOf b0).length, .nili]) (.tuple #[.int .i64 b0.size, .nilIface]) := fun φ' => by
                rw [hs0]; exact .tup _ _ (.cons (.int _ _) (.cons .nili .nil))
              rcases hcase with ⟨hs, rfl⟩ | ⟨hs, rfl⟩
              · have hz : b0.size = 0 := by rw [← hs0, hs]; rfl
                have hv' : v' = .slice none 0 0 := hnil.2 ⟨rfl, hz⟩
                subst hv'
                have hl := builder_last (x := .bld T none) hgr.1 hL ho (by simp) hf ⟨_, hb', .inr rfl, hbase⟩
                exact ⟨φ, _, rfl, hret φ, hl.1, hgr.2.trans hl.2⟩
              · have hz : b0.size ≠ 0 := fun q => hs (List.length_eq_zero_iff.1 (by rw [hs0, q]))
                have hv' : v' ≠ .slice none 0 0 := fun q => hz (hnil.1 q).2
                obtain ⟨g, cap, cur, rfl, hg', hn1, hn2, hn3, hn4⟩ := row_some hown' hv'
                have hgs : g = w.heap.size := by
                  rcases hwh with r | r
                  · simp [Value.ownBlock] at r
                  · simpa [Value.ownBlock] using r
                have hgb : g ≠ L.blk := by omega
                have hp1 := hH.pushAny (by exact hK) (.buf E (natsOf b0)) ⟨g, 0, cap⟩ (w' := withBlk w' L.blk (.cells #[p, .slice none 0 0] T (0, 0))) (by simp only; omega) (by rw [withBlk_size]; exact hsz) (fun k hk => by
                  by_cases hkb : k = L.blk
                  · subst hkb; rw [withBlk_same (by omega), hb]
                  · rw [withBlk_other hkb]; exact hkept k hk hkb (by simp [Value.ownBlock])) e1 e2 e3
                  ⟨cur, b0.data.toList, by rw [withBlk_other hgb]; exact hg', rfl, hn3, hn2, by rw [hs0]; simpa using hn1, rfl, by rw [hs0]; simpa [strCells_eq] using hn4⟩
                have hget : (H.push (.buf E (natsOf b0))).get o = some (.bld T none) := by rw [Heap.get_push, if_neg (by omega)]; exact ho
                have hl := builder_last (x := .bld T (some (H.next, (natsOf b0).length))) hp1.1 (hp1.2.ext _ _ hL) hget (by simp) hf ⟨_, ⟨g, 0, cap⟩, Pl.put_same _ _ _, by rw [hb', hs0]; simp, .inr rfl, hbase⟩
                exact ⟨_, _, rfl, hret _, hl.1, hp1.2.trans hl.2⟩
            · obtain ⟨p, Lq, hLq, hb, hp, hbase⟩ := hH.obj o L _ hL ho
              obtain ⟨cur0, l, hc0, hqb, hcs0, hcm0, hbl, hbs, htk⟩ := hH.obj q Lq _ hLq hq
              have hqB : B ≤ q := Nat.le_trans hH.fl hfq
              have hlt : L.blk < w.heap.size := hH.live_in hL ⟨_, ho, by simp⟩ hoB
              have hltq : Lq.blk < w.heap.size := hH.live_in hLq ⟨_, hq, by simp⟩ hqB
              have hon : o < H.next := hH.get_lt ho
              have hqn : q < H.next := hH.get_lt hq
              have hoq : o ≠ q := fun r => by subst r; rw [ho] at hq; cases hq
              have hne : Lq.blk ≠ L.blk := fun r => hoq (hH.inj o q L Lq hL hLq hoB hqB ⟨_, ho, by simp⟩ ⟨_, hq, by simp⟩ r.symm)
              have hll : l.length = bs.length := by rw [hbs]; simp
              rw [hbase]
              have hown : w.ownsRow 0 E 1 (.slice (some ⟨Lq.blk, 0, none⟩) bs.length Lq.size) (l.map fun x => Value.int .u8 x.toNat).length (l.map fun x => Value.int .u8 x.toNat) :=
                ⟨by simp, .inr ⟨Lq.blk, Lq.size, cur0, by simp [hll], Nat.zero_le _, hc0, by simp [hll]; exact hbl, by unfold maxLen; omega, by simpa using hcs0, by simp [hll]; exact htk⟩⟩
              refine (hc (b := L.blk) (p := p) b0 hb hp hown (by simp [Value.ownBlock, hne]) (by simp [hll]; omega)).mono ?_
              rintro e w' ⟨rfl, v', hb', hown', hnil, hwh, hkept, hsz, e1, e2, e3⟩
              have hret : ∀ φ' : Pl, VRel φ' (.tup [.int .i64 (natsOf b0).length, .nili]) (.tuple #[.int .i64 b0.size, .nilIface]) := fun φ' => by
                rw [hs0]; exact .tup _ _ (.cons (.int _ _) (.cons .nili .nil))
              have hv' : v' ≠ .slice none 0 0 := fun r => by have := (hnil.1 r).1; simp at this
              obtain ⟨g, cap, cur, rfl, hg', hn1, hn2, hn3, hn4⟩ := row_some hown' hv'
              have hxl : (l.map fun x => Value.int .u8 x.toNat).length = bs.length := by simp [hll]
              rw [hxl] at hn1 hn4 hb'
              have hgb : g ≠ L.blk := by
                rcases hwh with r | r <;> simp [Value.ownBlock] at r
                · rw [r]; exact hne
                · omega
              have hlen2 : (bs ++ natsOf b0).length = bs.length + b0.size := by rw [List.length_append, hs0]
              have hkept' : ∀ k, k < w.heap.size → k ≠ L.blk → k ≠ Lq.blk → w'.heap[k]? = w.heap[k]? := fun k h1 h2 h3 => hkept k h1 h2 (by simp [Value.ownBlock, h3])
              obtain ⟨X, hX⟩ : ∃ X, w'.heap[Lq.blk]? = some X := ⟨_, Array.getElem?_eq_getElem (by omega)⟩
              have hset : ∀ k, ({ w' with heap := w.heap.setIfInBounds Lq.blk X } : World).heap[k]? = if k = Lq.blk then some X else w.heap[k]? := fun k => by
                simp only [Array.getElem?_setIfInBounds]
                by_cases r : Lq.blk = k
                · subst r; simp [hltq]
                · rw [if_neg r, if_neg (fun q => r q.symm)]
              have hmid : ∀ k, k < w.heap.size → (withBlk w' L.blk (.cells #[p, .slice (some ⟨Lq.blk, 0, none⟩) bs.length Lq.size] T (0, 0))).heap[k]? = ({ w' with heap := w.heap.setIfInBounds Lq.blk X } : World).heap[k]? := fun k hk => by
                rw [hset]
                by_cases hkb : k = L.blk
                · subst hkb; rw [withBlk_same (by omega), if_neg (fun r => hne r.symm), hb]
                · rw [withBlk_other hkb]
                  by_cases hkq : k = Lq.blk
                  · rw [if_pos hkq, hkq, hX]
                  · rw [if_neg hkq]; exact hkept' k hk hkb hkq
              have hszm : ({ w' with heap := w.heap.setIfInBounds Lq.blk X } : World).heap.size = w.heap.size := by simp
              have hbuf : ∀ (φ' : Pl) (w1 : World) (i : Nat), w1.heap[g]? = some (.cells cur E (0, 0)) → ORel φ' w1 B i ⟨g, 0, cap⟩ (.buf E (bs ++ natsOf b0)) := fun φ' w1 i hw1 =>
                ⟨cur, l ++ b0.data.toList, hw1, rfl, hn3, hn2, by rw [hlen2]; exact hn1, by rw [List.map_append, hbs]; rfl, by rw [hlen2, hn4, List.map_append, strCells_eq]⟩
              have hlast : ∀ (φ' : Pl) (H1 : Heap), HRel G B W Z φ' H1 (withBlk w' L.blk (.cells #[p, .slice (some ⟨Lq.blk, 0, none⟩) bs.length Lq.size] T (0, 0))) → φ' o = some L → H1.get o = some (.bld T (some (q, bs.length))) → H1.floor ≤ o → φ' H.next = some ⟨g, 0, cap⟩ →
                  HRel G B W Z φ' (H1.set o (.bld T (some (H.next, bs.length + (natsOf b0).length)))) w' ∧ Step φ' H1 (withBlk w' L.blk (.cells #[p, .slice (some ⟨Lq.blk, 0, none⟩) bs.length Lq.size] T (0, 0))) φ' (H1.set o (.bld T (some (H.next, bs.length + (natsOf b0).length)))) w' := fun φ' H1 h1 h2 h3 h4 h5 =>
                builder_last h1 h2 h3 (by simp) h4 ⟨_, ⟨g, 0, cap⟩, h5, by rw [hb', hs0], .inr rfl, hbase⟩
              by_cases hgq : g = Lq.blk
              · have hXc : X = .cells cur E (0, 0) := by rw [← hgq, hg'] at hX; exact (Option.some.inj hX).symm
                have ht := hH.take (w' := { w' with heap := w.heap.setIfInBounds Lq.blk X }) (by exact hK) (.buf E (bs ++ natsOf b0)) (L' := ⟨g, 0, cap⟩) hLq hq (by simp) hfq e1 e2 e3 hszm hgq (fun k hk => by rw [hset, if_neg hk]) (hbuf _ _ _ (by rw [hset, if_pos hgq, hXc]))
                have hgr := ht.1.grown (w' := withBlk w' L.blk (.cells #[p, .slice (some ⟨Lq.blk, 0, none⟩) bs.length Lq.size] T (0, 0))) (by rw [withBlk_size, hszm]; exact hsz) (fun k hk => hmid k (by rw [hszm] at hk; exact hk)) rfl rfl rfl
                have hl := hlast _ _ hgr.1 (ht.2.ext _ _ hL) (by rw [Heap.get_push, if_neg (by show o ≠ H.next; omega), Heap.get_set, if_neg hoq]; exact ho) hf (Pl.put_same _ _ _)
                exact ⟨_, _, rfl, hret _, hl.1, (ht.2.trans hgr.2).trans hl.2⟩
              · have hgs : g = w.heap.size := by
                  rcases hwh with r | r <;> simp [Value.ownBlock] at r
                  · exact absurd r hgq
                  · exact r
                have hk1 := hH.set (w' := { w' with heap := w.heap.setIfInBounds Lq.blk X }) .dead hLq hq (by simp) hfq e1 e2 e3 hszm (fun k hk => by rw [hset, if_neg hk]) trivial
                have hp1 := hk1.1.pushAny (by exact hK) (.buf E (bs ++ natsOf b0)) ⟨g, 0, cap⟩ (w' := withBlk w' L.blk (.cells #[p, .slice (some ⟨Lq.blk, 0, none⟩) bs.length Lq.size] T (0, 0))) (by rw [hszm]; simp only; omega) (by rw [withBlk_size, hszm]; exact hsz) (fun k hk => hmid k (by rw [hszm] at hk; exact hk)) rfl rfl rfl (hbuf _ _ _ (by rw [withBlk_other hgb]; exact hg'))
                have hl := hlast _ _ hp1.1 (hp1.2.ext _ _ hL) (by rw [Heap.get_push, if_neg (by show o ≠ H.next; omega), Heap.get_set, if_neg hoq]; exact ho) hf (Pl.put_same _ _ _)
                exact ⟨_, _, rfl, hret _, hl.1, (hk1.2.trans hp1.2).trans hl.2⟩
theorem drew_rel {B W Z : Nat} {φ : Pl} {H : Heap} {w : World} (h : HRel G B W Z φ H w) : HRel G B W Z φ H w.drew ∧ Step φ H w φ H w.drew := h.grown (Nat.le_refl _) (fun _ _ => rfl) rfl rfl rfl
theorem string_ok {f T E : Nat} (hfn : FnOk P f) (hc : StringSpec P f T E) : ExtOk P G f (stringG T E) := by
  have key : ∀ (args : List AV) (H : Heap) (v : AV) (H' : Heap), stringG T E args H = some (v, H') → ∃ o, args = [.ptr o 0] ∧
      ((H.get o = some (.bld T none) ∧ v = .str [] ∧ H' = H) ∨
       (∃ q bs, H.get o = some (.bld T (some (q, bs.length))) ∧ H.get q = some (.buf E bs) ∧ H.floor ≤ q ∧ H.floor ≤ o ∧ 0 < bs.length ∧ v = .str bs ∧ H' = H.set q .dead)) := by
    intro args H v H' hg
    unfold stringG at hg
    split at hg
    · rename_i o
      refine ⟨o, rfl, ?_⟩
      split at hg
      · rename_i T' hb
        cases hq : Nat.beq T' T with
        | false => rw [hq] at hg; cases hg
        | true =>
          rw [hq] at hg; cases hg
          have := Nat.eq_of_beq_eq_true hq
          subst this
          exact .inl ⟨bldAt_some hb, rfl, rfl⟩
      · rename_i T' q n hb
        split at hg
        · rename_i E' bs hq
          cases hh : (Nat.beq T' T && Nat.beq E' E && Nat.beq n bs.length && Nat.ble H.floor q && Nat.blt 0 n && Nat.ble H.floor o) with
          | false => rw [hh] at hg; cases hg
          | true =>
            rw [hh] at hg; cases hg
            simp only [Bool.and_eq_true, Nat.ble_eq, Nat.blt] at hh
            obtain ⟨⟨⟨⟨⟨h1, h2⟩, h3⟩, h4⟩, h5⟩, h6⟩ := hh
            have h1 := Nat.eq_of_beq_eq_true h1
            have h2 := Nat.eq_of_beq_eq_true h2
            have h3 := Nat.eq_of_beq_eq_true h3
            subst h1; subst h2; subst h3
            exact .inr ⟨q, bs, bldAt_some hb, bufAt_some hq, h4, h6, h5, rfl, rfl⟩
        · cases hg
      · cases hg
    · cases hg
  refine ⟨fun args H v H' hg _ => ?_, fun B W Z args H v H' φ w avs hg hl hH _ => ?_⟩
  · obtain ⟨o, _, ⟨_, _, rfl⟩ | ⟨q, bs, _, hq, hf, _, _, _, rfl⟩⟩ := key _ _ _ _ hg
    · exact Mono.refl _
    · exact Mono.set _ hf hq
  · obtain ⟨o, rfl, hcs⟩ := key _ _ _ _ hg
    cases hl with
    | cons h t =>
      cases t
      cases h with
      | ptr _ _ L hL =>
        refine ⟨hfn, ?_⟩
        have hd := drew_rel hH
        rcases hcs with ⟨ho, rfl, rfl⟩ | ⟨q, bs, ho, hq, hfq, hfo, hpos, rfl, rfl⟩
        · obtain ⟨p, hb, hp, hbase⟩ := hH.obj o L _ hL ho
          rw [hbase]
          refine (hc.1 hb).mono ?_
          rintro e w' ⟨rfl, rfl⟩
          exact ⟨φ, _, rfl, .str ⟨#[]⟩, hd.1, hd.2⟩
        · obtain ⟨p, Lq, hLq, hb, hp, hbase⟩ := hH.obj o L _ hL ho
          obtain ⟨cur, l, hcq, hqb, hcs, hcm, hbl, hbs, htk⟩ := hH.obj q Lq _ hLq hq
          have hll : l.length = bs.length := by rw [hbs]; simp
          have hlt : Lq.blk < w.heap.size := hH.live_in hLq ⟨_, hq, by simp⟩ (Nat.le_trans hH.fl hfq)
          rw [hbase]
          refine (hc.2 (g := Lq.blk) (cap := Lq.size) (cur := cur) l (fun r => by subst r; simp at hll; omega) (by rw [hll]; exact hb) hcq (by omega) hcm hcs (by rw [hll]; exact htk)).mono ?_
          rintro e w' ⟨rfl, rfl⟩
          have hfz : ∀ k, k ≠ Lq.blk → (w.drew.freeze ⟨Lq.blk, 0, none⟩ l.length).heap[k]? = w.drew.heap[k]? := fun k hk => by
            unfold World.freeze
            split
            · rfl
            · simp only [Array.getElem?_modify]; rw [if_neg fun r => hk r.symm]
          have hsz : (w.drew.freeze ⟨Lq.blk, 0, none⟩ l.length).heap.size = w.drew.heap.size := by
            unfold World.freeze
            split
            · rfl
            · simp
          have e1 : (w.drew.freeze ⟨Lq.blk, 0, none⟩ l.length).os = w.drew.os ∧ (w.drew.freeze ⟨Lq.blk, 0, none⟩ l.length).tape = w.drew.tape ∧ (w.drew.freeze ⟨Lq.blk, 0, none⟩ l.length).output = w.drew.output := by
            unfold World.freeze
            split <;> exact ⟨rfl, rfl, rfl⟩
          have hk := hd.1.set (w' := w.drew.freeze ⟨Lq.blk, 0, none⟩ l.length) .dead hLq hq (by simp) hfq e1.1 e1.2.1 e1.2.2 hsz hfz trivial
          refine ⟨φ, _, rfl, ?_, hk.1, hd.2.trans hk.2⟩
          rw [hbs, ← natsOf_mk]; exact .str _
end Go.AI

/- Bytes cut into words, plainly. No claim by itself. -/
namespace Go.AI
inductive SS (α : Type) where
  | out
  | com
  | word (f : Nat) (acc : List α)
def isBl (c : Nat) : Bool := Nat.beq c 32 || Nat.beq c 9 || Nat.beq c 13 || Nat.beq c 10
/-- The words of bytes from a place on. -/
def scanW {α : Type} (val : α → Nat) : List α → Nat → SS α → List (Nat × List α)
  | [], _, .word f acc => [(f, acc.reverse)]
  | [], _, .out => []
  | [], _, .com => []
  | c :: r, p, .out => bif isBl (val c) then scanW val r (p + 1) .out else bif Nat.beq (val c) 35 then scanW val r (p + 1) .com else scanW val r (p + 1) (.word p [c])
  | c :: r, p, .com => bif Nat.beq (val c) 10 then scanW val r (p + 1) .out else scanW val r (p + 1) .com
  | c :: r, p, .word f acc => bif isBl (val c) then (f, acc.reverse) :: scanW val r (p + 1) .out else scanW val r (p + 1) (.word f (c :: acc))
section
variable {α : Type} {val : α → Nat}
theorem drop_get {l : List α} {k : Nat} {c : α} (h : l[k]? = some c) : l.drop k = c :: l.drop (k + 1) := by
  obtain ⟨hk, rfl⟩ := List.getElem?_eq_some_iff.1 h
  exact List.drop_eq_getElem_cons hk
theorem bl10 : isBl 10 = true := rfl
theorem bl35 : isBl 35 = false := rfl
theorem scan_blank {l : List α} {k : Nat} {c : α} (h : l[k]? = some c) (hb : isBl (val c) = true) : scanW val (l.drop k) k .out = scanW val (l.drop (k + 1)) (k + 1) .out := by
  rw [drop_get h]; simp [scanW, hb]
theorem scan_hash {l : List α} {k : Nat} {c : α} (h : l[k]? = some c) (hb : val c = 35) : scanW val (l.drop k) k .out = scanW val (l.drop k) k .com := by
  rw [drop_get h]; simp [scanW, hb, bl35]
theorem scan_com {l : List α} {k : Nat} {c : α} (h : l[k]? = some c) (hb : val c ≠ 10) : scanW val (l.drop k) k .com = scanW val (l.drop (k + 1)) (k + 1) .com := by
  rw [drop_get h]; simp [scanW, hb]
theorem scan_comend {l : List α} {k : Nat} (h : ∀ c, l[k]? = some c → val c = 10) : scanW val (l.drop k) k .com = scanW val (l.drop k) k .out := by
  cases hc : l[k]? with
  | none => rw [List.drop_eq_nil_of_le (by simpa using hc)]; rfl
  | some c => rw [drop_get hc]; simp [scanW, h c hc, bl10]
theorem scan_start {l : List α} {k : Nat} {c : α} (h : l[k]? = some c) (hb : isBl (val c) = false) (h5 : val c ≠ 35) : scanW val (l.drop k) k .out = scanW val (l.drop k) k (.word k []) := by
  rw [drop_get h]; simp [scanW, hb, h5]
theorem take_drop_succ {l : List α} {k m : Nat} {c : α} (h : l[m]? = some c) (hk : k ≤ m) : (l.drop k).take (m + 1 - k) = (l.drop k).take (m - k) ++ [c] := by
  have e : m + 1 - k = (m - k) + 1 := by omega
  rw [e, List.take_add_one, List.getElem?_drop]
  have : k + (m - k) = m := by omega
  rw [this, h]; rfl
theorem scan_word {l : List α} {k m : Nat} {c : α} (h : l[m]? = some c) (hk : k ≤ m) (hb : isBl (val c) = false) :
    scanW val (l.drop m) m (.word k ((l.drop k).take (m - k)).reverse) = scanW val (l.drop (m + 1)) (m + 1) (.word k ((l.drop k).take (m + 1 - k)).reverse) := by
  rw [drop_get h, take_drop_succ h hk]; simp [scanW, hb]
theorem scan_wordend {l : List α} {k m : Nat} (h : ∀ c, l[m]? = some c → isBl (val c) = true) :
    scanW val (l.drop m) m (.word k ((l.drop k).take (m - k)).reverse) = (k, (l.drop k).take (m - k)) :: scanW val (l.drop m) m .out := by
  cases hc : l[m]? with
  | none => rw [List.drop_eq_nil_of_le (by simpa using hc)]; simp [scanW]
  | some c => rw [drop_get hc]; simp [scanW, h c hc]
theorem scan_end {l : List α} : scanW val (l.drop l.length) l.length .out = [] := by simp [scanW]
theorem scan_map {β : Type} (g : α → β) (v2 : β → Nat) (hv : ∀ a, v2 (g a) = val a) : ∀ (l : List α) (p : Nat) (s : SS α),
    scanW v2 (l.map g) p (match s with | .out => .out | .com => .com | .word f acc => .word f (acc.map g)) = (scanW val l p s).map fun t => (t.1, t.2.map g)
  | [], p, .out => rfl
  | [], p, .com => rfl
  | [], p, .word f acc => by simp [scanW]
  | c :: r, p, .out => by
    have h1 := scan_map g v2 hv r (p + 1) .out
    have h2 := scan_map g v2 hv r (p + 1) .com
    have h3 := scan_map g v2 hv r (p + 1) (.word p [c])
    simp only [List.map_cons, scanW, hv]
    cases isBl (val c) with
    | true => simpa using h1
    | false =>
      simp only [cond_false]
      cases Nat.beq (val c) 35 with
      | true => simpa using h2
      | false => simpa using h3
  | c :: r, p, .com => by
    have h1 := scan_map g v2 hv r (p + 1) .out
    have h2 := scan_map g v2 hv r (p + 1) .com
    simp only [List.map_cons, scanW, hv]
    cases Nat.beq (val c) 10 with
    | true => simpa using h1
    | false => simpa using h2
  | c :: r, p, .word f acc => by
    have h1 := scan_map g v2 hv r (p + 1) .out
    have h3 := scan_map g v2 hv r (p + 1) (.word f (c :: acc))
    simp only [List.map_cons, scanW, hv]
    cases isBl (val c) with
    | true => simp only [cond_true, List.map_cons, List.map_reverse, h1]
    | false => simpa using h3
theorem scan_len : ∀ (l : List α) (p : Nat) (s : SS α), (scanW val l p s).length ≤ l.length + (match s with | .word _ _ => 1 | _ => 0)
  | [], p, .out => by simp [scanW]
  | [], p, .com => by simp [scanW]
  | [], p, .word f acc => by simp [scanW]
  | c :: r, p, .out => by
    have h1 := scan_len r (p + 1) .out
    have h2 := scan_len r (p + 1) .com
    have h3 := scan_len r (p + 1) (.word p [c])
    simp only [scanW, List.length_cons]
    cases isBl (val c) with
    | true => simp only [cond_true]; simp at h1 ⊢; omega
    | false =>
      simp only [cond_false]
      cases Nat.beq (val c) 35 with
      | true => simp at h2 ⊢; omega
      | false => simp at h3 ⊢; omega
  | c :: r, p, .com => by
    have h1 := scan_len r (p + 1) .out
    have h2 := scan_len r (p + 1) .com
    simp only [scanW, List.length_cons]
    cases Nat.beq (val c) 10 with
    | true => simp at h1 ⊢; omega
    | false => simp at h2 ⊢; omega
  | c :: r, p, .word f acc => by
    have h1 := scan_len r (p + 1) .out
    have h3 := scan_len r (p + 1) (.word f (c :: acc))
    simp only [scanW, List.length_cons]
    cases isBl (val c) with
    | true => simp at h1 ⊢; omega
    | false => simp at h3 ⊢; omega
end
end Go.AI

/- The cutting into words, told. No claim by itself. -/
namespace Go.AI
variable {P : Program} {G : World → Prop}
def tokA (t : Nat × List Nat) : List AV := [.int .i64 (t.1 : Int), .str t.2]
def bytesA (H : Heap) : AV → Option (List Nat)
  | .nils => some []
  | .slc o off len 1 _ _ => (H.readSeg o off len).bind bytesOf
  | _ => none
def idN (n : Nat) : Nat := n
def wordsN (s : List Nat) : List (Nat × List Nat) := scanW idN s 0 .out
def allG : List AV → Heap → Option (AV × Heap)
  | [x], H =>
    match bytesA H x with
    | some s =>
      bif Nat.ble s.length 1048576 then
        match wordsN s with
        | [] => some (.tup [.nils, .int .i64 0], H)
        | t :: ws => some (.tup [.slc H.next 0 (t :: ws).length 2 (t :: ws).length false, .int .i64 0], H.push (.cells ((t :: ws).flatMap tokA)))
      else some (.tup [.nils, .int .i64 3], H)
    | none => none
  | _, _ => none
def tokV (t : Nat × List UInt8) : List Value := [.int .i64 (t.1 : Int), .string ⟨t.2.toArray⟩]
def AllSpec (P : Program) (f E : Nat) : Prop :=
  (∀ (a : Option Addr) (len cap : Nat) (zs : List UInt8), zs.length = len → len ≤ 1048576 → ∀ (w : World),
    (len = 0 ∨ ∃ b off, a = some ⟨b, off, none⟩ ∧ len ≤ cap ∧ (0 < len → b < w.heap.size) ∧ ∀ j x, zs[j]? = some x → w.cell? ⟨b, off + j, none⟩ = some (.int .u8 x.toNat)) →
    Calls P f #[.slice a len cap] w fun e W' => ∃ v, e = .returned (.tuple #[v, .int .i64 0]) ∧
      W'.ownsRow w.heap.size E 2 v (scanW UInt8.toNat zs 0 .out).length ((scanW UInt8.toNat zs 0 .out).flatMap tokV) ∧ (v = .slice none 0 0 ↔ scanW UInt8.toNat zs 0 .out = []) ∧ RowKit.Below w.heap.size w W') ∧
  (∀ (a : Option Addr) (len cap : Nat), 1048576 < len → ∀ (w : World), Calls P f #[.slice a len cap] w fun e w' => e = .returned (.tuple #[.slice none 0 0, .int .i64 3]) ∧ w' = w)
theorem bytes_rel {φ : Pl} : ∀ {xs : List AV} {vs : List Value} {s : List Nat}, LRel φ xs vs → bytesOf xs = some s → xs.length = s.length ∧ (∀ n, n ∈ s → n < 256) ∧ vs = s.map fun (n : Nat) => Value.int .u8 (n : Int)
  | [], _, s, .nil, h => by simp [bytesOf] at h; subst h; exact ⟨rfl, fun n hn => by simp at hn, rfl⟩
  | x :: xs, _, s, .cons h1 t, h => by
    cases x with
    | int k n =>
      cases k with
      | u8 =>
        simp only [bytesOf] at h
        split at h
        · rename_i hn
          cases hb : bytesOf xs with
          | none => rw [hb] at h; cases h
          | some s' =>
            rw [hb] at h; simp at h; subst h
            obtain ⟨a, b, c⟩ := bytes_rel t hb
            cases h1
            refine ⟨by simp [a], fun m hm => ?_, ?_⟩
            · rcases List.mem_cons.1 hm with r | r
              · subst r; omega
              · exact b m r
            · rw [c, List.map_cons, Int.toNat_of_nonneg hn.1]
        · cases h
      | _ => simp [bytesOf] at h
    | _ => simp [bytesOf] at h
theorem words_rel (zs : List UInt8) : wordsN (zs.map UInt8.toNat) = (scanW UInt8.toNat zs 0 .out).map fun t => (t.1, t.2.map UInt8.toNat) :=
  scan_map UInt8.toNat idN (fun _ => rfl) zs 0 .out
theorem toks_rel (φ : Pl) : ∀ (l : List (Nat × List UInt8)), LRel φ ((l.map fun t => (t.1, t.2.map UInt8.toNat)).flatMap tokA) (l.flatMap tokV)
  | [] => .nil
  | t :: l => by
    have ih := toks_rel φ l
    simp only [List.map_cons, List.flatMap_cons, tokA, tokV, List.cons_append, List.nil_append]
    exact .cons (.int _ _) (.cons (by rw [← natsOf_mk]; exact .str _) ih)
theorem at_of_list {φ : Pl} {w : World} {g E : Nat} {cur : Array Value} {cs : List AV} {vs : List Value} (hg : w.heap[g]? = some (.cells cur E (0, 0))) (ht : cur.toList.take vs.length = vs) (hl : LRel φ cs vs) (s : Nat) : At φ w ⟨g, 0, s⟩ cs := fun i a ha => by
  obtain ⟨v, hv, hr⟩ := hl.getE ha
  refine ⟨v, ?_, hr⟩
  have hi : i < vs.length := (List.getElem?_eq_some_iff.1 hv).1
  have : (cur.toList.take vs.length)[i]? = some v := by rw [ht]; exact hv
  rw [List.getElem?_take, if_pos hi] at this
  rw [cell_of_block hg, Nat.zero_add]; simpa using this
theorem all_ok {f E : Nat} (hfn : FnOk P f) (hc : AllSpec P f E) : ExtOk P G f allG := by
  have key : ∀ (args : List AV) (H : Heap) (v : AV) (H' : Heap), allG args H = some (v, H') → ∃ x s, args = [x] ∧ bytesA H x = some s ∧
      ((1048576 < s.length ∧ v = .tup [.nils, .int .i64 3] ∧ H' = H) ∨
       (s.length ≤ 1048576 ∧ wordsN s = [] ∧ v = .tup [.nils, .int .i64 0] ∧ H' = H) ∨
       (s.length ≤ 1048576 ∧ wordsN s ≠ [] ∧ v = .tup [.slc H.next 0 (wordsN s).length 2 (wordsN s).length false, .int .i64 0] ∧ H' = H.push (.cells ((wordsN s).flatMap tokA)))) := by
    intro args H v H' hg
    unfold allG at hg
    split at hg
    · rename_i x
      split at hg
      · rename_i s hs
        refine ⟨x, s, rfl, hs, ?_⟩
        cases hb : Nat.ble s.length 1048576 with
        | false =>
          rw [hb] at hg; cases hg
          have : ¬ s.length ≤ 1048576 := fun q => by rw [Nat.ble_eq_true_of_le q] at hb; cases hb
          exact .inl ⟨by omega, rfl, rfl⟩
        | true =>
          rw [hb, cond_true] at hg
          have hle := Nat.le_of_ble_eq_true hb
          split at hg
          · rename_i hw; cases hg; exact .inr (.inl ⟨hle, hw, rfl, rfl⟩)
          · rename_i t ws hw; cases hg; exact .inr (.inr ⟨hle, by rw [hw]; simp, by rw [hw], by rw [hw]⟩)
      · cases hg
    · cases hg
  refine ⟨fun args H v H' hg hf => ?_, fun B W Z args H v H' φ w avs hg hl hH hK => ?_⟩
  · obtain ⟨_, _, _, _, ⟨_, _, rfl⟩ | ⟨_, _, _, rfl⟩ | ⟨_, _, _, rfl⟩⟩ := key _ _ _ _ hg
    · exact Mono.refl _
    · exact Mono.refl _
    · exact Mono.push _ hf
  · obtain ⟨x, s, rfl, hbx, hcs⟩ := key _ _ _ _ hg
    cases hl with
    | @cons _ xv _ _ hx t =>
      cases t
      refine ⟨hfn, ?_⟩
      -- the argument's bytes
      obtain ⟨a, cap, zs, rfl, hzs, hcond⟩ : ∃ (a : Option Addr) (cap : Nat) (zs : List UInt8), xv = Value.slice a zs.length cap ∧ s = zs.map UInt8.toNat ∧
          (zs.length = 0 ∨ ∃ b off, a = some ⟨b, off, none⟩ ∧ zs.length ≤ cap ∧ (0 < zs.length → b < w.heap.size) ∧ ∀ j x, zs[j]? = some x → w.cell? ⟨b, off + j, none⟩ = some (.int .u8 x.toNat)) := by
        unfold bytesA at hbx
        split at hbx
        · cases hx; cases hbx
          exact ⟨none, 0, [], rfl, rfl, .inl rfl⟩
        · rename_i o off len lo ex
          cases hrs : H.readSeg o off len with
          | none => rw [hrs] at hbx; cases hbx
          | some xs =>
            rw [hrs] at hbx
            have hbx : bytesOf xs = some s := hbx
            obtain ⟨cs, hcs', hseg⟩ := readSeg_some hrs
            have hxl : xs.length = len := by
              obtain ⟨q1, rfl⟩ := seg_some hseg; simp; omega
            cases hx with
            | slc _ _ _ _ _ _ L cap hL q1 q2 q3 q4 =>
              have hat := ((hH.at_ hL hcs').1.seg hseg).2
              obtain ⟨vs, g1, g2⟩ := run_loadCells (P := P) hat.size
              obtain ⟨b1, b2, b3⟩ := bytes_rel g2 hbx
              have hlen : (s.map UInt8.ofNat).length = len := by rw [List.length_map, ← b1, hxl]
              refine ⟨_, cap, s.map UInt8.ofNat, by rw [hlen], ?_, .inr ⟨L.blk, L.base + off, rfl, by omega, fun hpos => ?_, fun j y hj => ?_⟩⟩
              · rw [List.map_map]
                have : ∀ n, n ∈ s → (UInt8.toNat ∘ UInt8.ofNat) n = n := fun n hn => by
                  show (UInt8.ofNat n).toNat = n
                  rw [UInt8.toNat_ofNat', Nat.mod_eq_of_lt (b2 n hn)]
                rw [List.map_congr_left this]; simp
              · by_cases hB : B ≤ o
                · exact hH.live_in hL ⟨_, cellsAt_some hcs', by simp⟩ hB
                · exact Nat.lt_of_lt_of_le (hH.low o L hL (by omega)) hH.wsz
              · rw [List.getElem?_map] at hj
                cases hq : s[j]? with
                | none => rw [hq] at hj; cases hj
                | some n =>
                  rw [hq] at hj; cases hj
                  have hn := b2 n (List.mem_of_getElem? hq)
                  have hjx : j < xs.length := by rw [b1]; exact (List.getElem?_eq_some_iff.1 hq).1
                  obtain ⟨u, hu, hv⟩ := hat j _ (List.getElem?_eq_getElem hjx)
                  have : u = .int .u8 (n : Int) := by
                    have hv2 := g2
                    obtain ⟨v2, e1, e2⟩ := g2.getE (List.getElem?_eq_getElem hjx)
                    rw [b3, List.getElem?_map, hq] at e1; cases e1
                    generalize xs[j] = ax at hv e2
                    cases e2; cases hv; rfl
                  rw [UInt8.toNat_ofNat', Nat.mod_eq_of_lt hn, ← this]
                  simpa using hu
            | slc0 _ _ _ _ a =>
              have : s = [] := by
                have : xs = [] := List.length_eq_zero_iff.1 hxl
                subst this; simp [bytesOf] at hbx; exact hbx
              subst this
              exact ⟨some a, 0, [], rfl, rfl, .inl rfl⟩
        · cases hbx
      have hsl : s.length = zs.length := by rw [hzs, List.length_map]
      rcases hcs with ⟨hlong, rfl, rfl⟩ | ⟨hle, hw, rfl, rfl⟩ | ⟨hle, hw, rfl, rfl⟩
      · refine (hc.2 a zs.length cap (by omega) w).mono ?_
        rintro e w' ⟨rfl, rfl⟩
        exact ⟨φ, _, rfl, .tup _ _ (.cons .nils (.cons (.int _ _) .nil)), hH, Step.refl _ _ _⟩
      · refine (hc.1 a zs.length cap zs rfl (by omega) w hcond).mono ?_
        rintro e w' ⟨v, rfl, hown, hnil, hbel⟩
        have : scanW UInt8.toNat zs 0 .out = [] := by
          rw [hzs, words_rel] at hw; simpa using hw
        have hv := hnil.2 this
        subst hv
        have hgr := hH.grown hbel.size hbel.block hbel.os hbel.tape hbel.output
        exact ⟨φ, _, rfl, .tup _ _ (.cons .nils (.cons (.int _ _) .nil)), hgr.1, hgr.2⟩
      · refine (hc.1 a zs.length cap zs rfl (by omega) w hcond).mono ?_
        rintro e w' ⟨v, rfl, hown, hnil, hbel⟩
        rw [hzs, words_rel] at hw ⊢
        have hne : v ≠ .slice none 0 0 := fun q => hw (by rw [hnil.1 q]; rfl)
        rcases hown.2 with ⟨q, _⟩ | ⟨g, cap', cur, rfl, hgb, hg, hn1, hn2, hn3, hn4⟩
        · exact absurd q hne
        · have hlenv : ((scanW UInt8.toNat zs 0 .out).flatMap tokV).length = (scanW UInt8.toNat zs 0 .out).length * 2 := by simpa using hown.1
          have hat := at_of_list (φ := φ.put H.next ⟨g, 0, cap' * 2⟩) hg (by rw [hlenv]; exact hn4) (toks_rel _ (scanW UInt8.toNat zs 0 .out)) (cap' * 2)
          have hp := hH.pushAny (w' := w') (by exact hK) (.cells (((scanW UInt8.toNat zs 0 .out).map fun t => (t.1, t.2.map UInt8.toNat)).flatMap tokA)) ⟨g, 0, cap' * 2⟩ hgb hbel.size hbel.block hbel.os hbel.tape hbel.output
            ⟨hat, by rw [(toks_rel (fun _ => none) _).len, hlenv]; simp only; omega, fun _ => ⟨cur, E, (0, 0), hg, hn3, .inl rfl⟩⟩
          refine ⟨_, _, rfl, .tup _ _ (.cons ?_ (.cons (.int _ _) .nil)), hp.1, hp.2⟩
          have := VRel.slc (φ := φ.put H.next ⟨g, 0, cap' * 2⟩) H.next 0 (scanW UInt8.toNat zs 0 .out).length 2 (scanW UInt8.toNat zs 0 .out).length false ⟨g, 0, cap' * 2⟩ cap' (Pl.put_same _ _ _) (Nat.le_refl _) hn1 (fun q => by cases q) (by simp)
          simpa using this
end Go.AI

/- Lists built by appending; objects written; strings. No claim by itself. -/
namespace Go.AI
theorem get_setH {H : Heap} {x : AObj} {o o' : Nat} : (H.set o x).get o' = if o' = o then some x else H.get o' := Tr.get_set _ _ _ _
theorem cellsAt_get {H : Heap} {o : Nat} {cs : List AV} (h : H.get o = some (.cells cs)) : H.cellsAt o = some cs := by
  unfold Heap.cellsAt; rw [h]
theorem get_cellsAt {H : Heap} {o : Nat} {cs : List AV} (h : H.cellsAt o = some cs) : H.get o = some (.cells cs) := by
  unfold Heap.cellsAt at h; split at h
  · rename_i x hx; cases h; exact hx
  · cases h
theorem Wf.set {H : Heap} (h : H.Wf) {o : Nat} {x : AObj} (ho : o < H.next) : (H.set o x).Wf := ⟨h.1, fun o' hn => by
  rw [get_setH, if_neg (by have : H.next ≤ o' := hn; omega)]; exact h.2 _ hn⟩
theorem Heap.Wf.lt {H : Heap} (h : H.Wf) {o : Nat} {x : AObj} (e : H.get o = some x) : o < H.next := Classical.byContradiction fun q => by
  rw [h.2 o (by omega)] at e; cases e
theorem load_get {H : Heap} {o off : Nat} {cs : List AV} {x : AV} (h : H.get o = some (.cells cs)) (k : cs[off]? = some x) : loadA H none (.ptr o off) = some x := by
  rw [loadA_ptr, cellsAt_get h]; exact k
theorem load_agg {H : Heap} {o off n : Nat} {cs ys : List AV} (h : H.get o = some (.cells cs)) (k : seg cs off n = some ys) : loadA H (some n) (.ptr o off) = some (.agg ys) := by
  rw [loadA_ptr, cellsAt_get h]; simp [partA, k]
def frB (p x : AV) : Bool := match p with | .ptr p _ => (match x with | .slc o _ _ _ _ _ => !Nat.beq p o | _ => true) | _ => false
theorem frees_append {τ : Env} {d : Option Nat} {e b : Nat} {x y : Opd} {g : Option (Nat × Bool)} {q : Bool} {fr : List Nat} : freesOk τ ⟨d, .append e b x y, g, q, fr⟩ = fr.all fun t => frB (Env.at τ t) (ev τ x) := by
  unfold freesOk
  congr 1
  funext t
  cases Env.at τ t with
  | ptr p o =>
    show (true && match (match ev τ x with | .slc o _ _ _ _ _ => some o | _ => none) with | some q => !(Nat.beq p q) | none => true) = frB (.ptr p o) (ev τ x)
    cases ev τ x <;> rfl
  | _ => rfl
@[simp] theorem Wo_frapp {FT : Nat → Option FnD} {τ : Env} {H : Heap} {Q : Post} {dst : Option Nat} {sz b : Nat} {x y : Opd} {t : Nat} {fr : List Nat} {rest : List AOper} :
    Wo FT (⟨dst, .append sz b x y, none, false, t :: fr⟩ :: rest) τ H Q ↔ ((t :: fr).all fun t => frB (Env.at τ t) (ev τ x)) = true ∧ opK FT dst rest τ Q (appendA sz b H (ev τ x) (ev τ y)) := by
  by_cases h : ((t :: fr).all fun t => frB (Env.at τ t) (ev τ x)) = true
  · rw [Wo_op (by intros; simp) (by rw [frees_append]; exact h)]
    simp only [h, true_and]
    rfl
  · constructor
    · rintro ⟨n, τ', H', e, q⟩
      have hf : freesOk τ ⟨dst, .append sz b x y, none, false, t :: fr⟩ = false := by
        rw [frees_append]; simpa using h
      simp only [opsA, wantedA, cond_true, hf, cond_false] at e
      cases e
    · exact fun q => (h q.1).elim
def rowObj : AV → Option Nat
  | .slc o _ _ _ _ _ => some o
  | _ => none
/-- A slice that this run built: its object holds just its items. -/
def Ow {α : Type} (e : Nat) (enc : α → List AV) (H : Heap) (v : AV) (xs : List α) : Prop :=
  (v = .nils ∧ xs = []) ∨ ∃ o, v = .slc o 0 xs.length e xs.length false ∧ xs ≠ [] ∧ H.get o = some (.cells (xs.flatMap enc)) ∧ H.floor ≤ o
/-- A slice that reads whole. -/
def Sw {α : Type} (e : Nat) (enc : α → List AV) (H : Heap) (v : AV) (xs : List α) : Prop :=
  (v = .nils ∧ xs = []) ∨ ∃ o off lo ex, v = .slc o off xs.length e lo ex ∧ H.readSeg o off (xs.length * e) = some (xs.flatMap enc)
section
variable {α : Type} {e : Nat} {enc : α → List AV} {H H0 : Heap} {v : AV} {xs ys : List α}
theorem Ow.sl (hn : ∀ x, (enc x).length = e) (h : Ow e enc H v xs) : Sl e enc H v xs := by
  rcases h with h | ⟨o, rfl, _, h2, _⟩
  · exact .inl h
  · exact Sl.ofCells hn h2
theorem seg_all {cs : List AV} {n : Nat} (h : cs.length = n) : seg cs 0 n = some cs := by
  have hb : Nat.ble (0 + n) cs.length = true := Nat.ble_eq_true_of_le (by omega)
  simp only [seg, hb, cond_true, List.drop_zero]
  rw [List.take_of_length_le (by omega)]
theorem Ow.sw (hn : ∀ x, (enc x).length = e) (h : Ow e enc H v xs) : Sw e enc H v xs := by
  rcases h with h | ⟨o, rfl, _, h2, _⟩
  · exact .inl h
  · refine .inr ⟨o, 0, _, _, rfl, ?_⟩
    unfold Heap.readSeg
    rw [cellsAt_get h2]
    exact seg_all (flat_len hn xs)
theorem Ow.keep {H' : Heap} (h : Ow e enc H v xs) (hf : H'.floor = H.floor) (k : ∀ o, rowObj v = some o → H'.get o = H.get o) : Ow e enc H' v xs := by
  rcases h with h | ⟨o, rfl, h1, h2, h3⟩
  · exact .inl h
  · exact .inr ⟨o, rfl, h1, by rw [k o rfl]; exact h2, by rw [hf]; exact h3⟩
theorem Ow.app (hn : ∀ x, (enc x).length = e) (_ : 1 ≤ e) (h1 : ∀ x, allOne (enc x) = true) {bytes : Nat} {y : AV} (hw : H.Wf) (hx : Ow e enc H v xs) (hy : Sw e enc H y ys) (hb : (2 * (xs.length + ys.length) + 1024) * bytes ≤ 2 ^ 48) :
    ∃ v' H', appendA e bytes H v y = some (v', H') ∧ Ow e enc H' v' (xs ++ ys) ∧ H'.Wf ∧ H'.floor = H.floor ∧ H.next ≤ H'.next ∧ (∀ o, o < H.next → rowObj v ≠ some o → H'.get o = H.get o) ∧ ∀ o, rowObj v' = some o → rowObj v = some o ∨ (H.next ≤ o ∧ o < H'.next) := by
  have hone : ∀ zs : List α, allOne (zs.flatMap enc) = true := by
    intro zs
    unfold allOne
    rw [List.all_eq_true]
    intro a ha
    obtain ⟨z, _, hz⟩ := List.mem_flatMap.1 ha
    have := h1 z
    unfold allOne at this
    rw [List.all_eq_true] at this
    exact this a hz
  have hsrc : srcA e H y = some (ys.length, ys.flatMap enc) := by
    rcases hy with ⟨rfl, rfl⟩ | ⟨o, off, lo, ex, rfl, hr⟩
    · rfl
    · simp only [srcA, Nat.beq_refl, cond_true, hr, Option.map_some]
  by_cases h0 : ys = []
  · subst h0
    refine ⟨v, H, ?_, by rw [List.append_nil]; exact hx, hw, rfl, Nat.le_refl _, fun _ _ _ => rfl, fun o q => .inl q⟩
    rcases hx with ⟨rfl, rfl⟩ | ⟨o, rfl, h2, h3, h4⟩
    · simp only [appendA, hsrc, hone, cond_true]; rfl
    · simp [appendA, hsrc]
  · have hl0 : Nat.beq ys.length 0 = false := by
      rw [Tr.nbeq]
      have : ys.length ≠ 0 := fun q => h0 (List.length_eq_zero_iff.1 q)
      simp [this]
    rcases hx with ⟨rfl, rfl⟩ | ⟨o, rfl, h2, h3, h4⟩
    · have hbig : Nat.ble ((2 * ys.length + 1024) * bytes) (2 ^ 48) = true := Nat.ble_eq_true_of_le (by simpa using hb)
      refine ⟨.slc H.next 0 ys.length e ys.length false, H.push (.cells (ys.flatMap enc)), ?_, .inr ⟨H.next, rfl, h0, get_pushN.trans (if_pos rfl), hw.1⟩, hw.push _, rfl, Nat.le_succ _, fun o ho _ => get_pushN.trans (if_neg (by omega)), fun o q => .inr ?_⟩
      · simp only [appendA, hsrc, hone, cond_true, hl0, cond_false, hbig]
      · cases q; exact ⟨Nat.le_refl _, Nat.lt_succ_self _⟩
    · have hb1 : Nat.ble (xs.length + ys.length) xs.length = false := by
        cases hh : Nat.ble (xs.length + ys.length) xs.length with
        | false => rfl
        | true =>
          have := Nat.le_of_ble_eq_true hh
          have : ys.length ≠ 0 := fun q => h0 (List.length_eq_zero_iff.1 q)
          omega
      have hbig : Nat.ble ((2 * (xs.length + ys.length) + 1024) * bytes) (2 ^ 48) = true := Nat.ble_eq_true_of_le hb
      have ho : o < H.next := Classical.byContradiction fun q => by
        have := hw.2 o (by omega); rw [this] at h3; cases h3
      have hread : H.readSeg o 0 (xs.length * e) = some (xs.flatMap enc) := by
        unfold Heap.readSeg
        rw [cellsAt_get h3]
        exact seg_all (flat_len hn xs)
      have hfl : Nat.ble H.floor o = true := Nat.ble_eq_true_of_le h4
      have hne : xs ++ ys ≠ [] := fun q => h2 (List.append_eq_nil_iff.1 q).1
      refine ⟨.slc H.next 0 (xs.length + ys.length) e (xs.length + ys.length) false, (H.set o .dead).push (.cells (xs.flatMap enc ++ ys.flatMap enc)), ?_, .inr ⟨H.next, by rw [List.length_append], hne, ?_, hw.1⟩, (Wf.set hw ho).push _, rfl, Nat.le_succ _, fun o' ho' hne' => ?_, fun o' q => .inr ?_⟩
      · simp only [appendA, hsrc, hone, cond_true, Nat.beq_refl, hl0, cond_false, hb1, hbig, hread, hfl]
      · rw [List.flatMap_append]; exact get_pushN.trans (if_pos rfl)
      · have q : o' ≠ o := fun q => hne' (by rw [q]; rfl)
        exact (get_pushN.trans (if_neg (by show ¬ o' = H.next; omega))).trans (get_setH.trans (if_neg q))
      · cases q; exact ⟨Nat.le_refl _, Nat.lt_succ_self _⟩
/-- Building a list over the memory H0, of which the object X may be used up. -/
structure Bx (X : Option Nat) (e : Nat) (enc : α → List AV) (H0 H : Heap) (v : AV) (xs : List α) : Prop where
  wf : H.Wf
  fl : H.floor = H0.floor
  nx : H0.next ≤ H.next
  old : ∀ o x, o < H0.next → X ≠ some o → H0.get o = some x → H.get o = some x
  ow : Ow e enc H v xs
  fresh : ∀ o, rowObj v = some o → (X = some o ∨ H0.next ≤ o) ∧ o < H.next
abbrev Bd (e : Nat) (enc : α → List AV) (H0 H : Heap) (v : AV) (xs : List α) : Prop := Bx none e enc H0 H v xs
variable {X : Option Nat}
theorem Bd.init (hw : H.Wf) : Bd e enc H H .nils ([] : List α) := ⟨hw, rfl, Nat.le_refl _, fun _ _ _ _ q => q, .inl ⟨rfl, rfl⟩, fun _ q => by cases q⟩
theorem Bd.ext (h : Bd e enc H0 H v xs) (hw0 : H0.Wf) : Ext H0 H := ⟨h.fl, h.nx, fun o x q => by
  have ho : o < H0.next := Classical.byContradiction fun k => by
    have := hw0.2 o (by omega); rw [this] at q; cases q
  exact h.old o x ho (fun q => by cases q) q, h.wf⟩
theorem Bx.keep {β : Type} {e' : Nat} {enc' : β → List AV} {w : AV} {ys : List β} (h : Bx X e enc H0 H v xs) (hw0 : H0.Wf) (k : Sl e' enc' H0 w ys) (d : ∀ o, rowObj w = some o → X ≠ some o) : Sl e' enc' H w ys := by
  rcases k with k | ⟨o, off, lo, ex, cs, a, b, c⟩
  · exact .inl k
  · refine .inr ⟨o, off, lo, ex, cs, a, ?_, c⟩
    unfold Heap.cellsAt at b ⊢
    cases q : H0.get o with
    | none => rw [q] at b; cases b
    | some x =>
      have ho : o < H0.next := Classical.byContradiction fun k => by
        have := hw0.2 o (by omega); rw [this] at q; cases q
      rw [h.old o x ho (d o (by rw [a]; rfl)) q]
      rw [q] at b; exact b
theorem Bx.after {H' : Heap} (h : Bx X e enc H0 H v xs) (k : Ext H H') : Bx X e enc H0 H' v xs := by
  have := h.nx
  have := k.next
  refine ⟨k.wf, k.floor.trans h.fl, by omega, fun o x a b c => k.keep o x (h.old o x a b c), ?_, fun o q => ?_⟩
  · rcases h.ow with q | ⟨o, rfl, h1, h2, h3⟩
    · exact .inl q
    · exact .inr ⟨o, rfl, h1, k.keep _ _ h2, by rw [k.floor]; exact h3⟩
  · have := h.fresh o q; exact ⟨this.1, by omega⟩
theorem Bx.push (h : Bx X e enc H0 H v xs) {x : AObj} : Bx X e enc H0 (H.push x) v xs := h.after (Ext.push h.wf x)
/-- More items at once. -/
theorem Bx.appS (hn : ∀ x, (enc x).length = e) (he : 1 ≤ e) (h1 : ∀ x, allOne (enc x) = true) {bytes : Nat} {y : AV} (h : Bx X e enc H0 H v xs) (hy : Sw e enc H y ys) (hb : (2 * (xs.length + ys.length) + 1024) * bytes ≤ 2 ^ 48) :
    ∃ v' H', appendA e bytes H v y = some (v', H') ∧ Bx X e enc H0 H' v' (xs ++ ys) ∧ H.next ≤ H'.next ∧ (∀ o, o < H.next → rowObj v ≠ some o → H'.get o = H.get o) ∧ ∀ o, rowObj v' = some o → rowObj v = some o ∨ H.next ≤ o := by
  have hnx := h.nx
  obtain ⟨v', H', k1, k2, k3, k4, k5, k6, k7⟩ := h.ow.app hn he h1 (bytes := bytes) h.wf hy hb
  refine ⟨v', H', k1, ⟨k3, k4.trans h.fl, by omega, ?_, k2, ?_⟩, k5, k6, fun o q => (k7 o q).imp id fun q => q.1⟩
  · intro o x ho hX hx
    rw [k6 o (by omega) (fun q => by
      rcases (h.fresh o q).1 with k | k
      · exact hX k
      · omega)]
    exact h.old o x ho hX hx
  · intro o ho
    rcases k7 o ho with q | ⟨q1, q2⟩
    · have := h.fresh o q; exact ⟨this.1, by omega⟩
    · exact ⟨.inr (by omega), q2⟩
/-- One more item. -/
theorem Bx.app1 (hn : ∀ x, (enc x).length = e) (he : 1 ≤ e) (h1 : ∀ x, allOne (enc x) = true) {bytes : Nat} (h : Bx X e enc H0 H v xs) (x : α) (hb : (2 * (xs.length + 1) + 1024) * bytes ≤ 2 ^ 48) :
    ∃ v' H', appendA e bytes (H.push (.cells (enc x))) v (.slc H.next 0 1 e 1 true) = some (v', H') ∧ Bx X e enc H0 H' v' (xs ++ [x]) ∧ H.next ≤ H'.next ∧ (∀ o, o < H.next → rowObj v ≠ some o → H'.get o = H.get o) ∧ ∀ o, rowObj v' = some o → rowObj v = some o ∨ H.next ≤ o := by
  have hp := h.push (x := .cells (enc x))
  have hy : Sw e enc (H.push (.cells (enc x))) (.slc H.next 0 1 e 1 true) [x] := by
    refine .inr ⟨H.next, 0, 1, true, rfl, ?_⟩
    unfold Heap.readSeg
    rw [cellsAt_get (get_pushN.trans (if_pos rfl))]
    simp only [List.flatMap_cons, List.flatMap_nil, List.append_nil]
    exact seg_all (by rw [hn]; simp)
  obtain ⟨v', H', k1, k2, k3, k4, k5⟩ := hp.appS hn he h1 (bytes := bytes) hy (by simpa using hb)
  have k3' : H.next + 1 ≤ H'.next := k3
  refine ⟨v', H', k1, k2, by omega, ?_, ?_⟩
  · intro o ho hne
    rw [k4 o (by show o < H.next + 1; omega) hne]
    exact get_pushN.trans (if_neg (by omega))
  · intro o ho
    rcases k5 o ho with q | q
    · exact .inl q
    · have q1 : H.next + 1 ≤ o := q
      exact .inr (by omega)
theorem Bx.sl (hn : ∀ x, (enc x).length = e) (h : Bx X e enc H0 H v xs) : Sl e enc H v xs := h.ow.sl hn
end
theorem pairc_len (x : Int × Int) : (pairc x).length = 2 := rfl
theorem pairc_one (x : Int × Int) : allOne (pairc x) = true := rfl
theorem i64c_len (x : Int) : (i64c x).length = 1 := rfl
theorem i64c_one (x : Int) : allOne (i64c x) = true := rfl
/-- A variable made, and at once written. -/
theorem store_new {H : Heap} (hw : H.Wf) {z cs : List AV} {n : Nat} {x : AV} (hx : x.cells = cs) (hc : cs.length = n) (hz : z.length = n) (h1 : allOne cs = true) :
    ∃ H', storeA (H.push (.cells z)) n (.ptr H.next 0) x = some (undefA, H') ∧ H'.get H.next = some (.cells cs) ∧ Ext H H' ∧ H'.next = H.next + 1 := by
  refine ⟨(H.push (.cells z)).set H.next (.cells cs), ?_, get_setH.trans (if_pos rfl), ⟨rfl, Nat.le_succ _, fun o y e => ?_, Wf.set (hw.push _) (Nat.lt_succ_self _)⟩, rfl⟩
  · have hb : Nat.beq cs.length n = true := by rw [hc]; exact Nat.beq_refl n
    have hf : Nat.ble (H.push (.cells z)).floor H.next = true := Nat.ble_eq_true_of_le hw.1
    have hl : Nat.ble (0 + cs.length) z.length = true := Nat.ble_eq_true_of_le (by omega)
    have hs : setSeg z 0 cs = cs := by
      unfold setSeg; rw [List.drop_of_length_le (by omega)]; simp
    rw [storeA_ptr, hx, hb, cond_true]
    simp only [Heap.writeSeg, hf, cond_true, cellsAt_push, hl, h1, Bool.and_self, hs, Option.map_some]
  · have := hw.lt e
    rw [get_setH, if_neg (by omega), get_pushN, if_neg (by omega)]; exact e
/-- An object of one's own written: a cell. -/
theorem store_own {H : Heap} {o off : Nat} {x : AV} {cs : List AV} (hf : H.floor ≤ o) (hg : H.get o = some (.cells cs)) (hl : off < cs.length) (hx : x.one = true) : storeA H 1 (.ptr o off) x = some (undefA, H.set o (.cells (cs.set off x))) := by
  have hc : x.cells = [x] := by cases x <;> simp [AV.one] at hx <;> rfl
  have hb : Nat.ble H.floor o = true := Nat.ble_eq_true_of_le hf
  have hb2 : Nat.ble (off + 1) cs.length = true := Nat.ble_eq_true_of_le hl
  have ha : allOne [x] = true := by simp [allOne, hx]
  have hs : setSeg cs off [x] = cs.set off x := by
    unfold setSeg
    rw [List.set_eq_take_append_cons_drop, if_pos hl]; simp
  rw [storeA_ptr, hc]
  unfold Heap.writeSeg
  rw [cellsAt_get hg, hb]
  simp only [List.length_cons, List.length_nil, hb2, ha, cond_true, Bool.and_self, Nat.zero_add, hs]
  rfl
theorem Sl.one {α : Type} {e : Nat} {enc : α → List AV} {H : Heap} {v : AV} {xs : List α} (h : Sl e enc H v xs) : v.one = true ∧ v.cells = [v] := by
  rcases h with ⟨rfl, _⟩ | ⟨o, off, lo, ex, cs, rfl, _⟩ <;> exact ⟨rfl, rfl⟩
@[simp] theorem allOne_nili {l : List AV} : allOne (.nili :: l) = allOne l := rfl
theorem allOne_of {v : AV} {l : List AV} (h : v.one = true) : allOne (v :: l) = allOne l := by simp [allOne, h]
/-! ### Strings -/
section
variable {e : Opd → AV} {H : Heap}
@[simp] theorem b_adds {d : EqD} {a b : List Nat} : binA .add d (.str a) (.str b) = if ((a.length + b.length : Nat) : Int) > IntKind.i64.max then none else some (.str (a ++ b)) := by simp [binA]
@[simp] theorem b_eqls {d : EqD} {a b : List Nat} : binA .eql d (.str a) (.str b) = some (.bool (a == b)) := by simp [binA]
@[simp] theorem b_neqs {d : EqD} {a b : List Nat} : binA .neq d (.str a) (.str b) = some (.bool !(a == b)) := by simp [binA]
def lenSA : AV → Option AV | .str s => some (.int .i64 s.length) | _ => none
@[simp] theorem lenSA_str {s : List Nat} : lenSA (.str s) = some (.int .i64 s.length) := rfl
@[simp] theorem p_lenStr {x : Opd} : plainOp e H (.len .str x) = lft H (lenSA (e x)) := lft_map
def idxSA : AV → AV → Option AV
  | .str s, .int _ i => if 0 ≤ i then (s[i.toNat]?).map byteA else none
  | _, _ => none
@[simp] theorem idxSA_str {s : List Nat} {k : IntKind} {i : Int} : idxSA (.str s) (.int k i) = if 0 ≤ i then (s[i.toNat]?).map byteA else none := rfl
@[simp] theorem p_indexS {x i : Opd} : plainOp e H (.indexS x i) = lft H (idxSA (e x) (e i)) := lft_map
def slSA (x : AV) (lo hi : Option AV) : Option AV :=
  match x with
  | .str s => (boundsA s.length s.length true lo hi none).map fun (l, h, _, _) => .str ((s.drop l).take (h - l))
  | _ => none
@[simp] theorem p_sliceS {x : Opd} {lo hi : Option Opd} : plainOp e H (.sliceS x lo hi) = lft H (slSA (e x) (lo.map e) (hi.map e)) := lft_map
def sameA : AV → Option AV | .str s => some (.str s) | _ => none
@[simp] theorem sameA_str {s : List Nat} : sameA (.str s) = some (.str s) := rfl
@[simp] theorem p_same {x : Opd} : plainOp e H (.convert .same x) = lft H (sameA (e x)) := lft_map
def toBytesA (H : Heap) : AV → Option (AV × Heap)
  | .str s => some (.slc H.next 0 s.length 1 s.length false, H.push (.cells (s.map byteA)))
  | _ => none
@[simp] theorem toBytesA_str {s : List Nat} : toBytesA H (.str s) = some (.slc H.next 0 s.length 1 s.length false, H.push (.cells (s.map byteA))) := rfl
@[simp] theorem p_strToBytes {x : Opd} : plainOp e H (.convert .strToBytes x) = toBytesA H (e x) := rfl
def toStrA (H : Heap) : AV → Option (AV × Heap)
  | .nils => some (.str [], H)
  | .slc o off len 1 _ _ => ((H.readSeg o off len).bind bytesOf).map fun s => (.str s, H)
  | _ => none
@[simp] theorem p_bytesToStr {x : Opd} : plainOp e H (.convert .bytesToStr x) = toStrA H (e x) := rfl
def idxAV (len sz : Nat) (n : Option Nat) : AV → AV → Option AV
  | .agg cs, .int _ i => if 0 ≤ i ∧ i < len then partA cs (i.toNat * sz) n else none
  | _, _ => none
@[simp] theorem p_index {len sz : Nat} {n : Option Nat} {x i : Opd} : plainOp e H (.index len sz n x i) = lft H (idxAV len sz n (e x) (e i)) := lft_map
@[simp] theorem idxAV_agg {len sz : Nat} {n : Option Nat} {cs : List AV} {k : IntKind} {i : Int} : idxAV len sz n (.agg cs) (.int k i) = if 0 ≤ i ∧ i < len then partA cs (i.toNat * sz) n else none := rfl
end
@[simp] theorem fillV_pair {e : Opd → AV} {cs : List AV} {off : Nat} {k k' : IntKind} {a b : Int} {r : List (Nat × Nat × Opd)} : fillV e cs off 2 (.agg [.int k a, .int k' b]) r = if off + 2 ≤ cs.length then fillA e (setSeg cs off [.int k a, .int k' b]) r else none := by
  simp [fillV]
@[simp] theorem setSeg_pair {a b x y : AV} : setSeg [a, b] 0 [x, y] = [x, y] := by simp [setSeg]
@[simp] theorem fillV_str {e : Opd → AV} {cs : List AV} {off : Nat} {s : List Nat} {r : List (Nat × Nat × Opd)} : fillV e cs off 1 (.str s) r = if off + 1 ≤ cs.length then fillA e (setSeg cs off [.str s]) r else none := by
  simp [fillV]
@[simp] theorem fillV_nils {e : Opd → AV} {cs : List AV} {off : Nat} {r : List (Nat × Nat × Opd)} : fillV e cs off 1 .nils r = if off + 1 ≤ cs.length then fillA e (setSeg cs off [.nils]) r else none := by
  simp [fillV]
theorem fillV_val {e : Opd → AV} {cs : List AV} {off : Nat} {v : AV} {r : List (Nat × Nat × Opd)} (h : v.one = true) (hc : v.cells = [v]) : fillV e cs off 1 v r = if off + 1 ≤ cs.length then fillA e (setSeg cs off [v]) r else none := by
  unfold fillV; rw [hc]; simp [allOne, h]
/-- An object of one's own written whole. -/
theorem store_all {H : Heap} {o n : Nat} {x : AV} {cs xs : List AV} (hx : x.cells = xs) (hn : xs.length = n) (hf : H.floor ≤ o) (hg : H.get o = some (.cells cs)) (hl : cs.length = n) (h1 : allOne xs = true) : storeA H n (.ptr o 0) x = some (undefA, H.set o (.cells xs)) := by
  have hb : Nat.beq xs.length n = true := by rw [hn]; exact Nat.beq_refl n
  have hfl : Nat.ble H.floor o = true := Nat.ble_eq_true_of_le hf
  have hle : Nat.ble (0 + xs.length) cs.length = true := Nat.ble_eq_true_of_le (by omega)
  have hs : setSeg cs 0 xs = xs := by
    unfold setSeg; rw [List.drop_of_length_le (by omega)]; simp
  rw [storeA_ptr, hx, hb, cond_true]
  simp only [Heap.writeSeg, hfl, cond_true, cellsAt_get hg, hle, h1, Bool.and_self, hs, Option.map_some]
theorem Ext.setNew {H H1 : Heap} (h : Ext H H1) (hw : H.Wf) {o : Nat} {x : AObj} (h1 : H.next ≤ o) (h2 : o < H1.next) : Ext H (H1.set o x) :=
  ⟨h.floor, h.next, fun p y e => by have := hw.lt e; rw [get_setH, if_neg (by omega)]; exact h.keep p y e, Wf.set h.wf h2⟩
@[simp] theorem b_neqp {a b c d : Int} : binA .neq (.flat [.int, .int]) (.agg [.int .i64 a, .int .i64 b]) (.agg [.int .i64 c, .int .i64 d]) = some (.bool !(a == c && b == d)) := by
  have e : cellsEq [.int, .int] [.int .i64 a, .int .i64 b] [.int .i64 c, .int .i64 d] = some (a == c && b == d) := by
    simp only [cellsEq, cellEq, if_true]
    cases (a == c) <;> cases (b == d) <;> rfl
  have e2 : eqA (.flat [.int, .int]) (.agg [.int .i64 a, .int .i64 b]) (.agg [.int .i64 c, .int .i64 d]) = some (a == c && b == d) := e
  simp only [binA, e2, Option.map_some]
end Go.AI

/- A builder's writing, told of memory whose cells are kept. No claim by itself. -/
namespace Go.AI
/-- Cells are kept. -/
structure ExtC (H H' : Heap) : Prop where
  floor : H'.floor = H.floor
  next : H.next ≤ H'.next
  keep : ∀ o cs, H.get o = some (.cells cs) → H'.get o = some (.cells cs)
  wf : H'.Wf
theorem ExtC.refl {H : Heap} (h : H.Wf) : ExtC H H := ⟨rfl, Nat.le_refl _, fun _ _ e => e, h⟩
theorem ExtC.trans {a b c : Heap} (h : ExtC a b) (k : ExtC b c) : ExtC a c := ⟨k.floor.trans h.floor, Nat.le_trans h.next k.next, fun o x e => k.keep o x (h.keep o x e), k.wf⟩
theorem Ext.c {H H' : Heap} (h : Ext H H') : ExtC H H' := ⟨h.floor, h.next, fun o _ e => h.keep o _ e, h.wf⟩
theorem Sl.extC {α : Type} {e : Nat} {enc : α → List AV} {H H' : Heap} {v : AV} {xs : List α} (h : Sl e enc H v xs) (k : ExtC H H') : Sl e enc H' v xs := by
  rcases h with h | ⟨o, off, lo, ex, cs, a, b, c⟩
  · exact .inl h
  · exact .inr ⟨o, off, lo, ex, cs, a, cellsAt_get (k.keep _ _ (get_cellsAt b)), c⟩
/-- What a builder holds. -/
def Bld (T E : Nat) (H : Heap) (o : Nat) (bs : List Nat) : Prop :=
  H.floor ≤ o ∧ ((H.get o = some (.bld T none) ∧ bs = []) ∨ ∃ q, H.get o = some (.bld T (some (q, bs.length))) ∧ H.get q = some (.buf E bs) ∧ H.floor ≤ q ∧ bs ≠ [])
theorem Bld.ext {T E : Nat} {H H' : Heap} {o : Nat} {bs : List Nat} (h : Bld T E H o bs) (k : Ext H H') : Bld T E H' o bs := by
  obtain ⟨h1, h2⟩ := h
  refine ⟨by rw [k.floor]; exact h1, ?_⟩
  rcases h2 with ⟨a, b⟩ | ⟨q, a, b, c, d⟩
  · exact .inl ⟨k.keep _ _ a, b⟩
  · exact .inr ⟨q, k.keep _ _ a, k.keep _ _ b, by rw [k.floor]; exact c, d⟩
theorem Bld.new {T E : Nat} {H : Heap} (hw : H.Wf) : Bld T E (H.push (.bld T none)) H.next [] := ⟨hw.1, .inl ⟨get_pushN.trans (if_pos rfl), rfl⟩⟩
theorem bldAt_get {H : Heap} {o T : Nat} {b : Option (Nat × Nat)} (h : H.get o = some (.bld T b)) : bldAt H o = some (T, b) := by unfold bldAt; rw [h]
theorem bufAt_get {H : Heap} {q E : Nat} {bs : List Nat} (h : H.get q = some (.buf E bs)) : bufAt H q = some (E, bs) := by unfold bufAt; rw [h]
theorem Bld.write {T E : Nat} {H : Heap} {o : Nat} {bs : List Nat} (h : Bld T E H o bs) (hw : H.Wf) {s : List Nat} (hl : bs.length + s.length ≤ 140737488355328) :
    ∃ H', writeG T E [.ptr o 0, .str s] H = some (.tup [.int .i64 s.length, .nili], H') ∧ Bld T E H' o (bs ++ s) ∧ ExtC H H' := by
  obtain ⟨h1, h2⟩ := h
  have hf : Nat.ble H.floor o = true := Nat.ble_eq_true_of_le h1
  rcases h2 with ⟨ho, rfl⟩ | ⟨q, ho, hq, hfq, hne⟩
  · have hlt := hw.lt ho
    have hb : Nat.ble s.length 140737488355328 = true := Nat.ble_eq_true_of_le (by simpa using hl)
    cases s with
    | nil =>
      refine ⟨H.set o (.bld T none), ?_, ⟨h1, .inl ⟨get_setH.trans (if_pos rfl), rfl⟩⟩, rfl, Nat.le_refl _, fun p cs e => ?_, Wf.set hw hlt⟩
      · simp only [writeG, hf, cond_true, writeB, bldAt_get ho, Nat.beq_refl, hb, Bool.and_self, Option.map_some]
      · rw [get_setH, if_neg (fun r => by subst r; rw [ho] at e; cases e)]; exact e
    | cons x s =>
      refine ⟨(H.push (.buf E (x :: s))).set o (.bld T (some (H.next, (x :: s).length))), ?_, ⟨h1, .inr ⟨H.next, get_setH.trans (if_pos rfl), ?_, hw.1, by simp⟩⟩, rfl, Nat.le_succ _, fun p cs e => ?_, Wf.set (hw.push _) (by show o < H.next + 1; omega)⟩
      · simp only [writeG, hf, cond_true, writeB, bldAt_get ho, Nat.beq_refl, hb, Bool.and_self, Option.map_some]
      · rw [get_setH, if_neg (by omega)]; exact get_pushN.trans (if_pos rfl)
      · rw [get_setH, if_neg (fun r => by subst r; rw [ho] at e; cases e), get_pushN, if_neg (by have := hw.lt e; omega)]; exact e
  · have hlt := hw.lt ho
    have hltq := hw.lt hq
    have hoq : o ≠ q := fun r => by subst r; rw [ho] at hq; cases hq
    have hfq' : Nat.ble H.floor q = true := Nat.ble_eq_true_of_le hfq
    have hb : Nat.ble (bs.length + s.length) 140737488355328 = true := Nat.ble_eq_true_of_le hl
    refine ⟨((H.set q .dead).push (.buf E (bs ++ s))).set o (.bld T (some (H.next, bs.length + s.length))), ?_, ⟨h1, .inr ⟨H.next, by rw [List.length_append]; exact get_setH.trans (if_pos rfl), ?_, hw.1, by simp [hne]⟩⟩, rfl, Nat.le_succ _, fun p cs e => ?_, Wf.set ((Wf.set hw hltq).push _) (by show o < H.next + 1; omega)⟩
    · simp only [writeG, hf, cond_true, writeB, bldAt_get ho, bufAt_get hq, Nat.beq_refl, hfq', hb, Bool.and_self, Option.map_some]
    · rw [get_setH, if_neg (by omega)]; exact get_pushN.trans (if_pos rfl)
    · rw [get_setH, if_neg (fun r => by subst r; rw [ho] at e; cases e), get_pushN, if_neg (by have := hw.lt e; show p ≠ H.next; omega), get_setH, if_neg (fun r => by subst r; rw [hq] at e; cases e)]; exact e
theorem Bld.string {T E : Nat} {H : Heap} {o : Nat} {bs : List Nat} (h : Bld T E H o bs) (hw : H.Wf) : ∃ H', stringG T E [.ptr o 0] H = some (.str bs, H') ∧ ExtC H H' := by
  obtain ⟨h1, h2⟩ := h
  rcases h2 with ⟨ho, rfl⟩ | ⟨q, ho, hq, hfq, hne⟩
  · exact ⟨H, by simp only [stringG, bldAt_get ho, Nat.beq_refl, cond_true], ExtC.refl hw⟩
  · have hf : Nat.ble H.floor o = true := Nat.ble_eq_true_of_le h1
    have hfq' : Nat.ble H.floor q = true := Nat.ble_eq_true_of_le hfq
    have hp : Nat.blt 0 bs.length = true := by
      have : 1 ≤ bs.length := by
        rcases Nat.eq_zero_or_pos bs.length with r | r
        · exact absurd (List.length_eq_zero_iff.1 r) hne
        · exact r
      simpa [Nat.blt] using this
    refine ⟨H.set q .dead, ?_, rfl, Nat.le_refl _, fun p cs e => ?_, Wf.set hw (hw.lt hq)⟩
    · simp only [stringG, bldAt_get ho, bufAt_get hq, Nat.beq_refl, hf, hfq', hp, cond_true, Bool.and_self]
    · rw [get_setH, if_neg (fun r => by subst r; rw [hq] at e; cases e)]; exact e
def strc (s : List Nat) : List AV := [.str s]
abbrev Strs := Sl 1 strc
theorem strc_len (s : List Nat) : (strc s).length = 1 := rfl
theorem strc_one (s : List Nat) : allOne (strc s) = true := rfl
theorem Strs.idx {H : Heap} {v : AV} {xs : List (List Nat)} (h : Strs H v xs) {k : IntKind} {i : Int} (h0 : 0 ≤ i) (h1 : i < xs.length) :
    ∃ p x, xs[i.toNat]? = some x ∧ indexAddrV 1 v (.int k i) = some p ∧ loadA H none p = some (.str x) := by
  obtain ⟨p, x, a, b, _, d⟩ := Sl.idx h (k := k) h0 h1; exact ⟨p, x, a, b, d _ rfl rfl⟩
theorem decF_len : ∀ (f u : Nat) (acc : List Nat), (decF f u acc).length ≤ f + acc.length
  | 0, _, acc => by simp [decF]
  | f + 1, u, acc => by
    unfold decF
    cases Nat.blt u 10 with
    | true => simp; omega
    | false => have := decF_len f (u / 10) ((48 + u % 10) :: acc); simp at this ⊢; omega
theorem itoaN_len (n : Int) : (itoaN n).length ≤ 26 := by
  cases n with
  | ofNat k => have := decF_len 25 k []; show (decF 25 k []).length ≤ 26; simp at this; omega
  | negSucc k => have := decF_len 25 (k + 1) []; show (45 :: decF 25 (k + 1) []).length ≤ 26; simp at this ⊢; omega
theorem itoaG_some {n : Int} {H : Heap} (h0 : -9223372036854775808 ≤ n) (h1 : n ≤ 9223372036854775807) : itoaG [.int .i64 n] H = some (.str (itoaN n), H) := by
  simp [itoaG, h0, h1]
end Go.AI

/- Ranging over a string; a word that is a number. No claim by itself. -/
namespace Go.AI
section
variable {e : Opd → AV} {H : Heap}
def rangeSA (H : Heap) : AV → Option (AV × Heap)
  | .str s => some (.ptr H.next 0, H.push (.siter s 0))
  | _ => none
@[simp] theorem rangeSA_str {s : List Nat} : rangeSA H (.str s) = some (.ptr H.next 0, H.push (.siter s 0)) := rfl
@[simp] theorem p_rangeS {x : Opd} : plainOp e H (.rangeS x) = rangeSA H (e x) := rfl
def nextSA (H : Heap) : AV → Option (AV × Heap)
  | .ptr o 0 =>
    bif Nat.ble H.floor o then
      match H.get o with
      | some (.siter s pos) =>
        if pos < s.length then
          let (c, w) := decodeA s pos
          some (.tup [.bool true, aInt pos, .int .i32 c], H.set o (.siter s (pos + w)))
        else some (.tup [.bool false], H)
      | _ => none
    else none
  | _ => none
@[simp] theorem p_nextS {x : Opd} : plainOp e H (.nextS x) = nextSA H (e x) := rfl
theorem nextSA_end {o pos : Nat} {s : List Nat} (hf : H.floor ≤ o) (hg : H.get o = some (.siter s pos)) (h : ¬ pos < s.length) : nextSA H (.ptr o 0) = some (.tup [.bool false], H) := by
  simp [nextSA, hf, hg, h]
theorem nextSA_go {o pos c w : Nat} {s : List Nat} (hf : H.floor ≤ o) (hg : H.get o = some (.siter s pos)) (h : pos < s.length) (hd : decodeA s pos = (c, w)) :
    nextSA H (.ptr o 0) = some (.tup [.bool true, .int .i64 pos, .int .i32 c], H.set o (.siter s (pos + w))) := by
  simp [nextSA, hf, hg, h, hd, aInt]
end
theorem get_byte (s : List Nat) (i b : Nat) (h : s[i]? = some b) (hb : b < 256) : ((⟨(s.map UInt8.ofNat).toArray⟩ : ByteArray).get! i).toNat = b := by
  have hi : i < s.length := (List.getElem?_eq_some_iff.1 h).1
  have e : (⟨(s.map UInt8.ofNat).toArray⟩ : ByteArray).get! i = (s.map UInt8.ofNat).toArray[i]! := rfl
  rw [e, getElem!_pos _ _ (by simpa using hi)]
  have hs : s[i] = b := by have := (List.getElem?_eq_some_iff.1 h).2; exact this
  simp [hs, UInt8.toNat_ofNat', Nat.mod_eq_of_lt hb]
theorem decode_small {s : List Nat} {i b : Nat} (h : s[i]? = some b) (hb : b < 128) : decodeA s i = (b, 1) := by
  have hg := get_byte s i b h (by omega)
  unfold decodeA Utf8.decode
  simp only [Nat.add_zero, hg]
  rw [if_pos hb]
theorem decode_big {s : List Nat} {i b : Nat} (h : s[i]? = some b) (hb : 128 ≤ b) (hb2 : b < 256) : ∃ c w, decodeA s i = (c, w) ∧ 128 ≤ c ∧ c < 2147483648 := by
  have hg := get_byte s i b h hb2
  unfold decodeA Utf8.decode
  simp only [Nat.add_zero, hg]
  rw [if_neg (by omega)]
  have hre : Utf8.runeError = 65533 := rfl
  split
  · split
    · refine ⟨_, _, rfl, by omega, ?_⟩
      have := Nat.mod_lt b (show 0 < 32 by omega)
      omega
    · exact ⟨_, _, rfl, by rw [hre]; omega, by rw [hre]; omega⟩
  · split
    · split
      · rename_i hq
        simp only [ge_iff_le, Bool.and_eq_true, decide_eq_true_eq] at hq
        refine ⟨_, _, rfl, by omega, ?_⟩
        omega
      · exact ⟨_, _, rfl, by rw [hre]; omega, by rw [hre]; omega⟩
    · split
      · split
        · rename_i hq
          simp only [ge_iff_le, Bool.and_eq_true, decide_eq_true_eq] at hq
          refine ⟨_, _, rfl, by omega, ?_⟩
          omega
        · exact ⟨_, _, rfl, by rw [hre]; omega, by rw [hre]; omega⟩
      · exact ⟨_, _, rfl, by rw [hre]; omega, by rw [hre]; omega⟩
/-! ### Numbers -/
def isDg (c : Nat) : Bool := decide (48 ≤ c) && decide (c ≤ 57)
def digV (l : List Nat) : Nat := l.foldl (fun n d => 10 * n + (d - 48)) 0
def digsOf (s : List Nat) : List Nat := if s.head? = some 45 then s.tail else s
def wfN (s : List Nat) : Bool := !(digsOf s).isEmpty && (digsOf s).all isDg && !(decide ((digsOf s).head? = some 48) && !decide (s = [48]))
def sval (s : List Nat) : Int := if s.head? = some 45 then -(digV s.tail : Int) else digV s
/-- What a word is, up to a greatest number: the number, and what is wrong. -/
def numT (s : List Nat) (most : Int) : Int × Int := if wfN s = false then (0, 11) else if most < 0 ∨ most < digV (digsOf s) then (0, 10) else (sval s, 0)
theorem digV_snoc (l : List Nat) (d : Nat) : digV (l ++ [d]) = 10 * digV l + (d - 48) := by simp [digV]
/-- What a word is, in a range. -/
def numR (s : List Nat) (lo hi : Int) : Int × Int := if wfN s = false then (0, 11) else if lo ≤ sval s ∧ sval s ≤ hi then (sval s, 0) else (0, 10)
end Go.AI

/- Loops unrolled; frames: all that was there is kept but some objects; lists that this run owns. No claim by itself. -/
namespace Go.AI
section
variable {FT : Nat → Option FnD} {τ : Env} {H : Heap} {Q : Post}
theorem Wp_unroll {b : ACode} (h : Wp FT b τ H (seqQ FT (.loop b) Q)) : Wp FT (.loop b) τ H Q := by
  obtain ⟨n, s, τ', H', e, q⟩ := h
  cases s with
  | next =>
    obtain ⟨m, s2, τ2, H2, e2, q2⟩ := q
    refine ⟨max n m + 1, s2, τ2, H2, ?_, q2⟩
    rw [run_loop, run_up (Nat.le_max_left n m) e]
    exact run_up (Nat.le_max_right n m) e2
  | exit id => exact ⟨n + 1, _, _, _, by rw [run_loop, e], q⟩
  | ret => exact ⟨n + 1, _, _, _, by rw [run_loop, e], q⟩
end
section
variable {e : Opd → AV} {cs : List AV} {off : Nat} {r : List (Nat × Nat × Opd)}
@[simp] theorem fillV_ptr {o b : Nat} : fillV e cs off 1 (.ptr o b) r = if off + 1 ≤ cs.length then fillA e (setSeg cs off [.ptr o b]) r else none := fillV_val rfl rfl
@[simp] theorem fillV_bool {b : Bool} : fillV e cs off 1 (.bool b) r = if off + 1 ≤ cs.length then fillA e (setSeg cs off [.bool b]) r else none := fillV_val rfl rfl
@[simp] theorem fillV_slc {o a b c d : Nat} {ex : Bool} : fillV e cs off 1 (.slc o a b c d ex) r = if off + 1 ≤ cs.length then fillA e (setSeg cs off [.slc o a b c d ex]) r else none := fillV_val rfl rfl
@[simp] theorem fillV_map {o : Nat} : fillV e cs off 1 (.map o) r = if off + 1 ≤ cs.length then fillA e (setSeg cs off [.map o]) r else none := fillV_val rfl rfl
end
/-! ### Stores beside loads that need not be done yet -/
def frP (p x : AV) : Bool := match p with | .ptr p _ => (match x with | .ptr q _ => !Nat.beq p q | _ => true) | _ => false
@[simp] theorem frP_ptr {p i q j : Nat} : frP (.ptr p i) (.ptr q j) = !Nat.beq p q := rfl
theorem frees_store {τ : Env} {d : Option Nat} {n : Nat} {a x : Opd} {g : Option (Nat × Bool)} {q : Bool} {fr : List Nat} : freesOk τ ⟨d, .store n a x, g, q, fr⟩ = fr.all fun t => frP (Env.at τ t) (ev τ a) := by
  unfold freesOk
  congr 1
  funext t
  cases Env.at τ t with
  | ptr p o =>
    show (true && match (match ev τ a with | .ptr o _ => some o | _ => none) with | some q => !(Nat.beq p q) | none => true) = frP (.ptr p o) (ev τ a)
    cases ev τ a <;> rfl
  | _ => rfl
@[simp] theorem Wo_frstore {FT : Nat → Option FnD} {τ : Env} {H : Heap} {Q : Post} {dst : Option Nat} {n : Nat} {a x : Opd} {t : Nat} {fr : List Nat} {rest : List AOper} :
    Wo FT (⟨dst, .store n a x, none, false, t :: fr⟩ :: rest) τ H Q ↔ ((t :: fr).all fun t => frP (Env.at τ t) (ev τ a)) = true ∧ opK FT dst rest τ Q (storeA H n (ev τ a) (ev τ x)) := by
  by_cases h : ((t :: fr).all fun t => frP (Env.at τ t) (ev τ a)) = true
  · rw [Wo_op (by intros; simp) (by rw [frees_store]; exact h)]
    simp only [h, true_and]
    rfl
  · constructor
    · rintro ⟨n', τ', H', e, q⟩
      have hf : freesOk τ ⟨dst, .store n a x, none, false, t :: fr⟩ = false := by
        rw [frees_store]; simpa using h
      simp only [opsA, wantedA, cond_true, hf, cond_false] at e
      cases e
    · exact fun q => (h q.1).elim
/-! ### Code cut in two -/
def tailN : Nat → ACode → ACode
  | n + 1, .seq _ b => tailN n b
  | _, c => c
def headsN : Nat → ACode → ACode → ACode
  | n + 1, .seq a b, r => .seq a (headsN n b r)
  | _, _, r => r
/-- The code at a place, and the code with another one there. -/
def subAt : List Nat → ACode → ACode
  | [], c => c
  | 0 :: p, .seq a _ => subAt p a
  | _ :: p, .seq _ b => subAt p b
  | 0 :: p, .cond _ a _ => subAt p a
  | _ :: p, .cond _ _ b => subAt p b
  | _ :: p, .block _ b => subAt p b
  | _ :: p, .loop b => subAt p b
  | _, c => c
def putAt : List Nat → ACode → ACode → ACode
  | [], _, x => x
  | 0 :: p, .seq a b, x => .seq (putAt p a x) b
  | _ :: p, .seq a b, x => .seq a (putAt p b x)
  | 0 :: p, .cond c a b, x => .cond c (putAt p a x) b
  | _ :: p, .cond c a b, x => .cond c a (putAt p b x)
  | _ :: p, .block id b, x => .block id (putAt p b x)
  | _ :: p, .loop b, x => .loop (putAt p b x)
  | _, c, _ => c
theorem fillV_2 {e : Opd → AV} {cs : List AV} {off : Nat} {a b : AV} {r : List (Nat × Nat × Opd)} (ha : a.one = true) (hb : b.one = true) : fillV e cs off 2 (.agg [a, b]) r = if off + 2 ≤ cs.length then fillA e (setSeg cs off [a, b]) r else none := by
  simp [fillV, allOne, ha, hb]
@[simp] theorem fillV_intstr {e : Opd → AV} {cs : List AV} {off : Nat} {k : IntKind} {n : Int} {s : List Nat} {r : List (Nat × Nat × Opd)} : fillV e cs off 2 (.agg [.int k n, .str s]) r = if off + 2 ≤ cs.length then fillA e (setSeg cs off [.int k n, .str s]) r else none := fillV_2 rfl rfl
theorem finQ_mono {rs : List AResult} {K L : AV → Heap → Prop} {s : Sig} {τ : Env} {H : Heap} (h : finQ rs K s τ H) (k : ∀ v H', K v H' → L v H') : finQ rs L s τ H := by
  cases s with
  | exit id => exact h
  | next => simp only [finQ_next] at h ⊢; split at h <;> first | exact k _ _ h | exact h.elim
  | ret => simp only [finQ_ret] at h ⊢; split at h <;> first | exact k _ _ h | exact h.elim
theorem Wp.fin {FT : Nat → Option FnD} {rs : List AResult} {K L : AV → Heap → Prop} {c : ACode} {τ : Env} {H : Heap} (h : Wp FT c τ H (finQ rs K)) (k : ∀ v H', K v H' → L v H') : Wp FT c τ H (finQ rs L) := h.mono fun _ _ _ q => finQ_mono q k
/-- All that was there is kept but these objects. -/
structure Fr (S : List Nat) (H H' : Heap) : Prop where
  floor : H'.floor = H.floor
  next : H.next ≤ H'.next
  keep : ∀ o x, o ∉ S → H.get o = some x → H'.get o = some x
  wf : H'.Wf
theorem Fr.refl {S : List Nat} {H : Heap} (h : H.Wf) : Fr S H H := ⟨rfl, Nat.le_refl _, fun _ _ _ e => e, h⟩
theorem Fr.trans {S T : List Nat} {a b c : Heap} (hw : a.Wf) (h : Fr S a b) (k : Fr T b c) (hs : ∀ o, o ∈ T → o ∈ S ∨ a.next ≤ o) : Fr S a c :=
  ⟨k.floor.trans h.floor, Nat.le_trans h.next k.next, fun o x n e => k.keep o x (fun q => by
    rcases hs o q with r | r
    · exact n r
    · have := hw.lt e; omega) (h.keep o x n e), k.wf⟩
theorem Fr.mono {S T : List Nat} {a b : Heap} (h : Fr S a b) (hs : ∀ o, o ∈ S → o ∈ T) : Fr T a b := ⟨h.floor, h.next, fun o x n e => h.keep o x (fun q => n (hs o q)) e, h.wf⟩
theorem Ext.fr {S : List Nat} {a b : Heap} (h : Ext a b) : Fr S a b := ⟨h.floor, h.next, fun o x _ e => h.keep o x e, h.wf⟩
theorem Fr.ext {a b : Heap} (h : Fr [] a b) : Ext a b := ⟨h.floor, h.next, fun o x e => h.keep o x (by simp) e, h.wf⟩
theorem Fr.thenE {S : List Nat} {a b c : Heap} (hw : a.Wf) (h : Fr S a b) (k : Ext b c) : Fr S a c := h.trans hw (k.fr (S := [])) (fun o q => by cases q)
theorem Fr.set {H : Heap} (hw : H.Wf) {o : Nat} (ho : o < H.next) (x : AObj) : Fr [o] H (H.set o x) := ⟨rfl, Nat.le_refl _, fun p y n e => by
  rw [get_setH, if_neg (fun q => n (by simp [q]))]; exact e, Wf.set hw ho⟩
theorem Sl.fr {α : Type} {e : Nat} {enc : α → List AV} {S : List Nat} {H H' : Heap} {v : AV} {xs : List α} (h : Sl e enc H v xs) (k : Fr S H H') (hn : ∀ o, rowObj v = some o → o ∉ S) : Sl e enc H' v xs := by
  rcases h with h | ⟨q, off, lo, ex, cs, rfl, b, c⟩
  · exact .inl h
  · exact .inr ⟨q, off, lo, ex, cs, rfl, cellsAt_get (k.keep _ _ (hn _ rfl) (get_cellsAt b)), c⟩
theorem Sl.rowLt {α : Type} {e : Nat} {enc : α → List AV} {H : Heap} {v : AV} {xs : List α} (h : Sl e enc H v xs) (hw : H.Wf) {o : Nat} (ho : rowObj v = some o) : o < H.next := by
  rcases h with ⟨rfl, _⟩ | ⟨q, off, lo, ex, cs, rfl, b, c⟩
  · cases ho
  · cases ho; exact hw.lt (get_cellsAt b)
/-- A list that this run built since the memory was H0. -/
structure Mine {α : Type} (e : Nat) (enc : α → List AV) (H0 H : Heap) (v : AV) (xs : List α) : Prop where
  ow : Ow e enc H v xs
  new : ∀ p, rowObj v = some p → H0.next ≤ p
section
variable {α : Type} {e : Nat} {enc : α → List AV} {H H' H0 : Heap} {v : AV} {xs ys : List α} {S : List Nat}
theorem Mine.nil : Mine e enc H0 H .nils ([] : List α) := ⟨.inl ⟨rfl, rfl⟩, fun _ q => by cases q⟩
theorem Ow.lt (h : Ow e enc H v xs) (hw : H.Wf) {p : Nat} (hp : rowObj v = some p) : p < H.next := by
  rcases h with ⟨rfl, _⟩ | ⟨o, rfl, _, h2, _⟩
  · cases hp
  · cases hp; exact hw.lt h2
theorem Mine.lt (h : Mine e enc H0 H v xs) (hw : H.Wf) {p : Nat} (hp : rowObj v = some p) : p < H.next := h.ow.lt hw hp
theorem Ow.fr (h : Ow e enc H v xs) (k : Fr S H H') (hn : ∀ p, rowObj v = some p → p ∉ S) : Ow e enc H' v xs := by
  rcases h with h | ⟨o, rfl, h1, h2, h3⟩
  · exact .inl h
  · exact .inr ⟨o, rfl, h1, k.keep _ _ (hn _ rfl) h2, by rw [k.floor]; exact h3⟩
theorem Mine.fr (h : Mine e enc H0 H v xs) (k : Fr S H H') (hn : ∀ p, rowObj v = some p → p ∉ S) : Mine e enc H0 H' v xs := ⟨h.ow.fr k hn, h.new⟩
theorem Mine.ext (h : Mine e enc H0 H v xs) (k : Ext H H') : Mine e enc H0 H' v xs := h.fr (S := []) k.fr (fun _ _ q => by cases q)
theorem Mine.sl (h : Mine e enc H0 H v xs) (hn : ∀ x, (enc x).length = e) : Sl e enc H v xs := h.ow.sl hn
/-- More items at once. -/
theorem Mine.appS (hn : ∀ x, (enc x).length = e) (he : 1 ≤ e) (h1 : ∀ x, allOne (enc x) = true) {bytes : Nat} {y : AV} (hw : H.Wf) (hx : H0.next ≤ H.next) (h : Mine e enc H0 H v xs) (hy : Sw e enc H y ys) (hb : (2 * (xs.length + ys.length) + 1024) * bytes ≤ 2 ^ 48) :
    ∃ v' H', appendA e bytes H v y = some (v', H') ∧ Mine e enc H0 H' v' (xs ++ ys) ∧ Fr (rowObj v).toList H H' ∧ ∀ p, rowObj v' = some p → rowObj v = some p ∨ H.next ≤ p := by
  obtain ⟨v', H', k1, k2, k3, k4, k5, k6, k7⟩ := h.ow.app hn he h1 (bytes := bytes) hw hy hb
  refine ⟨v', H', k1, ⟨k2, fun p q => ?_⟩, ⟨k4, k5, fun o x n e => ?_, k3⟩, fun p q => (k7 p q).imp id fun q => q.1⟩
  · rcases k7 p q with r | r
    · exact h.new p r
    · omega
  · rw [k6 o (hw.lt e) (fun q => n (by rw [q]; simp))]; exact e
/-- One more item. -/
theorem Mine.app1 (hn : ∀ x, (enc x).length = e) (he : 1 ≤ e) (h1 : ∀ x, allOne (enc x) = true) {bytes : Nat} (hw : H.Wf) (hx : H0.next ≤ H.next) (h : Mine e enc H0 H v xs) (x : α) (hb : (2 * (xs.length + 1) + 1024) * bytes ≤ 2 ^ 48) :
    ∃ v' H', appendA e bytes (H.push (.cells (enc x))) v (.slc H.next 0 1 e 1 true) = some (v', H') ∧ Mine e enc H0 H' v' (xs ++ [x]) ∧ Fr (rowObj v).toList H H' ∧ ∀ p, rowObj v' = some p → rowObj v = some p ∨ H.next ≤ p := by
  have ep := Ext.push hw (.cells (enc x))
  have hy : Sw e enc (H.push (.cells (enc x))) (.slc H.next 0 1 e 1 true) [x] := by
    refine .inr ⟨H.next, 0, 1, true, rfl, ?_⟩
    unfold Heap.readSeg
    rw [cellsAt_get (get_pushN.trans (if_pos rfl))]
    simp only [List.flatMap_cons, List.flatMap_nil, List.append_nil]
    exact seg_all (by rw [hn]; simp)
  obtain ⟨v', H', k1, k2, k3, k4⟩ := (h.ext ep).appS hn he h1 (bytes := bytes) ep.wf (by have := ep.next; omega) hy (by simpa using hb)
  exact ⟨v', H', k1, k2, (ep.fr (S := (rowObj v).toList)).trans hw k3 (fun o q => .inl q), fun p q => (k4 p q).imp id fun q => by have := ep.next; omega⟩
end
/-! ### Calls that write nothing that was there -/
def Heap.up (H : Heap) : Heap := { t := H.t, next := H.next, floor := H.next }
theorem Heap.Wf.up {H : Heap} (h : H.Wf) : H.up.Wf := ⟨Nat.le_refl _, h.2⟩
theorem Ext.back {H H' : Heap} (hw : H.Wf) (h : Ext H.up H') : Ext H { H' with floor := H.floor } :=
  ⟨rfl, h.next, h.keep, ⟨by have h1 := hw.1; have h2 : H.next ≤ H'.next := h.next; show H.floor ≤ H'.next; omega, h.wf.2⟩⟩
theorem Cp.quiet {FT : Nat → Option FnD} {f : Nat} {args : List AV} {H : Heap} {K L : AV → Heap → Prop} (h : Cp FT f args H.up L) (k : ∀ r H', L r H' → K r { H' with floor := H.floor }) :
    Cp FT f args { t := H.t, next := H.next, floor := H.next } (backK H.floor K) := h.mono fun r H' q => k r H' q
theorem Sl.up {α : Type} {e : Nat} {enc : α → List AV} {H : Heap} {v : AV} {xs : List α} (h : Sl e enc H v xs) : Sl e enc H.up v xs := h
@[simp] theorem quiet_push2 {H : Heap} {x : AObj} : ({ t := (Heap.push { t := H.t, next := H.next, floor := H.next } x).t, next := H.next + 1, floor := H.floor } : Heap) = H.push x := rfl
@[simp] theorem quiet_push {H : Heap} {v : AV} {x : AObj} : quietA H (some (v, Heap.push { t := H.t, next := H.next, floor := H.next } x)) = some (v, H.push x) := rfl
/-- A cell of an object of one's own is written. -/
theorem store_cell {H : Heap} {o off : Nat} {x : AV} {cs : List AV} (hw : H.Wf) (hf : H.floor ≤ o) (hg : H.get o = some (.cells cs)) (hl : off < cs.length) (hx : x.one = true) :
    ∃ H', storeA H 1 (.ptr o off) x = some (undefA, H') ∧ H'.get o = some (.cells (cs.set off x)) ∧ Fr [o] H H' :=
  ⟨_, store_own hf hg hl hx, get_setH.trans (if_pos rfl), Fr.set hw (hw.lt hg) _⟩
/-- An object of one's own is written whole. -/
theorem store_whole {H : Heap} {o n : Nat} {x : AV} {cs xs : List AV} (hw : H.Wf) (hx : x.cells = xs) (hn : xs.length = n) (hf : H.floor ≤ o) (hg : H.get o = some (.cells cs)) (hl : cs.length = n) (h1 : allOne xs = true) :
    ∃ H', storeA H n (.ptr o 0) x = some (undefA, H') ∧ H'.get o = some (.cells xs) ∧ Fr [o] H H' :=
  ⟨_, store_all hx hn hf hg hl h1, get_setH.trans (if_pos rfl), Fr.set hw (hw.lt hg) _⟩
theorem bytesA_ext {H H' : Heap} (k : Ext H H') {v : AV} {s : List Nat} (h : bytesA H v = some s) : bytesA H' v = some s := by
  unfold bytesA at h ⊢
  split at h
  · exact h
  · rename_i o off len lo ex
    cases hr : H.readSeg o off len with
    | none => rw [hr] at h; cases h
    | some xs =>
      rw [hr] at h
      have hr' : H'.readSeg o off len = some xs := by
        unfold Heap.readSeg at hr ⊢
        cases hc : H.cellsAt o with
        | none => rw [hc] at hr; cases hr
        | some cs => rw [k.cells hc]; rw [hc] at hr; exact hr
      simp only [hr']; exact h
  · cases h
theorem bytesOf_lt : ∀ {xs : List AV} {s : List Nat}, bytesOf xs = some s → (∀ b, b ∈ s → b < 256) ∧ s.length = xs.length
  | [], s, h => by simp [bytesOf] at h; subst h; simp
  | x :: xs, s, h => by
    cases x with
    | int k n =>
      cases k with
      | u8 =>
        simp only [bytesOf] at h
        split at h
        · rename_i hn
          cases hb : bytesOf xs with
          | none => rw [hb] at h; cases h
          | some s' =>
            rw [hb] at h; simp at h; subst h
            obtain ⟨a, b⟩ := bytesOf_lt hb
            refine ⟨fun m hm => ?_, by simp [b]⟩
            rcases List.mem_cons.1 hm with r | r
            · subst r; omega
            · exact a m r
        · cases h
      | _ => simp [bytesOf] at h
    | _ => simp [bytesOf] at h
theorem bytesA_lt {H : Heap} {v : AV} {s : List Nat} (h : bytesA H v = some s) : ∀ b, b ∈ s → b < 256 := by
  unfold bytesA at h
  split at h
  · cases h; simp
  · rename_i o off len lo ex
    cases hr : H.readSeg o off len with
    | none => rw [hr] at h; cases h
    | some xs => rw [hr] at h; exact (bytesOf_lt h).1
  · cases h
theorem seg_length {cs xs : List AV} {off n : Nat} (h : seg cs off n = some xs) : xs.length = n := by
  unfold seg at h
  cases hb : Nat.ble (off + n) cs.length with
  | false => rw [hb] at h; cases h
  | true => rw [hb] at h; cases h; have := Nat.le_of_ble_eq_true hb; simp; omega
theorem bytesA_len {H : Heap} {v : AV} {s : List Nat} (h : bytesA H v = some s) : lenA v = some (.int .i64 s.length) := by
  unfold bytesA at h
  split at h
  · cases h; rfl
  · rename_i o off len lo ex
    cases hr : H.readSeg o off len with
    | none => rw [hr] at h; cases h
    | some xs =>
      rw [hr] at h
      have h2 := (bytesOf_lt h).2
      have : xs.length = len := by
        unfold Heap.readSeg at hr
        cases hc : H.cellsAt o with
        | none => rw [hc] at hr; cases hr
        | some cs => rw [hc] at hr; exact seg_length hr
      rw [h2, this]; rfl
  · cases h
theorem bytesOf_cut : ∀ {xs : List AV} {s : List Nat}, bytesOf xs = some s → ∀ f n, bytesOf ((xs.drop f).take n) = some ((s.drop f).take n)
  | [], s, h, f, n => by simp [bytesOf] at h; subst h; simp [bytesOf]
  | x :: xs, s, h, f, n => by
    cases x with
    | int k m =>
      cases k with
      | u8 =>
        simp only [bytesOf] at h
        split at h
        · rename_i hm
          cases hb : bytesOf xs with
          | none => rw [hb] at h; cases h
          | some s' =>
            rw [hb] at h; simp at h; subst h
            cases f with
            | zero =>
              cases n with
              | zero => rfl
              | succ n =>
                have := bytesOf_cut hb 0 n
                simp only [List.drop_zero] at this
                simp only [List.drop_zero, List.take_succ_cons, bytesOf, if_pos hm, this, Option.map_some]
            | succ f => simpa using bytesOf_cut hb f n
        · cases h
      | _ => simp [bytesOf] at h
    | _ => simp [bytesOf] at h
/-- A slice's capacity is no less than its length. -/
def capOk : AV → Bool
  | .slc _ _ len _ lo _ => decide (len ≤ lo)
  | _ => true
theorem bytes_slc {H : Heap} {v : AV} {s : List Nat} (h : bytesA H v = some s) : (v = .nils ∧ s = []) ∨ ∃ o off lo ex cs xs, v = .slc o off s.length 1 lo ex ∧ H.cellsAt o = some cs ∧ seg cs off s.length = some xs ∧ bytesOf xs = some s := by
  unfold bytesA at h
  split at h
  · cases h; exact .inl ⟨rfl, rfl⟩
  · rename_i o off len lo ex
    cases hr : H.readSeg o off len with
    | none => rw [hr] at h; cases h
    | some xs =>
      rw [hr] at h
      have h : bytesOf xs = some s := h
      have h2 := (bytesOf_lt h).2
      unfold Heap.readSeg at hr
      cases hc : H.cellsAt o with
      | none => rw [hc] at hr; cases hr
      | some cs =>
        rw [hc] at hr
        have hr : seg cs off len = some xs := hr
        have hl := seg_length hr
        have : s.length = len := by omega
        subst this
        exact .inr ⟨o, off, lo, ex, cs, xs, rfl, hc, hr, h⟩
  · cases h
theorem seg_get {cs xs : List AV} {off n i : Nat} (h : seg cs off n = some xs) (hi : i < n) : cs[off + i]? = xs[i]? := by
  unfold seg at h
  cases hb : Nat.ble (off + n) cs.length with
  | false => rw [hb] at h; cases h
  | true => rw [hb] at h; cases h; rw [List.getElem?_take, if_pos hi, List.getElem?_drop]
theorem seg_cut {cs xs : List AV} {off n : Nat} (h : seg cs off n = some xs) {f m : Nat} (hf : f + m ≤ n) : seg cs (off + f) m = some ((xs.drop f).take m) := by
  unfold seg at h ⊢
  cases hb : Nat.ble (off + n) cs.length with
  | false => rw [hb] at h; cases h
  | true =>
    rw [hb] at h; cases h
    have h1 := Nat.le_of_ble_eq_true hb
    have h2 : Nat.ble (off + f + m) cs.length = true := Nat.ble_eq_true_of_le (by omega)
    rw [h2]
    simp only [cond_true, Option.some.injEq]
    rw [List.drop_take, List.take_take, List.drop_drop, Nat.min_eq_left (by omega)]
theorem bytesOf_get : ∀ {xs : List AV} {s : List Nat} {i b : Nat}, bytesOf xs = some s → s[i]? = some b → xs[i]? = some (.int .u8 b)
  | [], s, i, b, h, k => by simp [bytesOf] at h; subst h; simp at k
  | x :: xs, s, i, b, h, k => by
    cases x with
    | int kd m =>
      cases kd with
      | u8 =>
        simp only [bytesOf] at h
        split at h
        · rename_i hm
          cases hb : bytesOf xs with
          | none => rw [hb] at h; cases h
          | some s' =>
            rw [hb] at h; simp at h; subst h
            cases i with
            | zero => simp at k; simp; omega
            | succ i => simpa using bytesOf_get hb (by simpa using k)
        · cases h
      | _ => simp [bytesOf] at h
    | _ => simp [bytesOf] at h
theorem bytesA_idx {H : Heap} {v : AV} {s : List Nat} (h : bytesA H v = some s) {i : Nat} (hi : i < s.length) {k : IntKind} : ∃ p b, s[i]? = some b ∧ indexAddrV 1 v (.int k i) = some p ∧ loadA H none p = some (.int .u8 b) := by
  rcases bytes_slc h with ⟨rfl, rfl⟩ | ⟨o, off, lo, ex, cs, xs, rfl, hc, hs, hb⟩
  · simp at hi
  · have hg : s[i]? = some s[i] := List.getElem?_eq_getElem hi
    have hx := bytesOf_get hb hg
    have h1 : (0 : Int) ≤ (i : Int) ∧ (i : Int) < ((s.length : Nat) : Int) := by omega
    refine ⟨.ptr o (off + i * 1), s[i], hg, by simp [h1.2], ?_⟩
    rw [loadA_ptr, hc]
    simp only [Option.bind_some, partA, Nat.mul_one]
    rw [seg_get hs hi, hx]
theorem bytesA_cut {H : Heap} {v : AV} {s : List Nat} (h : bytesA H v = some s) (hc : capOk v = true) {f i : Nat} (h1 : f ≤ i) (h2 : i ≤ s.length) :
    ∃ v', sliceA 1 v (some (.int .i64 f)) (some (.int .i64 i)) none = some v' ∧ bytesA H v' = some ((s.drop f).take (i - f)) ∧ capOk v' = true := by
  rcases bytes_slc h with ⟨rfl, rfl⟩ | ⟨o, off, lo, ex, cs, xs, rfl, hcs, hs, hb⟩
  · have : i = 0 := by simpa using h2
    subst this
    have : f = 0 := by omega
    subst this
    exact ⟨.nils, rfl, rfl, rfl⟩
  · have hlo : s.length ≤ lo := by simpa [capOk] using hc
    have b1 : (0 : Int) ≤ (i : Int) ∧ (i : Int) ≤ (lo : Int) := by omega
    have b2 : (0 : Int) ≤ (f : Int) ∧ (f : Int) ≤ ((i : Nat) : Int) := by omega
    refine ⟨.slc o (off + f * 1) (i - f) 1 (lo - f) ex, ?_, ?_, by simp [capOk]; omega⟩
    · simp only [sliceA, Nat.beq_refl, cond_true, boundsA, boundA, if_pos b1, if_pos b2, Option.map_some, Int.toNat_natCast]
    · unfold bytesA
      simp only [Heap.readSeg, hcs, Option.bind_some, Nat.mul_one]
      rw [seg_cut hs (by omega)]
      exact bytesOf_cut hb f (i - f)
theorem toStr_bytes {H : Heap} {v : AV} {s : List Nat} (h : bytesA H v = some s) : toStrA H v = some (.str s, H) := by
  unfold bytesA at h
  unfold toStrA
  split at h
  · cases h; rfl
  · simp only [h, Option.map_some]
  · cases h
/-- A line's end behind changes no words. -/
theorem scan_nl : ∀ (l : List Nat) (p : Nat) (st : SS Nat), scanW idN (l ++ [10]) p st = scanW idN l p st
  | [], p, .out => rfl
  | [], p, .com => rfl
  | [], p, .word f acc => rfl
  | c :: r, p, .out => by
    simp only [List.cons_append, scanW, scan_nl r]
  | c :: r, p, .com => by
    simp only [List.cons_append, scanW, scan_nl r]
  | c :: r, p, .word f acc => by
    simp only [List.cons_append, scanW, scan_nl r]
theorem scan_mem {α : Type} {val : α → Nat} (p : α → Prop) : ∀ (l : List α) (k : Nat) (s : SS α) (_ : ∀ b, b ∈ l → p b) (_ : match s with | .word _ acc => ∀ b, b ∈ acc → p b | _ => True), ∀ t, t ∈ scanW val l k s → ∀ b, b ∈ t.2 → p b
  | [], k, .out, _, _, t, ht => by simp [scanW] at ht
  | [], k, .com, _, _, t, ht => by simp [scanW] at ht
  | [], k, .word f acc, _, ha, t, ht => by
    simp only [scanW, List.mem_singleton] at ht; subst ht; intro b hb; exact ha b (by simpa using hb)
  | c :: r, k, .out, hl, _, t, ht => by
    have hr := fun b hb => hl b (List.mem_cons_of_mem _ hb)
    simp only [scanW] at ht
    cases h1 : isBl (val c) with
    | true => rw [h1] at ht; exact scan_mem p r _ .out hr trivial t ht
    | false =>
      rw [h1] at ht; simp only [cond_false] at ht
      cases h2 : Nat.beq (val c) 35 with
      | true => rw [h2] at ht; exact scan_mem p r _ .com hr trivial t ht
      | false => rw [h2] at ht; exact scan_mem p r _ (.word k [c]) hr (by intro b hb; simp at hb; subst hb; exact hl _ (by simp)) t ht
  | c :: r, k, .com, hl, _, t, ht => by
    have hr := fun b hb => hl b (List.mem_cons_of_mem _ hb)
    simp only [scanW] at ht
    cases h2 : Nat.beq (val c) 10 with
    | true => rw [h2] at ht; exact scan_mem p r _ .out hr trivial t ht
    | false => rw [h2] at ht; exact scan_mem p r _ .com hr trivial t ht
  | c :: r, k, .word f acc, hl, ha, t, ht => by
    have hr := fun b hb => hl b (List.mem_cons_of_mem _ hb)
    simp only [scanW] at ht
    cases h1 : isBl (val c) with
    | true =>
      rw [h1] at ht; simp only [cond_true] at ht
      rcases List.mem_cons.1 ht with q | q
      · subst q; intro b hb; exact ha b (by simpa using hb)
      · exact scan_mem p r _ .out hr trivial t q
    | false => rw [h1] at ht; exact scan_mem p r _ (.word f (c :: acc)) hr (by
        intro b hb
        rcases List.mem_cons.1 hb with q | q
        · subst q; exact hl _ (by simp)
        · exact ha b q) t ht
theorem scan_wlen {α : Type} {val : α → Nat} : ∀ (l : List α) (k : Nat) (s : SS α), ∀ t, t ∈ scanW val l k s → t.2.length ≤ l.length + (match s with | .word _ acc => acc.length | _ => 0)
  | [], k, .out, t, ht => by simp [scanW] at ht
  | [], k, .com, t, ht => by simp [scanW] at ht
  | [], k, .word f acc, t, ht => by simp [scanW] at ht; subst ht; simp
  | c :: r, k, .out, t, ht => by
    simp only [scanW] at ht
    cases h1 : isBl (val c) with
    | true => rw [h1] at ht; have := scan_wlen r _ .out t ht; simp at this ⊢; omega
    | false =>
      rw [h1] at ht; simp only [cond_false] at ht
      cases h2 : Nat.beq (val c) 35 with
      | true => rw [h2] at ht; have := scan_wlen r _ .com t ht; simp at this ⊢; omega
      | false => rw [h2] at ht; have := scan_wlen r _ (.word k [c]) t ht; simp at this ⊢; omega
  | c :: r, k, .com, t, ht => by
    simp only [scanW] at ht
    cases h2 : Nat.beq (val c) 10 with
    | true => rw [h2] at ht; have := scan_wlen r _ .out t ht; simp at this ⊢; omega
    | false => rw [h2] at ht; have := scan_wlen r _ .com t ht; simp at this ⊢; omega
  | c :: r, k, .word f acc, t, ht => by
    simp only [scanW] at ht
    cases h1 : isBl (val c) with
    | true =>
      rw [h1] at ht; simp only [cond_true] at ht
      rcases List.mem_cons.1 ht with q | q
      · subst q; simp
      · have := scan_wlen r _ .out t q; simp at this ⊢; omega
    | false => rw [h1] at ht; have := scan_wlen r _ (.word f (c :: acc)) t ht; simp at this ⊢; omega
/-- The cutting into words. -/
theorem all_words {H : Heap} (hw : H.Wf) {v : AV} {s : List Nat} (h : bytesA H v = some s) :
    (1048576 < s.length ∧ allG [v] H = some (.tup [.nils, .int .i64 3], H)) ∨
    (s.length ≤ 1048576 ∧ ∃ tv H', allG [v] H = some (.tup [tv, .int .i64 0], H') ∧ Ext H H' ∧ Sl 2 tokA H' tv (wordsN s) ∧ ∀ p, rowObj tv = some p → H.next ≤ p ∧ p < H'.next) := by
  unfold allG
  simp only [h]
  cases hb : Nat.ble s.length 1048576 with
  | false =>
    have : ¬ s.length ≤ 1048576 := fun q => by rw [Nat.ble_eq_true_of_le q] at hb; cases hb
    exact .inl ⟨by omega, rfl⟩
  | true =>
    refine .inr ⟨Nat.le_of_ble_eq_true hb, ?_⟩
    simp only [cond_true]
    cases hq : wordsN s with
    | nil => exact ⟨.nils, H, rfl, Ext.refl hw, .inl ⟨rfl, rfl⟩, fun p q => by cases q⟩
    | cons t ws =>
      refine ⟨_, _, rfl, Ext.push hw _, Sl.ofCells (enc := tokA) (e := 2) (xs := t :: ws) (fun _ => rfl) (get_pushN.trans (if_pos rfl)), fun p q => ?_⟩
      cases q; exact ⟨Nat.le_refl _, Nat.lt_succ_self _⟩
/-- A new object: where it is, and that all else is kept. -/
theorem push_new {H : Heap} (hw : H.Wf) (x : AObj) : (H.push x).get H.next = some x ∧ Ext H (H.push x) := ⟨get_pushN.trans (if_pos rfl), Ext.push hw x⟩
end Go.AI

/- Digits to the base 65536, and decimal: plain. No claim by itself. -/
namespace Go.AI
/-- The number of digits, the lowest first. -/
def dval : List Nat → Nat
  | [] => 0
  | d :: ds => d + 65536 * dval ds
def Dg (l : List Nat) : Prop := ∀ d, d ∈ l → d < 65536
/-- No nought at the end. -/
def Nm (l : List Nat) : Prop := l.getLast? ≠ some 0
theorem Dg.app {a b : List Nat} (h : Dg a) (k : Dg b) : Dg (a ++ b) := fun d hd => by
  rcases List.mem_append.1 hd with q | q
  · exact h d q
  · exact k d q
theorem Dg.nil : Dg [] := fun d h => by cases h
theorem Dg.one {d : Nat} (h : d < 65536) : Dg [d] := fun x hx => by simp at hx; omega
theorem Dg.cons {d : Nat} {l : List Nat} (h : d < 65536) (k : Dg l) : Dg (d :: l) := fun x hx => by
  rcases List.mem_cons.1 hx with q | q
  · omega
  · exact k x q
theorem Dg.tail {d : Nat} {l : List Nat} (k : Dg (d :: l)) : Dg l := fun x hx => k x (List.mem_cons_of_mem _ hx)
theorem Dg.take {l : List Nat} (k : Dg l) (n : Nat) : Dg (l.take n) := fun x hx => k x (List.mem_of_mem_take hx)
theorem Nm.nil : Nm [] := by simp [Nm]
/-- Without noughts behind. -/
def trimN (l : List Nat) : Nat → Nat
  | 0 => 0
  | n + 1 => if l[n]? = some 0 then trimN l n else n + 1
def trimD (l : List Nat) : List Nat := l.take (trimN l l.length)
/-! ### Decimal -/
/-- Decimal digits; none of nought. -/
def decP : Nat → Nat → List Nat
  | 0, _ => []
  | f + 1, u => if u = 0 then [] else decP f (u / 10) ++ [48 + u % 10]
theorem decF_P : ∀ (f u : Nat) (acc : List Nat), 0 < u → u < 10 ^ f → decF f u acc = decP f u ++ acc
  | 0, u, acc, h0, h1 => by simp at h1; omega
  | f + 1, u, acc, h0, h1 => by
    unfold decF decP
    rw [if_neg (by omega)]
    by_cases h : u < 10
    · have hb : Nat.blt u 10 = true := Nat.ble_eq_true_of_le h
      have e0 : u / 10 = 0 := by omega
      have e1 : u % 10 = u := by omega
      have e2 : decP f 0 = [] := by cases f <;> simp [decP]
      rw [hb, e0, e1, e2]; rfl
    · have hb : Nat.blt u 10 = false := by
        cases q : Nat.blt u 10 with
        | false => rfl
        | true => have := Nat.le_of_ble_eq_true q; omega
      rw [hb]
      simp only [cond_false]
      rw [decF_P f (u / 10) _ (by omega) (by rw [Nat.pow_succ] at h1; omega)]
      simp
end Go.AI

/- Arguments of a law that are bytes, or structs of slices. No claim by itself. -/
namespace Go.AI
open Go.ChangeShapes Go.WideShapes Go.Deep
section
variable {H : Type} {enc : TypeId × Value → H} {P : Program} {w : World} {base : Nat} {held : Bool}
theorem arg_pairs2 {t e : TypeId} {f0 f1 : Field} {fuel : Nat} {cs : List Value} {x : DataW H × List MemPlace} (o : Nat) (ht : P.underlying t = some (.slice e)) (he : P.underlying e = some (.struct #[f0, f1]))
    (ce : P.cellsOf e = 2) (o0 : f0.offset = 0) (o1 : f1.offset = 1) (c0 : P.cellsOf f0.type = 1) (c1 : P.cellsOf f1.type = 1) (u0 : P.underlying f0.type = some (.int .i64)) (u1 : P.underlying f1.type = some (.int .i64))
    (h : DataW.trod enc P w base (fun _ => true) held fuel t cs = some x) : ∃ v xs av L, cs = [v] ∧ SlArg w o 2 pairc v xs av L := by
  rcases open_slice_pairs ht he ce o0 o1 c0 c1 h with ⟨hcs, _⟩ | ⟨a, len, cap, m, n, V0, V1, D0, D1, P0, P1, hcs, _⟩
  · subst hcs
    obtain ⟨xs, av, L, _, hs, _⟩ := arg_pairs o ht he ce o0 o1 c0 c1 u0 u1 h
    exact ⟨_, xs, av, L, rfl, hs⟩
  · subst hcs
    obtain ⟨xs, av, L, _, hs, _⟩ := arg_pairs o ht he ce o0 o1 c0 c1 u0 u1 h
    exact ⟨_, xs, av, L, rfl, hs⟩
theorem arg_three {t : TypeId} {f0 f1 f2 : Field} {fuel : Nat} {cs : List Value} {x : DataW H × List MemPlace} (ht : P.underlying t = some (.struct #[f0, f1, f2])) (hl : P.cellsOf t = 3) (o0 : f0.offset = 0) (o1 : f1.offset = 1) (o2 : f2.offset = 2)
    (c0 : P.cellsOf f0.type = 1) (c1 : P.cellsOf f1.type = 1) (c2 : P.cellsOf f2.type = 1) (h : DataW.trod enc P w base (fun _ => true) held fuel t cs = some x) :
    ∃ a b c n y0 y1 y2, cs = [a, b, c] ∧ DataW.trod enc P w base (fun _ => true) held n f0.type [a] = some y0 ∧ DataW.trod enc P w base (fun _ => true) held n f1.type [b] = some y1 ∧ DataW.trod enc P w base (fun _ => true) held n f2.type [c] = some y2 := by
  obtain ⟨y0, y1, y2, n, _, hlen, h0, h1, h2⟩ := trod_struct3 ht h
  rw [hl] at hlen
  match cs, hlen with
  | [a, b, c], _ =>
    rw [o0, c0] at h0; rw [o1, c1] at h1; rw [o2, c2] at h2
    exact ⟨a, b, c, n, y0, y1, y2, rfl, h0, h1, h2⟩
/-- A byte's cell. -/
def bytc (b : Nat) : List AV := [.int .u8 (b : Int)]
end
theorem bytesOf_map : ∀ {xs : List Nat}, (∀ b, b ∈ xs → b < 256) → bytesOf (xs.flatMap bytc) = some xs
  | [], _ => rfl
  | x :: xs, h => by
    have hx := h x (by simp)
    have ih := bytesOf_map (xs := xs) (fun b hb => h b (List.mem_cons_of_mem _ hb))
    have h1 : (0 : Int) ≤ (x : Int) ∧ (x : Int) < 256 := by omega
    simp only [List.flatMap_cons, bytc, List.cons_append, List.nil_append, bytesOf, if_pos h1, ih, Option.map_some, Int.toNat_natCast]
/-- Bytes told by their cells. -/
theorem bytesA_cells {H : Heap} {o : Nat} {xs : List Nat} (h : H.get o = some (.cells (xs.flatMap bytc))) (hb : ∀ b, b ∈ xs → b < 256) (lo : Nat) (ex : Bool) : bytesA H (.slc o 0 xs.length 1 lo ex) = some xs := by
  have hl : (xs.flatMap bytc).length = xs.length := by rw [flat_len (e := 1) (fun _ => rfl)]; omega
  unfold bytesA Heap.readSeg
  simp only [cellsAt_get h, Option.bind_some, seg_all hl]
  exact bytesOf_map hb
theorem SlArg.bytes {w : World} {o : Nat} {v : Value} {xs : List Nat} {av : AV} {L : Option Loc} {H : Heap} (h : SlArg w o 1 bytc v xs av L) (hg : H.get o = some (.cells (xs.flatMap bytc))) (hb : ∀ b, b ∈ xs → b < 256) : bytesA H av = some xs ∧ capOk av = true := by
  rcases h.2 with ⟨rfl, rfl⟩ | rfl
  · exact ⟨rfl, rfl⟩
  · exact ⟨bytesA_cells hg hb _ _, by simp [capOk]⟩
theorem SlArg.sl {α : Type} {e : Nat} {en : α → List AV} (hn : ∀ x, (en x).length = e) {w : World} {o : Nat} {v : Value} {xs : List α} {av : AV} {L : Option Loc} {H : Heap} (h : SlArg w o e en v xs av L) (hg : H.get o = some (.cells (xs.flatMap en))) : Sl e en H av xs := by
  rcases h.2 with ⟨rfl, rfl⟩ | rfl
  · exact .inl ⟨rfl, rfl⟩
  · exact Sl.ofCells hn hg
theorem SlArg.sw {α : Type} {e : Nat} {en : α → List AV} (hn : ∀ x, (en x).length = e) {w : World} {o : Nat} {v : Value} {xs : List α} {av : AV} {L : Option Loc} {H : Heap} (h : SlArg w o e en v xs av L) (hg : H.get o = some (.cells (xs.flatMap en))) : Sw e en H av xs := by
  rcases h.2 with ⟨rfl, rfl⟩ | rfl
  · exact .inl ⟨rfl, rfl⟩
  · refine .inr ⟨o, 0, _, _, rfl, ?_⟩
    unfold Heap.readSeg
    rw [cellsAt_get hg]
    exact seg_all (flat_len hn xs)
/-- A table that is laid reads so as long as its block is kept. -/
theorem tab_keep {P : Program} {w w' : World} {name : String} {k : IntKind} {zs : List Int} (h : Lib.TabIs P w name k zs) (hk : ∀ b, b < w.heap.size → w'.heap[b]? = w.heap[b]?) : Lib.TabIs P w' name k zs := by
  unfold Lib.TabIs World.var? at *
  cases hg : P.globalNamed name with
  | none => simp [hg] at h
  | some g =>
    simp only [hg, Option.bind_some] at h ⊢
    have hlt : g < w.heap.size := by
      rcases Nat.lt_or_ge g w.heap.size with h' | h'
      · exact h'
      · rw [Array.getElem?_eq_none h'] at h; simp at h
    rw [hk g hlt]
    exact h
theorem laid_reads {P : Program} {w : World} : ∀ {l : List (String × DataW Unit)} {ps : List MemPlace}, DataW.LaidVars P w l ps → ∀ n d, (n, d) ∈ l →
    ∃ g t cs fuel p, P.globalNamed n = some g ∧ (P.globals[g]?).map (·.type) = some t ∧ w.var? P n = some cs ∧ DataW.trod (fun _ => ()) P w 0 (fun _ => true) false fuel t cs.toList = some (d, p)
  | [], _, _, _, _, hm => by cases hm
  | (n', d') :: r, ps, h, n, d, hm => by
    obtain ⟨g, t, cs, fuel, p, q, h1, h2, h3, h4, h5, _⟩ := h
    rcases List.mem_cons.1 hm with e | e
    · cases e
      exact ⟨g, t, cs, fuel, p, h1, h2, h3, h4⟩
    · exact laid_reads h5 n d e
/-- A table that is listed. -/
theorem tab_of_laid {P : Program} {W : World} {name : String} {k : IntKind} {zs : List Int} {l : List (String × DataW Unit)} {g : Nat} {t e : TypeId} {n : Nat}
    (hg : P.globalNamed name = some g) (hty : (P.globals[g]?).map (·.type) = some t) (ht : P.underlying t = some (.array n e)) (he : P.underlying e = some (.int k)) (hce : P.cellsOf e = 1) (hct : P.cellsOf t = n)
    (h : laidMet P l W) (hm : (name, Lib.tabData k zs) ∈ l) : Lib.TabIs P W name k zs := by
  obtain ⟨ps, hv, _⟩ := h
  obtain ⟨g', t', cs, fuel, p, hg', ht', hvar, hd⟩ := laid_reads hv _ _ hm
  obtain rfl := Option.some.inj (hg.symm.trans hg')
  obtain rfl := Option.some.inj (hty.symm.trans ht')
  unfold Lib.TabIs
  rw [hvar, ← Lib.cells_of_tab ht he hce hct hd]
end Go.AI
