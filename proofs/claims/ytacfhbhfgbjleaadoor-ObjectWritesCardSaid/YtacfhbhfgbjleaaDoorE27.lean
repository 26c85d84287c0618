/- Functions of the library that are told: strings.Builder, strconv.Itoa. No claim by itself. -/
import Derived.Test.YtacfhbhfgbjleaaDoorE24
import Derived.Lib.ItoaNum
import Derived.Lib.AppendStr
import Derived.Laws.AppendOwn
import Derived.Sort.Grow
import Derived.Deep.Draws
namespace Go.AI
variable {P : Program} {G : World → Prop}
/-- The heap has grown, and nothing else. -/
theorem HRel.grown {B W Z : Nat} {φ : Pl} {H : Heap} {w w' : World} (h : HRel G B W Z φ H w) (hs : w.heap.size ≤ w'.heap.size) (hk : ∀ b, b < w.heap.size → w'.heap[b]? = w.heap[b]?) (h1 : w'.os = w.os) (h2 : w'.tape = w.tape) (h3 : w'.output = w.output) :
    HRel G B W Z φ H w' ∧ Step φ H w φ H w' :=
  ⟨h.keepAll hs hk, { Step.refl φ H w with os := h1, tape := h2, output := h3, size := hs, kept := fun b hb _ => hk b hb }⟩
/-- A new object in a block that was not there. -/
theorem HRel.pushAny {B W Z : Nat} {φ : Pl} {H : Heap} {w w' : World} (h : HRel G B W Z φ H w) (hK : H.next < Z) (x : AObj) (L : Loc) (hL : w.heap.size ≤ L.blk)
    (hsz : w.heap.size ≤ w'.heap.size) (hkeep : ∀ b, b < w.heap.size → w'.heap[b]? = w.heap[b]?) (hos : w'.os = w.os) (ht : w'.tape = w.tape) (hout : w'.output = w.output)
    (hx : ORel (φ.put H.next L) w' B H.next L x) : HRel G B W Z (φ.put H.next L) (H.push x) w' ∧ Step φ H w (φ.put H.next L) (H.push x) w' := by
  have hle := Pl.le_put L (h.next_none hK)
  have hlive : ∀ o, o ≠ H.next → (live (H.push x) o ↔ live H o) := fun o ho => by
    unfold live; rw [Heap.get_push, if_neg ho]
  have hget : ∀ o K, φ.put H.next L o = some K → o ≠ H.next → φ o = some K := fun o K e ho => by simpa [Pl.put, ho] using e
  have hnew : ∀ K, φ.put H.next L H.next = some K → K = L := fun K e => by simp [Pl.put] at e; exact e.symm
  have hblk : ∀ o K, φ o = some K → live H o → K.blk < w.heap.size := fun o K e hl => by
    by_cases hb : B ≤ o
    · exact h.live_in e hl hb
    · exact Nat.lt_of_lt_of_le (h.low o K e (by omega)) h.wsz
  refine ⟨⟨h.fl, Nat.le_succ_of_le h.fn, Nat.le_trans h.wsz hsz, ?_, ?_, ?_, ?_, ?_, ?_, fun w2 hk => h.good w2 fun b hb => (hk b hb).trans (hkeep b (Nat.lt_of_lt_of_le hb h.wsz))⟩, ⟨hle, ?_, Nat.le_succ _, rfl, hos, ht, hout, hsz, fun b hb _ => hkeep b hb, ?_, ?_⟩⟩
  · intro o K e
    by_cases ho : o = H.next
    · subst ho; exact .inl (Nat.lt_succ_self _)
    · exact (h.dom o K (hget o K e ho)).imp Nat.lt_succ_of_lt id
  · intro o ho
    have : o ≠ H.next := by intro q; subst q; exact absurd ho (Nat.not_succ_le_self _)
    rw [Heap.get_push, if_neg this]; exact h.fresh o (Nat.le_of_succ_le ho)
  · intro o K y e hy
    by_cases ho : o = H.next
    · subst ho
      rw [Heap.get_push, if_pos rfl] at hy
      cases hy; rw [hnew K e]; exact hx
    · rw [Heap.get_push, if_neg ho] at hy
      have e' := hget o K e ho
      have hr := h.obj o K y e' hy
      by_cases hd : y = .dead
      · subst hd; trivial
      · exact hr.keep hle (hkeep _ (hblk o K e' ⟨y, hy, hd⟩))
  · intro o K e ho
    by_cases hn : o = H.next
    · have := h.fn; have := h.fl; omega
    · exact h.low o K (hget o K e hn) ho
  · intro o K e ho hl
    by_cases hn : o = H.next
    · subst hn; rw [hnew K e]; exact Nat.le_trans h.wsz hL
    · exact h.high o K (hget o K e hn) ho ((hlive o hn).1 hl)
  · intro o o' K K' e e' ho ho' hl hl' hbb
    by_cases hn : o = H.next <;> by_cases hn' : o' = H.next
    · omega
    · subst hn
      rw [hnew K e] at hbb
      have := hblk o' K' (hget o' K' e' hn') ((hlive o' hn').1 hl')
      omega
    · subst hn'
      rw [hnew K' e'] at hbb
      have := hblk o K (hget o K e hn) ((hlive o hn).1 hl)
      omega
    · exact h.inj o o' K K' (hget o K e hn) (hget o' K' e' hn') ho ho' ((hlive o hn).1 hl) ((hlive o' hn').1 hl') hbb
  · intro o K e hn
    by_cases ho : o = H.next
    · subst ho; exact ⟨Nat.le_refl _, Nat.lt_succ_self _⟩
    · rw [hget o K e ho] at hn; cases hn
  · intro o K ho e hl
    by_cases hn : o = H.next
    · subst hn; rw [hnew K e]; exact .inl hL
    · exact .inr ⟨o, K, ho, hget o K e hn, (hlive o hn).1 hl, rfl⟩
  · intro o ho
    rw [Heap.get_push, if_neg (by have := h.fn; omega)]
/-! ### strconv.Itoa -/
def decF : Nat → Nat → List Nat → List Nat
  | 0, _, acc => acc
  | f + 1, u, acc => bif Nat.blt u 10 then (48 + u) :: acc else decF f (u / 10) ((48 + u % 10) :: acc)
def itoaN : Int → List Nat
  | .ofNat k => decF 25 k []
  | .negSucc k => 45 :: decF 25 (k + 1) []
theorem u8_48 {d : Nat} (h : d < 10) : (UInt8.ofNat (48 + d)).toNat = 48 + d := by
  rw [UInt8.toNat_ofNat']; omega
theorem decF_eq : ∀ (f u : Nat) (acc : List Nat), u < 10 ^ f → 0 < f → decF f u acc = (Lib.decDigits u).map UInt8.toNat ++ acc
  | 0, _, _, _, h => by omega
  | f + 1, u, acc, h, _ => by
    rw [Lib.decDigits]
    unfold decF
    by_cases hu : u < 10
    · have : Nat.blt u 10 = true := by have : u ≤ 9 := by omega
                                       simpa [Nat.blt] using this
      rw [this, dif_pos hu]; simp only [cond_true, List.map_cons, List.map_nil, u8_48 hu]; rfl
    · have : Nat.blt u 10 = false := by
        cases hq : Nat.blt u 10 with
        | false => rfl
        | true => simp [Nat.blt] at hq; omega
      rw [this, dif_neg hu, cond_false]
      have hf : 0 < f := by
        rcases Nat.eq_zero_or_pos f with r | r
        · subst r; simp at h; omega
        · exact r
      rw [decF_eq f (u / 10) _ (by rw [Nat.div_lt_iff_lt_mul (by omega)]; rw [Nat.pow_succ] at h; exact h) hf]
      simp only [List.map_append, List.map_cons, List.map_nil, List.append_assoc, List.singleton_append]
      rw [u8_48 (Nat.mod_lt _ (by omega))]
theorem itoaN_eq {n : Int} (h0 : -9223372036854775808 ≤ n) (h1 : n ≤ 9223372036854775807) : itoaN n = (Lib.itoa n).map UInt8.toNat := by
  unfold Lib.itoa
  cases n with
  | ofNat k =>
    have : ¬ (Int.ofNat k < 0) := by simp
    rw [if_neg this]
    show decF 25 k [] = _
    rw [decF_eq 25 k [] (by simp at h1; have : (10 : Nat) ^ 25 = 10000000000000000000000000 := by decide
                            omega) (by omega)]
    simp
  | negSucc k =>
    have : Int.negSucc k < 0 := Int.negSucc_lt_zero k
    rw [if_pos this]
    show 45 :: decF 25 (k + 1) [] = _
    rw [decF_eq 25 (k + 1) [] (by have : (10 : Nat) ^ 25 = 10000000000000000000000000 := by decide
                                  omega) (by omega)]
    simp
def itoaG : List AV → Heap → Option (AV × Heap)
  | [.int .i64 n], H => bif (decide (-9223372036854775808 ≤ n)) && decide (n ≤ 9223372036854775807) then some (.str (itoaN n), H) else none
  | _, _ => none
theorem natsOf_mk (l : List UInt8) : natsOf ⟨l.toArray⟩ = l.map UInt8.toNat := by simp [natsOf]
theorem itoa_ok {f : Nat} (hfn : FnOk P f) (hc : ∀ (n : Int) (w : World), -9223372036854775808 ≤ n → n ≤ 9223372036854775807 → G w → Calls P f #[.int .i64 n] w fun e w' => e = .returned (.string ⟨(Lib.itoa n).toArray⟩) ∧ ∃ k os, w' = Go.Sort.grow (w.drewN k) os) : ExtOk P G f itoaG := by
  have key : ∀ (args : List AV) (H : Heap) (v : AV) (H' : Heap), itoaG args H = some (v, H') → ∃ n, args = [.int .i64 n] ∧ -9223372036854775808 ≤ n ∧ n ≤ 9223372036854775807 ∧ v = .str (itoaN n) ∧ H' = H := by
    intro args H v H' hg
    unfold itoaG at hg
    split at hg
    · rename_i n
      cases hb : (decide (-9223372036854775808 ≤ n) && decide (n ≤ 9223372036854775807)) with
      | false => rw [hb] at hg; cases hg
      | true =>
        rw [hb] at hg; simp at hb hg
        exact ⟨n, rfl, hb.1, hb.2, hg.1.symm, hg.2.symm⟩
    · cases hg
  refine ⟨fun args H v H' hg _ => ?_, fun B W Z args H v H' φ w avs hg hl hH _ => ?_⟩
  · obtain ⟨n, _, _, _, _, rfl⟩ := key _ _ _ _ hg; exact Mono.refl _
  · obtain ⟨n, rfl, h0, h1, rfl, rfl⟩ := key _ _ _ _ hg
    cases hl with
    | cons h t =>
      cases t; cases h
      refine ⟨hfn, (hc n w h0 h1 (hH.good w fun _ _ => rfl)).mono ?_⟩
      rintro e w' ⟨rfl, k, os, rfl⟩
      have hgr := hH.grown (w' := Go.Sort.grow (w.drewN k) os) (by simp [Go.Sort.grow, World.drewN]) (fun b hb => by simp only [Go.Sort.grow, World.drewN]; rw [Array.getElem?_append_left hb]) rfl rfl rfl
      refine ⟨φ, _, rfl, ?_, hgr.1, hgr.2⟩
      rw [itoaN_eq h0 h1, ← natsOf_mk]; exact .str _
/-! ### strings.Builder -/
def bldAt (H : Heap) (o : Nat) : Option (Nat × Option (Nat × Nat)) :=
  match H.get o with
  | some (.bld T b) => some (T, b)
  | _ => none
def bufAt (H : Heap) (q : Nat) : Option (Nat × List Nat) :=
  match H.get q with
  | some (.buf E bs) => some (E, bs)
  | _ => none
theorem bldAt_some {H : Heap} {o T : Nat} {b : Option (Nat × Nat)} (h : bldAt H o = some (T, b)) : H.get o = some (.bld T b) := by
  unfold bldAt at h; split at h
  · rename_i q; cases h; exact q
  · cases h
theorem bufAt_some {H : Heap} {q E : Nat} {bs : List Nat} (h : bufAt H q = some (E, bs)) : H.get q = some (.buf E bs) := by
  unfold bufAt at h; split at h
  · rename_i q; cases h; exact q
  · cases h
/-- What the builder's object o holds: the bytes. -/
def writeB (T E : Nat) (o : Nat) (s : List Nat) (H : Heap) : Option Heap :=
  match bldAt H o with
  | some (T', none) =>
    bif Nat.beq T' T && Nat.ble s.length 140737488355328 then
      (match s with | [] => some (H.set o (.bld T none)) | _ :: _ => some ((H.push (.buf E s)).set o (.bld T (some (H.next, s.length)))))
    else none
  | some (T', some (q, n)) =>
    match bufAt H q with
    | some (E', bs) =>
      bif Nat.beq T' T && Nat.beq E' E && Nat.beq n bs.length && Nat.ble H.floor q && Nat.ble (n + s.length) 140737488355328 then
        some (((H.set q .dead).push (.buf E (bs ++ s))).set o (.bld T (some (H.next, n + s.length))))
      else none
    | none => none
  | none => none
def writeG (T E : Nat) : List AV → Heap → Option (AV × Heap)
  | [.ptr o 0, .str s], H => bif Nat.ble H.floor o then (writeB T E o s H).map fun H' => (.tup [.int .i64 s.length, .nili], H') else none
  | _, _ => none
def stringG (T E : Nat) : List AV → Heap → Option (AV × Heap)
  | [.ptr o 0], H =>
    match bldAt H o with
    | some (T', none) => bif Nat.beq T' T then some (.str [], H) else none
    | some (T', some (q, n)) =>
      match bufAt H q with
      | some (E', bs) => bif Nat.beq T' T && Nat.beq E' E && Nat.beq n bs.length && Nat.ble H.floor q && Nat.blt 0 n && Nat.ble H.floor o then some (.str bs, H.set q .dead) else none
      | none => none
    | none => none
  | _, _ => none
def byteV (b : Nat) : Value := .int .u8 (b : Int)
def WriteSpec (P : Program) (f T E : Nat) : Prop :=
  ∀ {b : Nat} {p v : Value} {bs : List Value} (s : ByteArray) {w : World}, w.heap[b]? = some (.cells #[p, v] T (0, 0)) → (p = .pointer none ∨ p = .pointer (some ⟨b, 0, none⟩)) → w.ownsRow 0 E 1 v bs.length bs → v.ownBlock ≠ some b →
    bs.length + s.size ≤ 140737488355328 →
    Calls P f #[.pointer (some ⟨b, 0, none⟩), .string s] w fun e w' => e = .returned (.tuple #[.int .i64 s.size, .nilIface]) ∧ ∃ v', w'.heap[b]? = some (.cells #[.pointer (some ⟨b, 0, none⟩), v'] T (0, 0)) ∧
      w'.ownsRow 0 E 1 v' (bs.length + s.size) (bs ++ Lib.strCells s) ∧ (v' = .slice none 0 0 ↔ v = .slice none 0 0 ∧ s.size = 0) ∧ (v'.ownBlock = v.ownBlock ∨ v'.ownBlock = some w.heap.size) ∧
      (∀ k, k < w.heap.size → k ≠ b → some k ≠ v.ownBlock → w'.heap[k]? = w.heap[k]?) ∧ w.heap.size ≤ w'.heap.size ∧ w'.os = w.os ∧ w'.tape = w.tape ∧ w'.output = w.output
def StringSpec (P : Program) (f T E : Nat) : Prop :=
  (∀ {b : Nat} {p : Value} {w : World}, w.heap[b]? = some (.cells #[p, .slice none 0 0] T (0, 0)) → Calls P f #[.pointer (some ⟨b, 0, none⟩)] w fun e w' => e = .returned (.string ⟨#[]⟩) ∧ w' = w.drew) ∧
  (∀ {b g cap : Nat} {p : Value} {cur : Array Value} {w : World} (l : List UInt8), l ≠ [] → w.heap[b]? = some (.cells #[p, .slice (some ⟨g, 0, none⟩) l.length cap] T (0, 0)) → w.heap[g]? = some (.cells cur E (0, 0)) →
    l.length ≤ cap → cap ≤ 9223372036854775807 → cur.size = cap → cur.toList.take l.length = l.map (fun x => Value.int .u8 x.toNat) →
    Calls P f #[.pointer (some ⟨b, 0, none⟩)] w fun e w' => e = .returned (.string ⟨l.toArray⟩) ∧ w' = w.drew.freeze ⟨g, 0, none⟩ l.length)
theorem strCells_eq (s : ByteArray) : Lib.strCells s = s.data.toList.map fun x => Value.int .u8 x.toNat := rfl
/-- The world with one block as it was. -/
def withBlk (w' : World) (b : Nat) (ob : Obj) : World := { w' with heap := w'.heap.setIfInBounds b ob }
theorem withBlk_same {w' : World} {b : Nat} {ob : Obj} (h : b < w'.heap.size) : (withBlk w' b ob).heap[b]? = some ob := by simp [withBlk, h]
theorem withBlk_other {w' : World} {b k : Nat} {ob : Obj} (h : k ≠ b) : (withBlk w' b ob).heap[k]? = w'.heap[k]? := by
  simp only [withBlk, Array.getElem?_setIfInBounds]; rw [if_neg fun q => h q.symm]
theorem withBlk_size {w' : World} {b : Nat} {ob : Obj} : (withBlk w' b ob).heap.size = w'.heap.size := by simp [withBlk]
/-- The last step: the builder's own block is as it is. -/
theorem builder_last {B W Z : Nat} {φ : Pl} {H : Heap} {w' : World} {o : Nat} {L : Loc} {x0 x : AObj} {ob : Obj} (h : HRel G B W Z φ H (withBlk w' L.blk ob)) (hL : φ o = some L) (hx0 : H.get o = some x0) (hd : x0 ≠ .dead) (hf : H.floor ≤ o)
    (hx : ORel φ w' B o L x) : HRel G B W Z φ (H.set o x) w' ∧ Step φ H (withBlk w' L.blk ob) φ (H.set o x) w' :=
  h.set x hL hx0 hd hf rfl rfl rfl withBlk_size.symm (fun _ hb => (withBlk_other hb).symm) hx
theorem Mono.push_set {H : Heap} {o : Nat} {x0 : AObj} (x y : AObj) (h : H.floor ≤ H.next) (hf : H.floor ≤ o) (ho : H.get o = some x0) : Mono H ((H.push x).set o y) :=
  ⟨Nat.le_succ _, rfl, fun p hp => by rw [Heap.get_set, if_neg (by omega), Heap.get_push, if_neg (by omega)], fun f p hp => by
    have hp' : H.next + 1 ≤ p := hp
    have : p ≠ o := by intro q; subst q; rw [f p (by omega)] at ho; cases ho
    rw [Heap.get_set, if_neg this, Heap.get_push, if_neg (by omega)]; exact f p (by omega)⟩
theorem row_some {w : World} {E n : Nat} {v : Value} {xs : List Value} (h : w.ownsRow 0 E 1 v n xs) (hn : v ≠ .slice none 0 0) :
    ∃ g cap cur, v = .slice (some ⟨g, 0, none⟩) n cap ∧ w.heap[g]? = some (.cells cur E (0, 0)) ∧ n ≤ cap ∧ cap ≤ 9223372036854775807 ∧ cur.size = cap ∧ cur.toList.take n = xs := by
  rcases h.2 with ⟨rfl, _⟩ | ⟨g, cap, cur, rfl, _, hg, h1, h2, h3, h4⟩
  · exact absurd rfl hn
  · exact ⟨g, cap, cur, rfl, hg, h1, h2, by simpa using h3, by simpa using h4⟩
theorem write_ok {f T E : Nat} (hfn : FnOk P f) (hc : WriteSpec P f T E) : ExtOk P G f (writeG T E) := by
  have key : ∀ (args : List AV) (H : Heap) (v : AV) (H' : Heap), writeG T E args H = some (v, H') → ∃ o s, args = [.ptr o 0, .str s] ∧ H.floor ≤ o ∧ v = .tup [.int .i64 s.length, .nili] ∧
      ((∃ b, H.get o = some (.bld T none) ∧ b = s.length ∧ s.length ≤ 140737488355328 ∧ ((s = [] ∧ H' = H.set o (.bld T none)) ∨ (s ≠ [] ∧ H' = (H.push (.buf E s)).set o (.bld T (some (H.next, s.length)))))) ∨
       (∃ q bs, H.get o = some (.bld T (some (q, bs.length))) ∧ H.get q = some (.buf E bs) ∧ H.floor ≤ q ∧ bs.length + s.length ≤ 140737488355328 ∧ H' = ((H.set q .dead).push (.buf E (bs ++ s))).set o (.bld T (some (H.next, bs.length + s.length))))) := by
    intro args H v H' hg
    unfold writeG at hg
    split at hg
    · rename_i o s
      cases hf : Nat.ble H.floor o with
      | false => rw [hf] at hg; cases hg
      | true =>
        rw [hf, cond_true] at hg
        cases hw : writeB T E o s H with
        | none => rw [hw] at hg; cases hg
        | some H2 =>
          rw [hw] at hg; simp only [Option.map_some, Option.some.injEq, Prod.mk.injEq] at hg
          obtain ⟨rfl, rfl⟩ := hg
          refine ⟨o, s, rfl, Nat.le_of_ble_eq_true hf, rfl, ?_⟩
          unfold writeB at hw
          split at hw
          · rename_i T' hb
            cases hq : (Nat.beq T' T && Nat.ble s.length 140737488355328) with
            | false => rw [hq] at hw; cases hw
            | true =>
              rw [hq, cond_true] at hw
              simp at hq
              obtain ⟨rfl, hl⟩ := hq
              refine .inl ⟨_, bldAt_some hb, rfl, hl, ?_⟩
              cases s with
              | nil => simp at hw; exact .inl ⟨rfl, hw.symm⟩
              | cons a s => simp at hw; exact .inr ⟨by simp, by rw [← hw]; rfl⟩
          · rename_i T' q n hb
            split at hw
            · rename_i E' bs hq
              cases hh : (Nat.beq T' T && Nat.beq E' E && Nat.beq n bs.length && Nat.ble H.floor q && Nat.ble (n + s.length) 140737488355328) with
              | false => rw [hh] at hw; cases hw
              | true =>
                rw [hh, cond_true] at hw
                simp at hh
                obtain ⟨⟨⟨⟨rfl, rfl⟩, rfl⟩, hfq⟩, hl⟩ := hh
                exact .inr ⟨q, bs, bldAt_some hb, bufAt_some hq, hfq, hl, by simpa using hw.symm⟩
            · cases hw
          · cases hw
    · cases hg
  refine ⟨fun args H v H' hg hfn => ?_, fun B W Z args H v H' φ w avs hg hl hH hK => ?_⟩
  · obtain ⟨o, s, _, hf, _, hcs⟩ := key _ _ _ _ hg
    rcases hcs with ⟨_, ho, _, _, ⟨_, rfl⟩ | ⟨_, rfl⟩⟩ | ⟨q, bs, ho, hq, hfq, _, rfl⟩
    · exact Mono.set _ hf ho
    · exact Mono.push_set _ _ hfn hf ho
    · have hso : ∃ x, (H.set q .dead).get o = some x := by
        rw [Heap.get_set]; split
        · exact ⟨_, rfl⟩
        · exact ⟨_, ho⟩
      obtain ⟨x, hx⟩ := hso
      exact (Mono.set .dead hfq hq).trans (Mono.push_set _ _ hfn hf hx)
  · obtain ⟨o, s, rfl, hf, rfl, hcs⟩ := key _ _ _ _ hg
    cases hl with
    | cons h1 t =>
      cases t with
      | cons h2 t =>
        cases t
        cases h1 with
        | ptr _ _ L hL =>
          cases h2 with
          | str b0 =>
            have hs0 : (natsOf b0).length = b0.size := natsOf_len b0
            have hoB : B ≤ o := Nat.le_trans hH.fl hf
            refine ⟨hfn, ?_⟩
            rcases hcs with ⟨_, ho, _, hlen, hcase⟩ | ⟨q, bs, ho, hq, hfq, hlen, rfl⟩
            · obtain ⟨p, hb, hp, hbase⟩ := hH.obj o L _ hL ho
              have hlt : L.blk < w.heap.size := hH.live_in hL ⟨_, ho, by simp⟩ hoB
              have hon : o < H.next := hH.get_lt ho
              rw [hbase]
              refine (hc (b := L.blk) (p := p) (v := .slice none 0 0) (bs := []) b0 hb hp (World.ownsRow_nil w 0 E 1) (by simp [Value.ownBlock]) (by simp; omega)).mono ?_
              rintro e w' ⟨rfl, v', hb', hown', hnil, hwh, hkept, hsz, e1, e2, e3⟩
              have hgr := hH.grown (w' := withBlk w' L.blk (.cells #[p, .slice none 0 0] T (0, 0))) (by rw [withBlk_size]; exact hsz) (fun k hk => by
                by_cases hkb : k = L.blk
                · subst hkb; rw [withBlk_same (by omega), hb]
                · rw [withBlk_other hkb]; exact hkept k hk hkb (by simp [Value.ownBlock])) e1 e2 e3
              have hret : ∀ φ' : Pl, VRel φ' (.tup [.int .i64 (natsOf b0).length, .nili]) (.tuple #[.int .i64 b0.size, .nilIface]) := fun φ' => by
                rw [hs0]; exact .tup _ _ (.cons (.int _ _) (.cons .nili .nil))
              rcases hcase with ⟨hs, rfl⟩ | ⟨hs, rfl⟩
              · have hz : b0.size = 0 := by rw [← hs0, hs]; rfl
                have hv' : v' = .slice none 0 0 := hnil.2 ⟨rfl, hz⟩
                subst hv'
                have hl := builder_last (x := .bld T none) hgr.1 hL ho (by simp) hf ⟨_, hb', .inr rfl, hbase⟩
                exact ⟨φ, _, rfl, hret φ, hl.1, hgr.2.trans hl.2⟩
              · have hz : b0.size ≠ 0 := fun q => hs (List.length_eq_zero_iff.1 (by rw [hs0, q]))
                have hv' : v' ≠ .slice none 0 0 := fun q => hz (hnil.1 q).2
                obtain ⟨g, cap, cur, rfl, hg', hn1, hn2, hn3, hn4⟩ := row_some hown' hv'
                have hgs : g = w.heap.size := by
                  rcases hwh with r | r
                  · simp [Value.ownBlock] at r
                  · simpa [Value.ownBlock] using r
                have hgb : g ≠ L.blk := by omega
                have hp1 := hH.pushAny (by exact hK) (.buf E (natsOf b0)) ⟨g, 0, cap⟩ (w' := withBlk w' L.blk (.cells #[p, .slice none 0 0] T (0, 0))) (by simp only; omega) (by rw [withBlk_size]; exact hsz) (fun k hk => by
                  by_cases hkb : k = L.blk
                  · subst hkb; rw [withBlk_same (by omega), hb]
                  · rw [withBlk_other hkb]; exact hkept k hk hkb (by simp [Value.ownBlock])) e1 e2 e3
                  ⟨cur, b0.data.toList, by rw [withBlk_other hgb]; exact hg', rfl, hn3, hn2, by rw [hs0]; simpa using hn1, rfl, by rw [hs0]; simpa [strCells_eq] using hn4⟩
                have hget : (H.push (.buf E (natsOf b0))).get o = some (.bld T none) := by rw [Heap.get_push, if_neg (by omega)]; exact ho
                have hl := builder_last (x := .bld T (some (H.next, (natsOf b0).length))) hp1.1 (hp1.2.ext _ _ hL) hget (by simp) hf ⟨_, ⟨g, 0, cap⟩, Pl.put_same _ _ _, by rw [hb', hs0]; simp, .inr rfl, hbase⟩
                exact ⟨_, _, rfl, hret _, hl.1, hp1.2.trans hl.2⟩
            · obtain ⟨p, Lq, hLq, hb, hp, hbase⟩ := hH.obj o L _ hL ho
              obtain ⟨cur0, l, hc0, hqb, hcs0, hcm0, hbl, hbs, htk⟩ := hH.obj q Lq _ hLq hq
              have hqB : B ≤ q := Nat.le_trans hH.fl hfq
              have hlt : L.blk < w.heap.size := hH.live_in hL ⟨_, ho, by simp⟩ hoB
              have hltq : Lq.blk < w.heap.size := hH.live_in hLq ⟨_, hq, by simp⟩ hqB
              have hon : o < H.next := hH.get_lt ho
              have hqn : q < H.next := hH.get_lt hq
              have hoq : o ≠ q := fun r => by subst r; rw [ho] at hq; cases hq
              have hne : Lq.blk ≠ L.blk := fun r => hoq (hH.inj o q L Lq hL hLq hoB hqB ⟨_, ho, by simp⟩ ⟨_, hq, by simp⟩ r.symm)
              have hll : l.length = bs.length := by rw [hbs]; simp
              rw [hbase]
              have hown : w.ownsRow 0 E 1 (.slice (some ⟨Lq.blk, 0, none⟩) bs.length Lq.size) (l.map fun x => Value.int .u8 x.toNat).length (l.map fun x => Value.int .u8 x.toNat) :=
                ⟨by simp, .inr ⟨Lq.blk, Lq.size, cur0, by simp [hll], Nat.zero_le _, hc0, by simp [hll]; exact hbl, by unfold maxLen; omega, by simpa using hcs0, by simp [hll]; exact htk⟩⟩
              refine (hc (b := L.blk) (p := p) b0 hb hp hown (by simp [Value.ownBlock, hne]) (by simp [hll]; omega)).mono ?_
              rintro e w' ⟨rfl, v', hb', hown', hnil, hwh, hkept, hsz, e1, e2, e3⟩
              have hret : ∀ φ' : Pl, VRel φ' (.tup [.int .i64 (natsOf b0).length, .nili]) (.tuple #[.int .i64 b0.size, .nilIface]) := fun φ' => by
                rw [hs0]; exact .tup _ _ (.cons (.int _ _) (.cons .nili .nil))
              have hv' : v' ≠ .slice none 0 0 := fun r => by have := (hnil.1 r).1; simp at this
              obtain ⟨g, cap, cur, rfl, hg', hn1, hn2, hn3, hn4⟩ := row_some hown' hv'
              have hxl : (l.map fun x => Value.int .u8 x.toNat).length = bs.length := by simp [hll]
              rw [hxl] at hn1 hn4 hb'
              have hgb : g ≠ L.blk := by
                rcases hwh with r | r <;> simp [Value.ownBlock] at r
                · rw [r]; exact hne
                · omega
              have hlen2 : (bs ++ natsOf b0).length = bs.length + b0.size := by rw [List.length_append, hs0]
              have hkept' : ∀ k, k < w.heap.size → k ≠ L.blk → k ≠ Lq.blk → w'.heap[k]? = w.heap[k]? := fun k h1 h2 h3 => hkept k h1 h2 (by simp [Value.ownBlock, h3])
              obtain ⟨X, hX⟩ : ∃ X, w'.heap[Lq.blk]? = some X := ⟨_, Array.getElem?_eq_getElem (by omega)⟩
              have hset : ∀ k, ({ w' with heap := w.heap.setIfInBounds Lq.blk X } : World).heap[k]? = if k = Lq.blk then some X else w.heap[k]? := fun k => by
                simp only [Array.getElem?_setIfInBounds]
                by_cases r : Lq.blk = k
                · subst r; simp [hltq]
                · rw [if_neg r, if_neg (fun q => r q.symm)]
              have hmid : ∀ k, k < w.heap.size → (withBlk w' L.blk (.cells #[p, .slice (some ⟨Lq.blk, 0, none⟩) bs.length Lq.size] T (0, 0))).heap[k]? = ({ w' with heap := w.heap.setIfInBounds Lq.blk X } : World).heap[k]? := fun k hk => by
                rw [hset]
                by_cases hkb : k = L.blk
                · subst hkb; rw [withBlk_same (by omega), if_neg (fun r => hne r.symm), hb]
                · rw [withBlk_other hkb]
                  by_cases hkq : k = Lq.blk
                  · rw [if_pos hkq, hkq, hX]
                  · rw [if_neg hkq]; exact hkept' k hk hkb hkq
              have hszm : ({ w' with heap := w.heap.setIfInBounds Lq.blk X } : World).heap.size = w.heap.size := by simp
              have hbuf : ∀ (φ' : Pl) (w1 : World) (i : Nat), w1.heap[g]? = some (.cells cur E (0, 0)) → ORel φ' w1 B i ⟨g, 0, cap⟩ (.buf E (bs ++ natsOf b0)) := fun φ' w1 i hw1 =>
                ⟨cur, l ++ b0.data.toList, hw1, rfl, hn3, hn2, by rw [hlen2]; exact hn1, by rw [List.map_append, hbs]; rfl, by rw [hlen2, hn4, List.map_append, strCells_eq]⟩
              have hlast : ∀ (φ' : Pl) (H1 : Heap), HRel G B W Z φ' H1 (withBlk w' L.blk (.cells #[p, .slice (some ⟨Lq.blk, 0, none⟩) bs.length Lq.size] T (0, 0))) → φ' o = some L → H1.get o = some (.bld T (some (q, bs.length))) → H1.floor ≤ o → φ' H.next = some ⟨g, 0, cap⟩ →
                  HRel G B W Z φ' (H1.set o (.bld T (some (H.next, bs.length + (natsOf b0).length)))) w' ∧ Step φ' H1 (withBlk w' L.blk (.cells #[p, .slice (some ⟨Lq.blk, 0, none⟩) bs.length Lq.size] T (0, 0))) φ' (H1.set o (.bld T (some (H.next, bs.length + (natsOf b0).length)))) w' := fun φ' H1 h1 h2 h3 h4 h5 =>
                builder_last h1 h2 h3 (by simp) h4 ⟨_, ⟨g, 0, cap⟩, h5, by rw [hb', hs0], .inr rfl, hbase⟩
              by_cases hgq : g = Lq.blk
              · have hXc : X = .cells cur E (0, 0) := by rw [← hgq, hg'] at hX; exact (Option.some.inj hX).symm
                have ht := hH.take (w' := { w' with heap := w.heap.setIfInBounds Lq.blk X }) (by exact hK) (.buf E (bs ++ natsOf b0)) (L' := ⟨g, 0, cap⟩) hLq hq (by simp) hfq e1 e2 e3 hszm hgq (fun k hk => by rw [hset, if_neg hk]) (hbuf _ _ _ (by rw [hset, if_pos hgq, hXc]))
                have hgr := ht.1.grown (w' := withBlk w' L.blk (.cells #[p, .slice (some ⟨Lq.blk, 0, none⟩) bs.length Lq.size] T (0, 0))) (by rw [withBlk_size, hszm]; exact hsz) (fun k hk => hmid k (by rw [hszm] at hk; exact hk)) rfl rfl rfl
                have hl := hlast _ _ hgr.1 (ht.2.ext _ _ hL) (by rw [Heap.get_push, if_neg (by show o ≠ H.next; omega), Heap.get_set, if_neg hoq]; exact ho) hf (Pl.put_same _ _ _)
                exact ⟨_, _, rfl, hret _, hl.1, (ht.2.trans hgr.2).trans hl.2⟩
              · have hgs : g = w.heap.size := by
                  rcases hwh with r | r <;> simp [Value.ownBlock] at r
                  · exact absurd r hgq
                  · exact r
                have hk1 := hH.set (w' := { w' with heap := w.heap.setIfInBounds Lq.blk X }) .dead hLq hq (by simp) hfq e1 e2 e3 hszm (fun k hk => by rw [hset, if_neg hk]) trivial
                have hp1 := hk1.1.pushAny (by exact hK) (.buf E (bs ++ natsOf b0)) ⟨g, 0, cap⟩ (w' := withBlk w' L.blk (.cells #[p, .slice (some ⟨Lq.blk, 0, none⟩) bs.length Lq.size] T (0, 0))) (by rw [hszm]; simp only; omega) (by rw [withBlk_size, hszm]; exact hsz) (fun k hk => hmid k (by rw [hszm] at hk; exact hk)) rfl rfl rfl (hbuf _ _ _ (by rw [withBlk_other hgb]; exact hg'))
                have hl := hlast _ _ hp1.1 (hp1.2.ext _ _ hL) (by rw [Heap.get_push, if_neg (by show o ≠ H.next; omega), Heap.get_set, if_neg hoq]; exact ho) hf (Pl.put_same _ _ _)
                exact ⟨_, _, rfl, hret _, hl.1, (hk1.2.trans hp1.2).trans hl.2⟩
theorem drew_rel {B W Z : Nat} {φ : Pl} {H : Heap} {w : World} (h : HRel G B W Z φ H w) : HRel G B W Z φ H w.drew ∧ Step φ H w φ H w.drew := h.grown (Nat.le_refl _) (fun _ _ => rfl) rfl rfl rfl
theorem string_ok {f T E : Nat} (hfn : FnOk P f) (hc : StringSpec P f T E) : ExtOk P G f (stringG T E) := by
  have key : ∀ (args : List AV) (H : Heap) (v : AV) (H' : Heap), stringG T E args H = some (v, H') → ∃ o, args = [.ptr o 0] ∧
      ((H.get o = some (.bld T none) ∧ v = .str [] ∧ H' = H) ∨
       (∃ q bs, H.get o = some (.bld T (some (q, bs.length))) ∧ H.get q = some (.buf E bs) ∧ H.floor ≤ q ∧ H.floor ≤ o ∧ 0 < bs.length ∧ v = .str bs ∧ H' = H.set q .dead)) := by
    intro args H v H' hg
    unfold stringG at hg
    split at hg
    · rename_i o
      refine ⟨o, rfl, ?_⟩
      split at hg
      · rename_i T' hb
        cases hq : Nat.beq T' T with
        | false => rw [hq] at hg; cases hg
        | true =>
          rw [hq] at hg; cases hg
          have := Nat.eq_of_beq_eq_true hq
          subst this
          exact .inl ⟨bldAt_some hb, rfl, rfl⟩
      · rename_i T' q n hb
        split at hg
        · rename_i E' bs hq
          cases hh : (Nat.beq T' T && Nat.beq E' E && Nat.beq n bs.length && Nat.ble H.floor q && Nat.blt 0 n && Nat.ble H.floor o) with
          | false => rw [hh] at hg; cases hg
          | true =>
            rw [hh] at hg; cases hg
            simp only [Bool.and_eq_true, Nat.ble_eq, Nat.blt] at hh
            obtain ⟨⟨⟨⟨⟨h1, h2⟩, h3⟩, h4⟩, h5⟩, h6⟩ := hh
            have h1 := Nat.eq_of_beq_eq_true h1
            have h2 := Nat.eq_of_beq_eq_true h2
            have h3 := Nat.eq_of_beq_eq_true h3
            subst h1; subst h2; subst h3
            exact .inr ⟨q, bs, bldAt_some hb, bufAt_some hq, h4, h6, h5, rfl, rfl⟩
        · cases hg
      · cases hg
    · cases hg
  refine ⟨fun args H v H' hg _ => ?_, fun B W Z args H v H' φ w avs hg hl hH _ => ?_⟩
  · obtain ⟨o, _, ⟨_, _, rfl⟩ | ⟨q, bs, _, hq, hf, _, _, _, rfl⟩⟩ := key _ _ _ _ hg
    · exact Mono.refl _
    · exact Mono.set _ hf hq
  · obtain ⟨o, rfl, hcs⟩ := key _ _ _ _ hg
    cases hl with
    | cons h t =>
      cases t
      cases h with
      | ptr _ _ L hL =>
        refine ⟨hfn, ?_⟩
        have hd := drew_rel hH
        rcases hcs with ⟨ho, rfl, rfl⟩ | ⟨q, bs, ho, hq, hfq, hfo, hpos, rfl, rfl⟩
        · obtain ⟨p, hb, hp, hbase⟩ := hH.obj o L _ hL ho
          rw [hbase]
          refine (hc.1 hb).mono ?_
          rintro e w' ⟨rfl, rfl⟩
          exact ⟨φ, _, rfl, .str ⟨#[]⟩, hd.1, hd.2⟩
        · obtain ⟨p, Lq, hLq, hb, hp, hbase⟩ := hH.obj o L _ hL ho
          obtain ⟨cur, l, hcq, hqb, hcs, hcm, hbl, hbs, htk⟩ := hH.obj q Lq _ hLq hq
          have hll : l.length = bs.length := by rw [hbs]; simp
          have hlt : Lq.blk < w.heap.size := hH.live_in hLq ⟨_, hq, by simp⟩ (Nat.le_trans hH.fl hfq)
          rw [hbase]
          refine (hc.2 (g := Lq.blk) (cap := Lq.size) (cur := cur) l (fun r => by subst r; simp at hll; omega) (by rw [hll]; exact hb) hcq (by omega) hcm hcs (by rw [hll]; exact htk)).mono ?_
          rintro e w' ⟨rfl, rfl⟩
          have hfz : ∀ k, k ≠ Lq.blk → (w.drew.freeze ⟨Lq.blk, 0, none⟩ l.length).heap[k]? = w.drew.heap[k]? := fun k hk => by
            unfold World.freeze
            split
            · rfl
            · simp only [Array.getElem?_modify]; rw [if_neg fun r => hk r.symm]
          have hsz : (w.drew.freeze ⟨Lq.blk, 0, none⟩ l.length).heap.size = w.drew.heap.size := by
            unfold World.freeze
            split
            · rfl
            · simp
          have e1 : (w.drew.freeze ⟨Lq.blk, 0, none⟩ l.length).os = w.drew.os ∧ (w.drew.freeze ⟨Lq.blk, 0, none⟩ l.length).tape = w.drew.tape ∧ (w.drew.freeze ⟨Lq.blk, 0, none⟩ l.length).output = w.drew.output := by
            unfold World.freeze
            split <;> exact ⟨rfl, rfl, rfl⟩
          have hk := hd.1.set (w' := w.drew.freeze ⟨Lq.blk, 0, none⟩ l.length) .dead hLq hq (by simp) hfq e1.1 e1.2.1 e1.2.2 hsz hfz trivial
          refine ⟨φ, _, rfl, ?_, hk.1, hd.2.trans hk.2⟩
          rw [hbs, ← natsOf_mk]; exact .str _
end Go.AI
