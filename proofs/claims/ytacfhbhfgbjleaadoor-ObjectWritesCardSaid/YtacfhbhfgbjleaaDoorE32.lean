/- Ranging over a string; a word that is a number. No claim by itself. -/
import Derived.Test.YtacfhbhfgbjleaaDoorE31
namespace Go.AI
section
variable {e : Opd → AV} {H : Heap}
def rangeSA (H : Heap) : AV → Option (AV × Heap)
  | .str s => some (.ptr H.next 0, H.push (.siter s 0))
  | _ => none
@[simp] theorem rangeSA_str {s : List Nat} : rangeSA H (.str s) = some (.ptr H.next 0, H.push (.siter s 0)) := rfl
@[simp] theorem p_rangeS {x : Opd} : plainOp e H (.rangeS x) = rangeSA H (e x) := rfl
def nextSA (H : Heap) : AV → Option (AV × Heap)
  | .ptr o 0 =>
    bif Nat.ble H.floor o then
      match H.get o with
      | some (.siter s pos) =>
        if pos < s.length then
          let (c, w) := decodeA s pos
          some (.tup [.bool true, aInt pos, .int .i32 c], H.set o (.siter s (pos + w)))
        else some (.tup [.bool false], H)
      | _ => none
    else none
  | _ => none
@[simp] theorem p_nextS {x : Opd} : plainOp e H (.nextS x) = nextSA H (e x) := rfl
theorem nextSA_end {o pos : Nat} {s : List Nat} (hf : H.floor ≤ o) (hg : H.get o = some (.siter s pos)) (h : ¬ pos < s.length) : nextSA H (.ptr o 0) = some (.tup [.bool false], H) := by
  simp [nextSA, hf, hg, h]
theorem nextSA_go {o pos c w : Nat} {s : List Nat} (hf : H.floor ≤ o) (hg : H.get o = some (.siter s pos)) (h : pos < s.length) (hd : decodeA s pos = (c, w)) :
    nextSA H (.ptr o 0) = some (.tup [.bool true, .int .i64 pos, .int .i32 c], H.set o (.siter s (pos + w))) := by
  simp [nextSA, hf, hg, h, hd, aInt]
end
theorem get_byte (s : List Nat) (i b : Nat) (h : s[i]? = some b) (hb : b < 256) : ((⟨(s.map UInt8.ofNat).toArray⟩ : ByteArray).get! i).toNat = b := by
  have hi : i < s.length := (List.getElem?_eq_some_iff.1 h).1
  have e : (⟨(s.map UInt8.ofNat).toArray⟩ : ByteArray).get! i = (s.map UInt8.ofNat).toArray[i]! := rfl
  rw [e, getElem!_pos _ _ (by simpa using hi)]
  have hs : s[i] = b := by have := (List.getElem?_eq_some_iff.1 h).2; exact this
  simp [hs, UInt8.toNat_ofNat', Nat.mod_eq_of_lt hb]
theorem decode_small {s : List Nat} {i b : Nat} (h : s[i]? = some b) (hb : b < 128) : decodeA s i = (b, 1) := by
  have hg := get_byte s i b h (by omega)
  unfold decodeA Utf8.decode
  simp only [Nat.add_zero, hg]
  rw [if_pos hb]
theorem decode_big {s : List Nat} {i b : Nat} (h : s[i]? = some b) (hb : 128 ≤ b) (hb2 : b < 256) : ∃ c w, decodeA s i = (c, w) ∧ 128 ≤ c ∧ c < 2147483648 := by
  have hg := get_byte s i b h hb2
  unfold decodeA Utf8.decode
  simp only [Nat.add_zero, hg]
  rw [if_neg (by omega)]
  have hre : Utf8.runeError = 65533 := rfl
  split
  · split
    · refine ⟨_, _, rfl, by omega, ?_⟩
      have := Nat.mod_lt b (show 0 < 32 by omega)
      omega
    · exact ⟨_, _, rfl, by rw [hre]; omega, by rw [hre]; omega⟩
  · split
    · split
      · rename_i hq
        simp only [ge_iff_le, Bool.and_eq_true, decide_eq_true_eq] at hq
        refine ⟨_, _, rfl, by omega, ?_⟩
        omega
      · exact ⟨_, _, rfl, by rw [hre]; omega, by rw [hre]; omega⟩
    · split
      · split
        · rename_i hq
          simp only [ge_iff_le, Bool.and_eq_true, decide_eq_true_eq] at hq
          refine ⟨_, _, rfl, by omega, ?_⟩
          omega
        · exact ⟨_, _, rfl, by rw [hre]; omega, by rw [hre]; omega⟩
      · exact ⟨_, _, rfl, by rw [hre]; omega, by rw [hre]; omega⟩
/-! ### Numbers -/
def isDg (c : Nat) : Bool := decide (48 ≤ c) && decide (c ≤ 57)
def digV (l : List Nat) : Nat := l.foldl (fun n d => 10 * n + (d - 48)) 0
def digsOf (s : List Nat) : List Nat := if s.head? = some 45 then s.tail else s
def wfN (s : List Nat) : Bool := !(digsOf s).isEmpty && (digsOf s).all isDg && !(decide ((digsOf s).head? = some 48) && !decide (s = [48]))
def sval (s : List Nat) : Int := if s.head? = some 45 then -(digV s.tail : Int) else digV s
/-- What a word is, up to a greatest number: the number, and what is wrong. -/
def numT (s : List Nat) (most : Int) : Int × Int := if wfN s = false then (0, 11) else if most < 0 ∨ most < digV (digsOf s) then (0, 10) else (sval s, 0)
theorem digV_snoc (l : List Nat) (d : Nat) : digV (l ++ [d]) = 10 * digV l + (d - 48) := by simp [digV]
/-- What a word is, in a range. -/
def numR (s : List Nat) (lo hi : Int) : Int × Int := if wfN s = false then (0, 11) else if lo ≤ sval s ∧ sval s ≤ hi then (sval s, 0) else (0, 10)
end Go.AI
