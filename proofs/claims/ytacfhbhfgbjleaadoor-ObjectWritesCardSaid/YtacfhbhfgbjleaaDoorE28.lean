/- Bytes cut into words, plainly. No claim by itself. -/
import Derived.Test.YtacfhbhfgbjleaaDoorE27
namespace Go.AI
inductive SS (α : Type) where
  | out
  | com
  | word (f : Nat) (acc : List α)
def isBl (c : Nat) : Bool := Nat.beq c 32 || Nat.beq c 9 || Nat.beq c 13 || Nat.beq c 10
/-- The words of bytes from a place on. -/
def scanW {α : Type} (val : α → Nat) : List α → Nat → SS α → List (Nat × List α)
  | [], _, .word f acc => [(f, acc.reverse)]
  | [], _, .out => []
  | [], _, .com => []
  | c :: r, p, .out => bif isBl (val c) then scanW val r (p + 1) .out else bif Nat.beq (val c) 35 then scanW val r (p + 1) .com else scanW val r (p + 1) (.word p [c])
  | c :: r, p, .com => bif Nat.beq (val c) 10 then scanW val r (p + 1) .out else scanW val r (p + 1) .com
  | c :: r, p, .word f acc => bif isBl (val c) then (f, acc.reverse) :: scanW val r (p + 1) .out else scanW val r (p + 1) (.word f (c :: acc))
section
variable {α : Type} {val : α → Nat}
theorem drop_get {l : List α} {k : Nat} {c : α} (h : l[k]? = some c) : l.drop k = c :: l.drop (k + 1) := by
  obtain ⟨hk, rfl⟩ := List.getElem?_eq_some_iff.1 h
  exact List.drop_eq_getElem_cons hk
theorem bl10 : isBl 10 = true := rfl
theorem bl35 : isBl 35 = false := rfl
theorem scan_blank {l : List α} {k : Nat} {c : α} (h : l[k]? = some c) (hb : isBl (val c) = true) : scanW val (l.drop k) k .out = scanW val (l.drop (k + 1)) (k + 1) .out := by
  rw [drop_get h]; simp [scanW, hb]
theorem scan_hash {l : List α} {k : Nat} {c : α} (h : l[k]? = some c) (hb : val c = 35) : scanW val (l.drop k) k .out = scanW val (l.drop k) k .com := by
  rw [drop_get h]; simp [scanW, hb, bl35]
theorem scan_com {l : List α} {k : Nat} {c : α} (h : l[k]? = some c) (hb : val c ≠ 10) : scanW val (l.drop k) k .com = scanW val (l.drop (k + 1)) (k + 1) .com := by
  rw [drop_get h]; simp [scanW, hb]
theorem scan_comend {l : List α} {k : Nat} (h : ∀ c, l[k]? = some c → val c = 10) : scanW val (l.drop k) k .com = scanW val (l.drop k) k .out := by
  cases hc : l[k]? with
  | none => rw [List.drop_eq_nil_of_le (by simpa using hc)]; rfl
  | some c => rw [drop_get hc]; simp [scanW, h c hc, bl10]
theorem scan_start {l : List α} {k : Nat} {c : α} (h : l[k]? = some c) (hb : isBl (val c) = false) (h5 : val c ≠ 35) : scanW val (l.drop k) k .out = scanW val (l.drop k) k (.word k []) := by
  rw [drop_get h]; simp [scanW, hb, h5]
theorem take_drop_succ {l : List α} {k m : Nat} {c : α} (h : l[m]? = some c) (hk : k ≤ m) : (l.drop k).take (m + 1 - k) = (l.drop k).take (m - k) ++ [c] := by
  have e : m + 1 - k = (m - k) + 1 := by omega
  rw [e, List.take_add_one, List.getElem?_drop]
  have : k + (m - k) = m := by omega
  rw [this, h]; rfl
theorem scan_word {l : List α} {k m : Nat} {c : α} (h : l[m]? = some c) (hk : k ≤ m) (hb : isBl (val c) = false) :
    scanW val (l.drop m) m (.word k ((l.drop k).take (m - k)).reverse) = scanW val (l.drop (m + 1)) (m + 1) (.word k ((l.drop k).take (m + 1 - k)).reverse) := by
  rw [drop_get h, take_drop_succ h hk]; simp [scanW, hb]
theorem scan_wordend {l : List α} {k m : Nat} (h : ∀ c, l[m]? = some c → isBl (val c) = true) :
    scanW val (l.drop m) m (.word k ((l.drop k).take (m - k)).reverse) = (k, (l.drop k).take (m - k)) :: scanW val (l.drop m) m .out := by
  cases hc : l[m]? with
  | none => rw [List.drop_eq_nil_of_le (by simpa using hc)]; simp [scanW]
  | some c => rw [drop_get hc]; simp [scanW, h c hc]
theorem scan_end {l : List α} : scanW val (l.drop l.length) l.length .out = [] := by simp [scanW]
theorem scan_map {β : Type} (g : α → β) (v2 : β → Nat) (hv : ∀ a, v2 (g a) = val a) : ∀ (l : List α) (p : Nat) (s : SS α),
    scanW v2 (l.map g) p (match s with | .out => .out | .com => .com | .word f acc => .word f (acc.map g)) = (scanW val l p s).map fun t => (t.1, t.2.map g)
  | [], p, .out => rfl
  | [], p, .com => rfl
  | [], p, .word f acc => by simp [scanW]
  | c :: r, p, .out => by
    have h1 := scan_map g v2 hv r (p + 1) .out
    have h2 := scan_map g v2 hv r (p + 1) .com
    have h3 := scan_map g v2 hv r (p + 1) (.word p [c])
    simp only [List.map_cons, scanW, hv]
    cases isBl (val c) with
    | true => simpa using h1
    | false =>
      simp only [cond_false]
      cases Nat.beq (val c) 35 with
      | true => simpa using h2
      | false => simpa using h3
  | c :: r, p, .com => by
    have h1 := scan_map g v2 hv r (p + 1) .out
    have h2 := scan_map g v2 hv r (p + 1) .com
    simp only [List.map_cons, scanW, hv]
    cases Nat.beq (val c) 10 with
    | true => simpa using h1
    | false => simpa using h2
  | c :: r, p, .word f acc => by
    have h1 := scan_map g v2 hv r (p + 1) .out
    have h3 := scan_map g v2 hv r (p + 1) (.word f (c :: acc))
    simp only [List.map_cons, scanW, hv]
    cases isBl (val c) with
    | true => simp only [cond_true, List.map_cons, List.map_reverse, h1]
    | false => simpa using h3
theorem scan_len : ∀ (l : List α) (p : Nat) (s : SS α), (scanW val l p s).length ≤ l.length + (match s with | .word _ _ => 1 | _ => 0)
  | [], p, .out => by simp [scanW]
  | [], p, .com => by simp [scanW]
  | [], p, .word f acc => by simp [scanW]
  | c :: r, p, .out => by
    have h1 := scan_len r (p + 1) .out
    have h2 := scan_len r (p + 1) .com
    have h3 := scan_len r (p + 1) (.word p [c])
    simp only [scanW, List.length_cons]
    cases isBl (val c) with
    | true => simp only [cond_true]; simp at h1 ⊢; omega
    | false =>
      simp only [cond_false]
      cases Nat.beq (val c) 35 with
      | true => simp at h2 ⊢; omega
      | false => simp at h3 ⊢; omega
  | c :: r, p, .com => by
    have h1 := scan_len r (p + 1) .out
    have h2 := scan_len r (p + 1) .com
    simp only [scanW, List.length_cons]
    cases Nat.beq (val c) 10 with
    | true => simp at h1 ⊢; omega
    | false => simp at h2 ⊢; omega
  | c :: r, p, .word f acc => by
    have h1 := scan_len r (p + 1) .out
    have h3 := scan_len r (p + 1) (.word f (c :: acc))
    simp only [scanW, List.length_cons]
    cases isBl (val c) with
    | true => simp at h1 ⊢; omega
    | false => simp at h3 ⊢; omega
end
end Go.AI
