/- Digits to the base 65536, and decimal: plain. No claim by itself. -/
import Derived.Test.YtacfhbhfgbjleaaDoorE33
namespace Go.AI
/-- The number of digits, the lowest first. -/
def dval : List Nat → Nat
  | [] => 0
  | d :: ds => d + 65536 * dval ds
def Dg (l : List Nat) : Prop := ∀ d, d ∈ l → d < 65536
/-- No nought at the end. -/
def Nm (l : List Nat) : Prop := l.getLast? ≠ some 0
theorem dval_append (a b : List Nat) : dval (a ++ b) = dval a + 65536 ^ a.length * dval b := by
  induction a with
  | nil => simp [dval]
  | cons d a ih => simp only [List.cons_append, dval, ih, List.length_cons, Nat.pow_succ, Nat.mul_add]; rw [← Nat.mul_assoc, Nat.mul_comm (65536 ^ a.length) 65536]; omega
theorem Dg.app {a b : List Nat} (h : Dg a) (k : Dg b) : Dg (a ++ b) := fun d hd => by
  rcases List.mem_append.1 hd with q | q
  · exact h d q
  · exact k d q
theorem Dg.nil : Dg [] := fun d h => by cases h
theorem Dg.one {d : Nat} (h : d < 65536) : Dg [d] := fun x hx => by simp at hx; omega
theorem Dg.cons {d : Nat} {l : List Nat} (h : d < 65536) (k : Dg l) : Dg (d :: l) := fun x hx => by
  rcases List.mem_cons.1 hx with q | q
  · omega
  · exact k x q
theorem Dg.tail {d : Nat} {l : List Nat} (k : Dg (d :: l)) : Dg l := fun x hx => k x (List.mem_cons_of_mem _ hx)
theorem Dg.take {l : List Nat} (k : Dg l) (n : Nat) : Dg (l.take n) := fun x hx => k x (List.mem_of_mem_take hx)
theorem dval_lt {l : List Nat} (h : Dg l) : dval l < 65536 ^ l.length := by
  induction l with
  | nil => simp [dval]
  | cons d l ih =>
    have h1 := h d (by simp)
    have h2 := ih h.tail
    simp only [dval, List.length_cons, Nat.pow_succ]; omega
theorem dval_ge {l : List Nat} (h : Nm l) (hl : l ≠ []) : 65536 ^ (l.length - 1) ≤ dval l := by
  obtain ⟨a, x, rfl⟩ : ∃ a x, l = a ++ [x] := ⟨l.dropLast, l.getLast hl, (List.dropLast_concat_getLast hl).symm⟩
  have hx : x ≠ 0 := fun q => h (by simp [q])
  rw [dval_append]
  simp only [dval, List.length_append, List.length_cons, List.length_nil, Nat.mul_zero, Nat.add_zero, Nat.add_sub_cancel, Nat.zero_add]
  have : 65536 ^ a.length * 1 ≤ 65536 ^ a.length * x := Nat.mul_le_mul_left _ (by omega)
  omega
theorem dval_zero {l : List Nat} (h : Nm l) : dval l = 0 ↔ l = [] := by
  constructor
  · intro q
    refine Classical.byContradiction fun hl => ?_
    have := dval_ge h hl
    have : 0 < 65536 ^ (l.length - 1) := Nat.pow_pos (by omega)
    omega
  · rintro rfl; rfl
theorem Nm.nil : Nm [] := by simp [Nm]
/-- Without noughts behind. -/
def trimN (l : List Nat) : Nat → Nat
  | 0 => 0
  | n + 1 => if l[n]? = some 0 then trimN l n else n + 1
theorem trimN_le (l : List Nat) : ∀ n, trimN l n ≤ n
  | 0 => Nat.le_refl _
  | n + 1 => by
    unfold trimN; split
    · have := trimN_le l n; omega
    · omega
theorem trimN_val (l : List Nat) : ∀ n, n ≤ l.length → dval (l.take (trimN l n)) = dval (l.take n)
  | 0, _ => rfl
  | n + 1, h => by
    unfold trimN; split
    · rename_i q
      rw [trimN_val l n (by omega), List.take_add_one, q, dval_append]; simp [dval]
    · rfl
theorem trimN_nm (l : List Nat) : ∀ n, n ≤ l.length → Nm (l.take (trimN l n))
  | 0, _ => by simp [trimN, Nm]
  | n + 1, h => by
    unfold trimN; split
    · exact trimN_nm l n (by omega)
    · rename_i q
      have hn : l[n]? = some l[n] := List.getElem?_eq_getElem (by omega)
      intro r
      have e : (l.take (n + 1)).getLast? = some l[n] := by
        rw [List.take_add_one, hn]; exact List.getLast?_concat
      exact q (by rw [hn, ← e]; exact r)
def trimD (l : List Nat) : List Nat := l.take (trimN l l.length)
theorem trimD_val (l : List Nat) : dval (trimD l) = dval l := by unfold trimD; rw [trimN_val l _ (Nat.le_refl _), List.take_length]
theorem trimD_nm (l : List Nat) : Nm (trimD l) := trimN_nm l _ (Nat.le_refl _)
theorem trimD_dg {l : List Nat} (h : Dg l) : Dg (trimD l) := h.take _
theorem trimD_len (l : List Nat) : (trimD l).length ≤ l.length := by unfold trimD; simp; omega
theorem trimD_id {l : List Nat} (h : Nm l) : trimD l = l := by
  unfold trimD
  cases hl : l.length with
  | zero => rw [List.length_eq_zero_iff] at hl; subst hl; rfl
  | succ n =>
    unfold trimN
    have : l[n]? ≠ some 0 := fun q => h (by rw [List.getLast?_eq_getElem?, hl]; simpa using q)
    rw [if_neg this, ← hl, List.take_length]
/-- Digits are told by their number. -/
theorem dval_inj : ∀ {a b : List Nat}, Dg a → Dg b → Nm a → Nm b → dval a = dval b → a = b
  | [], b, _, _, _, nb, h => by
    have : dval b = 0 := by rw [← h]; rfl
    exact ((dval_zero nb).1 this).symm
  | d :: a, [], _, _, na, _, h => by
    exact (dval_zero na).1 (by rw [h]; rfl)
  | d :: a, e :: b, da, db, na, nb, h => by
    have h1 := da d (by simp)
    have h2 := db e (by simp)
    simp only [dval] at h
    have hde : d = e := by omega
    have hab : dval a = dval b := by omega
    have na' : Nm a := by
      cases a with
      | nil => exact Nm.nil
      | cons x a => unfold Nm at na ⊢; rw [List.getLast?_cons_cons] at na; exact na
    have nb' : Nm b := by
      cases b with
      | nil => exact Nm.nil
      | cons x b => unfold Nm at nb ⊢; rw [List.getLast?_cons_cons] at nb; exact nb
    rw [hde, dval_inj da.tail db.tail na' nb' hab]
/-! ### Decimal -/
/-- Decimal digits; none of nought. -/
def decP : Nat → Nat → List Nat
  | 0, _ => []
  | f + 1, u => if u = 0 then [] else decP f (u / 10) ++ [48 + u % 10]
theorem decF_P : ∀ (f u : Nat) (acc : List Nat), 0 < u → u < 10 ^ f → decF f u acc = decP f u ++ acc
  | 0, u, acc, h0, h1 => by simp at h1; omega
  | f + 1, u, acc, h0, h1 => by
    unfold decF decP
    rw [if_neg (by omega)]
    by_cases h : u < 10
    · have hb : Nat.blt u 10 = true := Nat.ble_eq_true_of_le h
      have e0 : u / 10 = 0 := by omega
      have e1 : u % 10 = u := by omega
      have e2 : decP f 0 = [] := by cases f <;> simp [decP]
      rw [hb, e0, e1, e2]; rfl
    · have hb : Nat.blt u 10 = false := by
        cases q : Nat.blt u 10 with
        | false => rfl
        | true => have := Nat.le_of_ble_eq_true q; omega
      rw [hb]
      simp only [cond_false]
      rw [decF_P f (u / 10) _ (by omega) (by rw [Nat.pow_succ] at h1; omega)]
      simp
end Go.AI
