/- A table of functions out of a list, and what holds of temporaries. No claim by itself. -/
import Derived.Test.YtcepchipgjpkhaaE22
import Derived.Test.YtcepchipgjpkhaaE48
namespace Go.AI
variable {P : Program} {G : World → Prop}
def buildT : List (Nat × AFunc) → Tr AFunc
  | [] => .leaf
  | p :: l => (buildT l).set p.1 p.2
theorem buildT_get {f : Nat} {a : AFunc} : ∀ {l : List (Nat × AFunc)}, (buildT l).get f = some a → (f, a) ∈ l
  | [], h => by cases h
  | p :: l, h => by
    unfold buildT at h
    rw [Tr.get_set] at h
    split at h
    · rename_i e; cases h; subst e; exact List.mem_cons_self
    · exact List.mem_cons_of_mem _ (buildT_get h)
def AllOk (P : Program) : List (Nat × AFunc) → Prop
  | [] => True
  | p :: l => FuncOk P p.1 p.2 ∧ AllOk P l
theorem AllOk.mem {p : Nat × AFunc} : ∀ {l : List (Nat × AFunc)}, AllOk P l → p ∈ l → FuncOk P p.1 p.2
  | [], _, h => by cases h
  | q :: l, h, hp => by
    rcases List.mem_cons.1 hp with e | e
    · rw [e]; exact h.1
    · exact h.2.mem e
theorem table_ok {t : Tr AFunc} {l : List (Nat × AFunc)} (e : t = buildT l) (h : AllOk P l) : TableOk P G fun f => (t.get f).map .code := by
  subst e
  intro f
  refine ⟨fun af k => ?_, fun g k => ?_⟩
  · cases q : (buildT l).get f with
    | none => simp [q] at k
    | some a => simp [q] at k; subst k; exact h.mem (buildT_get q)
  · cases q : (buildT l).get f <;> simp [q] at k
/-! ### What the temporaries hold -/
def Tm (τ : Env) : List (Nat × AV) → Prop
  | [] => True
  | p :: l => Env.at τ p.1 = p.2 ∧ Tm τ l
@[simp] theorem Tm_nil {τ : Env} : Tm τ [] = True := rfl
@[simp] theorem Tm_cons {τ : Env} {k : Nat} {v : AV} {l : List (Nat × AV)} : Tm τ ((k, v) :: l) = (Env.at τ k = v ∧ Tm τ l) := rfl
end Go.AI
