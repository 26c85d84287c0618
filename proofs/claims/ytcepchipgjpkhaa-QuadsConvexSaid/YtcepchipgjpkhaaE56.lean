/- A table of functions out of a list, and what holds of temporaries. No claim by itself. -/
import Derived.Test.YtcepchipgjpkhaaE22
import Derived.Test.YtcepchipgjpkhaaE48
namespace Go.AI
variable {P : Program} {G : World -> Prop}
def zag6 : List (Nat × zc2) -> Tr zc2
 | [] => .leaf
 | p :: l => (zag6 l).set p.1 p.2
theorem zak6 {f : Nat} {a : zc2} : ∀ {l : List (Nat × zc2)}, (zag6 l).get f = some a -> (f, a) ∈ l
 | [], h => by cases h
 | p :: l, h => by
  unfold zag6 at h
  rw [Tr.get_set] at h
  split at h
  ·rename_i e; cases h; subst e; exact List.mem_cons_self
  ·exact List.mem_cons_of_mem _ (zak6 h)
def zbm1 (P : Program) : List (Nat × zc2) -> Prop
 | [] => True
 | p :: l => zb4 P p.1 p.2 /\ zbm1 P l
theorem zbm1.mem {p : Nat × zc2} : ∀ {l : List (Nat × zc2)}, zbm1 P l -> p ∈ l -> zb4 P p.1 p.2
 | [], _, h => by cases h
 | q :: l, h, hp => by
  rcases List.mem_cons.1 hp with e | e
  ·rw [e]; exact h.1
  ·exact h.2.mem e
theorem zbo1 {t : Tr zc2} {l : List (Nat × zc2)} (e : t = zag6 l) (h : zbm1 P l) : zg3 P G fun f => (t.get f).map .code := by
 subst e
 intro f
 refine ⟨fun af k => ?_, fun g k => ?_⟩
 ·cases q : (zag6 l).get f with
  | none => simp [q] at k
  | some a => simp [q] at k; subst k; exact h.mem (zak6 q)
 ·cases q : (zag6 l).get f <;> simp [q] at k
def Tm (τ : Env) : List (Nat × AV) -> Prop
 | [] => True
 | p :: l => Env.at τ p.1 = p.2 /\ Tm τ l
@[simp] theorem Tm_nil {τ : Env} : Tm τ [] = True := rfl
@[simp] theorem Tm_cons {τ : Env} {k : Nat} {v : AV} {l : List (Nat × AV)} : Tm τ ((k, v) :: l) = (Env.at τ k = v /\ Tm τ l) := rfl
end Go.AI
