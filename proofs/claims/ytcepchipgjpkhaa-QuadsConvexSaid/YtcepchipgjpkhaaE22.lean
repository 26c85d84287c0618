/- A logic of total runs over the interpreter: goals go by rewriting. No claim by itself. -/
import Derived.Test.YtcepchipgjpkhaaE21
namespace Go.AI
variable {FT : Nat -> Option FnD}
def CLe (a b : zj5) : Prop := ∀ f args H r, a f args H = some r -> b f args H = some r
theorem za12 {a b : zj5} (h : CLe a b) {τ : Env} {H : Heap} {o : AOp} {r : AV × Heap} (e : zl6 a τ H o = some r) : zl6 b τ H o = some r := by
 cases o with
 | call f args =>
  simp only [zl6] at e ⊢
  cases hx : ev τ f with
  | fn f first captured => simp only [hx] at e ⊢; exact h _ _ _ _ e
  | _ => simp only [hx] at e; cases e
 | _ => exact e
theorem z90 {a b : zj5} (h : CLe a b) : ∀ {ops : List zb6} {τ : Env} {H : Heap} {r : Env × Heap}, zv3 a ops τ H = some r -> zv3 b ops τ H = some r
 | [], _, _, _, e => e
 | o :: rest, τ, H, r, e => by
  simp only [zv3] at e ⊢
  cases hw : ze5 τ o.guard with
  | false => simp only [hw, cond_false] at e ⊢; exact z90 h e
  | true =>
   simp only [hw, cond_true] at e ⊢
   cases hf : zg1 τ o with
   | false => simp only [hf, cond_false] at e; cases e
   | true =>
    simp only [hf, cond_true] at e ⊢
    cases hq : o.quiet with
    | false =>
     simp only [hq, zf0, cond_false] at e ⊢
     cases ho : zl6 a τ H o.op with
     | none => rw [ho] at e; cases e
     | some x => obtain ⟨v, H'⟩ := x; rw [ho] at e; rw [za12 h ho]; exact z90 h e
    | true =>
     simp only [hq, zf0, cond_true] at e ⊢
     cases ho : zl6 a τ { H with floor := H.next } o.op with
     | none => rw [ho] at e; cases e
     | some x => obtain ⟨v, H'⟩ := x; rw [ho] at e; rw [za12 h ho]; exact z90 h e
theorem z18 {n : Nat} {ops : List zb6} {τ : Env} {H : Heap} : run FT (n + 1) (.region ops) τ H = (zv3 (zo3 FT n) ops τ H).map fun x => (Sig.next, x.1, x.2) := by
 show (match zv3 (zo3 FT n) ops τ H with | some (τ', H') => some (Sig.next, τ', H') | none => none) = _
 cases zv3 (zo3 FT n) ops τ H with
 | none => rfl
 | some x => rfl
theorem zb28 {n : Nat} {a b : za0} {τ : Env} {H : Heap} : run FT (n + 1) (.seq a b) τ H = match run FT n a τ H with | some (.next, τ', H') => run FT n b τ' H' | r => r := rfl
theorem zbp5 {n : Nat} {x : Opd} {a b : za0} {τ : Env} {H : Heap} : run FT (n + 1) (.cond x a b) τ H = match ev τ x with | .bool true => run FT n a τ H | .bool false => run FT n b τ H | _ => none := rfl
theorem zbc8 {n id : Nat} {b : za0} {τ : Env} {H : Heap} : run FT (n + 1) (.block id b) τ H = match run FT n b τ H with | some (.exit id', τ', H') => bif Nat.beq id' id then some (.next, τ', H') else some (.exit id', τ', H') | r => r := rfl
theorem zab6 {n : Nat} {b : za0} {τ : Env} {H : Heap} : run FT (n + 1) (.loop b) τ H = match run FT n b τ H with | some (.next, τ', H') => run FT n (.loop b) τ' H' | r => r := rfl
theorem zak1 {n : Nat} {rs : List zf7} {c : za0} {τ : Env} {H : Heap} {r : AV × Heap} (up : ∀ r, run FT n c τ H = some r -> run FT (n + 1) c τ H = some r) (e : zq6 rs (run FT n c τ H) = some r) : zq6 rs (run FT (n + 1) c τ H) = some r := by
 cases h : run FT n c τ H with
 | none => rw [h] at e; cases e
 | some x => rw [up x h]; rw [h] at e; exact e
theorem zbc6 : ∀ (n : Nat), (∀ (c : za0) (τ : Env) (H : Heap) (r : Sig × Env × Heap), run FT n c τ H = some r -> run FT (n + 1) c τ H = some r) /\ CLe (zo3 FT n) (zo3 FT (n + 1)) := by
 intro n
 induction n with
 | zero =>
  have h1 : ∀ (c : za0) (τ : Env) (H : Heap) (r : Sig × Env × Heap), run FT 0 c τ H = some r -> run FT 1 c τ H = some r := fun c τ H r e => by simp [run] at e
  refine ⟨h1, fun f args H r e => ?_⟩
  unfold zo3 at e ⊢
  cases hf : FT f with
  | none => rw [hf] at e; cases e
  | some d =>
   rw [hf] at e
   cases d with
   | ext g => exact e
   | code af =>
    simp only at e ⊢
    cases hb : Nat.ble args.length af.ntmps with
    | false => simp [hb] at e
    | true => simp only [hb, cond_true] at e ⊢; exact zak1 (h1 _ _ _) e
 | succ n ih =>
  obtain ⟨ih1, ih2⟩ := ih
  have h1 : ∀ (c : za0) (τ : Env) (H : Heap) (r : Sig × Env × Heap), run FT (n + 1) c τ H = some r -> run FT (n + 2) c τ H = some r := by
   intro c τ H r e
   cases c with
   | skip => exact e
   | ret => exact e
   | exit id => exact e
   | bad => exact e
   | region ops =>
    rw [z18] at e ⊢
    cases ho : zv3 (zo3 FT n) ops τ H with
    | none => rw [ho] at e; cases e
    | some x => rw [z90 ih2 ho]; rw [ho] at e; exact e
   | seq a b =>
    rw [zb28] at e ⊢
    cases ha : run FT n a τ H with
    | none => rw [ha] at e; cases e
    | some x =>
     obtain ⟨s, τ1, H1⟩ := x
     rw [ha] at e; rw [ih1 _ _ _ _ ha]
     cases s with
     | next => exact ih1 _ _ _ _ e
     | exit id => exact e
     | ret => exact e
   | cond x a b =>
    rw [zbp5] at e ⊢
    cases hx : ev τ x with
    | bool t => cases t <;> (simp only [hx] at e ⊢; exact ih1 _ _ _ _ e)
    | _ => simp only [hx] at e; cases e
   | block id b =>
    rw [zbc8] at e ⊢
    cases ha : run FT n b τ H with
    | none => rw [ha] at e; cases e
    | some x => rw [ha] at e; rw [ih1 _ _ _ _ ha]; exact e
   | loop b =>
    rw [zab6] at e ⊢
    cases ha : run FT n b τ H with
    | none => rw [ha] at e; cases e
    | some x =>
     obtain ⟨s, τ1, H1⟩ := x
     rw [ha] at e; rw [ih1 _ _ _ _ ha]
     cases s with
     | next => exact ih1 _ _ _ _ e
     | exit id => exact e
     | ret => exact e
  refine ⟨h1, fun f args H r e => ?_⟩
  unfold zo3 at e ⊢
  cases hf : FT f with
  | none => rw [hf] at e; cases e
  | some d =>
   rw [hf] at e
   cases d with
   | ext g => exact e
   | code af =>
    simp only at e ⊢
    cases hb : Nat.ble args.length af.ntmps with
    | false => simp [hb] at e
    | true => simp only [hb, cond_true] at e ⊢; exact zak1 (h1 _ _ _) e
theorem zaj3 {n m : Nat} (h : n <= m) {c : za0} {τ : Env} {H : Heap} {r : Sig × Env × Heap} (e : run FT n c τ H = some r) : run FT m c τ H = some r := by
 induction h with
 | refl => exact e
 | step _ ih => exact (zbc6 _).1 _ _ _ _ ih
theorem zan7 {n m : Nat} (h : n <= m) : CLe (zo3 FT n) (zo3 FT m) := by
 induction h with
 | refl => exact fun _ _ _ _ e => e
 | step _ ih => exact fun f args H r e => (zbc6 _).2 f args H r (ih f args H r e)
abbrev Post := Sig -> Env -> Heap -> Prop
def Wp (FT : Nat -> Option FnD) (c : za0) (τ : Env) (H : Heap) (Q : Post) : Prop := ∃ n s τ' H', run FT n c τ H = some (s, τ', H') /\ Q s τ' H'
def Wo (FT : Nat -> Option FnD) (ops : List zb6) (τ : Env) (H : Heap) (Q : Post) : Prop := ∃ n τ' H', zv3 (zo3 FT n) ops τ H = some (τ', H') /\ Q .next τ' H'
def Cp (FT : Nat -> Option FnD) (f : Nat) (args : List AV) (H : Heap) (K : AV -> Heap -> Prop) : Prop := ∃ n v H', zo3 FT n f args H = some (v, H') /\ K v H'
theorem Wp.mono {c : za0} {τ : Env} {H : Heap} {Q R : Post} (h : Wp FT c τ H Q) (k : ∀ s τ H, Q s τ H -> R s τ H) : Wp FT c τ H R := by
 obtain ⟨n, s, τ', H', e, q⟩ := h; exact ⟨n, s, τ', H', e, k _ _ _ q⟩
theorem Cp.mono {f : Nat} {args : List AV} {H : Heap} {K L : AV -> Heap -> Prop} (h : Cp FT f args H K) (k : ∀ v H', K v H' -> L v H') : Cp FT f args H L := by
 obtain ⟨n, v, H', e, q⟩ := h; exact ⟨n, v, H', e, k _ _ q⟩
def seqQ (FT : Nat -> Option FnD) (b : za0) (Q : Post) : Post
 | .next, τ, H => Wp FT b τ H Q
 | s, τ, H => Q s τ H
def zak7 (id : Nat) (Q : Post) : Post
 | .exit id', τ, H => if id' = id then Q .next τ H else Q (.exit id') τ H
 | s, τ, H => Q s τ H
def zbr5 (I : Nat -> Env -> Heap -> Prop) (m : Nat) (Q : Post) : Post
 | .next, τ, H => ∃ m', m' < m /\ I m' τ H
 | s, τ, H => Q s τ H
def zas8 (v : AV) (a b : Prop) : Prop := match v with | .bool true => a | .bool false => b | _ => False
def finQ (rs : List zf7) (K : AV -> Heap -> Prop) : Post
 | .exit _, _, _ => False
 | _, τ, H => match zb5 τ H rs with | some vs => K (zg8 vs) H | none => False
def opK (FT : Nat -> Option FnD) (dst : Option Nat) (rest : List zb6) (τ : Env) (Q : Post) : Option (AV × Heap) -> Prop
 | some (v, H') => Wo FT rest (putA τ dst v) H' Q
 | none => False
def retK (FT : Nat -> Option FnD) (dst : Option Nat) (rest : List zb6) (τ : Env) (Q : Post) : AV -> Heap -> Prop := fun v H' => Wo FT rest (putA τ dst v) H' Q
def zat3 (fl : Nat) (K : AV -> Heap -> Prop) : AV -> Heap -> Prop := fun v H' => K v { H' with floor := fl }
def zbk9 (FT : Nat -> Option FnD) (f : AV) (args : List AV) (H : Heap) (K : AV -> Heap -> Prop) : Prop :=
 match f with
 | .fn f first captured => Cp FT f (first ++ args ++ captured) H K
 | _ => False
section
variable {τ : Env} {H : Heap} {Q : Post} {K : AV -> Heap -> Prop}
@[simp] theorem seqQ_next {b : za0} : seqQ FT b Q .next τ H = Wp FT b τ H Q := rfl
@[simp] theorem seqQ_ret {b : za0} : seqQ FT b Q .ret τ H = Q .ret τ H := rfl
@[simp] theorem seqQ_exit {b : za0} {id : Nat} : seqQ FT b Q (.exit id) τ H = Q (.exit id) τ H := rfl
@[simp] theorem blockQ_next {id : Nat} : zak7 id Q .next τ H = Q .next τ H := rfl
@[simp] theorem blockQ_ret {id : Nat} : zak7 id Q .ret τ H = Q .ret τ H := rfl
@[simp] theorem zt0 {id id' : Nat} : zak7 id Q (.exit id') τ H = if id' = id then Q .next τ H else Q (.exit id') τ H := rfl
@[simp] theorem loopQ_next {I : Nat -> Env -> Heap -> Prop} {m : Nat} : zbr5 I m Q .next τ H = ∃ m', m' < m /\ I m' τ H := rfl
@[simp] theorem loopQ_ret {I : Nat -> Env -> Heap -> Prop} {m : Nat} : zbr5 I m Q .ret τ H = Q .ret τ H := rfl
@[simp] theorem loopQ_exit {I : Nat -> Env -> Heap -> Prop} {m id : Nat} : zbr5 I m Q (.exit id) τ H = Q (.exit id) τ H := rfl
@[simp] theorem condP_bool {c : Bool} {a b : Prop} : zas8 (.bool c) a b = if c = true then a else b := by cases c <;> simp [zas8]
@[simp] theorem zas2 {rs : List zf7} : finQ rs K .next τ H = match zb5 τ H rs with | some vs => K (zg8 vs) H | none => False := rfl
@[simp] theorem za31 {rs : List zf7} : finQ rs K .ret τ H = match zb5 τ H rs with | some vs => K (zg8 vs) H | none => False := rfl
@[simp] theorem opK_some {dst : Option Nat} {rest : List zb6} {v : AV} {H' : Heap} : opK FT dst rest τ Q (some (v, H')) = Wo FT rest (putA τ dst v) H' Q := rfl
@[simp] theorem retK_eq {dst : Option Nat} {rest : List zb6} {v : AV} {H' : Heap} : retK FT dst rest τ Q v H' = Wo FT rest (putA τ dst v) H' Q := rfl
@[simp] theorem backK_eq {fl : Nat} {v : AV} {H' : Heap} : zat3 fl K v H' = K v { H' with floor := fl } := rfl
@[simp] theorem za47 {f : Nat} {first captured args : List AV} : zbk9 FT (.fn f first captured) args H K = Cp FT f (first ++ args ++ captured) H K := rfl
@[simp] theorem putA_some {d : Nat} {v : AV} : putA τ (some d) v = Tr.set τ d v := rfl
@[simp] theorem putA_none {v : AV} : putA τ none v = τ := rfl
@[simp] theorem ev_tmp {t : Nat} : ev τ (.tmp t) = Env.at τ t := rfl
@[simp] theorem ev_const {v : AV} : ev τ (.const v) = v := rfl
@[simp] theorem at_set {n m : Nat} {x : AV} : Env.at (Tr.set τ n x) m = if m = n then x else Env.at τ m := by
 unfold Env.at; rw [Tr.get_set]; split <;> rfl
@[simp] theorem at_leaf {m : Nat} : Env.at .leaf m = zb8 := rfl
@[simp] theorem enter_nil {i : Nat} : zf9 i [] τ = τ := rfl
@[simp] theorem enter_cons {i : Nat} {x : AV} {xs : List AV} : zf9 i (x :: xs) τ = zf9 (i + 1) xs (Tr.set τ i x) := rfl
@[simp] theorem resultsA_nil : zb5 τ H [] = some [] := rfl
@[simp] theorem resultsA_tmp {t : Nat} {rs : List zf7} : zb5 τ H (.tmp t :: rs) = (zb5 τ H rs).map (Env.at τ t :: ·) := rfl
@[simp] theorem packA_one {v : AV} : zg8 [v] = v := rfl
@[simp] theorem packA_nil : zg8 [] = .tup [] := rfl
@[simp] theorem packA_two {u v : AV} {l : List AV} : zg8 (u :: v :: l) = .tup (u :: v :: l) := rfl
@[simp] theorem Wp_skip : Wp FT .skip τ H Q ↔ Q .next τ H := by
 constructor
 ·rintro ⟨n, s, τ', H', e, q⟩; cases n <;> simp [run] at e; obtain ⟨rfl, rfl, rfl⟩ := e; exact q
 ·exact fun q => ⟨1, _, _, _, rfl, q⟩
@[simp] theorem Wp_ret : Wp FT .ret τ H Q ↔ Q .ret τ H := by
 constructor
 ·rintro ⟨n, s, τ', H', e, q⟩; cases n <;> simp [run] at e; obtain ⟨rfl, rfl, rfl⟩ := e; exact q
 ·exact fun q => ⟨1, _, _, _, rfl, q⟩
@[simp] theorem Wp_exit {id : Nat} : Wp FT (.exit id) τ H Q ↔ Q (.exit id) τ H := by
 constructor
 ·rintro ⟨n, s, τ', H', e, q⟩; cases n <;> simp [run] at e; obtain ⟨rfl, rfl, rfl⟩ := e; exact q
 ·exact fun q => ⟨1, _, _, _, rfl, q⟩
@[simp] theorem zi9 {a b : za0} : Wp FT (.seq a b) τ H Q ↔ Wp FT a τ H (seqQ FT b Q) := by
 constructor
 ·rintro ⟨n, s, τ', H', e, q⟩
  cases n with
  | zero => simp [run] at e
  | succ n =>
   simp only [run] at e
   cases ha : run FT n a τ H with
   | none => rw [ha] at e; cases e
   | some x =>
    obtain ⟨s1, τ1, H1⟩ := x
    rw [ha] at e
    cases s1 with
    | next => exact ⟨n, _, _, _, ha, n, s, τ', H', e, q⟩
    | exit id => cases e; exact ⟨n, _, _, _, ha, q⟩
    | ret => cases e; exact ⟨n, _, _, _, ha, q⟩
 ·rintro ⟨n, s, τ', H', e, q⟩
  cases s with
  | next =>
   obtain ⟨m, s2, τ2, H2, e2, q2⟩ := q
   refine ⟨max n m + 1, s2, τ2, H2, ?_, q2⟩
   simp only [run]
   rw [zaj3 (Nat.le_max_left n m) e]
   exact zaj3 (Nat.le_max_right n m) e2
  | exit id => exact ⟨n + 1, _, _, _, by simp only [run, e], q⟩
  | ret => exact ⟨n + 1, _, _, _, by simp only [run, e], q⟩
@[simp] theorem Wp_cond {x : Opd} {a b : za0} : Wp FT (.cond x a b) τ H Q ↔ zas8 (ev τ x) (Wp FT a τ H Q) (Wp FT b τ H Q) := by
 constructor
 ·rintro ⟨n, s, τ', H', e, q⟩
  cases n with
  | zero => simp [run] at e
  | succ n =>
   simp only [run] at e
   cases hx : ev τ x with
   | bool t => cases t <;> (simp only [hx] at e; exact ⟨n, s, τ', H', e, q⟩)
   | _ => simp only [hx] at e; cases e
 ·intro h
  cases hx : ev τ x with
  | bool t => cases t <;> (rw [hx] at h; obtain ⟨n, s, τ', H', e, q⟩ := h; exact ⟨n + 1, s, τ', H', by simp only [run, hx]; exact e, q⟩)
  | _ => rw [hx] at h; exact h.elim
@[simp] theorem zbv4 {id : Nat} {b : za0} : Wp FT (.block id b) τ H Q ↔ Wp FT b τ H (zak7 id Q) := by
 constructor
 ·rintro ⟨n, s, τ', H', e, q⟩
  cases n with
  | zero => simp [run] at e
  | succ n =>
   simp only [run] at e
   cases ha : run FT n b τ H with
   | none => rw [ha] at e; cases e
   | some x =>
    obtain ⟨s1, τ1, H1⟩ := x
    rw [ha] at e
    refine ⟨n, _, _, _, ha, ?_⟩
    cases s1 with
    | next => cases e; exact q
    | ret => cases e; exact q
    | exit id' =>
     simp only [Tr.nbeq] at e
     by_cases hi : id' = id
     ·simp [hi] at e; obtain ⟨rfl, rfl, rfl⟩ := e; simp [hi]; exact q
     ·simp [hi] at e; obtain ⟨rfl, rfl, rfl⟩ := e; simp [hi]; exact q
 ·rintro ⟨n, s, τ', H', e, q⟩
  cases s with
  | next => exact ⟨n + 1, _, _, _, by simp only [run, e], q⟩
  | ret => exact ⟨n + 1, _, _, _, by simp only [run, e], q⟩
  | exit id' =>
   by_cases hi : id' = id
   ·simp [hi] at q; exact ⟨n + 1, .next, τ', H', by simp [run, e, hi], q⟩
   ·simp [hi] at q; exact ⟨n + 1, .exit id', τ', H', by simp [run, e, hi, Tr.nbeq], q⟩
@[simp] theorem zd3 {ops : List zb6} : Wp FT (.region ops) τ H Q ↔ Wo FT ops τ H Q := by
 constructor
 ·rintro ⟨n, s, τ', H', e, q⟩
  cases n with
  | zero => simp [run] at e
  | succ n =>
   rw [z18] at e
   cases ho : zv3 (zo3 FT n) ops τ H with
   | none => rw [ho] at e; cases e
   | some x => rw [ho] at e; obtain ⟨τ1, H1⟩ := x; cases e; exact ⟨n, _, _, ho, q⟩
 ·rintro ⟨n, τ', H', e, q⟩
  exact ⟨n + 1, _, _, _, by rw [z18, e]; rfl, q⟩
theorem zb7 {b : za0} (I : Nat -> Env -> Heap -> Prop) (h : ∀ m τ H, I m τ H -> Wp FT b τ H (zbr5 I m Q)) : ∀ m τ H, I m τ H -> Wp FT (.loop b) τ H Q := by
 intro m
 induction m using Nat.strongRecOn with
 | _ m ih =>
  intro τ H hi
  obtain ⟨n, s, τ', H', e, q⟩ := h m τ H hi
  cases s with
  | next =>
   obtain ⟨m', hm, hi'⟩ := q
   obtain ⟨k, s2, τ2, H2, e2, q2⟩ := ih m' hm τ' H' hi'
   refine ⟨max n k + 1, s2, τ2, H2, ?_, q2⟩
   simp only [run]
   rw [zaj3 (Nat.le_max_left n k) e]
   exact zaj3 (Nat.le_max_right n k) e2
  | exit id => exact ⟨n + 1, _, _, _, by simp only [run, e], q⟩
  | ret => exact ⟨n + 1, _, _, _, by simp only [run, e], q⟩
theorem zb1 {f : Nat} {args : List AV} (af : zc2) (h : FT f = some (.code af)) (hb : Nat.ble args.length af.ntmps = true) (k : Wp FT af.body (zf9 0 args .leaf) H (finQ af.results K)) : Cp FT f args H K := by
 obtain ⟨n, s, τ', H', e, q⟩ := k
 cases hr : zb5 τ' H' af.results with
 | none => cases s <;> simp [finQ, hr] at q
 | some vs =>
  refine ⟨n, zg8 vs, H', ?_, ?_⟩
  ·unfold zo3; rw [h]; simp only [hb, cond_true, e]
   cases s <;> first | (simp [zq6, hr]; done) | (simp [finQ] at q)
  ·cases s <;> simp [finQ, hr] at q <;> exact q
theorem zcj5 {f : Nat} {args : List AV} (g : List AV -> Heap -> Option (AV × Heap)) (h : FT f = some (.ext g)) {v : AV} {H' : Heap} (e : g args H = some (v, H')) (k : K v H') : Cp FT f args H K :=
 ⟨0, v, H', by unfold zo3; rw [h]; exact e, k⟩
@[simp] theorem Wo_nil : Wo FT [] τ H Q ↔ Q .next τ H := by
 constructor
 ·rintro ⟨n, τ', H', e, q⟩; cases e; exact q
 ·exact fun q => ⟨0, _, _, rfl, q⟩
theorem zbl8 {dst : Option Nat} {op : AOp} {qt : Bool} {fr : List Nat} {rest : List zb6} (hop : ∀ f a, op ≠ .call f a) (hfr : zg1 τ ⟨dst, op, none, qt, fr⟩ = true) :
  Wo FT (⟨dst, op, none, qt, fr⟩ :: rest) τ H Q ↔ opK FT dst rest τ Q (zf0 qt H fun H => zb2 (ev τ) H op) := by
 have hp : ∀ (cf : zj5) (H : Heap), zl6 cf τ H op = zb2 (ev τ) H op := fun cf H => by
  cases op with
  | call f a => exact absurd rfl (hop f a)
  | _ => rfl
 unfold Wo
 simp only [zv3, ze5, cond_true, hfr, hp]
 cases zf0 qt H fun H => zb2 (ev τ) H op with
 | none => simp [opK]
 | some x => obtain ⟨v, H'⟩ := x; simp only [opK]; rfl
@[simp] theorem Wo_plain {dst : Option Nat} {op : AOp} {rest : List zb6} (hop : ∀ f a, op ≠ .call f a) :
  Wo FT (⟨dst, op, none, false, []⟩ :: rest) τ H Q ↔ opK FT dst rest τ Q (zb2 (ev τ) H op) := zbl8 hop rfl
@[simp] theorem zv2 {dst : Option Nat} {op : AOp} {rest : List zb6} (hop : ∀ f a, op ≠ .call f a) :
  Wo FT (⟨dst, op, none, true, []⟩ :: rest) τ H Q ↔ opK FT dst rest τ Q (zf0 true H fun H => zb2 (ev τ) H op) := zbl8 hop rfl
@[simp] theorem Wo_guard {dst : Option Nat} {op : AOp} {t : Nat} {want qt : Bool} {fr : List Nat} {rest : List zb6} :
  Wo FT (⟨dst, op, some (t, want), qt, fr⟩ :: rest) τ H Q ↔ if ze5 τ (some (t, want)) = true then Wo FT (⟨dst, op, none, qt, fr⟩ :: rest) τ H Q else Wo FT rest (putA τ dst zb8) H Q := by
 unfold Wo
 cases hw : ze5 τ (some (t, want)) with
 | false => simp only [zv3, hw, cond_false]; simp
 | true =>
  have hf : zg1 τ ⟨dst, op, some (t, want), qt, fr⟩ = zg1 τ ⟨dst, op, none, qt, fr⟩ := rfl
  have hn : ze5 τ none = true := rfl
  simp only [zv3, hw, hn, cond_true, hf]; simp
def zb06 (v : AV) (want : Bool) : Bool := match v with | .bool b => b == want | _ => false
@[simp] theorem wantB_bool {b want : Bool} : zb06 (.bool b) want = (b == want) := rfl
@[simp] theorem wantB_undef {want : Bool} : zb06 zb8 want = false := rfl
@[simp] theorem wantedA_some {t : Nat} {want : Bool} : ze5 τ (some (t, want)) = zb06 (Env.at τ t) want := rfl
@[simp] theorem Wo_call {dst : Option Nat} {f : Opd} {args : List Opd} {rest : List zb6} :
  Wo FT (⟨dst, .call f args, none, false, []⟩ :: rest) τ H Q ↔ zbk9 FT (ev τ f) (args.map (ev τ)) H (retK FT dst rest τ Q) := by
 have hfr : zg1 τ ⟨dst, .call f args, none, false, []⟩ = true := rfl
 unfold Wo
 simp only [zv3, ze5, cond_true, hfr, zf0, cond_false, zl6]
 cases hx : ev τ f with
 | fn g first captured =>
  simp only [za47]
  constructor
  ·rintro ⟨n, τ', H', e, q⟩
   cases hc : zo3 FT n g (first ++ args.map (ev τ) ++ captured) H with
   | none => rw [hc] at e; cases e
   | some x => obtain ⟨v, H1⟩ := x; rw [hc] at e; exact ⟨n, v, H1, hc, n, τ', H', e, q⟩
  ·rintro ⟨n, v, H1, hc, m, τ', H', e, q⟩
   refine ⟨max n m, τ', H', ?_, q⟩
   rw [zan7 (Nat.le_max_left n m) _ _ _ _ hc]
   exact z90 (zan7 (Nat.le_max_right n m)) e
 | _ => simp [zbk9]
@[simp] theorem Wo_callq {dst : Option Nat} {f : Opd} {args : List Opd} {rest : List zb6} :
  Wo FT (⟨dst, .call f args, none, true, []⟩ :: rest) τ H Q ↔ zbk9 FT (ev τ f) (args.map (ev τ)) { H with floor := H.next } (zat3 H.floor (retK FT dst rest τ Q)) := by
 have hfr : zg1 τ ⟨dst, .call f args, none, true, []⟩ = true := rfl
 unfold Wo
 simp only [zv3, ze5, cond_true, hfr, zf0, zl6]
 cases hx : ev τ f with
 | fn g first captured =>
  simp only [za47]
  constructor
  ·rintro ⟨n, τ', H', e, q⟩
   cases hc : zo3 FT n g (first ++ args.map (ev τ) ++ captured) { H with floor := H.next } with
   | none => rw [hc] at e; cases e
   | some x => obtain ⟨v, H1⟩ := x; rw [hc] at e; exact ⟨n, v, H1, hc, n, τ', H', e, q⟩
  ·rintro ⟨n, v, H1, hc, m, τ', H', e, q⟩
   refine ⟨max n m, τ', H', ?_, q⟩
   rw [zan7 (Nat.le_max_left n m) _ _ _ _ hc]
   exact z90 (zan7 (Nat.le_max_right n m)) e
 | _ => simp [zbk9]
end
section
variable {e : Opd -> AV} {H : Heap}
def lft (H : Heap) : Option AV -> Option (AV × Heap)
 | some v => some (v, H)
 | none => none
@[simp] theorem lft_some {v : AV} : lft H (some v) = some (v, H) := rfl
theorem zg0 {r : Option AV} : r.map (fun v => (v, H)) = lft H r := by cases r <;> rfl
@[simp] theorem p_mov {x : Opd} : zb2 e H (.mov x) = some (e x, H) := rfl
def zcd9 (c a b : AV) : Option AV := match c with | .bool t => some (if t then a else b) | _ => none
@[simp] theorem pickA_bool {t : Bool} {a b : AV} : zcd9 (.bool t) a b = some (if t then a else b) := rfl
@[simp] theorem p_pick {c a b : Opd} : zb2 e H (.pick c a b) = lft H (zcd9 (e c) (e a) (e b)) := by
 show (match e c with | .bool t => some (e (if t then a else b)) | _ => none).map _ = _
 rw [zg0]
 cases e c with
 | bool t => cases t <;> rfl
 | _ => rfl
@[simp] theorem p_allocB {t : Nat} : zb2 e H (.allocB t) = some (.ptr H.next 0, H.push (.bld t none)) := rfl
def zb57 (H : Heap) : AV -> Option (AV × Heap)
 | .slc o off len sz lo ex => bif Nat.ble H.floor o && Nat.ble 1 lo then (match H.cellsAt o with | some _ => some (.slc o off len sz lo ex, H) | none => none) else none
 | _ => none
@[simp] theorem p_freeze {x : Opd} : zb2 e H (.freeze x) = zb57 H (e x) := rfl
@[simp] theorem p_alloc {z : List AV} : zb2 e H (.alloc z) = bif za5 z then some (.ptr H.next 0, H.push (.cells z)) else none := rfl
@[simp] theorem zcl6 {x : Opd} : zb2 e H (.box x) = bif za5 (e x).cells then some (.ptr H.next 0, H.push (.cells (e x).cells)) else none := rfl
@[simp] theorem p_build {z : List AV} {l : List (Nat × Nat × Opd)} : zb2 e H (.build z l) = lft H ((zh0 e z l).map .agg) := zg0
@[simp] theorem zaq2 {sz len : Nat} {z : List AV} {l : List (Nat × Nat × Opd)} : zb2 e H (.buildSlice sz len z l) = bif Nat.beq z.length (len * sz) then (zh0 e z l).map fun cs => (.slc H.next 0 len sz len true, H.push (.cells cs)) else none := rfl
def za9 (H : Heap) (n : Option Nat) : AV -> Option AV
 | .ptr o off => (H.cellsAt o).bind fun cs => ze2 cs off n
 | _ => none
theorem ze3 {n : Option Nat} {o off : Nat} : za9 H n (.ptr o off) = (H.cellsAt o).bind fun cs => ze2 cs off n := rfl
@[simp] theorem zce1 {n : Option Nat} {a : Opd} : zb2 e H (.load n a) = lft H (za9 H n (e a)) := by
 show (match e a with | .ptr o off => ((H.cellsAt o).bind fun cs => ze2 cs off n).map fun v => (v, H) | _ => none) = _
 cases e a with
 | ptr o off => exact zg0
 | _ => rfl
def zf6 (H : Heap) (n : Nat) (a x : AV) : Option (AV × Heap) :=
 match a with
 | .ptr o off => bif Nat.beq x.cells.length n then (H.writeSeg o off x.cells).map fun H' => (zb8, H') else none
 | _ => none
@[simp] theorem ze4 {n o off : Nat} {x : AV} : zf6 H n (.ptr o off) x = bif Nat.beq x.cells.length n then (H.writeSeg o off x.cells).map fun H' => (zb8, H') else none := rfl
@[simp] theorem p_store {n : Nat} {a x : Opd} : zb2 e H (.store n a x) = zf6 H n (e a) (e x) := rfl
def zaw1 : AV -> Option AV
 | .nilp => none | .nilf => none | .ptr o off => some (.ptr o off) | .fn f a b => some (.fn f a b) | _ => none
@[simp] theorem nilChkA_ptr {o off : Nat} : zaw1 (.ptr o off) = some (.ptr o off) := rfl
@[simp] theorem nilChkA_fn {f : Nat} {a b : List AV} : zaw1 (.fn f a b) = some (.fn f a b) := rfl
@[simp] theorem p_nilCheck {x : Opd} : zb2 e H (.nilCheck x) = lft H (zaw1 (e x)) := zg0
@[simp] theorem p_binOp {op : BinOp} {d : EqD} {x y : Opd} : zb2 e H (.binOp op d x y) = lft H (zi8 op d (e x) (e y)) := zg0
@[simp] theorem p_unOp {op : UnOp} {x : Opd} : zb2 e H (.unOp op x) = lft H (unA op (e x)) := zg0
def zbw6 (k : IntKind) : AV -> Option AV
 | .int _ n => some (.int k (k.wrap n)) | _ => none
@[simp] theorem toIntA_int {k k' : IntKind} {n : Int} : zbw6 k (.int k' n) = some (.int k (k.wrap n)) := rfl
@[simp] theorem p_toInt {k : IntKind} {x : Opd} : zb2 e H (.convert (.toInt k) x) = lft H (zbw6 k (e x)) := zg0
@[simp] theorem p_makeFunc {f : Nat} {a b : List Opd} : zb2 e H (.makeFunc f a b) = lft H (bif za5 (b.map e) then some (.fn f (a.map e) (b.map e)) else none) := zg0
@[simp] theorem p_makeMapN : zb2 e H (.makeMap none) = some (.map H.next, H.push (.map [])) := rfl
def zn4 (H : Heap) (sz bytes : Nat) (zero : List AV) (l c : AV) : Option (AV × Heap) :=
 match l, c with
 | .int _ l, .int _ c =>
  if 0 <= l /\ l <= c /\ c * bytes <= 2 ^ 48 /\ c <= 2 ^ 62 then
   bif Nat.beq zero.length sz && za5 zero then
    some (.slc H.next 0 l.toNat sz c.toNat true, H.push (.cells ((List.replicate c.toNat zero).flatten)))
   else none
  else none
 | _, _ => none
@[simp] theorem zaw0 {sz bytes : Nat} {zero : List AV} {len cap : Opd} : zb2 e H (.makeSlice sz bytes zero len cap) = zn4 H sz bytes zero (e len) (e cap) := rfl
def sliceA (sz : Nat) (x : AV) (lo hi max : Option AV) : Option AV :=
 match x with
 | .nils => (zd8 0 0 true lo hi max).map fun _ => .nils
 | .slc o off len sz' cap ex =>
  bif Nat.beq sz sz' then (zd8 len cap ex lo hi max).map fun (l, h, m, ex) => .slc o (off + l * sz) (h - l) sz (m - l) ex
  else none
 | _ => none
@[simp] theorem p_slice {sz : Nat} {x : Opd} {lo hi max : Option Opd} : zb2 e H (.slice sz x lo hi max) = lft H (sliceA sz (e x) (lo.map e) (hi.map e) (max.map e)) := zg0
def zak2 (off : Nat) : AV -> Option AV
 | .ptr o b => some (.ptr o (b + off)) | _ => none
@[simp] theorem fieldAddrA_ptr {off o b : Nat} : zak2 off (.ptr o b) = some (.ptr o (b + off)) := rfl
@[simp] theorem p_fieldAddr {off : Nat} {x : Opd} : zb2 e H (.fieldAddr off x) = lft H (zak2 off (e x)) := zg0
def zby6 (off : Nat) (n : Option Nat) : AV -> Option AV
 | .agg cs => ze2 cs off n | _ => none
@[simp] theorem fieldA_agg {off : Nat} {n : Option Nat} {cs : List AV} : zby6 off n (.agg cs) = ze2 cs off n := rfl
@[simp] theorem p_field {off : Nat} {n : Option Nat} {x : Opd} : zb2 e H (.field off n x) = lft H (zby6 off n (e x)) := zg0
def zd7 (sz : Nat) (x i : AV) : Option AV :=
 match x, i with
 | .slc o off len sz' _ _, .int _ i => if 0 <= i /\ i < len /\ sz = sz' then some (.ptr o (off + i.toNat * sz)) else none
 | _, _ => none
@[simp] theorem zf2 {sz o off len sz' lo : Nat} {ex : Bool} {k : IntKind} {i : Int} : zd7 sz (.slc o off len sz' lo ex) (.int k i) = if 0 <= i /\ i < len /\ sz = sz' then some (.ptr o (off + i.toNat * sz)) else none := rfl
@[simp] theorem p_indexAddr {sz : Nat} {x i : Opd} : zb2 e H (.indexAddr sz x i) = lft H (zd7 sz (e x) (e i)) := zg0
def lenA : AV -> Option AV
 | .nils => some (aInt 0) | .slc _ _ n _ _ _ => some (aInt n) | _ => none
@[simp] theorem lenA_nils : lenA .nils = some (.int .i64 0) := rfl
@[simp] theorem lenA_slc {o off len sz lo : Nat} {ex : Bool} : lenA (.slc o off len sz lo ex) = some (.int .i64 len) := rfl
@[simp] theorem p_lenSlice {x : Opd} : zb2 e H (.len .slice x) = lft H (lenA (e x)) := zg0
def za33 (i : Nat) : AV -> Option AV
 | .tup vs => vs[i]? | _ => none
@[simp] theorem extractA_tup {i : Nat} {vs : List AV} : za33 i (.tup vs) = vs[i]? := rfl
@[simp] theorem p_extract {i : Nat} {x : Opd} : zb2 e H (.extract i x) = lft H (za33 i (e x)) := zg0
@[simp] theorem p_minmax {max : Bool} {xs : List Opd} : zb2 e H (.minmax max xs) = lft H (match xs.map e with | [] => none | x :: r => maxA max x r) := zg0
@[simp] theorem p_append {sz bytes : Nat} {x y : Opd} : zb2 e H (.append sz bytes x y) = zc4 sz bytes H (e x) (e y) := rfl
@[simp] theorem p_copy {sz : Nat} {x y : Opd} : zb2 e H (.copy sz x y) = zaf8 sz H (e x) (e y) := rfl
@[simp] theorem zbq4 {d : EqD} {zero : AV} {ok : Bool} {m k : Opd} : zb2 e H (.lookup d zero ok m k) = lft H ((zp1 H d (e m) (e k)).map (zt3 zero ok)) := by
 show (zp1 H d (e m) (e k)).map (fun r => (zt3 zero ok r, H)) = _
 cases zp1 H d (e m) (e k) <;> rfl
def zbe2 (H : Heap) : Option (AV × Heap) -> Option (AV × Heap)
 | some (v, H') => some (v, { H' with floor := H.floor })
 | none => none
@[simp] theorem quietA_some {v : AV} {H' : Heap} : zbe2 H (some (v, H')) = some (v, { H' with floor := H.floor }) := rfl
@[simp] theorem zm5 {g : Heap -> Option (AV × Heap)} : zf0 true H g = zbe2 H (g { H with floor := H.next }) := by
 unfold zf0; simp only [cond_true]; cases g { H with floor := H.next } <;> rfl
theorem za59 {n : Option Nat} {a : Opd} : zf0 true H (fun H => zb2 e H (.load n a)) = lft H (za9 H n (e a)) := by
 rw [zm5]; simp only [zce1]
 have : za9 { H with floor := H.next } n (e a) = za9 H n (e a) := rfl
 rw [this]; cases za9 H n (e a) <;> rfl
theorem zap3 {d : EqD} {zero : AV} {ok : Bool} {m k : Opd} : zf0 true H (fun H => zb2 e H (.lookup d zero ok m k)) = lft H ((zp1 H d (e m) (e k)).map (zt3 zero ok)) := by
 rw [zm5]; simp only [zbq4]
 have : zp1 { H with floor := H.next } d (e m) (e k) = zp1 H d (e m) (e k) := rfl
 rw [this]; cases zp1 H d (e m) (e k) <;> rfl
@[simp] theorem loadA_fl {fl : Nat} {n : Option Nat} {a : AV} : za9 { H with floor := fl } n a = za9 H n a := rfl
@[simp] theorem cellsAt_fl {fl o : Nat} : Heap.cellsAt { H with floor := fl } o = H.cellsAt o := rfl
@[simp] theorem b_add {k : IntKind} {d : EqD} {a b : Int} : zi8 .add d (.int k a) (.int k b) = some (.int k (k.wrap (a + b))) := by simp [zi8]
@[simp] theorem b_sub {k : IntKind} {d : EqD} {a b : Int} : zi8 .sub d (.int k a) (.int k b) = some (.int k (k.wrap (a - b))) := by simp [zi8]
@[simp] theorem b_mul {k : IntKind} {d : EqD} {a b : Int} : zi8 .mul d (.int k a) (.int k b) = some (.int k (k.wrap (a * b))) := by simp [zi8]
@[simp] theorem b_quo {k : IntKind} {d : EqD} {a b : Int} : zi8 .quo d (.int k a) (.int k b) = if b = 0 then none else some (.int k (k.wrap (a.tdiv b))) := by simp [zi8]
@[simp] theorem b_rem {k : IntKind} {d : EqD} {a b : Int} : zi8 .rem d (.int k a) (.int k b) = if b = 0 then none else some (.int k (a.tmod b)) := by simp [zi8]
@[simp] theorem b_eql {k : IntKind} {d : EqD} {a b : Int} : zi8 .eql d (.int k a) (.int k b) = some (.bool (a == b)) := by simp [zi8]
@[simp] theorem b_neq {k : IntKind} {d : EqD} {a b : Int} : zi8 .neq d (.int k a) (.int k b) = some (.bool (a != b)) := by simp [zi8]
@[simp] theorem b_lss {k : IntKind} {d : EqD} {a b : Int} : zi8 .lss d (.int k a) (.int k b) = some (.bool (a < b)) := by simp [zi8]
@[simp] theorem b_leq {k : IntKind} {d : EqD} {a b : Int} : zi8 .leq d (.int k a) (.int k b) = some (.bool (a <= b)) := by simp [zi8]
@[simp] theorem b_gtr {k : IntKind} {d : EqD} {a b : Int} : zi8 .gtr d (.int k a) (.int k b) = some (.bool (a > b)) := by simp [zi8]
@[simp] theorem b_geq {k : IntKind} {d : EqD} {a b : Int} : zi8 .geq d (.int k a) (.int k b) = some (.bool (a >= b)) := by simp [zi8]
@[simp] theorem b_eqlb {a b : Bool} : zi8 .eql (.prim .bool) (.bool a) (.bool b) = some (.bool (a == b)) := rfl
@[simp] theorem b_neqb {a b : Bool} : zi8 .neq (.prim .bool) (.bool a) (.bool b) = some (.bool (!(a == b))) := rfl
@[simp] theorem u_not {b : Bool} : unA .not (.bool b) = some (.bool !b) := rfl
theorem wrap64 {n : Int} (h0 : -9223372036854775808 <= n) (h1 : n <= 9223372036854775807) : IntKind.wrap .i64 n = n := by
 unfold IntKind.wrap
 simp [IntKind.bits, IntKind.signed]
 omega
end
section
variable {FT : Nat -> Option FnD} {τ : Env} {H : Heap} {Q : Post}
@[simp high] theorem Wo_quiet_load {dst : Option Nat} {n : Option Nat} {a : Opd} {rest : List zb6} :
  Wo FT (⟨dst, .load n a, none, true, []⟩ :: rest) τ H Q ↔ opK FT dst rest τ Q (lft H (za9 H n (ev τ a))) := by
 rw [zv2 (by intros; simp), za59]
@[simp high] theorem Wo_quiet_lookup {dst : Option Nat} {d : EqD} {zero : AV} {ok : Bool} {m k : Opd} {rest : List zb6} :
  Wo FT (⟨dst, .lookup d zero ok m k, none, true, []⟩ :: rest) τ H Q ↔ opK FT dst rest τ Q (lft H ((zp1 H d (ev τ m) (ev τ k)).map (zt3 zero ok))) := by
 rw [zv2 (by intros; simp), zap3]
end
@[simp] theorem zaw3 (a b : Nat) : Nat.ble a b = decide (a <= b) := by
 cases h : Nat.ble a b with
 | true => simp [Nat.le_of_ble_eq_true h]
 | false =>
  have : ¬ a <= b := fun q => by rw [Nat.ble_eq_true_of_le q] at h; cases h
  simp [this]
@[simp] theorem nat_beq (a b : Nat) : Nat.beq a b = decide (a = b) := Tr.nbeq a b
section
variable {e : Opd -> AV}
def zj7 (e : Opd -> AV) (cs : List AV) (off size : Nat) (v : AV) (r : List (Nat × Nat × Opd)) : Option (List AV) :=
 bif Nat.beq v.cells.length size && Nat.ble (off + size) cs.length && za5 v.cells then zh0 e (setSeg cs off v.cells) r else none
@[simp] theorem fillA_nil {cs : List AV} : zh0 e cs [] = some cs := rfl
@[simp] theorem fillA_cons {cs : List AV} {off size : Nat} {x : Opd} {r : List (Nat × Nat × Opd)} : zh0 e cs ((off, size, x) :: r) = zj7 e cs off size (e x) r := rfl
@[simp] theorem fillV_one {cs : List AV} {off : Nat} {k : IntKind} {n : Int} {r : List (Nat × Nat × Opd)} : zj7 e cs off 1 (.int k n) r = if off + 1 <= cs.length then zh0 e (setSeg cs off [.int k n]) r else none := by
 simp [zj7, AV.cells, za5, AV.one]
@[simp] theorem setSeg_zero {a x : AV} {cs : List AV} : setSeg (a :: cs) 0 [x] = x :: cs := by simp [setSeg]
@[simp] theorem setSeg_one {a b x : AV} {cs : List AV} : setSeg (a :: b :: cs) 1 [x] = a :: x :: cs := by simp [setSeg]
@[simp] theorem setSeg_two {a b c x : AV} {cs : List AV} : setSeg (a :: b :: c :: cs) 2 [x] = a :: b :: x :: cs := by simp [setSeg]
@[simp] theorem cells_int {k : IntKind} {n : Int} : AV.cells (.int k n) = [.int k n] := rfl
@[simp] theorem cells_bool {b : Bool} : AV.cells (.bool b) = [.bool b] := rfl
@[simp] theorem zbk3 {cs : List AV} : AV.cells (.agg cs) = cs := rfl
@[simp] theorem cells_ptr {o off : Nat} : AV.cells (.ptr o off) = [.ptr o off] := rfl
@[simp] theorem cells_nils : AV.cells .nils = [.nils] := rfl
@[simp] theorem cells_slc {o off len sz lo : Nat} {ex : Bool} : AV.cells (.slc o off len sz lo ex) = [.slc o off len sz lo ex] := rfl
@[simp] theorem cells_map {o : Nat} : AV.cells (.map o) = [.map o] := rfl
@[simp] theorem cells_nili : AV.cells .nili = [.nili] := rfl
@[simp] theorem cells_str {s : List Nat} : AV.cells (.str s) = [.str s] := rfl
@[simp] theorem allOne_nil : za5 [] = true := rfl
@[simp] theorem allOne_int {k : IntKind} {n : Int} {l : List AV} : za5 (.int k n :: l) = za5 l := rfl
@[simp] theorem allOne_bool {b : Bool} {l : List AV} : za5 (.bool b :: l) = za5 l := rfl
@[simp] theorem allOne_ptr {o off : Nat} {l : List AV} : za5 (.ptr o off :: l) = za5 l := rfl
@[simp] theorem allOne_nilp {l : List AV} : za5 (.nilp :: l) = za5 l := rfl
@[simp] theorem allOne_nils {l : List AV} : za5 (.nils :: l) = za5 l := rfl
@[simp] theorem allOne_slc {o off len sz lo : Nat} {ex : Bool} {l : List AV} : za5 (.slc o off len sz lo ex :: l) = za5 l := rfl
@[simp] theorem allOne_map {o : Nat} {l : List AV} : za5 (.map o :: l) = za5 l := rfl
@[simp] theorem allOne_nilm {l : List AV} : za5 (.nilm :: l) = za5 l := rfl
@[simp] theorem allOne_str {s : List Nat} {l : List AV} : za5 (.str s :: l) = za5 l := rfl
@[simp] theorem allOne_fn {f : Nat} {a b : List AV} {l : List AV} : za5 (.fn f a b :: l) = za5 l := rfl
end
end Go.AI
