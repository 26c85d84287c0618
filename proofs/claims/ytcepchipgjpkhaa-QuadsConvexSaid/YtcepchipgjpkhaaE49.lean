/- The translation of code with loops over maps. No claim by itself. -/
import Derived.Test.YtcepchipgjpkhaaE48
namespace Go.AI
variable {P : Program} {G : World -> Prop}
def AOp.isBad : AOp -> Bool
 | .bad => true
 | _ => false
def za0.noBad : za0 -> Bool
 | .bad => false
 | .region ops => ops.all fun o => !o.op.isBad
 | .seq a b => a.noBad && b.noBad
 | .cond _ a b => a.noBad && b.noBad
 | .block _ a => a.noBad
 | .loop a => a.noBad
 | _ => true
def zad3 (P : Program) (N : Nat) (ops : Array Oper) : Option (List zb6 × Opd × Nat) :=
 match ops.toList.reverse with
 | ⟨some ti, .range xt mo, _, _, _, none⟩ :: rest =>
  match zk0 mo, P.underlying xt, zt2 P N ops rest.reverse [] with
  | some m, some (.map _ _), some pre => some (pre, m, ti)
  | _, _, _ => none
 | _ => none
theorem zao9 {N : Nat} {ops : Array Oper} {pre : List zb6} {m : Opd} {ti : Nat} (h : zad3 P N ops = some (pre, m, ti)) : ∃ (o1 : Oper) (mo : Operand) (xt kt et : TypeId),
  ops.size = pre.length + 1 /\ (∀ (j : Nat) (ao : zb6), pre[j]? = some ao -> ∃ o, ops[j]? = some o /\ zp6 P ops N o ao) /\ ops[pre.length]? = some o1 /\ o1.op = .range xt mo /\ o1.dst = some ti /\ o1.guard = none /\ zk0 mo = some m /\ P.underlying xt = some (.map kt et) := by
 unfold zad3 at h
 split at h
 ·rename_i ti' xt mo ty pos after rest hr
  split at h
  ·rename_i m' kt et pre' h1 h2 h3
   cases h
   have hl : ops.toList = rest.reverse ++ [⟨some ti, .range xt mo, ty, pos, after, none⟩] := by
    rw [<- List.reverse_reverse ops.toList, hr]; simp
   obtain ⟨k1, k2⟩ := zu0 h3
   have hlen : pre.length = rest.length := by rw [k1]; simp
   refine ⟨⟨some ti, .range xt mo, ty, pos, after, none⟩, mo, xt, kt, et, ?_, fun j ao hj => ?_, ?_, rfl, rfl, rfl, h1, h2⟩
   ·rw [<- Array.length_toList, hl]; simp [hlen]
   ·obtain ⟨o, q1, q2⟩ := k2 j ao hj
    refine ⟨o, ?_, q2⟩
    rw [<- Array.getElem?_toList, hl, List.getElem?_append_left (by rw [<- k1]; exact (List.getElem?_eq_some_iff.1 hj).1)]
    exact q1
   ·rw [<- Array.getElem?_toList, hl, List.getElem?_append_right (by simp [hlen])]
    simp [hlen]
  ·cases h
 ·cases h
def zav3 (ops : Array Oper) : Option (Nat × Nat × Nat) :=
 match ops.toList with
 | [⟨some tn, .next (.tmp ti) false, _, _, _, none⟩, ⟨some tm, .extract (.tmp tn') 0, _, _, _, none⟩] => if tn' = tn then some (ti, tn, tm) else none
 | _ => none
theorem za57 {ops : Array Oper} {ti tn tm : Nat} (h : zav3 ops = some (ti, tn, tm)) : ∃ o2 o3 : Oper,
  ops.size = 2 /\ ops[0]? = some o2 /\ o2.op = .next (.tmp ti) false /\ o2.dst = some tn /\ o2.guard = none /\ ops[1]? = some o3 /\ o3.op = .extract (.tmp tn) 0 /\ o3.dst = some tm /\ o3.guard = none := by
 unfold zav3 at h
 split at h
 ·rename_i hl
  split at h
  ·rename_i e
   subst e
   cases h
   refine ⟨_, _, by rw [<- Array.length_toList, hl]; rfl, by rw [<- Array.getElem?_toList, hl]; rfl, rfl, rfl, rfl, by rw [<- Array.getElem?_toList, hl]; rfl, rfl, rfl, rfl⟩
  ·cases h
 ·cases h
def zad4 (P : Program) (N : Nat) (ops : Array Oper) : Option (Nat × Nat × List zb6) :=
 match ops.toList with
 | ⟨some tp, .entry (.tmp ti), _, _, _, none⟩ :: rest => (zt2 P N ops rest []).map fun post => (ti, tp, post)
 | _ => none
theorem zap0 {N : Nat} {ops : Array Oper} {ti tp : Nat} {post : List zb6} (h : zad4 P N ops = some (ti, tp, post)) : ∃ o4 : Oper,
  ops.size = 1 + post.length /\ ops[0]? = some o4 /\ o4.op = .entry (.tmp ti) /\ o4.dst = some tp /\ o4.guard = none /\ (∀ (j : Nat) (ao : zb6), post[j]? = some ao -> ∃ o, ops[1 + j]? = some o /\ zp6 P ops N o ao) := by
 unfold zad4 at h
 split at h
 ·rename_i tp' ti' ty pos after rest hl
  cases hq : zt2 P N ops rest [] with
  | none => simp [hq] at h
  | some l =>
   simp [hq] at h
   obtain ⟨rfl, rfl, rfl⟩ := h
   obtain ⟨k1, k2⟩ := zu0 hq
   refine ⟨_, by rw [<- Array.length_toList, hl, k1]; simp [Nat.add_comm], by rw [<- Array.getElem?_toList, hl]; rfl, rfl, rfl, rfl, fun j ao hj => ?_⟩
   obtain ⟨o, q1, q2⟩ := k2 j ao hj
   refine ⟨o, ?_, q2⟩
   rw [<- Array.getElem?_toList, hl, Nat.add_comm]
   simpa using q1
 ·cases h
def crng (P : Program) (N : Nat) : Code -> Option NC
 | .seq (.region _ ops1 false) (.block out (.loop (.seq (.region _ ops2 false) (.seq (.cond (.tmp tm) .skip (.exit out')) (.block nx (.seq (.region _ ops3 false) bc)))))) =>
  match zad3 P N ops1, zav3 ops2, zad4 P N ops3, zj0 P N bc with
  | some (pre, m, ti), some (ti2, tn, tm2), some (ti3, tp, post), some body =>
   if ti2 = ti /\ ti3 = ti /\ tm2 = tm /\ out' = out /\ ti < N /\ tn < N /\ tm < N /\ tp < N /\ ti ≠ tn /\ ti ≠ tm /\ tn ≠ tm /\ out ≠ nx then some (.rng pre post m ti tn tm tp out nx body) else none
  | _, _, _, _ => none
 | _ => none
theorem zb64 {N : Nat} {c : Code} {nc : NC} (h : crng P N c = some nc) : zk9 P N c nc := by
 unfold crng at h
 split at h
 ·split at h
  ·rename_i h1 h2 h3 h4
   split at h
   ·rename_i hc
    obtain ⟨rfl, rfl, rfl, rfl, n1, n2, n3, n4, n5, n6, n7, n8⟩ := hc
    cases h
    obtain ⟨o1, mo, xt, kt, et, k1⟩ := zao9 h1
    obtain ⟨o2, o3, k2⟩ := za57 h2
    obtain ⟨o4, k3⟩ := zap0 h3
    exact .rng ⟨_, _, _, _, _, _, mo, xt, kt, et, o1, o2, o3, o4, _, xt, xt, rfl, k1, k2, k3, ze6 h4, n1, n2, n3, n4, n5, n6, n7, n8⟩
   ·cases h
  ·cases h
 ·cases h
def cnc (P : Program) (N : Nat) : Code -> Option NC
 | .seq a b =>
  match crng P N (.seq a b) with
  | some r => some r
  | none =>
   match zj0 P N (.seq a b) with
   | none => none
   | some x => bif x.noBad then some (.det x) else match cnc P N a, cnc P N b with | some x, some y => some (.seq x y) | _, _ => none
 | .cond c a b =>
  match zj0 P N (.cond c a b) with
  | none => none
  | some x => bif x.noBad then some (.det x) else match zk0 c, cnc P N a, cnc P N b with | some d, some x, some y => some (.cond d x y) | _, _, _ => none
 | .block id a =>
  match zj0 P N (.block id a) with
  | none => none
  | some x => bif x.noBad then some (.det x) else (cnc P N a).map (.block id)
 | c => (zj0 P N c).map .det
theorem zak4 {N : Nat} : ∀ {c : Code} {nc : NC}, cnc P N c = some nc -> zk9 P N c nc
 | .seq a b, nc, h => by
  simp only [cnc] at h
  split at h
  ·rename_i r hr; cases h; exact zb64 hr
  ·split at h
   ·cases h
   ·rename_i x hx
    cases hb : x.noBad with
    | true => rw [hb] at h; cases h; exact .det (ze6 hx)
    | false =>
     rw [hb] at h
     simp only [cond_false] at h
     split at h
     ·rename_i h1 h2; cases h; exact .seq (zak4 h1) (zak4 h2)
     ·cases h
 | .cond c a b, nc, h => by
  simp only [cnc] at h
  split at h
  ·cases h
  ·rename_i x hx
   cases hb : x.noBad with
   | true => rw [hb] at h; cases h; exact .det (ze6 hx)
   | false =>
    rw [hb] at h
    simp only [cond_false] at h
    split at h
    ·rename_i h1 h2 h3; cases h; exact .cond h1 (zak4 h2) (zak4 h3)
    ·cases h
 | .block id a, nc, h => by
  simp only [cnc] at h
  split at h
  ·cases h
  ·rename_i x hx
   cases hb : x.noBad with
   | true => rw [hb] at h; cases h; exact .det (ze6 hx)
   | false =>
    rw [hb] at h
    simp only [cond_false] at h
    cases hq : cnc P N a with
    | none => simp [hq] at h
    | some y => simp [hq] at h; subst h; exact .block (zak4 hq)
 | .skip, nc, h => by simp only [cnc, Option.map_eq_some_iff] at h; obtain ⟨a, h1, rfl⟩ := h; exact .det (ze6 h1)
 | .ret, nc, h => by simp only [cnc, Option.map_eq_some_iff] at h; obtain ⟨a, h1, rfl⟩ := h; exact .det (ze6 h1)
 | .exit _, nc, h => by simp only [cnc, Option.map_eq_some_iff] at h; obtain ⟨a, h1, rfl⟩ := h; exact .det (ze6 h1)
 | .label _, nc, h => by simp only [cnc, Option.map_eq_some_iff] at h; obtain ⟨a, h1, rfl⟩ := h; exact .det (ze6 h1)
 | .goto _, nc, h => by simp only [cnc, Option.map_eq_some_iff] at h; obtain ⟨a, h1, rfl⟩ := h; exact .det (ze6 h1)
 | .refuse _, nc, h => by simp only [cnc, Option.map_eq_some_iff] at h; obtain ⟨a, h1, rfl⟩ := h; exact .det (ze6 h1)
 | .scope _, nc, h => by simp only [cnc, Option.map_eq_some_iff] at h; obtain ⟨a, h1, rfl⟩ := h; exact .det (ze6 h1)
 | .loop _, nc, h => by simp only [cnc, Option.map_eq_some_iff] at h; obtain ⟨a, h1, rfl⟩ := h; exact .det (ze6 h1)
 | .region _ _ _, nc, h => by simp only [cnc, Option.map_eq_some_iff] at h; obtain ⟨a, h1, rfl⟩ := h; exact .det (ze6 h1)
 | .rangeFunc .., nc, h => by simp only [cnc, Option.map_eq_some_iff] at h; obtain ⟨a, h1, rfl⟩ := h; exact .det (ze6 h1)
structure zb83 where
 ntmps : Nat
 results : List zf7
 body : NC
def zby9 (P : Program) (fn : Func) : Option zb83 :=
 match fn.body, cres P fn.results.toList with
 | some c, some rs => bif fn.name == "runtime.NumGoroutine" then none else (cnc P fn.ntmps c).map fun nc => ⟨fn.ntmps, rs, nc⟩
 | _, _ => none
theorem zbk0 {f : Nat} {fn : Func} {nf : zb83} (hf : P.funcs[f]? = some fn) (h : zby9 P fn = some nf) : zaz1 P f nf.ntmps nf.body nf.results := by
 unfold zby9 at h
 split at h
 ·rename_i c rs h1 h2
  cases hn : fn.name == "runtime.NumGoroutine" with
  | true => simp [hn] at h
  | false =>
   simp only [hn, cond_false, Option.map_eq_some_iff] at h
   obtain ⟨nc, h3, rfl⟩ := h
   obtain ⟨k1, k2⟩ := zan5 h2
   exact ⟨fn, c, hf, hn, h1, rfl, zak4 h3, k1, k2⟩
 ·cases h
end Go.AI
