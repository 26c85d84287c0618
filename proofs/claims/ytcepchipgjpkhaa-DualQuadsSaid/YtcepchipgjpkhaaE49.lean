/- The translation of code with loops over maps. No claim by itself. -/
import Derived.Test.YtcepchipgjpkhaaE48
namespace Go.AI
variable {P : Program} {G : World → Prop}
def AOp.isBad : AOp → Bool
  | .bad => true
  | _ => false
def ACode.noBad : ACode → Bool
  | .bad => false
  | .region ops => ops.all fun o => !o.op.isBad
  | .seq a b => a.noBad && b.noBad
  | .cond _ a b => a.noBad && b.noBad
  | .block _ a => a.noBad
  | .loop a => a.noBad
  | _ => true
def rngBefore (P : Program) (N : Nat) (ops : Array Oper) : Option (List AOper × Opd × Nat) :=
  match ops.toList.reverse with
  | ⟨some ti, .range xt mo, _, _, _, none⟩ :: rest =>
    match copd mo, P.underlying xt, copers P N ops rest.reverse [] with
    | some m, some (.map _ _), some pre => some (pre, m, ti)
    | _, _, _ => none
  | _ => none
theorem rngBefore_ok {N : Nat} {ops : Array Oper} {pre : List AOper} {m : Opd} {ti : Nat} (h : rngBefore P N ops = some (pre, m, ti)) : ∃ (o1 : Oper) (mo : Operand) (xt kt et : TypeId),
    ops.size = pre.length + 1 ∧ (∀ (j : Nat) (ao : AOper), pre[j]? = some ao → ∃ o, ops[j]? = some o ∧ OperOk P ops N o ao) ∧ ops[pre.length]? = some o1 ∧ o1.op = .range xt mo ∧ o1.dst = some ti ∧ o1.guard = none ∧ copd mo = some m ∧ P.underlying xt = some (.map kt et) := by
  unfold rngBefore at h
  split at h
  · rename_i ti' xt mo ty pos after rest hr
    split at h
    · rename_i m' kt et pre' h1 h2 h3
      cases h
      have hl : ops.toList = rest.reverse ++ [⟨some ti, .range xt mo, ty, pos, after, none⟩] := by
        rw [← List.reverse_reverse ops.toList, hr]; simp
      obtain ⟨k1, k2⟩ := copers_ok h3
      have hlen : pre.length = rest.length := by rw [k1]; simp
      refine ⟨⟨some ti, .range xt mo, ty, pos, after, none⟩, mo, xt, kt, et, ?_, fun j ao hj => ?_, ?_, rfl, rfl, rfl, h1, h2⟩
      · rw [← Array.length_toList, hl]; simp [hlen]
      · obtain ⟨o, q1, q2⟩ := k2 j ao hj
        refine ⟨o, ?_, q2⟩
        rw [← Array.getElem?_toList, hl, List.getElem?_append_left (by rw [← k1]; exact (List.getElem?_eq_some_iff.1 hj).1)]
        exact q1
      · rw [← Array.getElem?_toList, hl, List.getElem?_append_right (by simp [hlen])]
        simp [hlen]
    · cases h
  · cases h
def rngStep (ops : Array Oper) : Option (Nat × Nat × Nat) :=
  match ops.toList with
  | [⟨some tn, .next (.tmp ti) false, _, _, _, none⟩, ⟨some tm, .extract (.tmp tn') 0, _, _, _, none⟩] => if tn' = tn then some (ti, tn, tm) else none
  | _ => none
theorem rngStep_ok {ops : Array Oper} {ti tn tm : Nat} (h : rngStep ops = some (ti, tn, tm)) : ∃ o2 o3 : Oper,
    ops.size = 2 ∧ ops[0]? = some o2 ∧ o2.op = .next (.tmp ti) false ∧ o2.dst = some tn ∧ o2.guard = none ∧ ops[1]? = some o3 ∧ o3.op = .extract (.tmp tn) 0 ∧ o3.dst = some tm ∧ o3.guard = none := by
  unfold rngStep at h
  split at h
  · rename_i hl
    split at h
    · rename_i e
      subst e
      cases h
      refine ⟨_, _, by rw [← Array.length_toList, hl]; rfl, by rw [← Array.getElem?_toList, hl]; rfl, rfl, rfl, rfl, by rw [← Array.getElem?_toList, hl]; rfl, rfl, rfl, rfl⟩
    · cases h
  · cases h
def rngAssign (P : Program) (N : Nat) (ops : Array Oper) : Option (Nat × Nat × List AOper) :=
  match ops.toList with
  | ⟨some tp, .entry (.tmp ti), _, _, _, none⟩ :: rest => (copers P N ops rest []).map fun post => (ti, tp, post)
  | _ => none
theorem rngAssign_ok {N : Nat} {ops : Array Oper} {ti tp : Nat} {post : List AOper} (h : rngAssign P N ops = some (ti, tp, post)) : ∃ o4 : Oper,
    ops.size = 1 + post.length ∧ ops[0]? = some o4 ∧ o4.op = .entry (.tmp ti) ∧ o4.dst = some tp ∧ o4.guard = none ∧ (∀ (j : Nat) (ao : AOper), post[j]? = some ao → ∃ o, ops[1 + j]? = some o ∧ OperOk P ops N o ao) := by
  unfold rngAssign at h
  split at h
  · rename_i tp' ti' ty pos after rest hl
    cases hq : copers P N ops rest [] with
    | none => simp [hq] at h
    | some l =>
      simp [hq] at h
      obtain ⟨rfl, rfl, rfl⟩ := h
      obtain ⟨k1, k2⟩ := copers_ok hq
      refine ⟨_, by rw [← Array.length_toList, hl, k1]; simp [Nat.add_comm], by rw [← Array.getElem?_toList, hl]; rfl, rfl, rfl, rfl, fun j ao hj => ?_⟩
      obtain ⟨o, q1, q2⟩ := k2 j ao hj
      refine ⟨o, ?_, q2⟩
      rw [← Array.getElem?_toList, hl, Nat.add_comm]
      simpa using q1
  · cases h
def crng (P : Program) (N : Nat) : Code → Option NC
  | .seq (.region _ ops1 false) (.block out (.loop (.seq (.region _ ops2 false) (.seq (.cond (.tmp tm) .skip (.exit out')) (.block nx (.seq (.region _ ops3 false) bc)))))) =>
    match rngBefore P N ops1, rngStep ops2, rngAssign P N ops3, ccode P N bc with
    | some (pre, m, ti), some (ti2, tn, tm2), some (ti3, tp, post), some body =>
      if ti2 = ti ∧ ti3 = ti ∧ tm2 = tm ∧ out' = out ∧ ti < N ∧ tn < N ∧ tm < N ∧ tp < N ∧ ti ≠ tn ∧ ti ≠ tm ∧ tn ≠ tm ∧ out ≠ nx then some (.rng pre post m ti tn tm tp out nx body) else none
    | _, _, _, _ => none
  | _ => none
theorem crng_ok {N : Nat} {c : Code} {nc : NC} (h : crng P N c = some nc) : NCodeOk P N c nc := by
  unfold crng at h
  split at h
  · split at h
    · rename_i h1 h2 h3 h4
      split at h
      · rename_i hc
        obtain ⟨rfl, rfl, rfl, rfl, n1, n2, n3, n4, n5, n6, n7, n8⟩ := hc
        cases h
        obtain ⟨o1, mo, xt, kt, et, k1⟩ := rngBefore_ok h1
        obtain ⟨o2, o3, k2⟩ := rngStep_ok h2
        obtain ⟨o4, k3⟩ := rngAssign_ok h3
        exact .rng ⟨_, _, _, _, _, _, mo, xt, kt, et, o1, o2, o3, o4, _, xt, xt, rfl, k1, k2, k3, ccode_ok h4, n1, n2, n3, n4, n5, n6, n7, n8⟩
      · cases h
    · cases h
  · cases h
def cnc (P : Program) (N : Nat) : Code → Option NC
  | .seq a b =>
    match crng P N (.seq a b) with
    | some r => some r
    | none =>
      match ccode P N (.seq a b) with
      | none => none
      | some x => bif x.noBad then some (.det x) else match cnc P N a, cnc P N b with | some x, some y => some (.seq x y) | _, _ => none
  | .cond c a b =>
    match ccode P N (.cond c a b) with
    | none => none
    | some x => bif x.noBad then some (.det x) else match copd c, cnc P N a, cnc P N b with | some d, some x, some y => some (.cond d x y) | _, _, _ => none
  | .block id a =>
    match ccode P N (.block id a) with
    | none => none
    | some x => bif x.noBad then some (.det x) else (cnc P N a).map (.block id)
  | c => (ccode P N c).map .det
theorem cnc_ok {N : Nat} : ∀ {c : Code} {nc : NC}, cnc P N c = some nc → NCodeOk P N c nc
  | .seq a b, nc, h => by
    simp only [cnc] at h
    split at h
    · rename_i r hr; cases h; exact crng_ok hr
    · split at h
      · cases h
      · rename_i x hx
        cases hb : x.noBad with
        | true => rw [hb] at h; cases h; exact .det (ccode_ok hx)
        | false =>
          rw [hb] at h
          simp only [cond_false] at h
          split at h
          · rename_i h1 h2; cases h; exact .seq (cnc_ok h1) (cnc_ok h2)
          · cases h
  | .cond c a b, nc, h => by
    simp only [cnc] at h
    split at h
    · cases h
    · rename_i x hx
      cases hb : x.noBad with
      | true => rw [hb] at h; cases h; exact .det (ccode_ok hx)
      | false =>
        rw [hb] at h
        simp only [cond_false] at h
        split at h
        · rename_i h1 h2 h3; cases h; exact .cond h1 (cnc_ok h2) (cnc_ok h3)
        · cases h
  | .block id a, nc, h => by
    simp only [cnc] at h
    split at h
    · cases h
    · rename_i x hx
      cases hb : x.noBad with
      | true => rw [hb] at h; cases h; exact .det (ccode_ok hx)
      | false =>
        rw [hb] at h
        simp only [cond_false] at h
        cases hq : cnc P N a with
        | none => simp [hq] at h
        | some y => simp [hq] at h; subst h; exact .block (cnc_ok hq)
  | .skip, nc, h => by simp only [cnc, Option.map_eq_some_iff] at h; obtain ⟨a, h1, rfl⟩ := h; exact .det (ccode_ok h1)
  | .ret, nc, h => by simp only [cnc, Option.map_eq_some_iff] at h; obtain ⟨a, h1, rfl⟩ := h; exact .det (ccode_ok h1)
  | .exit _, nc, h => by simp only [cnc, Option.map_eq_some_iff] at h; obtain ⟨a, h1, rfl⟩ := h; exact .det (ccode_ok h1)
  | .label _, nc, h => by simp only [cnc, Option.map_eq_some_iff] at h; obtain ⟨a, h1, rfl⟩ := h; exact .det (ccode_ok h1)
  | .goto _, nc, h => by simp only [cnc, Option.map_eq_some_iff] at h; obtain ⟨a, h1, rfl⟩ := h; exact .det (ccode_ok h1)
  | .refuse _, nc, h => by simp only [cnc, Option.map_eq_some_iff] at h; obtain ⟨a, h1, rfl⟩ := h; exact .det (ccode_ok h1)
  | .scope _, nc, h => by simp only [cnc, Option.map_eq_some_iff] at h; obtain ⟨a, h1, rfl⟩ := h; exact .det (ccode_ok h1)
  | .loop _, nc, h => by simp only [cnc, Option.map_eq_some_iff] at h; obtain ⟨a, h1, rfl⟩ := h; exact .det (ccode_ok h1)
  | .region _ _ _, nc, h => by simp only [cnc, Option.map_eq_some_iff] at h; obtain ⟨a, h1, rfl⟩ := h; exact .det (ccode_ok h1)
  | .rangeFunc .., nc, h => by simp only [cnc, Option.map_eq_some_iff] at h; obtain ⟨a, h1, rfl⟩ := h; exact .det (ccode_ok h1)
structure NFunc where
  ntmps : Nat
  results : List AResult
  body : NC
def cnfunc (P : Program) (fn : Func) : Option NFunc :=
  match fn.body, cres P fn.results.toList with
  | some c, some rs => bif fn.name == "runtime.NumGoroutine" then none else (cnc P fn.ntmps c).map fun nc => ⟨fn.ntmps, rs, nc⟩
  | _, _ => none
theorem cnfunc_ok {f : Nat} {fn : Func} {nf : NFunc} (hf : P.funcs[f]? = some fn) (h : cnfunc P fn = some nf) : FuncOkN P f nf.ntmps nf.body nf.results := by
  unfold cnfunc at h
  split at h
  · rename_i c rs h1 h2
    cases hn : fn.name == "runtime.NumGoroutine" with
    | true => simp [hn] at h
    | false =>
      simp only [hn, cond_false, Option.map_eq_some_iff] at h
      obtain ⟨nc, h3, rfl⟩ := h
      obtain ⟨k1, k2⟩ := cres_ok h2
      exact ⟨fn, c, hf, hn, h1, rfl, cnc_ok h3, k1, k2⟩
  · cases h
end Go.AI
