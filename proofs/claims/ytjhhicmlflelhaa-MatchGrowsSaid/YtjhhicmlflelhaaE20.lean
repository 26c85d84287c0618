/- The translation of code and of functions. No claim by itself. -/
import Derived.Test.YtjhhicmlflelhaaE19
namespace Go.AI
variable {P : Program}
open Region (binds)
def dstOk (N : Nat) : Option Tmp → Bool
  | none => true
  | some d => Nat.blt d N
def coper (P : Program) (N : Nat) (ops : Array Oper) (q : Bool × List Nat) (o : Oper) : Option AOper :=
  if dstOk N o.dst = true then
    match o.guard with
    | none => some ⟨o.dst, (cop P o.op).getD .bad, none, q.1, q.2⟩
    | some (j, b) =>
      match (ops[j]?).bind (·.dst) with
      | some t => if Nat.blt t N = true then some ⟨o.dst, (cop P o.op).getD .bad, some (t, b), q.1, q.2⟩ else none
      | none => none
  else none
theorem blt_lt {a b : Nat} (h : Nat.blt a b = true) : a < b := by
  exact Nat.le_of_ble_eq_true h
theorem coper_ok {N : Nat} {ops : Array Oper} {q : Bool × List Nat} {o : Oper} {a : AOper} (h : coper P N ops q o = some a) : OperOk P ops N o a ∧ a.quiet = q.1 := by
  have hop : cop P o.op = some ((cop P o.op).getD .bad) ∨ (cop P o.op).getD .bad = .bad := by
    cases cop P o.op with
    | none => exact .inr rfl
    | some x => exact .inl rfl
  unfold coper at h
  split at h
  · rename_i hd
    have hdl : ∀ d, o.dst = some d → d < N := by
      intro d e; rw [e] at hd; exact blt_lt hd
    split at h
    · rename_i hg; cases h; exact ⟨⟨hop, rfl, hdl, by rw [hg]; trivial⟩, rfl⟩
    · rename_i j b hg
      split at h
      · rename_i t ht
        split at h
        · rename_i hb; cases h; exact ⟨⟨hop, rfl, hdl, by rw [hg]; exact ⟨rfl, blt_lt hb, ht⟩⟩, rfl⟩
        · cases h
      · cases h
  · cases h
def copers (P : Program) (N : Nat) (ops : Array Oper) : List Oper → List (Bool × List Nat) → Option (List AOper)
  | [], _ => some []
  | o :: r, qs =>
    match coper P N ops (qs.headD (false, [])) o with
    | none => none
    | some a => (copers P N ops r qs.tail).map (a :: ·)
theorem copers_ok {N : Nat} {ops : Array Oper} : ∀ {l : List Oper} {qs : List (Bool × List Nat)} {as : List AOper}, copers P N ops l qs = some as →
    as.length = l.length ∧ ∀ (j : Nat) (a : AOper), as[j]? = some a → ∃ o, l[j]? = some o ∧ OperOk P ops N o a
  | [], qs, as, h => by simp [copers] at h; subst h; exact ⟨rfl, fun j a h => by simp at h⟩
  | o :: r, qs, as, h => by
    simp only [copers] at h
    split at h
    · cases h
    · rename_i a ha
      cases hr : copers P N ops r qs.tail with
      | none => simp [hr] at h
      | some l =>
        simp [hr] at h; subst h
        obtain ⟨h1, h2⟩ := copers_ok hr
        refine ⟨by simp [h1], fun j b hb => ?_⟩
        cases j with
        | zero => simp at hb; subst hb; exact ⟨o, rfl, (coper_ok ha).1⟩
        | succ j => simp at hb; obtain ⟨o', q1, q2⟩ := h2 j b hb; exact ⟨o', by simpa using q1, q2⟩
/-! ### What must come ahead of what -/
def ancGo : List Oper → List Nat → List Nat
  | [], acc => acc
  | o :: rest, acc => ancGo rest (acc ++ [o.after.toList.foldl (fun m e => if binds .any e = true then m ||| 2 ^ e.on ||| acc.getD e.on 0 else m) 0])
theorem ancGo_sound {ops : Array Oper} : ∀ (rest pre : List Oper) (acc : List Nat), ops.toList = pre ++ rest → acc.length = pre.length → (∀ j i, (acc.getD j 0).testBit i = true → Anc ops i j) → ∀ j i, ((ancGo rest acc).getD j 0).testBit i = true → Anc ops i j
  | [], pre, acc, _, _, h => by simpa [ancGo] using h
  | o :: rest, pre, acc, hp, hl, h => by
    simp only [ancGo]
    refine ancGo_sound rest (pre ++ [o]) _ (by simp [hp]) (by simp [hl]) fun j i hb => ?_
    by_cases hj : j < acc.length
    · rw [List.getD_eq_getElem?_getD, List.getElem?_append_left hj, ← List.getD_eq_getElem?_getD] at hb
      exact h j i hb
    · by_cases hje : j = acc.length
      · subst hje
        rw [List.getD_eq_getElem?_getD, List.getElem?_append_right (Nat.le_refl _)] at hb
        simp only [Nat.sub_self, List.getElem?_cons_zero, Option.getD_some] at hb
        have ho : ops[acc.length]? = some o := by
          rw [← Array.getElem?_toList, hp, hl, List.getElem?_append_right (Nat.le_refl _)]; simp
        have key : ∀ (l : List Edge) (m : Nat), (∀ e ∈ l, e ∈ o.after) → (m.testBit i = true → Anc ops i acc.length) → (l.foldl (fun m e => if binds .any e = true then m ||| 2 ^ e.on ||| acc.getD e.on 0 else m) m).testBit i = true → Anc ops i acc.length := by
          intro l
          induction l with
          | nil => intro m _ hm hb; exact hm hb
          | cons e l ih =>
            intro m he hm hb
            refine ih _ (fun x hx => he x (by simp [hx])) (fun hb2 => ?_) hb
            dsimp only at hb2
            split at hb2
            · rename_i hbi
              simp only [Nat.testBit_or, Bool.or_eq_true] at hb2
              rcases hb2 with (hb2 | hb2) | hb2
              · exact hm hb2
              · rw [Nat.testBit_two_pow] at hb2
                have : e.on = i := by simpa using hb2
                rw [← this]; exact .edge ho (he e (by simp)) hbi
              · exact .step ho (he e (by simp)) hbi (h _ _ hb2)
            · exact hm hb2
        exact key o.after.toList 0 (fun e he => by simpa using he) (fun q => by simp at q) hb
      · rw [List.getD_eq_getElem?_getD, List.getElem?_eq_none (by simp; omega)] at hb
        simp at hb
/-- The slot of a quiet load's address. -/
def loadSlot (a : AOper) : Option Nat :=
  match a.op with
  | .load _ (.tmp t) => if a.quiet = true then some t else none
  | _ => none
/-- Two operations, the first one ahead in the list: are they in their order where they must be? -/
def pairOk (i : Nat) (m : Nat) (x y : Oper × AOper) : Bool :=
  let conf := (match x.1.dst with | some d => (looksA y.1 y.2).contains d || y.1.dst == some d | none => false) || (match y.1.dst with | some d => (looksA x.1 x.2).contains d | none => false)
  let loud := !x.2.op.isPure && !y.2.op.isPure
  (!conf || m.testBit i) && (!(loud && !x.2.quiet) || m.testBit i) && (!(loud && !y.2.quiet) || m.testBit i || (match loadSlot x.2 with | some t => y.2.frees.contains t | none => false)) &&
    (match loadSlot x.2 with | some t => !(y.2.dst == some t) | none => true)
def selfOk (a : AOper) : Bool := match a.op with | .load _ (.tmp t) => !(a.dst == some t) | _ => true
def chkGo : List (Oper × AOper) → List Nat → Nat → List (Nat × Oper × AOper) → Bool
  | [], _, _, _ => true
  | y :: rest, ms, j, earlier => earlier.all (fun ix => pairOk ix.1 (ms.headD 0) ix.2 y) && chkGo rest ms.tail (j + 1) ((j, y) :: earlier)
theorem chkGo_sound : ∀ (l : List (Oper × AOper)) (ms : List Nat) (j : Nat) (earlier : List (Nat × Oper × AOper)), chkGo l ms j earlier = true →
    ∀ (k : Nat) (y : Oper × AOper), l[k]? = some y → (∀ ix ∈ earlier, pairOk ix.1 (ms.getD k 0) ix.2 y = true) ∧ ∀ (i : Nat) (x : Oper × AOper), i < k → l[i]? = some x → pairOk (j + i) (ms.getD k 0) x y = true
  | [], _, _, _, _, k, y, h => by simp at h
  | z :: rest, ms, j, earlier, h, k, y, hk => by
    simp only [chkGo, Bool.and_eq_true, List.all_eq_true] at h
    have hms : ∀ n, ms.tail.getD n 0 = ms.getD (n + 1) 0 := fun n => by cases ms <;> simp
    cases k with
    | zero =>
      simp at hk; subst hk
      refine ⟨fun ix hix => ?_, fun i x hi _ => by omega⟩
      have := h.1 ix hix
      cases ms <;> simpa using this
    | succ k =>
      simp at hk
      obtain ⟨h1, h2⟩ := chkGo_sound rest ms.tail (j + 1) _ h.2 k y hk
      rw [hms] at h1 h2
      refine ⟨fun ix hix => h1 ix (by simp [hix]), fun i x hi hx => ?_⟩
      cases i with
      | zero => simp at hx; subst hx; exact h1 (j, z) (by simp)
      | succ i =>
        have := h2 i x (by omega) (by simpa using hx)
        have e : j + 1 + i = j + (i + 1) := by omega
        rwa [e] at this
def backOk : List Oper → Nat → Bool
  | [], _ => true
  | o :: rest, j => o.after.toList.all (fun e => !binds .any e || Nat.blt e.on j) && backOk rest (j + 1)
theorem backOk_sound : ∀ (l : List Oper) (j : Nat), backOk l j = true → ∀ (k : Nat) (o : Oper) (e : Edge), l[k]? = some o → e ∈ o.after → binds .any e = true → e.on < j + k
  | [], _, _, k, o, e, h => by simp at h
  | x :: rest, j, h, k, o, e, hk => by
    simp only [backOk, Bool.and_eq_true, List.all_eq_true] at h
    cases k with
    | zero =>
      simp at hk; subst hk
      intro he hb
      have := h.1 e (by simpa using he)
      rw [hb] at this
      have := blt_lt (by simpa using this : Nat.blt e.on j = true)
      omega
    | succ k =>
      simp at hk
      intro he hb
      have := backOk_sound rest (j + 1) h.2 k o e hk he hb
      omega
/-- Which operations of a drawn region are quiet: those that need not stand where they stand; and what the others leave alone. -/
def quietFlags (aops : List AOper) (ms : List Nat) : List (Bool × List Nat) :=
  let xs := (aops.zip ms).zipIdx
  xs.map fun (am, j) =>
    if am.1.op.isPure then (false, []) else
    let ordered (k : Nat) (m : Nat) : Bool := if k < j then am.2.testBit k else m.testBit j
    if am.1.op.isCall then (!(xs.all fun (bm, k) => bm.1.op.isPure || k == j || ordered k bm.2), [])
    else if am.1.op.writes then
      (!(xs.all fun (bm, k) => bm.1.op.isPure || k == j || ordered k bm.2 || (k < j && (match bm.1.op with | .load _ (.tmp _) => true | _ => false))),
        xs.filterMap fun (bm, k) => if k < j && !am.2.testBit k then (match bm.1.op with | .load _ (.tmp t) => some t | _ => none) else none)
    else (true, [])
def cdrawn (P : Program) (N : Nat) (ops : Array Oper) : Option (List AOper) :=
  match copers P N ops ops.toList [] with
  | none => none
  | some l0 =>
    let ms := ancGo ops.toList []
    match copers P N ops ops.toList (quietFlags l0 ms) with
    | none => none
    | some l => if (backOk ops.toList 0 && chkGo (ops.toList.zip l) ms 0 [] && l.all selfOk) = true then some l else none
theorem cdrawn_ok {N : Nat} {ops : Array Oper} {l : List AOper} (h : cdrawn P N ops = some l) : DrawOk P ops N l := by
  unfold cdrawn at h
  split at h
  · cases h
  · rename_i l0 h0
    dsimp only at h
    split at h
    · cases h
    · rename_i l1 h1
      split at h
      · rename_i hc
        cases h
        simp only [Bool.and_eq_true] at hc
        obtain ⟨⟨hb, hch⟩, hself⟩ := hc
        obtain ⟨hl, hok⟩ := copers_ok h1
        have hanc := ancGo_sound (ops := ops) ops.toList [] [] (by simp) rfl (fun j i hb => by simp at hb)
        have hpair := chkGo_sound _ _ _ _ hch
        have zip : ∀ (j : Nat) (o : Oper) (a : AOper), ops[j]? = some o → l[j]? = some a → (ops.toList.zip l)[j]? = some (o, a) := by
          intro j o a h1 h2
          rw [List.getElem?_zip_eq_some]
          exact ⟨by simpa using h1, h2⟩
        have pair : ∀ (i j : Nat) (oi oj : Oper) (ai aj : AOper), i < j → ops[i]? = some oi → ops[j]? = some oj → l[i]? = some ai → l[j]? = some aj → pairOk i ((ancGo ops.toList []).getD j 0) (oi, ai) (oj, aj) = true := by
          intro i j oi oj ai aj hij h1 h2 h3 h4
          have := (hpair j (oj, aj) (zip j oj aj h2 h4)).2 i (oi, ai) hij (zip i oi ai h1 h3)
          simpa using this
        have bits : ∀ (i j : Nat) (oi oj : Oper) (ai aj : AOper), i < j → ops[i]? = some oi → ops[j]? = some oj → l[i]? = some ai → l[j]? = some aj →
            ((((match oi.dst with | some d => (looksA oj aj).contains d || oj.dst == some d | none => false) || (match oj.dst with | some d => (looksA oi ai).contains d | none => false)) = true → Anc ops i j) ∧
              (ai.op.isPure = false → aj.op.isPure = false → ai.quiet = false → Anc ops i j) ∧
              (ai.op.isPure = false → aj.op.isPure = false → aj.quiet = false → Anc ops i j ∨ ∃ t, loadSlot ai = some t ∧ t ∈ aj.frees) ∧
              (∀ t, loadSlot ai = some t → aj.dst ≠ some t)) := by
          intro i j oi oj ai aj hij h1 h2 h3 h4
          have := pair i j oi oj ai aj hij h1 h2 h3 h4
          simp only [pairOk, Bool.and_eq_true] at this
          obtain ⟨⟨⟨p1, p2⟩, p3⟩, p4⟩ := this
          refine ⟨fun hn => ?_, fun q1 q2 q3 => ?_, fun q1 q2 q3 => ?_, fun t ht => ?_⟩
          · rw [hn] at p1; exact hanc j i (by simpa using p1)
          · simp [q1, q2, q3] at p2; exact hanc j i (by simpa using p2)
          · simp only [q1, q2, q3, Bool.not_false, Bool.and_self, Bool.not_true, Bool.false_or, Bool.or_eq_true] at p3
            rcases p3 with p3 | p3
            · exact .inl (hanc j i p3)
            · right
              split at p3
              · rename_i t ht; exact ⟨t, ht, by simpa using p3⟩
              · cases p3
          · rw [ht] at p4
            simpa using p4
        refine ⟨by simpa using hl, fun j a hj => ?_, fun j o e h1 h2 h3 => ?_, fun i j oi oj ai aj hij h1 h2 h3 h4 => ⟨fun d hd hq => ?_, fun d hd hq => ?_⟩, fun b ab hb1 hb2 hb3 k ak hk1 hk2 => ⟨fun hlt => ?_, fun hlt => ?_⟩, fun k ok ak n t q1 q2 q3 q4 => ?_⟩
        · obtain ⟨o, q1, q2⟩ := hok j a hj; exact ⟨o, by simpa using q1, q2⟩
        · have := backOk_sound ops.toList 0 hb j o e (by simpa using h1) h2 h3
          omega
        · refine (bits i j oi oj ai aj hij h1 h2 h3 h4).1 ?_
          rw [hd]
          rcases hq with hq | hq
          · simp [hq]
          · simp [hq]
        · refine (bits i j oi oj ai aj hij h1 h2 h3 h4).1 ?_
          rw [hd]; simp [hq]
        · obtain ⟨ob, q1, _⟩ := hok b ab hb1
          obtain ⟨ok, q2, _⟩ := hok k ak hk1
          rcases (bits k b ok ob ak ab hlt (by simpa using q2) (by simpa using q1) hk1 hb1).2.2.1 hk2 hb3 hb2 with r | ⟨t, r1, r2⟩
          · exact .inl r
          · refine .inr ⟨?_, trivial⟩
            have hls := r1
            unfold loadSlot at r1
            split at r1
            · rename_i n t' hop
              split at r1
              · rename_i hq; cases r1
                refine ⟨ak, ab, n, t, hk1, hb1, hop, hq, r2, fun m am h1 h2 h3 => ?_⟩
                obtain ⟨om, q3, _⟩ := hok m am h3
                exact (bits k m ok om ak am h1 (by simpa using q2) (by simpa using q3) hk1 h3).2.2.2 t hls
              · cases r1
            · cases r1
        · obtain ⟨ob, q1, _⟩ := hok b ab hb1
          obtain ⟨ok, q2, _⟩ := hok k ak hk1
          exact (bits b k ob ok ab ak hlt (by simpa using q1) (by simpa using q2) hb1 hk1).2.1 hb3 hk2 hb2
        · rw [List.all_eq_true] at hself
          have := hself ak (List.mem_of_getElem? q2)
          simp only [selfOk, q3] at this
          simp [q4] at this
      · cases h
/-! ### Code and functions -/
def ccode (P : Program) (N : Nat) : Code → Option ACode
  | .skip => some .skip
  | .ret => some .ret
  | .exit id => some (.exit id)
  | .seq a b => match ccode P N a with | none => none | some x => (ccode P N b).map (.seq x ·)
  | .cond c a b => match copd c with | none => none | some d => match ccode P N a with | none => none | some x => (ccode P N b).map (.cond d x ·)
  | .block id a => (ccode P N a).map (.block id ·)
  | .loop a => (ccode P N a).map .loop
  | .region _ ops false => (copers P N ops ops.toList []).map .region
  | .region _ ops true => if P.follows .mixedOrders = true then some (match cdrawn P N ops with | some l => .region l | none => .bad) else none
  | _ => some .bad
theorem ccode_ok {N : Nat} : ∀ {c : Code} {a : ACode}, ccode P N c = some a → CodeOk P N c a
  | .skip, a, h => by simp [ccode] at h; subst h; exact .skip
  | .ret, a, h => by simp [ccode] at h; subst h; exact .ret
  | .exit id, a, h => by simp [ccode] at h; subst h; exact .exit id
  | .seq x y, a, h => by
    simp only [ccode] at h
    split at h
    · cases h
    · rename_i x' hx
      cases hy : ccode P N y with
      | none => simp [hy] at h
      | some y' => simp [hy] at h; subst h; exact .seq (ccode_ok hx) (ccode_ok hy)
  | .cond c x y, a, h => by
    simp only [ccode] at h
    split at h
    · cases h
    · rename_i d hd
      split at h
      · cases h
      · rename_i x' hx
        cases hy : ccode P N y with
        | none => simp [hy] at h
        | some y' => simp [hy] at h; subst h; exact .cond hd (ccode_ok hx) (ccode_ok hy)
  | .block id x, a, h => by
    simp only [ccode] at h
    cases hx : ccode P N x with
    | none => simp [hx] at h
    | some x' => simp [hx] at h; subst h; exact .block (ccode_ok hx)
  | .loop x, a, h => by
    simp only [ccode] at h
    cases hx : ccode P N x with
    | none => simp [hx] at h
    | some x' => simp [hx] at h; subst h; exact .loop (ccode_ok hx)
  | .region id ops false, a, h => by
    simp only [ccode] at h
    cases hx : copers P N ops ops.toList [] with
    | none => simp [hx] at h
    | some l =>
      simp [hx] at h; subst h
      obtain ⟨h1, h2⟩ := copers_ok hx
      exact .region (by simpa using h1) fun j ao hj => by obtain ⟨o, q1, q2⟩ := h2 j ao hj; exact ⟨o, by simpa using q1, q2⟩
  | .region id ops true, a, h => by
    simp only [ccode] at h
    split at h
    · rename_i hm
      cases hx : cdrawn P N ops with
      | none => simp [hx] at h; subst h; exact .bad _
      | some l => simp [hx] at h; subst h; exact .drawn hm (cdrawn_ok hx)
    · cases h
  | .rangeFunc .., a, h => by simp [ccode] at h; subst h; exact .bad _
  | .scope _, a, h => by simp [ccode] at h; subst h; exact .bad _
  | .label _, a, h => by simp [ccode] at h; subst h; exact .bad _
  | .goto _, a, h => by simp [ccode] at h; subst h; exact .bad _
  | .refuse _, a, h => by simp [ccode] at h; subst h; exact .bad _
def cres (P : Program) : List ResultVar → Option (List AResult)
  | [] => some []
  | .tmp t :: r => (cres P r).map (.tmp t :: ·)
  | .cell t ty :: r => match tyAgg P ty with | none => none | some n => (cres P r).map (.cell t n :: ·)
theorem cres_ok : ∀ {l : List ResultVar} {as : List AResult}, cres P l = some as → l.length = as.length ∧ ∀ (i : Nat) (r : ResultVar) (ar : AResult), l[i]? = some r → as[i]? = some ar → ResOk P r ar
  | [], as, h => by simp [cres] at h; subst h; exact ⟨rfl, fun i r ar h => by simp at h⟩
  | .tmp t :: l, as, h => by
    simp only [cres] at h
    cases hr : cres P l with
    | none => simp [hr] at h
    | some as' =>
      simp [hr] at h; subst h
      obtain ⟨h1, h2⟩ := cres_ok hr
      refine ⟨by simp [h1], fun i r ar q1 q2 => ?_⟩
      cases i with
      | zero => simp at q1 q2; subst q1; subst q2; rfl
      | succ i => exact h2 i r ar (by simpa using q1) (by simpa using q2)
  | .cell t ty :: l, as, h => by
    simp only [cres] at h
    split at h
    · cases h
    · rename_i n hn
      cases hr : cres P l with
      | none => simp [hr] at h
      | some as' =>
        simp [hr] at h; subst h
        obtain ⟨h1, h2⟩ := cres_ok hr
        refine ⟨by simp [h1], fun i r ar q1 q2 => ?_⟩
        cases i with
        | zero => simp at q1 q2; subst q1; subst q2; exact ⟨rfl, hn⟩
        | succ i => exact h2 i r ar (by simpa using q1) (by simpa using q2)
def cfunc (P : Program) (fn : Func) : Option AFunc :=
  if (fn.name == "runtime.NumGoroutine") = true then none else
  match fn.body with
  | none => none
  | some c =>
    match ccode P fn.ntmps c with
    | none => none
    | some a => (cres P fn.results.toList).map fun r => ⟨fn.ntmps, r, a⟩
theorem cfunc_ok {f : Nat} {fn : Func} {af : AFunc} (hf : P.funcs[f]? = some fn) (h : cfunc P fn = some af) : FuncOk P f af := by
  unfold cfunc at h
  split at h
  · cases h
  · rename_i hn
    split at h
    · cases h
    · rename_i c hc
      split at h
      · cases h
      · rename_i a ha
        cases hr : cres P fn.results.toList with
        | none => simp [hr] at h
        | some r =>
          simp [hr] at h; subst h
          obtain ⟨h1, h2⟩ := cres_ok hr
          exact ⟨fn, c, hf, by simpa using hn, hc, rfl, ccode_ok ha, h1, h2⟩
end Go.AI
