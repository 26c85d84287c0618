/- One pair more: the program's Grow. No claim by itself. -/
import Derived.Test.YtjhhicmlflelhaaX7
namespace Go.Proofs.Ytjhhicmlflelhaa.Gr
open Go Go.AI
section
variable {FT : Nat → Option FnD} {S : Nat → Prop} {H0 H : Heap} {n : Nat} {c : FC} {m : Nat → Option Nat} {s : St} {ks : List Nat} {next : Nat → List Nat}
theorem mateC_flat {n : Nat} {m : Nat → Option Nat} : (mateL n m).flatMap i64c = mateC n m := by
  unfold mateL mateC arr
  generalize List.range n = l
  induction l with
  | nil => rfl
  | cons a l ih => rw [List.map_cons, List.flatMap_cons, ih]; rfl
theorem FS.sw (fs : FS S H0 H n c m s ks) : Sw 1 i64c H (.slc c.om 0 n 1 c.lm c.xm) (mateL n m) := by
  refine .inr ⟨c.om, 0, c.lm, c.xm, by rw [mateL_len], ?_⟩
  unfold Heap.readSeg
  rw [cellsAt_get fs.gm, mateL_len, mateC_flat]
  exact seg_all (by rw [mateC, arr_len]; omega)
theorem grow29 (tb : TB FT) (fs : FS S H0 H n c m s ks) (nx : Nx S H0 c.vn n next) (hn : n ≤ 1000000) (hm : ∀ {x w}, m x = some w → w < n) (hnx : ∀ {x y}, y ∈ next x → y < n) (hnl : ∀ x, (next x).length ≤ 1099511627776) {res : Option (Nat → Option Nat)} (h1 : growM n next (n + 2) m (List.range n) = some res) :
    Cp FT 29 [.ptr c.f 0] H (fun r H' => ∃ m' s' ks', FS S H0 H' n c m' s' ks' ∧ ((res = none ∧ r = .bool false ∧ m' = m) ∨ (res = some m' ∧ r = .bool true))) := by
  refine Cp_code A29 tb.h29 rfl ?_
  simp [A29, fs.f1]
  refine Wp_loop (fun f τ H' => ∃ (i : Nat) (s : St) (ks : List Nat), i ≤ n ∧ f = n - i ∧ growM n next (n + 2) m ((List.range n).drop i) = some res ∧ FS S H0 H' n c m s ks ∧ Env.at τ 0 = .ptr c.f 0 ∧ Env.at τ 9 = .slc c.om 0 n 1 c.lm c.xm ∧ Env.at τ 10 = .int .i64 (n : Int) ∧ Env.at τ 11 = .int .i64 (i : Int)) ?_ n _ _ ⟨0, s, ks, by omega, rfl, h1, fs, by simp, by simp, by simp, by simp⟩
  rintro f τ H1 ⟨i, s, ks, hi, rfl, hg, fs1, t0, t9, t10, t11⟩
  simp only [Wp_seq, Wp_region]
  by_cases hc : i < n
  · have w : IntKind.i64.wrap ((i : Int) + 1) = ((i + 1 : Nat) : Int) := wrap64 (by omega) (by omega)
    rw [drop_range hc] at hg
    unfold growM at hg
    cases hmi : m i with
    | some k =>
      rw [hmi] at hg
      simp only [Option.isSome_some, if_true] at hg
      simp [t0, t9, t10, t11, hc, fs1.lm hc, hmi, w]
      exact ⟨_, by omega, i + 1, by omega, rfl, hg, ⟨s, ks, fs1⟩, by simp⟩
    | none =>
      rw [hmi] at hg
      simp only [Option.isSome_none] at hg
      rw [if_neg (by simp)] at hg
      unfold step at hg
      cases hf : findM n m next i (n + 2) (n + 2) (plantS i) with
      | none => rw [hf] at hg; cases hg
      | some x =>
        obtain ⟨r, s'⟩ := x
        rw [hf] at hg
        simp [t0, t9, t10, t11, hc, fs1.lm hc, hmi]
        refine (find24 tb.h24 tb.h34 tb.h35 tb.h40 tb.h41 fs1 nx hn (fun e => hm e) (fun e => hnx e) hnl hc hf).mono ?_
        rintro _ H5 ⟨rfl, ks5, fs5⟩
        cases r with
        | none =>
          simp only at hg
          simp [t0, t9, t10, t11, w]
          exact ⟨_, by omega, i + 1, by omega, rfl, hg, ⟨s', ks5, fs5⟩, by simp⟩
        | some t =>
          simp only at hg
          cases ht : turnM n s'.par (n + 2) t m with
          | none => rw [ht] at hg; cases hg
          | some m1 =>
            rw [ht] at hg; simp only [Option.some.injEq] at hg
            simp [t0, t9, t10, t11]
            refine (turn25 tb.h25 fs5 ht).mono ?_
            rintro _ H6 fs6
            simp
            exact ⟨m1, ⟨s', ks5, fs6⟩, hg.symm⟩
  · have : i = n := by omega
    subst this
    rw [List.drop_eq_nil_of_le (by simp)] at hg
    cases hg
    simp [t0, t9, t10, t11]
    exact ⟨s, ks, fs1⟩
theorem clone0 {FT : Nat → Option FnD} (h32 : FT 32 = some (.code A32)) {H : Heap} : Cp FT 32 [.nils] H (fun r H' => r = .nils ∧ H' = H) := by
  refine Cp_code A32 h32 rfl ?_
  have heq : binA .eql .slice .nils .nils = some (.bool true) := rfl
  simp [A32, heq]
@[simp] theorem fillV_nils {e : Opd → AV} {cs : List AV} {off : Nat} {r : List (Nat × Nat × Opd)} : fillV e cs off 1 .nils r = if off + 1 ≤ cs.length then fillA e (setSeg cs off [.nils]) r else none := by
  simp [fillV]
theorem start22_0 {FT : Nat → Option FnD} (tb : TB FT) {H : Heap} {v : AV} (hw : H.Wf) (h : Pairs H v []) :
    Cp FT 22 [.int .i64 0, v, .nils] H (fun r H' => ∃ f, r = .ptr f 0 ∧ Ext H H' ∧ loadA H' none (.ptr f 1) = some .nils) := by
  refine Cp_code A22 tb.h22 rfl ?_
  have mk0 : ∀ {H : Heap} {b : Nat} {x : AV}, x.one = true → makeSlA H 1 b [x] (.int .i64 0) (.int .i64 0) = some (.slc H.next 0 0 1 0 true, H.push (.cells [])) := by
    intro H b x hx
    have := mk_arr (H := H) (n := 0) (b := b) hx (by omega) (by omega)
    exact this
  have k1 := fun H => mk0 (H := H) (b := 24) (x := .nils) rfl
  have k2 := fun H => mk0 (H := H) (b := 8) (x := .int .i64 0) rfl
  have k3 := fun H => mk0 (H := H) (b := 1) (x := .bool false) rfl
  simp [A22, k1, k2, k3]
  refine (clone0 tb.h32).mono ?_
  rintro r _ ⟨rfl, rfl⟩
  have hl := h.len
  simp [k1, k2, k3, setSeg, hl]
  refine Wp_gen ?_
  intro H1 hH1
  have ex : Ext H H1 := by
    rw [hH1]
    have e1 := Ext.push hw (.cells [])
    have e2 := e1.trans (Ext.push e1.wf (.cells []))
    have e3 := e2.trans (Ext.push e2.wf (.cells []))
    have e4 := e3.trans (Ext.push e3.wf (.cells []))
    have e5 := e4.trans (Ext.push e4.wf (.map []))
    exact e5.trans (Ext.push e5.wf _)
  have ld : loadA H1 none (.ptr (H.next + 1 + 1 + 1 + 1 + 1) 1) = some .nils := by
    rw [hH1]; exact load_get (get_pushN.trans (if_pos rfl)) rfl
  refine Wp_loop (fun f τ H' => H' = H1 ∧ Env.at τ 24 = .int .i64 0 ∧ Env.at τ 25 = .int .i64 0 ∧ Env.at τ 7 = .ptr (H.next + 1 + 1 + 1 + 1 + 1) 0) ?_ 0 _ _ ⟨rfl, by simp, by simp, by simp⟩
  rintro f τ _ ⟨rfl, t24, t25, t7⟩
  simp only [Wp_seq, Wp_region]
  simp [t24, t25, t7]
  exact ⟨ex, ld⟩
theorem grow29_0 {FT : Nat → Option FnD} (tb : TB FT) {H : Heap} {f : Nat} (h : loadA H none (.ptr f 1) = some .nils) : Cp FT 29 [.ptr f 0] H (fun r H' => r = .bool false ∧ H' = H) := by
  refine Cp_code A29 tb.h29 rfl ?_
  simp [A29, h]
  refine Wp_loop (fun _ τ H' => H' = H ∧ Env.at τ 10 = .int .i64 0 ∧ Env.at τ 11 = .int .i64 0) ?_ 0 _ _ ⟨rfl, by simp, by simp⟩
  rintro f τ _ ⟨rfl, t10, t11⟩
  simp only [Wp_seq, Wp_region]
  simp [t10, t11]
theorem grow20 (tb : TB FT) (hw : H.Wf) {v u : AV} {l : List (Int × Int)} (h : Pairs H v l) (hll : l.length ≤ 1000000) (hr : rightM (n : Int) l = true) (hm : Mt (Adj (natE l)) m) (hu : Ow 1 i64c H u (mateL n m)) :
    Cp FT 20 [.int .i64 n, v, u] H (fun r H' => Ext H H' ∧ ∃ u' b m', r = .tup [u', .bool b, .int .i64 0] ∧ Sw 1 i64c H' u' (mateL n m') ∧ Ints H' u' (mateL n m') ∧ ((b = false ∧ m' = m ∧ growM n (nextTo (natE l)) (n + 2) m (List.range n) = some none) ∨ (b = true ∧ growM n (nextTo (natE l)) (n + 2) m (List.range n) = some (some m')))) := by
  have hrm := right_mem hr
  have hN : (n : Int).toNat = n := Int.toNat_natCast n
  have him := isM_of hr (m := m) hm
  rw [hN] at him
  refine Cp_code A20 tb.h20 rfl ?_
  simp [A20]
  refine (is15 (n := (n : Int)) tb.h15 tb.h21 tb.h30 tb.h31 tb.h37 tb.h28 tb.h36 h (hu.sl i64c_len) hw (by omega) (by rw [mateL_len]; omega)).mono ?_
  rintro r H1 ⟨rfl, he1⟩
  simp [him]
  rcases hu with ⟨rfl, hnil⟩ | ⟨o, rfl, hne, hg, _⟩
  · have hn0 : n = 0 := by have := congrArg List.length hnil; rwa [mateL_len] at this
    subst hn0
    have hl : l = [] := by
      cases l with
      | nil => rfl
      | cons p l =>
        obtain ⟨a, b⟩ := p
        have := hrm.2.2 a b (by simp)
        omega
    subst hl
    refine (start22_0 tb he1.wf (h.ext he1)).mono ?_
    rintro r H2 ⟨f, rfl, he2, ld⟩
    simp
    refine (grow29_0 tb ld).mono ?_
    rintro r _ ⟨rfl, rfl⟩
    simp [ld]
    exact ⟨he1.trans he2, ⟨m, .inl ⟨rfl, hnil⟩, .inl ⟨rfl, hnil⟩, rfl, rfl⟩⟩
  · rw [mateL_len]
    have hlt := natE_lt hr
    rw [hN] at hlt
    have hP : Pairs H1 v ((natE l).map up2) := by rw [natE_up hr]; exact h.ext he1
    refine (start22 tb.h22 tb.h32 (n := n) (m := m) he1.wf hP hlt (he1.keep _ _ hg) (by rw [mateC_flat]; exact seg_all (by rw [mateC, arr_len])) (by omega) (by unfold natE; rw [List.length_map]; exact hll)).mono ?_
    rintro r H2 ⟨c, S, rfl, fs, nx, he2, hS⟩
    simp
    have hgm := growM_ok (gph_nat hr) (next := nextTo (natE l)) (fun {a b} => Iff.rfl) (F := n + 2) (by omega) (by omega) hm (rs := List.range n) (fun r hr => List.mem_range.1 hr)
    obtain ⟨res, hres⟩ : ∃ res, growM n (nextTo (natE l)) (n + 2) m (List.range n) = some res := by
      rcases hgm with ⟨q, _⟩ | ⟨m', q, _⟩
      · exact ⟨_, q⟩
      · exact ⟨_, q⟩
    refine (grow29 tb fs nx (by omega) (fun {x w} e => (gph_nat hr).lt ((gph_nat hr).sym (hm.edge e))) (fun {x y} hy => by
      rcases nextTo_mem.1 hy with q | q
      · exact (hlt _ _ q).2
      · exact (hlt _ _ q).1) (fun x => by
        have := nextTo_len (l := natE l) (a := x)
        have : (natE l).length = l.length := by unfold natE; rw [List.length_map]
        omega) hres).mono ?_
    rintro r H3 ⟨m', s', ks', fs3, hcase⟩
    have ex : Ext H H3 := by
      have e2 := he1.trans he2
      refine ⟨fs3.fl.trans e2.floor, ?_, fun o x e => ?_, fs3.wf⟩
      · refine Classical.byContradiction fun q => ?_
        have := (fs3.frz H3.next (hS _ (by have := he1.next; omega))).2
        omega
      · have ho : o < H.next := Classical.byContradiction fun q => by
          have := hw.2 o (by omega); rw [this] at e; cases e
        rw [(fs3.frz o (hS o (by have := he1.next; omega))).1]; exact e2.keep o x e
    rcases hcase with ⟨rfl, rfl, rfl⟩ | ⟨rfl, rfl⟩
    · simp [fs3.f1]
      exact ⟨ex, m', fs3.sw, fs3.ints, rfl, hres⟩
    · simp [fs3.f1]
      exact ⟨ex, m', fs3.sw, fs3.ints, hres⟩
end
end Go.Proofs.Ytjhhicmlflelhaa.Gr
