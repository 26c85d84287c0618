/- A mesh's rows, as the document reads them. No claim by itself. -/
import Derived.Test.YtacfhbhfgbjleaaDoorD4
import Derived.Test.YtacfhbhfgbjleaaDoorD8
import Derived.Test.YtacfhbhfgbjleaaDoorFB
import Derived.Test.YtacfhbhfgbjleaaDoorGA
namespace Go.Proofs.YtacfhbhfgbjleaaDoor
open Go Go.AI
section
variable {FT : Nat → Option FnD} {H : Heap}
abbrev H62 (FT : Nat → Option FnD) : Prop := FT 62 = some (.code A62) ∧ FT 67 = some (.code A67) ∧ FT 39 = some (.code A39) ∧ FT 69 = some (.code A69) ∧ FT 76 = some (.code A76) ∧ FT 77 = some (.code A77) ∧ FT 68 = some (.code A68) ∧ FT 75 = some (.code A75) ∧ FT 74 = some (.code A74) ∧ FT 52 = some (.code A52)
/-- A place's row read. -/
structure P32 (en : Nat) (P : List (Int × Int)) (W : Int) (r : List Tok) (x : AV) : Prop where
  ex : ∃ (p : Int × Int) (w a e : Int), x = .tup [.agg (pairc p), .int .i64 w, .int .i64 a, .int .i64 e] ∧
    ((e = 0 ∧ ∃ xs, rdC en [coordW, coordW, zeroW, denW P W] r = .ok (xs, r.drop 4) ∧ p = (xs[0]?.getD 0, xs[1]?.getD 0) ∧ w = xs[3]?.getD 0 ∧ 1 ≤ w) ∨ (e ≠ 0 ∧ ∃ q : Nat × Int, rdC en [coordW, coordW, zeroW, denW P W] r = .error q ∧ a = q.1 ∧ e = q.2))
abbrev H32 (FT : Nat → Option FnD) : Prop := FT 48 = some (.code A48) ∧ FT 49 = some (.code A49) ∧ H62 FT
end
end Go.Proofs.YtacfhbhfgbjleaaDoor

/- A face's row, as the document reads it. No claim by itself. -/
namespace Go.Proofs.YtacfhbhfgbjleaaDoor
open Go Go.AI
section
variable {FT : Nat → Option FnD} {H : Heap}
def fvX (en n : Nat) (r : List Tok) (j : Nat) : List Int := (List.range j).map fun q => (idxW n (wordAt en (r.drop q)).2).1 - 1
structure OkF (en n : Nat) (r : List Tok) (f : List Int) : Prop where
  ex : ∃ xs, rdC en [idxW n, idxW n, idxW n] r = .ok (xs, r.drop 3) ∧ ((idxW n (wordAt en (r.drop 3)).2).2 = 11 ∧ f = dec1 xs ∧ f.length = 3 ∨ (idxW n (wordAt en (r.drop 3)).2).2 = 0 ∧ f = dec1 xs ++ [(idxW n (wordAt en (r.drop 3)).2).1 - 1] ∧ f.length = 4)
structure NoF (en n : Nat) (r : List Tok) (a e : Int) : Prop where
  ex : (∃ q : Nat × Int, rdC en [idxW n, idxW n, idxW n] r = .error q ∧ a = q.1 ∧ e = q.2) ∨ ∃ xs, rdC en [idxW n, idxW n, idxW n] r = .ok (xs, r.drop 3) ∧ (idxW n (wordAt en (r.drop 3)).2).2 ≠ 11 ∧ (idxW n (wordAt en (r.drop 3)).2).2 ≠ 0 ∧ a = (wordAt en (r.drop 3)).1 ∧ e = (idxW n (wordAt en (r.drop 3)).2).2
structure F33 (H H' : Heap) (en n : Nat) (r : List Tok) (x : AV) : Prop where
  ex : ∃ (vf : AV) (a e : Int), x = .tup [vf, .int .i64 a, .int .i64 e] ∧ ((e = 0 ∧ ∃ f, Mine 1 i64c H H' vf f ∧ OkF en n r f) ∨ (e ≠ 0 ∧ NoF en n r a e))
structure FaI (H H' : Heap) (v : AV) (i en n : Nat) (r : List Tok) (vf : AV) (τ : Env) (j m : Nat) : Prop where
  bd : Bd 1 i64c H H' vf (fvX en n r j)
  le : j ≤ 4
  hm : m = 4 - j
  ok : ∀ q, q < j → (idxW n (wordAt en (r.drop q)).2).2 = 0
  t0 : Env.at τ 0 = v
  t1 : Env.at τ 1 = .int .i64 i
  t2 : Env.at τ 2 = .int .i64 en
  t3 : Env.at τ 3 = .int .i64 n
  t11 : Env.at τ 11 = vf
  t12 : Env.at τ 12 = .int .i64 (j + 1 : Nat)
end
end Go.Proofs.YtacfhbhfgbjleaaDoor

/- A mesh's reading, as the document does it: the whole. No claim by itself. -/
namespace Go.Proofs.YtacfhbhfgbjleaaDoor
open Go Go.AI
theorem toks_idx {H : Heap} {v : AV} {W : List Tok} (h : Toks H v W) {i : Nat} (hi : i < W.length) : ∃ o off t, W[i]? = some t ∧ indexAddrV 2 v (.int .i64 (i : Int)) = some (.ptr o off) ∧ loadA H (some 2) (.ptr o off) = some (.agg (tokA t)) ∧ loadA H none (.ptr o off) = some (.int .i64 (t.1 : Int)) ∧ loadA H none (.ptr o (off + 1)) = some (.str t.2) := by
  rcases h with ⟨rfl, rfl⟩ | ⟨o, off, lo, ex, cs, rfl, hc, hx⟩
  · simp at hi
  · have hg : W[i]? = some W[i] := List.getElem?_eq_getElem hi
    have hs := hx _ _ hg
    have ix : (0 : Int) ≤ (i : Int) ∧ (i : Int) < ((W.length : Nat) : Int) ∧ 2 = 2 := by omega
    refine ⟨o, off + i * 2, _, hg, by simp [ix.2.1], by simp [loadA_ptr, hc, partA, hs], ?_, ?_⟩
    · rw [loadA_ptr, hc]
      have := seg_get hs (i := 0) (by omega)
      simpa [partA, tokA] using this
    · rw [loadA_ptr, hc]
      have := seg_get hs (i := 1) (by omega)
      simpa [partA, tokA] using this
section
variable {FT : Nat → Option FnD} {H H0 : Heap}
structure RfI (H H0 H' : Heap) (om : Nat) (v bv : AV) (ts : List Tok) (en : Nat) (R : Ob × Int × Int) (i : Nat) (P : List (Int × Int)) (W : Int) (F : List (List Int)) (τ : Env) (m : Nat) : Prop where
  mb : ∃ vP vF, MB H0 H' H.next om vP vF P W F
  fr2 : Fr [om] H0 H'
  le : i ≤ ts.length + 5
  hm : m = ts.length + 5 - i
  pn : P.length ≤ i
  fn : F.length ≤ i
  f4 : ∀ f, f ∈ F → f.length ≤ 4
  wz : P = [] ∧ W = 0 ∨ P ≠ [] ∧ 1 ≤ W
  ok : R = readO en (ts.drop i).length P W F (ts.drop i)
  t0 : Env.at τ 0 = bv
  t2 : Env.at τ 2 = .ptr H.next 0
  t5 : Env.at τ 5 = v
  t7 : Env.at τ 7 = .ptr om 0
  t8 : Env.at τ 8 = .int .i64 i
structure Qrx (H H' : Heap) (R : Ob × Int × Int) (τ : Env) : Prop where
  ex : ∃ a e : Int, R = (nilO, a, e) ∧ H'.get H.next = some (.cells [.nils, .int .i64 0, .nils]) ∧ Ext H H' ∧ Env.at τ 2 = .ptr H.next 0 ∧ Env.at τ 3 = .int .i64 a ∧ Env.at τ 4 = .int .i64 e
structure Qrn (H H0 H' : Heap) (om : Nat) (v bv : AV) (ts : List Tok) (en : Nat) (R : Ob × Int × Int) (τ : Env) : Prop where
  ex : ∃ i P W F m, RfI H H0 H' om v bv ts en R i P W F τ m ∧ ts.length ≤ i
def r16l : ACode := subAt [1,1,1,1,1,0] A16.body
def r16e : ACode := subAt [1,1,1,1,1,1] A16.body
theorem Fr.two {om : Nat} {vl : List Nat} {a b c : Heap} (hw : a.Wf) (h : Fr [om] a b) (k : Fr (om :: vl) b c) (hv : ∀ p, p ∈ vl → a.next ≤ p) : Fr [om] a c := h.trans hw k (fun p hp => by
  rcases List.mem_cons.1 hp with q | q
  · exact .inl (by simp [q])
  · exact .inr (hv p q))
structure ReD (H H' : Heap) (s : List Nat) (r : AV) : Prop where
  ex : ∃ vP vF P W F, ∃ (a e : Int), parO s = ((P, W, F), a, e) ∧ r = .tup [.agg [vP, .int .i64 W, vF], .int .i64 a, .int .i64 e] ∧ MoN H H' vP vF P F
abbrev H16 (FT : Nat → Option FnD) : Prop := FT 16 = some (.code A16) ∧ FT 18 = some (.code A18) ∧ FT 32 = some (.code A32) ∧ FT 33 = some (.code A33) ∧ H32 FT ∧ H14 FT
end
end Go.Proofs.YtacfhbhfgbjleaaDoor
