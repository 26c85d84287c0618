/-
  No cell of these rows narrows 'for every input' (looked for: loops, veiled, ifaces, maps, wideKeys, modest, calm, conditions, laid).
  DERIVED. THE GIVEN ROWS OF THIS SEAT. 6 by the template 'for every input the law returns true; each argument reads behind the call as it read before'; 0 by the template 'total and deterministic' (their statements: YtjhhicmlflelhaaTotals.lean).
  GIVEN WITH THE SEED: the statements are not yours to turn. If you find one false, say at which input.
  Laid BY PROGRAM, IN A SANDBOX (cutbox-rows.mjs): the forced cells as the released guide's own fill.sh prints them over the translation 5819f1d203684bc8… (all of the seat's roots in one cut). By AI agents, Wed Nov 11 2026. No macro, syntax, notation, axiom, sorry.
-/
import Derived.Test.YtjhhicmlflelhaaChecked
import GoSem.Claim
import GoSem.ClaimJoined
import GoSem.ClaimMapViews
import Derived.JoinedTies
import Derived.KernelRfl
namespace Go.Proofs.Ytjhhicmlflelhaa
/- THE CELL 'sum', in the pinned program and in every row, IS THE sha256 OF THE DUMP (.gsa) THAT YtjhhicmlflelhaaProg.lean LOADS. Nothing in Lean hashes anything: it is a label: what it is worth is what the hold of that sum in a sandbox is worth. -/
noncomputable def Try.pinned : Pinned := { name := "ytjhhicmlflelhaa", sum := "5819f1d203684bc8f43acf36768179026fa9fa586a8ddc902c70b4cef86712df", checked := Try.checked }
namespace Rows
def none {H : Type} : Left H := { results := [], args := [] }

/-- 'parquetlaw18.MatchMost': WHATEVER THE INPUT: true; the input reads as it did. -/
def matchMostSpec : ChangeSpec := { name := "matchMost", fn := fun _ => fun
  | [d1, d2] => { results := [.lit (.bool true)], args := [d1, d2] }
  | _ => none }
def matchMostRow : OpenClaim := { program := "ytjhhicmlflelhaa", sum := "5819f1d203684bc8f43acf36768179026fa9fa586a8ddc902c70b4cef86712df", func := "parquet/parquetlaw18.MatchMost", spec := "matchMost", unfollowed := true, recurses := true, apart := false }
def MatchMostSaid : Prop := matchMostRow.holds Try.pinned (OpenSpec.ofChange matchMostSpec)

/-- ITS FALSE NEIGHBOUR: 'it returns false'. Refute it at one input. -/
def matchMostWrong : ChangeSpec := { name := "matchMost", fn := fun _ => fun
  | [d1, d2] => { results := [.lit (.bool false)], args := [d1, d2] }
  | _ => none }
def MatchMostWrongFalsely : Prop := matchMostRow.holds Try.pinned (OpenSpec.ofChange matchMostWrong)

/-- 'parquetlaw18.MatchTells': WHATEVER THE INPUT: true; the input reads as it did. -/
def matchTellsSpec : ChangeSpec := { name := "matchTells", fn := fun _ => fun
  | [d1, d2, d3] => { results := [.lit (.bool true)], args := [d1, d2, d3] }
  | _ => none }
def matchTellsRow : OpenClaim := { program := "ytjhhicmlflelhaa", sum := "5819f1d203684bc8f43acf36768179026fa9fa586a8ddc902c70b4cef86712df", func := "parquet/parquetlaw18.MatchTells", spec := "matchTells", unfollowed := true, recurses := true, apart := false }
def MatchTellsSaid : Prop := matchTellsRow.holds Try.pinned (OpenSpec.ofChange matchTellsSpec)

/-- ITS FALSE NEIGHBOUR: 'it returns false'. Refute it at one input. -/
def matchTellsWrong : ChangeSpec := { name := "matchTells", fn := fun _ => fun
  | [d1, d2, d3] => { results := [.lit (.bool false)], args := [d1, d2, d3] }
  | _ => none }
def MatchTellsWrongFalsely : Prop := matchTellsRow.holds Try.pinned (OpenSpec.ofChange matchTellsWrong)

/-- 'parquetlaw18.MatchSame': WHATEVER THE INPUT: true; the input reads as it did. -/
def matchSameSpec : ChangeSpec := { name := "matchSame", fn := fun _ => fun
  | [d1, d2, d3, d4, d5] => { results := [.lit (.bool true)], args := [d1, d2, d3, d4, d5] }
  | _ => none }
def matchSameRow : OpenClaim := { program := "ytjhhicmlflelhaa", sum := "5819f1d203684bc8f43acf36768179026fa9fa586a8ddc902c70b4cef86712df", func := "parquet/parquetlaw18.MatchSame", spec := "matchSame", unfollowed := true, recurses := true, apart := false }
def MatchSameSaid : Prop := matchSameRow.holds Try.pinned (OpenSpec.ofChange matchSameSpec)

/-- ITS FALSE NEIGHBOUR: 'it returns false'. Refute it at one input. -/
def matchSameWrong : ChangeSpec := { name := "matchSame", fn := fun _ => fun
  | [d1, d2, d3, d4, d5] => { results := [.lit (.bool false)], args := [d1, d2, d3, d4, d5] }
  | _ => none }
def MatchSameWrongFalsely : Prop := matchSameRow.holds Try.pinned (OpenSpec.ofChange matchSameWrong)

/-- 'parquetlaw18.MatchRings': WHATEVER THE INPUT: true; the input reads as it did. -/
def matchRingsSpec : ChangeSpec := { name := "matchRings", fn := fun _ => fun
  | [d1, d2, d3] => { results := [.lit (.bool true)], args := [d1, d2, d3] }
  | _ => none }
def matchRingsRow : OpenClaim := { program := "ytjhhicmlflelhaa", sum := "5819f1d203684bc8f43acf36768179026fa9fa586a8ddc902c70b4cef86712df", func := "parquet/parquetlaw18.MatchRings", spec := "matchRings", unfollowed := true, recurses := true, apart := false }
def MatchRingsSaid : Prop := matchRingsRow.holds Try.pinned (OpenSpec.ofChange matchRingsSpec)

/-- ITS FALSE NEIGHBOUR: 'it returns false'. Refute it at one input. -/
def matchRingsWrong : ChangeSpec := { name := "matchRings", fn := fun _ => fun
  | [d1, d2, d3] => { results := [.lit (.bool false)], args := [d1, d2, d3] }
  | _ => none }
def MatchRingsWrongFalsely : Prop := matchRingsRow.holds Try.pinned (OpenSpec.ofChange matchRingsWrong)

/-- 'parquetlaw18.MatchFull': WHATEVER THE INPUT: true; the input reads as it did. -/
def matchFullSpec : ChangeSpec := { name := "matchFull", fn := fun _ => fun
  | [d1, d2] => { results := [.lit (.bool true)], args := [d1, d2] }
  | _ => none }
def matchFullRow : OpenClaim := { program := "ytjhhicmlflelhaa", sum := "5819f1d203684bc8f43acf36768179026fa9fa586a8ddc902c70b4cef86712df", func := "parquet/parquetlaw18.MatchFull", spec := "matchFull", unfollowed := true, recurses := true, apart := false }
def MatchFullSaid : Prop := matchFullRow.holds Try.pinned (OpenSpec.ofChange matchFullSpec)

/-- ITS FALSE NEIGHBOUR: 'it returns false'. Refute it at one input. -/
def matchFullWrong : ChangeSpec := { name := "matchFull", fn := fun _ => fun
  | [d1, d2] => { results := [.lit (.bool false)], args := [d1, d2] }
  | _ => none }
def MatchFullWrongFalsely : Prop := matchFullRow.holds Try.pinned (OpenSpec.ofChange matchFullWrong)

/-- 'parquetlaw18.MatchGrows': WHATEVER THE INPUT: true; the input reads as it did. -/
def matchGrowsSpec : ChangeSpec := { name := "matchGrows", fn := fun _ => fun
  | [d1, d2, d3] => { results := [.lit (.bool true)], args := [d1, d2, d3] }
  | _ => none }
def matchGrowsRow : OpenClaim := { program := "ytjhhicmlflelhaa", sum := "5819f1d203684bc8f43acf36768179026fa9fa586a8ddc902c70b4cef86712df", func := "parquet/parquetlaw18.MatchGrows", spec := "matchGrows", unfollowed := true, recurses := true, apart := false }
def MatchGrowsSaid : Prop := matchGrowsRow.holds Try.pinned (OpenSpec.ofChange matchGrowsSpec)

/-- ITS FALSE NEIGHBOUR: 'it returns false'. Refute it at one input. -/
def matchGrowsWrong : ChangeSpec := { name := "matchGrows", fn := fun _ => fun
  | [d1, d2, d3] => { results := [.lit (.bool false)], args := [d1, d2, d3] }
  | _ => none }
def MatchGrowsWrongFalsely : Prop := matchGrowsRow.holds Try.pinned (OpenSpec.ofChange matchGrowsWrong)

/- THE SECOND FORM. 'bulk': how many values and letters a reading holds, each counted each time it is reached (what is shared counts as often as it is met; a slice's spare places count too). A statement '..UptoSaid' is the law's where the arguments, and the package variables that the reading takes, are together of bulk at most 1048576: NARROWER than '..Said'. Prove '..Said' where nothing that the law and all that it calls make is longer than what came in: it says more and counts as full. Else prove '..UptoSaid'. A law counts once. -/
mutual
def uptoBulk {H : Type} : DataW H → Nat
  | .lit (.string bytes) => bytes.length + 1
  | .lit _ => 1
  | .nil => 1
  | .ptr d => uptoBulk d + 1
  | .slice elems spare => uptoBulkAll elems + uptoBulkAll spare + 1
  | .agg parts => uptoBulkAll parts + 1
  | .iface _ d => uptoBulk d + 1
  | .map entries => uptoBulkEntries entries + 1
  | .held _ => 1
def uptoBulkAll {H : Type} : List (DataW H) → Nat
  | [] => 0
  | d :: r => uptoBulk d + uptoBulkAll r
def uptoBulkEntries {H : Type} : List (Lit × DataW H) → Nat
  | [] => 0
  | x :: r => uptoBulkEntry x + uptoBulkEntries r
def uptoBulkEntry {H : Type} : Lit × DataW H → Nat
  | (.string bytes, d) => bytes.length + uptoBulk d + 1
  | (_, d) => uptoBulk d + 1
 end
def uptoSmall : (H : Type) → List (DataW H) → Bool := fun _ ds => decide (uptoBulkAll ds ≤ 1048576)
def OpenSpec.upto (s : _root_.Go.ChangeSpec) : _root_.Go.OpenSpec := { _root_.Go.OpenSpec.ofChange s with cond := some uptoSmall }

/-- 'parquetlaw18.MatchMost', WHERE WHAT IT READS IS OF BULK AT MOST 1048576: true; the input reads as it did. -/
def matchMostUptoRow : OpenClaim := { program := "ytjhhicmlflelhaa", sum := "5819f1d203684bc8f43acf36768179026fa9fa586a8ddc902c70b4cef86712df", func := "parquet/parquetlaw18.MatchMost", spec := "matchMost", unfollowed := true, recurses := true, apart := false, narrowed := true }
def MatchMostUptoSaid : Prop := matchMostUptoRow.holds Try.pinned (OpenSpec.upto matchMostSpec)

/-- 'parquetlaw18.MatchTells', WHERE WHAT IT READS IS OF BULK AT MOST 1048576: true; the input reads as it did. -/
def matchTellsUptoRow : OpenClaim := { program := "ytjhhicmlflelhaa", sum := "5819f1d203684bc8f43acf36768179026fa9fa586a8ddc902c70b4cef86712df", func := "parquet/parquetlaw18.MatchTells", spec := "matchTells", unfollowed := true, recurses := true, apart := false, narrowed := true }
def MatchTellsUptoSaid : Prop := matchTellsUptoRow.holds Try.pinned (OpenSpec.upto matchTellsSpec)

/-- 'parquetlaw18.MatchSame', WHERE WHAT IT READS IS OF BULK AT MOST 1048576: true; the input reads as it did. -/
def matchSameUptoRow : OpenClaim := { program := "ytjhhicmlflelhaa", sum := "5819f1d203684bc8f43acf36768179026fa9fa586a8ddc902c70b4cef86712df", func := "parquet/parquetlaw18.MatchSame", spec := "matchSame", unfollowed := true, recurses := true, apart := false, narrowed := true }
def MatchSameUptoSaid : Prop := matchSameUptoRow.holds Try.pinned (OpenSpec.upto matchSameSpec)

/-- 'parquetlaw18.MatchRings', WHERE WHAT IT READS IS OF BULK AT MOST 1048576: true; the input reads as it did. -/
def matchRingsUptoRow : OpenClaim := { program := "ytjhhicmlflelhaa", sum := "5819f1d203684bc8f43acf36768179026fa9fa586a8ddc902c70b4cef86712df", func := "parquet/parquetlaw18.MatchRings", spec := "matchRings", unfollowed := true, recurses := true, apart := false, narrowed := true }
def MatchRingsUptoSaid : Prop := matchRingsUptoRow.holds Try.pinned (OpenSpec.upto matchRingsSpec)

/-- 'parquetlaw18.MatchFull', WHERE WHAT IT READS IS OF BULK AT MOST 1048576: true; the input reads as it did. -/
def matchFullUptoRow : OpenClaim := { program := "ytjhhicmlflelhaa", sum := "5819f1d203684bc8f43acf36768179026fa9fa586a8ddc902c70b4cef86712df", func := "parquet/parquetlaw18.MatchFull", spec := "matchFull", unfollowed := true, recurses := true, apart := false, narrowed := true }
def MatchFullUptoSaid : Prop := matchFullUptoRow.holds Try.pinned (OpenSpec.upto matchFullSpec)

/-- 'parquetlaw18.MatchGrows', WHERE WHAT IT READS IS OF BULK AT MOST 1048576: true; the input reads as it did. -/
def matchGrowsUptoRow : OpenClaim := { program := "ytjhhicmlflelhaa", sum := "5819f1d203684bc8f43acf36768179026fa9fa586a8ddc902c70b4cef86712df", func := "parquet/parquetlaw18.MatchGrows", spec := "matchGrows", unfollowed := true, recurses := true, apart := false, narrowed := true }
def MatchGrowsUptoSaid : Prop := matchGrowsUptoRow.holds Try.pinned (OpenSpec.upto matchGrowsSpec)

end Rows
end Go.Proofs.Ytjhhicmlflelhaa
