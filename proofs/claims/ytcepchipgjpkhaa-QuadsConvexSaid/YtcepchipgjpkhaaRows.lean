/-
  No cell of these rows narrows 'for every input' (looked for: loops, veiled, ifaces, maps, wideKeys, modest, calm, conditions, laid).
  DERIVED. THE GIVEN ROWS OF THIS SEAT. 14 by the template 'for every input the law returns true; each argument reads behind the call as it read before'; 0 by the template 'total and deterministic' (their statements: YtcepchipgjpkhaaTotals.lean).
  GIVEN WITH THE SEED: the statements are not yours to turn. If you find one false, say at which input.
  Laid BY PROGRAM, IN A SANDBOX (cutbox-rows.mjs): the forced cells as the released guide's own fill.sh prints them over the translation cb630cd004087f05… (all of the seat's roots in one cut). By AI agents, Wed Nov 11 2026. No macro, syntax, notation, axiom, sorry.
-/
import Derived.Test.YtcepchipgjpkhaaChecked
import GoSem.Claim
import GoSem.ClaimJoined
import GoSem.ClaimMapViews
import Derived.JoinedTies
import Derived.KernelRfl
namespace Go.Proofs.Ytcepchipgjpkhaa
/- THE CELL 'sum', in the pinned program and in every row, IS THE sha256 OF THE DUMP (.gsa) THAT YtcepchipgjpkhaaProg.lean LOADS. Nothing in Lean hashes anything: it is a label: what it is worth is what the hold of that sum in a sandbox is worth. -/
noncomputable def Try.pinned : Pinned := { name := "ytcepchipgjpkhaa", sum := "cb630cd004087f052af464262868b95e5da2b2fbf56f8ed305c683966f91dda4", checked := Try.checked }
namespace Rows
def none {H : Type} : Left H := { results := [], args := [] }

/-- 'parquetlaw11.FacesTells': WHATEVER THE INPUT: true; the input reads as it did. -/
def facesTellsSpec : ChangeSpec := { name := "facesTells", fn := fun _ => fun
  | [d1, d2, d3, d4] => { results := [.lit (.bool true)], args := [d1, d2, d3, d4] }
  | _ => none }
def facesTellsRow : OpenClaim := { program := "ytcepchipgjpkhaa", sum := "cb630cd004087f052af464262868b95e5da2b2fbf56f8ed305c683966f91dda4", func := "parquet/parquetlaw11.FacesTells", spec := "facesTells", unfollowed := true, recurses := true, plainKeys := false, apart := false }
def FacesTellsSaid : Prop := facesTellsRow.holds Try.pinned (OpenSpec.ofChange facesTellsSpec)

/-- ITS FALSE NEIGHBOUR: 'it returns false'. Refute it at one input. -/
def facesTellsWrong : ChangeSpec := { name := "facesTells", fn := fun _ => fun
  | [d1, d2, d3, d4] => { results := [.lit (.bool false)], args := [d1, d2, d3, d4] }
  | _ => none }
def FacesTellsWrongFalsely : Prop := facesTellsRow.holds Try.pinned (OpenSpec.ofChange facesTellsWrong)

/-- 'parquetlaw11.FacesRims': WHATEVER THE INPUT: true; the input reads as it did. -/
def facesRimsSpec : ChangeSpec := { name := "facesRims", fn := fun _ => fun
  | [d1, d2] => { results := [.lit (.bool true)], args := [d1, d2] }
  | _ => none }
def facesRimsRow : OpenClaim := { program := "ytcepchipgjpkhaa", sum := "cb630cd004087f052af464262868b95e5da2b2fbf56f8ed305c683966f91dda4", func := "parquet/parquetlaw11.FacesRims", spec := "facesRims", unfollowed := true, recurses := true, plainKeys := false, apart := false }
def FacesRimsSaid : Prop := facesRimsRow.holds Try.pinned (OpenSpec.ofChange facesRimsSpec)

/-- ITS FALSE NEIGHBOUR: 'it returns false'. Refute it at one input. -/
def facesRimsWrong : ChangeSpec := { name := "facesRims", fn := fun _ => fun
  | [d1, d2] => { results := [.lit (.bool false)], args := [d1, d2] }
  | _ => none }
def FacesRimsWrongFalsely : Prop := facesRimsRow.holds Try.pinned (OpenSpec.ofChange facesRimsWrong)

/-- 'parquetlaw11.FacesOrder': WHATEVER THE INPUT: true; the input reads as it did. -/
def facesOrderSpec : ChangeSpec := { name := "facesOrder", fn := fun _ => fun
  | [d1, d2, d3, d4] => { results := [.lit (.bool true)], args := [d1, d2, d3, d4] }
  | _ => none }
def facesOrderRow : OpenClaim := { program := "ytcepchipgjpkhaa", sum := "cb630cd004087f052af464262868b95e5da2b2fbf56f8ed305c683966f91dda4", func := "parquet/parquetlaw11.FacesOrder", spec := "facesOrder", unfollowed := true, recurses := true, plainKeys := false, apart := false }
def FacesOrderSaid : Prop := facesOrderRow.holds Try.pinned (OpenSpec.ofChange facesOrderSpec)

/-- ITS FALSE NEIGHBOUR: 'it returns false'. Refute it at one input. -/
def facesOrderWrong : ChangeSpec := { name := "facesOrder", fn := fun _ => fun
  | [d1, d2, d3, d4] => { results := [.lit (.bool false)], args := [d1, d2, d3, d4] }
  | _ => none }
def FacesOrderWrongFalsely : Prop := facesOrderRow.holds Try.pinned (OpenSpec.ofChange facesOrderWrong)

/-- 'parquetlaw11.FacesSides': WHATEVER THE INPUT: true; the input reads as it did. -/
def facesSidesSpec : ChangeSpec := { name := "facesSides", fn := fun _ => fun
  | [d1, d2] => { results := [.lit (.bool true)], args := [d1, d2] }
  | _ => none }
def facesSidesRow : OpenClaim := { program := "ytcepchipgjpkhaa", sum := "cb630cd004087f052af464262868b95e5da2b2fbf56f8ed305c683966f91dda4", func := "parquet/parquetlaw11.FacesSides", spec := "facesSides", unfollowed := true, recurses := true, plainKeys := false, apart := false }
def FacesSidesSaid : Prop := facesSidesRow.holds Try.pinned (OpenSpec.ofChange facesSidesSpec)

/-- ITS FALSE NEIGHBOUR: 'it returns false'. Refute it at one input. -/
def facesSidesWrong : ChangeSpec := { name := "facesSides", fn := fun _ => fun
  | [d1, d2] => { results := [.lit (.bool false)], args := [d1, d2] }
  | _ => none }
def FacesSidesWrongFalsely : Prop := facesSidesRow.holds Try.pinned (OpenSpec.ofChange facesSidesWrong)

/-- 'parquetlaw11.FacesParts': WHATEVER THE INPUT: true; the input reads as it did. -/
def facesPartsSpec : ChangeSpec := { name := "facesParts", fn := fun _ => fun
  | [d1, d2] => { results := [.lit (.bool true)], args := [d1, d2] }
  | _ => none }
def facesPartsRow : OpenClaim := { program := "ytcepchipgjpkhaa", sum := "cb630cd004087f052af464262868b95e5da2b2fbf56f8ed305c683966f91dda4", func := "parquet/parquetlaw11.FacesParts", spec := "facesParts", unfollowed := true, recurses := true, plainKeys := false, apart := false }
def FacesPartsSaid : Prop := facesPartsRow.holds Try.pinned (OpenSpec.ofChange facesPartsSpec)

/-- ITS FALSE NEIGHBOUR: 'it returns false'. Refute it at one input. -/
def facesPartsWrong : ChangeSpec := { name := "facesParts", fn := fun _ => fun
  | [d1, d2] => { results := [.lit (.bool false)], args := [d1, d2] }
  | _ => none }
def FacesPartsWrongFalsely : Prop := facesPartsRow.holds Try.pinned (OpenSpec.ofChange facesPartsWrong)

/-- 'parquetlaw11.FacesEuler': WHATEVER THE INPUT: true; the input reads as it did. -/
def facesEulerSpec : ChangeSpec := { name := "facesEuler", fn := fun _ => fun
  | [d1, d2] => { results := [.lit (.bool true)], args := [d1, d2] }
  | _ => none }
def facesEulerRow : OpenClaim := { program := "ytcepchipgjpkhaa", sum := "cb630cd004087f052af464262868b95e5da2b2fbf56f8ed305c683966f91dda4", func := "parquet/parquetlaw11.FacesEuler", spec := "facesEuler", unfollowed := true, recurses := true, plainKeys := false, apart := false }
def FacesEulerSaid : Prop := facesEulerRow.holds Try.pinned (OpenSpec.ofChange facesEulerSpec)

/-- ITS FALSE NEIGHBOUR: 'it returns false'. Refute it at one input. -/
def facesEulerWrong : ChangeSpec := { name := "facesEuler", fn := fun _ => fun
  | [d1, d2] => { results := [.lit (.bool false)], args := [d1, d2] }
  | _ => none }
def FacesEulerWrongFalsely : Prop := facesEulerRow.holds Try.pinned (OpenSpec.ofChange facesEulerWrong)

/-- 'parquetlaw11.FacesJoin': WHATEVER THE INPUT: true; the input reads as it did. -/
def facesJoinSpec : ChangeSpec := { name := "facesJoin", fn := fun _ => fun
  | [d1, d2, d3] => { results := [.lit (.bool true)], args := [d1, d2, d3] }
  | _ => none }
def facesJoinRow : OpenClaim := { program := "ytcepchipgjpkhaa", sum := "cb630cd004087f052af464262868b95e5da2b2fbf56f8ed305c683966f91dda4", func := "parquet/parquetlaw11.FacesJoin", spec := "facesJoin", unfollowed := true, recurses := true, plainKeys := false, apart := false }
def FacesJoinSaid : Prop := facesJoinRow.holds Try.pinned (OpenSpec.ofChange facesJoinSpec)

/-- ITS FALSE NEIGHBOUR: 'it returns false'. Refute it at one input. -/
def facesJoinWrong : ChangeSpec := { name := "facesJoin", fn := fun _ => fun
  | [d1, d2, d3] => { results := [.lit (.bool false)], args := [d1, d2, d3] }
  | _ => none }
def FacesJoinWrongFalsely : Prop := facesJoinRow.holds Try.pinned (OpenSpec.ofChange facesJoinWrong)

/-- 'parquetlaw19.QuadsConvex': WHATEVER THE INPUT: true; the input reads as it did. -/
def quadsConvexSpec : ChangeSpec := { name := "quadsConvex", fn := fun _ => fun
  | [d1, d2] => { results := [.lit (.bool true)], args := [d1, d2] }
  | _ => none }
def quadsConvexRow : OpenClaim := { program := "ytcepchipgjpkhaa", sum := "cb630cd004087f052af464262868b95e5da2b2fbf56f8ed305c683966f91dda4", func := "parquet/parquetlaw19.QuadsConvex", spec := "quadsConvex", unfollowed := true, recurses := true, plainKeys := false, apart := false }
def QuadsConvexSaid : Prop := quadsConvexRow.holds Try.pinned (OpenSpec.ofChange quadsConvexSpec)

/-- ITS FALSE NEIGHBOUR: 'it returns false'. Refute it at one input. -/
def quadsConvexWrong : ChangeSpec := { name := "quadsConvex", fn := fun _ => fun
  | [d1, d2] => { results := [.lit (.bool false)], args := [d1, d2] }
  | _ => none }
def QuadsConvexWrongFalsely : Prop := quadsConvexRow.holds Try.pinned (OpenSpec.ofChange quadsConvexWrong)

/-- 'parquetlaw19.QuadsStrip': WHATEVER THE INPUT: true; the input reads as it did. -/
def quadsStripSpec : ChangeSpec := { name := "quadsStrip", fn := fun _ => fun
  | [d1, d2] => { results := [.lit (.bool true)], args := [d1, d2] }
  | _ => none }
def quadsStripRow : OpenClaim := { program := "ytcepchipgjpkhaa", sum := "cb630cd004087f052af464262868b95e5da2b2fbf56f8ed305c683966f91dda4", func := "parquet/parquetlaw19.QuadsStrip", spec := "quadsStrip", unfollowed := true, recurses := true, plainKeys := false, apart := false }
def QuadsStripSaid : Prop := quadsStripRow.holds Try.pinned (OpenSpec.ofChange quadsStripSpec)

/-- ITS FALSE NEIGHBOUR: 'it returns false'. Refute it at one input. -/
def quadsStripWrong : ChangeSpec := { name := "quadsStrip", fn := fun _ => fun
  | [d1, d2] => { results := [.lit (.bool false)], args := [d1, d2] }
  | _ => none }
def QuadsStripWrongFalsely : Prop := quadsStripRow.holds Try.pinned (OpenSpec.ofChange quadsStripWrong)

/-- 'parquetlaw17.DualQuads': WHATEVER THE INPUT: true; the input reads as it did. -/
def dualQuadsSpec : ChangeSpec := { name := "dualQuads", fn := fun _ => fun
  | [d1, d2, d3] => { results := [.lit (.bool true)], args := [d1, d2, d3] }
  | _ => none }
def dualQuadsRow : OpenClaim := { program := "ytcepchipgjpkhaa", sum := "cb630cd004087f052af464262868b95e5da2b2fbf56f8ed305c683966f91dda4", func := "parquet/parquetlaw17.DualQuads", spec := "dualQuads", unfollowed := true, recurses := true, plainKeys := false, apart := false }
def DualQuadsSaid : Prop := dualQuadsRow.holds Try.pinned (OpenSpec.ofChange dualQuadsSpec)

/-- ITS FALSE NEIGHBOUR: 'it returns false'. Refute it at one input. -/
def dualQuadsWrong : ChangeSpec := { name := "dualQuads", fn := fun _ => fun
  | [d1, d2, d3] => { results := [.lit (.bool false)], args := [d1, d2, d3] }
  | _ => none }
def DualQuadsWrongFalsely : Prop := dualQuadsRow.holds Try.pinned (OpenSpec.ofChange dualQuadsWrong)

/-- 'parquetlaw17.DualGraph': WHATEVER THE INPUT: true; the input reads as it did. -/
def dualGraphSpec : ChangeSpec := { name := "dualGraph", fn := fun _ => fun
  | [d] => { results := [.lit (.bool true)], args := [d] }
  | _ => none }
def dualGraphRow : OpenClaim := { program := "ytcepchipgjpkhaa", sum := "cb630cd004087f052af464262868b95e5da2b2fbf56f8ed305c683966f91dda4", func := "parquet/parquetlaw17.DualGraph", spec := "dualGraph", unfollowed := true, recurses := true, plainKeys := false, apart := false }
def DualGraphSaid : Prop := dualGraphRow.holds Try.pinned (OpenSpec.ofChange dualGraphSpec)

/-- ITS FALSE NEIGHBOUR: 'it returns false'. Refute it at one input. -/
def dualGraphWrong : ChangeSpec := { name := "dualGraph", fn := fun _ => fun
  | [d] => { results := [.lit (.bool false)], args := [d] }
  | _ => none }
def DualGraphWrongFalsely : Prop := dualGraphRow.holds Try.pinned (OpenSpec.ofChange dualGraphWrong)

/-- 'parquetlaw17.DualCut': WHATEVER THE INPUT: true; the input reads as it did. -/
def dualCutSpec : ChangeSpec := { name := "dualCut", fn := fun _ => fun
  | [d1, d2, d3, d4] => { results := [.lit (.bool true)], args := [d1, d2, d3, d4] }
  | _ => none }
def dualCutRow : OpenClaim := { program := "ytcepchipgjpkhaa", sum := "cb630cd004087f052af464262868b95e5da2b2fbf56f8ed305c683966f91dda4", func := "parquet/parquetlaw17.DualCut", spec := "dualCut", unfollowed := true, recurses := true, plainKeys := false, apart := false }
def DualCutSaid : Prop := dualCutRow.holds Try.pinned (OpenSpec.ofChange dualCutSpec)

/-- ITS FALSE NEIGHBOUR: 'it returns false'. Refute it at one input. -/
def dualCutWrong : ChangeSpec := { name := "dualCut", fn := fun _ => fun
  | [d1, d2, d3, d4] => { results := [.lit (.bool false)], args := [d1, d2, d3, d4] }
  | _ => none }
def DualCutWrongFalsely : Prop := dualCutRow.holds Try.pinned (OpenSpec.ofChange dualCutWrong)

/-- 'parquetlaw17.DualSame': WHATEVER THE INPUT: true; the input reads as it did. -/
def dualSameSpec : ChangeSpec := { name := "dualSame", fn := fun _ => fun
  | [d] => { results := [.lit (.bool true)], args := [d] }
  | _ => none }
def dualSameRow : OpenClaim := { program := "ytcepchipgjpkhaa", sum := "cb630cd004087f052af464262868b95e5da2b2fbf56f8ed305c683966f91dda4", func := "parquet/parquetlaw17.DualSame", spec := "dualSame", unfollowed := true, recurses := true, plainKeys := false, apart := false }
def DualSameSaid : Prop := dualSameRow.holds Try.pinned (OpenSpec.ofChange dualSameSpec)

/-- ITS FALSE NEIGHBOUR: 'it returns false'. Refute it at one input. -/
def dualSameWrong : ChangeSpec := { name := "dualSame", fn := fun _ => fun
  | [d] => { results := [.lit (.bool false)], args := [d] }
  | _ => none }
def DualSameWrongFalsely : Prop := dualSameRow.holds Try.pinned (OpenSpec.ofChange dualSameWrong)

/-- 'parquetlaw17.DualFan': WHATEVER THE INPUT: true; the input reads as it did. -/
def dualFanSpec : ChangeSpec := { name := "dualFan", fn := fun _ => fun
  | [d1, d2] => { results := [.lit (.bool true)], args := [d1, d2] }
  | _ => none }
def dualFanRow : OpenClaim := { program := "ytcepchipgjpkhaa", sum := "cb630cd004087f052af464262868b95e5da2b2fbf56f8ed305c683966f91dda4", func := "parquet/parquetlaw17.DualFan", spec := "dualFan", unfollowed := true, recurses := true, plainKeys := false, apart := false }
def DualFanSaid : Prop := dualFanRow.holds Try.pinned (OpenSpec.ofChange dualFanSpec)

/-- ITS FALSE NEIGHBOUR: 'it returns false'. Refute it at one input. -/
def dualFanWrong : ChangeSpec := { name := "dualFan", fn := fun _ => fun
  | [d1, d2] => { results := [.lit (.bool false)], args := [d1, d2] }
  | _ => none }
def DualFanWrongFalsely : Prop := dualFanRow.holds Try.pinned (OpenSpec.ofChange dualFanWrong)

/- THE SECOND FORM. 'bulk': how many values and letters a reading holds, each counted each time it is reached (what is shared counts as often as it is met; a slice's spare places count too). A statement '..UptoSaid' is the law's where the arguments, and the package variables that the reading takes, are together of bulk at most 1048576: NARROWER than '..Said'. Prove '..Said' where nothing that the law and all that it calls make is longer than what came in: it says more and counts as full. Else prove '..UptoSaid'. A law counts once. -/
mutual
def uptoBulk {H : Type} : DataW H → Nat
  | .lit (.string bytes) => bytes.length + 1
  | .lit _ => 1
  | .nil => 1
  | .ptr d => uptoBulk d + 1
  | .slice elems spare => uptoBulkAll elems + uptoBulkAll spare + 1
  | .agg parts => uptoBulkAll parts + 1
  | .iface _ d => uptoBulk d + 1
  | .map entries => uptoBulkEntries entries + 1
  | .held _ => 1
def uptoBulkAll {H : Type} : List (DataW H) → Nat
  | [] => 0
  | d :: r => uptoBulk d + uptoBulkAll r
def uptoBulkEntries {H : Type} : List (Lit × DataW H) → Nat
  | [] => 0
  | x :: r => uptoBulkEntry x + uptoBulkEntries r
def uptoBulkEntry {H : Type} : Lit × DataW H → Nat
  | (.string bytes, d) => bytes.length + uptoBulk d + 1
  | (_, d) => uptoBulk d + 1
 end
def uptoSmall : (H : Type) → List (DataW H) → Bool := fun _ ds => decide (uptoBulkAll ds ≤ 1048576)
def OpenSpec.upto (s : _root_.Go.ChangeSpec) : _root_.Go.OpenSpec := { _root_.Go.OpenSpec.ofChange s with cond := some uptoSmall }

/-- 'parquetlaw11.FacesTells', WHERE WHAT IT READS IS OF BULK AT MOST 1048576: true; the input reads as it did. -/
def facesTellsUptoRow : OpenClaim := { program := "ytcepchipgjpkhaa", sum := "cb630cd004087f052af464262868b95e5da2b2fbf56f8ed305c683966f91dda4", func := "parquet/parquetlaw11.FacesTells", spec := "facesTells", unfollowed := true, recurses := true, plainKeys := false, apart := false, narrowed := true }
def FacesTellsUptoSaid : Prop := facesTellsUptoRow.holds Try.pinned (OpenSpec.upto facesTellsSpec)

/-- 'parquetlaw11.FacesRims', WHERE WHAT IT READS IS OF BULK AT MOST 1048576: true; the input reads as it did. -/
def facesRimsUptoRow : OpenClaim := { program := "ytcepchipgjpkhaa", sum := "cb630cd004087f052af464262868b95e5da2b2fbf56f8ed305c683966f91dda4", func := "parquet/parquetlaw11.FacesRims", spec := "facesRims", unfollowed := true, recurses := true, plainKeys := false, apart := false, narrowed := true }
def FacesRimsUptoSaid : Prop := facesRimsUptoRow.holds Try.pinned (OpenSpec.upto facesRimsSpec)

/-- 'parquetlaw11.FacesOrder', WHERE WHAT IT READS IS OF BULK AT MOST 1048576: true; the input reads as it did. -/
def facesOrderUptoRow : OpenClaim := { program := "ytcepchipgjpkhaa", sum := "cb630cd004087f052af464262868b95e5da2b2fbf56f8ed305c683966f91dda4", func := "parquet/parquetlaw11.FacesOrder", spec := "facesOrder", unfollowed := true, recurses := true, plainKeys := false, apart := false, narrowed := true }
def FacesOrderUptoSaid : Prop := facesOrderUptoRow.holds Try.pinned (OpenSpec.upto facesOrderSpec)

/-- 'parquetlaw11.FacesSides', WHERE WHAT IT READS IS OF BULK AT MOST 1048576: true; the input reads as it did. -/
def facesSidesUptoRow : OpenClaim := { program := "ytcepchipgjpkhaa", sum := "cb630cd004087f052af464262868b95e5da2b2fbf56f8ed305c683966f91dda4", func := "parquet/parquetlaw11.FacesSides", spec := "facesSides", unfollowed := true, recurses := true, plainKeys := false, apart := false, narrowed := true }
def FacesSidesUptoSaid : Prop := facesSidesUptoRow.holds Try.pinned (OpenSpec.upto facesSidesSpec)

/-- 'parquetlaw11.FacesParts', WHERE WHAT IT READS IS OF BULK AT MOST 1048576: true; the input reads as it did. -/
def facesPartsUptoRow : OpenClaim := { program := "ytcepchipgjpkhaa", sum := "cb630cd004087f052af464262868b95e5da2b2fbf56f8ed305c683966f91dda4", func := "parquet/parquetlaw11.FacesParts", spec := "facesParts", unfollowed := true, recurses := true, plainKeys := false, apart := false, narrowed := true }
def FacesPartsUptoSaid : Prop := facesPartsUptoRow.holds Try.pinned (OpenSpec.upto facesPartsSpec)

/-- 'parquetlaw11.FacesEuler', WHERE WHAT IT READS IS OF BULK AT MOST 1048576: true; the input reads as it did. -/
def facesEulerUptoRow : OpenClaim := { program := "ytcepchipgjpkhaa", sum := "cb630cd004087f052af464262868b95e5da2b2fbf56f8ed305c683966f91dda4", func := "parquet/parquetlaw11.FacesEuler", spec := "facesEuler", unfollowed := true, recurses := true, plainKeys := false, apart := false, narrowed := true }
def FacesEulerUptoSaid : Prop := facesEulerUptoRow.holds Try.pinned (OpenSpec.upto facesEulerSpec)

/-- 'parquetlaw11.FacesJoin', WHERE WHAT IT READS IS OF BULK AT MOST 1048576: true; the input reads as it did. -/
def facesJoinUptoRow : OpenClaim := { program := "ytcepchipgjpkhaa", sum := "cb630cd004087f052af464262868b95e5da2b2fbf56f8ed305c683966f91dda4", func := "parquet/parquetlaw11.FacesJoin", spec := "facesJoin", unfollowed := true, recurses := true, plainKeys := false, apart := false, narrowed := true }
def FacesJoinUptoSaid : Prop := facesJoinUptoRow.holds Try.pinned (OpenSpec.upto facesJoinSpec)

/-- 'parquetlaw19.QuadsConvex', WHERE WHAT IT READS IS OF BULK AT MOST 1048576: true; the input reads as it did. -/
def quadsConvexUptoRow : OpenClaim := { program := "ytcepchipgjpkhaa", sum := "cb630cd004087f052af464262868b95e5da2b2fbf56f8ed305c683966f91dda4", func := "parquet/parquetlaw19.QuadsConvex", spec := "quadsConvex", unfollowed := true, recurses := true, plainKeys := false, apart := false, narrowed := true }
def QuadsConvexUptoSaid : Prop := quadsConvexUptoRow.holds Try.pinned (OpenSpec.upto quadsConvexSpec)

/-- 'parquetlaw19.QuadsStrip', WHERE WHAT IT READS IS OF BULK AT MOST 1048576: true; the input reads as it did. -/
def quadsStripUptoRow : OpenClaim := { program := "ytcepchipgjpkhaa", sum := "cb630cd004087f052af464262868b95e5da2b2fbf56f8ed305c683966f91dda4", func := "parquet/parquetlaw19.QuadsStrip", spec := "quadsStrip", unfollowed := true, recurses := true, plainKeys := false, apart := false, narrowed := true }
def QuadsStripUptoSaid : Prop := quadsStripUptoRow.holds Try.pinned (OpenSpec.upto quadsStripSpec)

/-- 'parquetlaw17.DualQuads', WHERE WHAT IT READS IS OF BULK AT MOST 1048576: true; the input reads as it did. -/
def dualQuadsUptoRow : OpenClaim := { program := "ytcepchipgjpkhaa", sum := "cb630cd004087f052af464262868b95e5da2b2fbf56f8ed305c683966f91dda4", func := "parquet/parquetlaw17.DualQuads", spec := "dualQuads", unfollowed := true, recurses := true, plainKeys := false, apart := false, narrowed := true }
def DualQuadsUptoSaid : Prop := dualQuadsUptoRow.holds Try.pinned (OpenSpec.upto dualQuadsSpec)

/-- 'parquetlaw17.DualGraph', WHERE WHAT IT READS IS OF BULK AT MOST 1048576: true; the input reads as it did. -/
def dualGraphUptoRow : OpenClaim := { program := "ytcepchipgjpkhaa", sum := "cb630cd004087f052af464262868b95e5da2b2fbf56f8ed305c683966f91dda4", func := "parquet/parquetlaw17.DualGraph", spec := "dualGraph", unfollowed := true, recurses := true, plainKeys := false, apart := false, narrowed := true }
def DualGraphUptoSaid : Prop := dualGraphUptoRow.holds Try.pinned (OpenSpec.upto dualGraphSpec)

/-- 'parquetlaw17.DualCut', WHERE WHAT IT READS IS OF BULK AT MOST 1048576: true; the input reads as it did. -/
def dualCutUptoRow : OpenClaim := { program := "ytcepchipgjpkhaa", sum := "cb630cd004087f052af464262868b95e5da2b2fbf56f8ed305c683966f91dda4", func := "parquet/parquetlaw17.DualCut", spec := "dualCut", unfollowed := true, recurses := true, plainKeys := false, apart := false, narrowed := true }
def DualCutUptoSaid : Prop := dualCutUptoRow.holds Try.pinned (OpenSpec.upto dualCutSpec)

/-- 'parquetlaw17.DualSame', WHERE WHAT IT READS IS OF BULK AT MOST 1048576: true; the input reads as it did. -/
def dualSameUptoRow : OpenClaim := { program := "ytcepchipgjpkhaa", sum := "cb630cd004087f052af464262868b95e5da2b2fbf56f8ed305c683966f91dda4", func := "parquet/parquetlaw17.DualSame", spec := "dualSame", unfollowed := true, recurses := true, plainKeys := false, apart := false, narrowed := true }
def DualSameUptoSaid : Prop := dualSameUptoRow.holds Try.pinned (OpenSpec.upto dualSameSpec)

/-- 'parquetlaw17.DualFan', WHERE WHAT IT READS IS OF BULK AT MOST 1048576: true; the input reads as it did. -/
def dualFanUptoRow : OpenClaim := { program := "ytcepchipgjpkhaa", sum := "cb630cd004087f052af464262868b95e5da2b2fbf56f8ed305c683966f91dda4", func := "parquet/parquetlaw17.DualFan", spec := "dualFan", unfollowed := true, recurses := true, plainKeys := false, apart := false, narrowed := true }
def DualFanUptoSaid : Prop := dualFanUptoRow.holds Try.pinned (OpenSpec.upto dualFanSpec)

end Rows
end Go.Proofs.Ytcepchipgjpkhaa
