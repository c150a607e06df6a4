/-
  No cell of these rows narrows 'for every input' (looked for: loops, veiled, ifaces, maps, wideKeys, modest, calm, conditions, laid).
  DERIVED. THE GIVEN ROWS OF THIS SEAT. 16 by the template 'for every input the law returns true; each argument reads behind the call as it read before'; 0 by the template 'total and deterministic' (their statements: YtdndehlhodigoaaTotals.lean).
  GIVEN WITH THE SEED: the statements are not yours to turn. If you find one false, say at which input.
  Laid BY PROGRAM, IN A SANDBOX (cutbox-rows.mjs): the forced cells as the released guide's own fill.sh prints them over the translation 7814931190b1f73a… (all of the seat's roots in one cut). By AI agents, Wed Nov 11 2026. No macro, syntax, notation, axiom, sorry.
-/
import Derived.Test.YtdndehlhodigoaaChecked
import GoSem.Claim
import GoSem.ClaimJoined
import GoSem.ClaimMapViews
import Derived.JoinedTies
import Derived.KernelRfl
namespace Go.Proofs.Ytdndehlhodigoaa
/- THE CELL 'sum', in the pinned program and in every row, IS THE sha256 OF THE DUMP (.gsa) THAT YtdndehlhodigoaaProg.lean LOADS. Nothing in Lean hashes anything: it is a label: what it is worth is what the hold of that sum in a sandbox is worth. -/
noncomputable def Try.pinned : Pinned := { name := "ytdndehlhodigoaa", sum := "7814931190b1f73a5cb9dc0a543f9b89b923fe50b8b81bfd56f84970d10f02ac", checked := Try.checked }
namespace Rows
def none {H : Type} : Left H := { results := [], args := [] }

/-- 'hemiolalaw25.StemDirections': WHATEVER THE INPUT: true; the input reads as it did. -/
def stemDirectionsSpec : ChangeSpec := { name := "stemDirections", fn := fun _ => fun
  | [d1, d2, d3] => { results := [.lit (.bool true)], args := [d1, d2, d3] }
  | _ => none }
def stemDirectionsRow : OpenClaim := { program := "ytdndehlhodigoaa", sum := "7814931190b1f73a5cb9dc0a543f9b89b923fe50b8b81bfd56f84970d10f02ac", func := "hemiola/hemiolalaw25.StemDirections", spec := "stemDirections", unfollowed := true, recurses := true, apart := false }
def StemDirectionsSaid : Prop := stemDirectionsRow.holds Try.pinned (OpenSpec.ofChange stemDirectionsSpec)

/-- ITS FALSE NEIGHBOUR: 'it returns false'. Refute it at one input. -/
def stemDirectionsWrong : ChangeSpec := { name := "stemDirections", fn := fun _ => fun
  | [d1, d2, d3] => { results := [.lit (.bool false)], args := [d1, d2, d3] }
  | _ => none }
def StemDirectionsWrongFalsely : Prop := stemDirectionsRow.holds Try.pinned (OpenSpec.ofChange stemDirectionsWrong)

/-- 'hemiolalaw25.StemRests': WHATEVER THE INPUT: true; the input reads as it did. -/
def stemRestsSpec : ChangeSpec := { name := "stemRests", fn := fun _ => fun
  | [d1, d2, d3] => { results := [.lit (.bool true)], args := [d1, d2, d3] }
  | _ => none }
def stemRestsRow : OpenClaim := { program := "ytdndehlhodigoaa", sum := "7814931190b1f73a5cb9dc0a543f9b89b923fe50b8b81bfd56f84970d10f02ac", func := "hemiola/hemiolalaw25.StemRests", spec := "stemRests", unfollowed := true, recurses := true, apart := false }
def StemRestsSaid : Prop := stemRestsRow.holds Try.pinned (OpenSpec.ofChange stemRestsSpec)

/-- ITS FALSE NEIGHBOUR: 'it returns false'. Refute it at one input. -/
def stemRestsWrong : ChangeSpec := { name := "stemRests", fn := fun _ => fun
  | [d1, d2, d3] => { results := [.lit (.bool false)], args := [d1, d2, d3] }
  | _ => none }
def StemRestsWrongFalsely : Prop := stemRestsRow.holds Try.pinned (OpenSpec.ofChange stemRestsWrong)

/-- 'hemiolalaw25.StemEnds': WHATEVER THE INPUT: true; the input reads as it did. -/
def stemEndsSpec : ChangeSpec := { name := "stemEnds", fn := fun _ => fun
  | [d1, d2, d3] => { results := [.lit (.bool true)], args := [d1, d2, d3] }
  | _ => none }
def stemEndsRow : OpenClaim := { program := "ytdndehlhodigoaa", sum := "7814931190b1f73a5cb9dc0a543f9b89b923fe50b8b81bfd56f84970d10f02ac", func := "hemiola/hemiolalaw25.StemEnds", spec := "stemEnds", unfollowed := true, recurses := true, apart := false }
def StemEndsSaid : Prop := stemEndsRow.holds Try.pinned (OpenSpec.ofChange stemEndsSpec)

/-- ITS FALSE NEIGHBOUR: 'it returns false'. Refute it at one input. -/
def stemEndsWrong : ChangeSpec := { name := "stemEnds", fn := fun _ => fun
  | [d1, d2, d3] => { results := [.lit (.bool false)], args := [d1, d2, d3] }
  | _ => none }
def StemEndsWrongFalsely : Prop := stemEndsRow.holds Try.pinned (OpenSpec.ofChange stemEndsWrong)

/-- 'hemiolalaw25.StemLengths': WHATEVER THE INPUT: true; the input reads as it did. -/
def stemLengthsSpec : ChangeSpec := { name := "stemLengths", fn := fun _ => fun
  | [d1, d2, d3] => { results := [.lit (.bool true)], args := [d1, d2, d3] }
  | _ => none }
def stemLengthsRow : OpenClaim := { program := "ytdndehlhodigoaa", sum := "7814931190b1f73a5cb9dc0a543f9b89b923fe50b8b81bfd56f84970d10f02ac", func := "hemiola/hemiolalaw25.StemLengths", spec := "stemLengths", unfollowed := true, recurses := true, apart := false }
def StemLengthsSaid : Prop := stemLengthsRow.holds Try.pinned (OpenSpec.ofChange stemLengthsSpec)

/-- ITS FALSE NEIGHBOUR: 'it returns false'. Refute it at one input. -/
def stemLengthsWrong : ChangeSpec := { name := "stemLengths", fn := fun _ => fun
  | [d1, d2, d3] => { results := [.lit (.bool false)], args := [d1, d2, d3] }
  | _ => none }
def StemLengthsWrongFalsely : Prop := stemLengthsRow.holds Try.pinned (OpenSpec.ofChange stemLengthsWrong)

/-- 'hemiolalaw25.StemClear': WHATEVER THE INPUT: true; the input reads as it did. -/
def stemClearSpec : ChangeSpec := { name := "stemClear", fn := fun _ => fun
  | [d1, d2, d3] => { results := [.lit (.bool true)], args := [d1, d2, d3] }
  | _ => none }
def stemClearRow : OpenClaim := { program := "ytdndehlhodigoaa", sum := "7814931190b1f73a5cb9dc0a543f9b89b923fe50b8b81bfd56f84970d10f02ac", func := "hemiola/hemiolalaw25.StemClear", spec := "stemClear", unfollowed := true, recurses := true, apart := false }
def StemClearSaid : Prop := stemClearRow.holds Try.pinned (OpenSpec.ofChange stemClearSpec)

/-- ITS FALSE NEIGHBOUR: 'it returns false'. Refute it at one input. -/
def stemClearWrong : ChangeSpec := { name := "stemClear", fn := fun _ => fun
  | [d1, d2, d3] => { results := [.lit (.bool false)], args := [d1, d2, d3] }
  | _ => none }
def StemClearWrongFalsely : Prop := stemClearRow.holds Try.pinned (OpenSpec.ofChange stemClearWrong)

/-- 'hemiolalaw25.StemRestMarks': WHATEVER THE INPUT: true; the input reads as it did. -/
def stemRestMarksSpec : ChangeSpec := { name := "stemRestMarks", fn := fun _ => fun
  | [d1, d2, d3] => { results := [.lit (.bool true)], args := [d1, d2, d3] }
  | _ => none }
def stemRestMarksRow : OpenClaim := { program := "ytdndehlhodigoaa", sum := "7814931190b1f73a5cb9dc0a543f9b89b923fe50b8b81bfd56f84970d10f02ac", func := "hemiola/hemiolalaw25.StemRestMarks", spec := "stemRestMarks", unfollowed := true, recurses := true, apart := false }
def StemRestMarksSaid : Prop := stemRestMarksRow.holds Try.pinned (OpenSpec.ofChange stemRestMarksSpec)

/-- ITS FALSE NEIGHBOUR: 'it returns false'. Refute it at one input. -/
def stemRestMarksWrong : ChangeSpec := { name := "stemRestMarks", fn := fun _ => fun
  | [d1, d2, d3] => { results := [.lit (.bool false)], args := [d1, d2, d3] }
  | _ => none }
def StemRestMarksWrongFalsely : Prop := stemRestMarksRow.holds Try.pinned (OpenSpec.ofChange stemRestMarksWrong)

/-- 'hemiolalaw25.StemMarks': WHATEVER THE INPUT: true; the input reads as it did. -/
def stemMarksSpec : ChangeSpec := { name := "stemMarks", fn := fun _ => fun
  | [d1, d2, d3] => { results := [.lit (.bool true)], args := [d1, d2, d3] }
  | _ => none }
def stemMarksRow : OpenClaim := { program := "ytdndehlhodigoaa", sum := "7814931190b1f73a5cb9dc0a543f9b89b923fe50b8b81bfd56f84970d10f02ac", func := "hemiola/hemiolalaw25.StemMarks", spec := "stemMarks", unfollowed := true, recurses := true, apart := false }
def StemMarksSaid : Prop := stemMarksRow.holds Try.pinned (OpenSpec.ofChange stemMarksSpec)

/-- ITS FALSE NEIGHBOUR: 'it returns false'. Refute it at one input. -/
def stemMarksWrong : ChangeSpec := { name := "stemMarks", fn := fun _ => fun
  | [d1, d2, d3] => { results := [.lit (.bool false)], args := [d1, d2, d3] }
  | _ => none }
def StemMarksWrongFalsely : Prop := stemMarksRow.holds Try.pinned (OpenSpec.ofChange stemMarksWrong)

/-- 'hemiolalaw25.StemGroups': WHATEVER THE INPUT: true; the input reads as it did. -/
def stemGroupsSpec : ChangeSpec := { name := "stemGroups", fn := fun _ => fun
  | [d1, d2, d3] => { results := [.lit (.bool true)], args := [d1, d2, d3] }
  | _ => none }
def stemGroupsRow : OpenClaim := { program := "ytdndehlhodigoaa", sum := "7814931190b1f73a5cb9dc0a543f9b89b923fe50b8b81bfd56f84970d10f02ac", func := "hemiola/hemiolalaw25.StemGroups", spec := "stemGroups", unfollowed := true, recurses := true, apart := false }
def StemGroupsSaid : Prop := stemGroupsRow.holds Try.pinned (OpenSpec.ofChange stemGroupsSpec)

/-- ITS FALSE NEIGHBOUR: 'it returns false'. Refute it at one input. -/
def stemGroupsWrong : ChangeSpec := { name := "stemGroups", fn := fun _ => fun
  | [d1, d2, d3] => { results := [.lit (.bool false)], args := [d1, d2, d3] }
  | _ => none }
def StemGroupsWrongFalsely : Prop := stemGroupsRow.holds Try.pinned (OpenSpec.ofChange stemGroupsWrong)

/-- 'hemiolalaw38.RasterErrors': WHATEVER THE INPUT: true; the input reads as it did. -/
def rasterErrorsSpec : ChangeSpec := { name := "rasterErrors", fn := fun _ => fun
  | [d1, d2] => { results := [.lit (.bool true)], args := [d1, d2] }
  | _ => none }
def rasterErrorsRow : OpenClaim := { program := "ytdndehlhodigoaa", sum := "7814931190b1f73a5cb9dc0a543f9b89b923fe50b8b81bfd56f84970d10f02ac", func := "hemiola/hemiolalaw38.RasterErrors", spec := "rasterErrors", inPlace := ["internal/abi.NoEscape"], unfollowed := true, recurses := true, apart := false }
def RasterErrorsSaid : Prop := rasterErrorsRow.holds Try.pinned (OpenSpec.ofChange rasterErrorsSpec)

/-- ITS FALSE NEIGHBOUR: 'it returns false'. Refute it at one input. -/
def rasterErrorsWrong : ChangeSpec := { name := "rasterErrors", fn := fun _ => fun
  | [d1, d2] => { results := [.lit (.bool false)], args := [d1, d2] }
  | _ => none }
def RasterErrorsWrongFalsely : Prop := rasterErrorsRow.holds Try.pinned (OpenSpec.ofChange rasterErrorsWrong)

/-- 'hemiolalaw38.RasterContains': WHATEVER THE INPUT: true; the input reads as it did. -/
def rasterContainsSpec : ChangeSpec := { name := "rasterContains", fn := fun _ => fun
  | [d1, d2] => { results := [.lit (.bool true)], args := [d1, d2] }
  | _ => none }
def rasterContainsRow : OpenClaim := { program := "ytdndehlhodigoaa", sum := "7814931190b1f73a5cb9dc0a543f9b89b923fe50b8b81bfd56f84970d10f02ac", func := "hemiola/hemiolalaw38.RasterContains", spec := "rasterContains", inPlace := ["internal/abi.NoEscape"], unfollowed := true, recurses := true, apart := false }
def RasterContainsSaid : Prop := rasterContainsRow.holds Try.pinned (OpenSpec.ofChange rasterContainsSpec)

/-- ITS FALSE NEIGHBOUR: 'it returns false'. Refute it at one input. -/
def rasterContainsWrong : ChangeSpec := { name := "rasterContains", fn := fun _ => fun
  | [d1, d2] => { results := [.lit (.bool false)], args := [d1, d2] }
  | _ => none }
def RasterContainsWrongFalsely : Prop := rasterContainsRow.holds Try.pinned (OpenSpec.ofChange rasterContainsWrong)

/-- 'hemiolalaw38.RasterDraws': WHATEVER THE INPUT: true; the input reads as it did. -/
def rasterDrawsSpec : ChangeSpec := { name := "rasterDraws", fn := fun _ => fun
  | [d1, d2] => { results := [.lit (.bool true)], args := [d1, d2] }
  | _ => none }
def rasterDrawsRow : OpenClaim := { program := "ytdndehlhodigoaa", sum := "7814931190b1f73a5cb9dc0a543f9b89b923fe50b8b81bfd56f84970d10f02ac", func := "hemiola/hemiolalaw38.RasterDraws", spec := "rasterDraws", inPlace := ["internal/abi.NoEscape"], unfollowed := true, recurses := true, apart := false }
def RasterDrawsSaid : Prop := rasterDrawsRow.holds Try.pinned (OpenSpec.ofChange rasterDrawsSpec)

/-- ITS FALSE NEIGHBOUR: 'it returns false'. Refute it at one input. -/
def rasterDrawsWrong : ChangeSpec := { name := "rasterDraws", fn := fun _ => fun
  | [d1, d2] => { results := [.lit (.bool false)], args := [d1, d2] }
  | _ => none }
def RasterDrawsWrongFalsely : Prop := rasterDrawsRow.holds Try.pinned (OpenSpec.ofChange rasterDrawsWrong)

/-- 'hemiolalaw38.RasterMoves': WHATEVER THE INPUT: true; the input reads as it did. -/
def rasterMovesSpec : ChangeSpec := { name := "rasterMoves", fn := fun _ => fun
  | [d1, d2, d3] => { results := [.lit (.bool true)], args := [d1, d2, d3] }
  | _ => none }
def rasterMovesRow : OpenClaim := { program := "ytdndehlhodigoaa", sum := "7814931190b1f73a5cb9dc0a543f9b89b923fe50b8b81bfd56f84970d10f02ac", func := "hemiola/hemiolalaw38.RasterMoves", spec := "rasterMoves", inPlace := ["internal/abi.NoEscape"], unfollowed := true, recurses := true, apart := false }
def RasterMovesSaid : Prop := rasterMovesRow.holds Try.pinned (OpenSpec.ofChange rasterMovesSpec)

/-- ITS FALSE NEIGHBOUR: 'it returns false'. Refute it at one input. -/
def rasterMovesWrong : ChangeSpec := { name := "rasterMoves", fn := fun _ => fun
  | [d1, d2, d3] => { results := [.lit (.bool false)], args := [d1, d2, d3] }
  | _ => none }
def RasterMovesWrongFalsely : Prop := rasterMovesRow.holds Try.pinned (OpenSpec.ofChange rasterMovesWrong)

/-- 'hemiolalaw38.RasterHits': WHATEVER THE INPUT: true; the input reads as it did. -/
def rasterHitsSpec : ChangeSpec := { name := "rasterHits", fn := fun _ => fun
  | [d1, d2] => { results := [.lit (.bool true)], args := [d1, d2] }
  | _ => none }
def rasterHitsRow : OpenClaim := { program := "ytdndehlhodigoaa", sum := "7814931190b1f73a5cb9dc0a543f9b89b923fe50b8b81bfd56f84970d10f02ac", func := "hemiola/hemiolalaw38.RasterHits", spec := "rasterHits", inPlace := ["internal/abi.NoEscape"], unfollowed := true, recurses := true, apart := false }
def RasterHitsSaid : Prop := rasterHitsRow.holds Try.pinned (OpenSpec.ofChange rasterHitsSpec)

/-- ITS FALSE NEIGHBOUR: 'it returns false'. Refute it at one input. -/
def rasterHitsWrong : ChangeSpec := { name := "rasterHits", fn := fun _ => fun
  | [d1, d2] => { results := [.lit (.bool false)], args := [d1, d2] }
  | _ => none }
def RasterHitsWrongFalsely : Prop := rasterHitsRow.holds Try.pinned (OpenSpec.ofChange rasterHitsWrong)

/-- 'hemiolalaw38.RasterJoins': WHATEVER THE INPUT: true; the input reads as it did. -/
def rasterJoinsSpec : ChangeSpec := { name := "rasterJoins", fn := fun _ => fun
  | [d1, d2, d3] => { results := [.lit (.bool true)], args := [d1, d2, d3] }
  | _ => none }
def rasterJoinsRow : OpenClaim := { program := "ytdndehlhodigoaa", sum := "7814931190b1f73a5cb9dc0a543f9b89b923fe50b8b81bfd56f84970d10f02ac", func := "hemiola/hemiolalaw38.RasterJoins", spec := "rasterJoins", inPlace := ["internal/abi.NoEscape"], unfollowed := true, recurses := true, apart := false }
def RasterJoinsSaid : Prop := rasterJoinsRow.holds Try.pinned (OpenSpec.ofChange rasterJoinsSpec)

/-- ITS FALSE NEIGHBOUR: 'it returns false'. Refute it at one input. -/
def rasterJoinsWrong : ChangeSpec := { name := "rasterJoins", fn := fun _ => fun
  | [d1, d2, d3] => { results := [.lit (.bool false)], args := [d1, d2, d3] }
  | _ => none }
def RasterJoinsWrongFalsely : Prop := rasterJoinsRow.holds Try.pinned (OpenSpec.ofChange rasterJoinsWrong)

/-- 'hemiolalaw38.RasterCrops': WHATEVER THE INPUT: true; the input reads as it did. -/
def rasterCropsSpec : ChangeSpec := { name := "rasterCrops", fn := fun _ => fun
  | [d1, d2, d3] => { results := [.lit (.bool true)], args := [d1, d2, d3] }
  | _ => none }
def rasterCropsRow : OpenClaim := { program := "ytdndehlhodigoaa", sum := "7814931190b1f73a5cb9dc0a543f9b89b923fe50b8b81bfd56f84970d10f02ac", func := "hemiola/hemiolalaw38.RasterCrops", spec := "rasterCrops", inPlace := ["internal/abi.NoEscape"], unfollowed := true, recurses := true, apart := false }
def RasterCropsSaid : Prop := rasterCropsRow.holds Try.pinned (OpenSpec.ofChange rasterCropsSpec)

/-- ITS FALSE NEIGHBOUR: 'it returns false'. Refute it at one input. -/
def rasterCropsWrong : ChangeSpec := { name := "rasterCrops", fn := fun _ => fun
  | [d1, d2, d3] => { results := [.lit (.bool false)], args := [d1, d2, d3] }
  | _ => none }
def RasterCropsWrongFalsely : Prop := rasterCropsRow.holds Try.pinned (OpenSpec.ofChange rasterCropsWrong)

/-- 'hemiolalaw38.RasterBitmaps': WHATEVER THE INPUT: true; the input reads as it did. -/
def rasterBitmapsSpec : ChangeSpec := { name := "rasterBitmaps", fn := fun _ => fun
  | [d1, d2, d3] => { results := [.lit (.bool true)], args := [d1, d2, d3] }
  | _ => none }
def rasterBitmapsRow : OpenClaim := { program := "ytdndehlhodigoaa", sum := "7814931190b1f73a5cb9dc0a543f9b89b923fe50b8b81bfd56f84970d10f02ac", func := "hemiola/hemiolalaw38.RasterBitmaps", spec := "rasterBitmaps", inPlace := ["internal/abi.NoEscape"], unfollowed := true, recurses := true, apart := false }
def RasterBitmapsSaid : Prop := rasterBitmapsRow.holds Try.pinned (OpenSpec.ofChange rasterBitmapsSpec)

/-- ITS FALSE NEIGHBOUR: 'it returns false'. Refute it at one input. -/
def rasterBitmapsWrong : ChangeSpec := { name := "rasterBitmaps", fn := fun _ => fun
  | [d1, d2, d3] => { results := [.lit (.bool false)], args := [d1, d2, d3] }
  | _ => none }
def RasterBitmapsWrongFalsely : Prop := rasterBitmapsRow.holds Try.pinned (OpenSpec.ofChange rasterBitmapsWrong)

/- THE SECOND FORM. 'bulk': how many values and letters a reading holds, each counted each time it is reached (what is shared counts as often as it is met; a slice's spare places count too). A statement '..UptoSaid' is the law's where the arguments, and the package variables that the reading takes, are together of bulk at most 1048576: NARROWER than '..Said'. Prove '..Said' where nothing that the law and all that it calls make is longer than what came in: it says more and counts as full. Else prove '..UptoSaid'. A law counts once. -/
mutual
def uptoBulk {H : Type} : DataW H → Nat
  | .lit (.string bytes) => bytes.length + 1
  | .lit _ => 1
  | .nil => 1
  | .ptr d => uptoBulk d + 1
  | .slice elems spare => uptoBulkAll elems + uptoBulkAll spare + 1
  | .agg parts => uptoBulkAll parts + 1
  | .iface _ d => uptoBulk d + 1
  | .map entries => uptoBulkEntries entries + 1
  | .held _ => 1
def uptoBulkAll {H : Type} : List (DataW H) → Nat
  | [] => 0
  | d :: r => uptoBulk d + uptoBulkAll r
def uptoBulkEntries {H : Type} : List (Lit × DataW H) → Nat
  | [] => 0
  | x :: r => uptoBulkEntry x + uptoBulkEntries r
def uptoBulkEntry {H : Type} : Lit × DataW H → Nat
  | (.string bytes, d) => bytes.length + uptoBulk d + 1
  | (_, d) => uptoBulk d + 1
 end
def uptoSmall : (H : Type) → List (DataW H) → Bool := fun _ ds => decide (uptoBulkAll ds ≤ 1048576)
def OpenSpec.upto (s : _root_.Go.ChangeSpec) : _root_.Go.OpenSpec := { _root_.Go.OpenSpec.ofChange s with cond := some uptoSmall }

/-- 'hemiolalaw25.StemDirections', WHERE WHAT IT READS IS OF BULK AT MOST 1048576: true; the input reads as it did. -/
def stemDirectionsUptoRow : OpenClaim := { program := "ytdndehlhodigoaa", sum := "7814931190b1f73a5cb9dc0a543f9b89b923fe50b8b81bfd56f84970d10f02ac", func := "hemiola/hemiolalaw25.StemDirections", spec := "stemDirections", unfollowed := true, recurses := true, apart := false, narrowed := true }
def StemDirectionsUptoSaid : Prop := stemDirectionsUptoRow.holds Try.pinned (OpenSpec.upto stemDirectionsSpec)

/-- 'hemiolalaw25.StemRests', WHERE WHAT IT READS IS OF BULK AT MOST 1048576: true; the input reads as it did. -/
def stemRestsUptoRow : OpenClaim := { program := "ytdndehlhodigoaa", sum := "7814931190b1f73a5cb9dc0a543f9b89b923fe50b8b81bfd56f84970d10f02ac", func := "hemiola/hemiolalaw25.StemRests", spec := "stemRests", unfollowed := true, recurses := true, apart := false, narrowed := true }
def StemRestsUptoSaid : Prop := stemRestsUptoRow.holds Try.pinned (OpenSpec.upto stemRestsSpec)

/-- 'hemiolalaw25.StemEnds', WHERE WHAT IT READS IS OF BULK AT MOST 1048576: true; the input reads as it did. -/
def stemEndsUptoRow : OpenClaim := { program := "ytdndehlhodigoaa", sum := "7814931190b1f73a5cb9dc0a543f9b89b923fe50b8b81bfd56f84970d10f02ac", func := "hemiola/hemiolalaw25.StemEnds", spec := "stemEnds", unfollowed := true, recurses := true, apart := false, narrowed := true }
def StemEndsUptoSaid : Prop := stemEndsUptoRow.holds Try.pinned (OpenSpec.upto stemEndsSpec)

/-- 'hemiolalaw25.StemLengths', WHERE WHAT IT READS IS OF BULK AT MOST 1048576: true; the input reads as it did. -/
def stemLengthsUptoRow : OpenClaim := { program := "ytdndehlhodigoaa", sum := "7814931190b1f73a5cb9dc0a543f9b89b923fe50b8b81bfd56f84970d10f02ac", func := "hemiola/hemiolalaw25.StemLengths", spec := "stemLengths", unfollowed := true, recurses := true, apart := false, narrowed := true }
def StemLengthsUptoSaid : Prop := stemLengthsUptoRow.holds Try.pinned (OpenSpec.upto stemLengthsSpec)

/-- 'hemiolalaw25.StemClear', WHERE WHAT IT READS IS OF BULK AT MOST 1048576: true; the input reads as it did. -/
def stemClearUptoRow : OpenClaim := { program := "ytdndehlhodigoaa", sum := "7814931190b1f73a5cb9dc0a543f9b89b923fe50b8b81bfd56f84970d10f02ac", func := "hemiola/hemiolalaw25.StemClear", spec := "stemClear", unfollowed := true, recurses := true, apart := false, narrowed := true }
def StemClearUptoSaid : Prop := stemClearUptoRow.holds Try.pinned (OpenSpec.upto stemClearSpec)

/-- 'hemiolalaw25.StemRestMarks', WHERE WHAT IT READS IS OF BULK AT MOST 1048576: true; the input reads as it did. -/
def stemRestMarksUptoRow : OpenClaim := { program := "ytdndehlhodigoaa", sum := "7814931190b1f73a5cb9dc0a543f9b89b923fe50b8b81bfd56f84970d10f02ac", func := "hemiola/hemiolalaw25.StemRestMarks", spec := "stemRestMarks", unfollowed := true, recurses := true, apart := false, narrowed := true }
def StemRestMarksUptoSaid : Prop := stemRestMarksUptoRow.holds Try.pinned (OpenSpec.upto stemRestMarksSpec)

/-- 'hemiolalaw25.StemMarks', WHERE WHAT IT READS IS OF BULK AT MOST 1048576: true; the input reads as it did. -/
def stemMarksUptoRow : OpenClaim := { program := "ytdndehlhodigoaa", sum := "7814931190b1f73a5cb9dc0a543f9b89b923fe50b8b81bfd56f84970d10f02ac", func := "hemiola/hemiolalaw25.StemMarks", spec := "stemMarks", unfollowed := true, recurses := true, apart := false, narrowed := true }
def StemMarksUptoSaid : Prop := stemMarksUptoRow.holds Try.pinned (OpenSpec.upto stemMarksSpec)

/-- 'hemiolalaw25.StemGroups', WHERE WHAT IT READS IS OF BULK AT MOST 1048576: true; the input reads as it did. -/
def stemGroupsUptoRow : OpenClaim := { program := "ytdndehlhodigoaa", sum := "7814931190b1f73a5cb9dc0a543f9b89b923fe50b8b81bfd56f84970d10f02ac", func := "hemiola/hemiolalaw25.StemGroups", spec := "stemGroups", unfollowed := true, recurses := true, apart := false, narrowed := true }
def StemGroupsUptoSaid : Prop := stemGroupsUptoRow.holds Try.pinned (OpenSpec.upto stemGroupsSpec)

/-- 'hemiolalaw38.RasterErrors', WHERE WHAT IT READS IS OF BULK AT MOST 1048576: true; the input reads as it did. -/
def rasterErrorsUptoRow : OpenClaim := { program := "ytdndehlhodigoaa", sum := "7814931190b1f73a5cb9dc0a543f9b89b923fe50b8b81bfd56f84970d10f02ac", func := "hemiola/hemiolalaw38.RasterErrors", spec := "rasterErrors", inPlace := ["internal/abi.NoEscape"], unfollowed := true, recurses := true, apart := false, narrowed := true }
def RasterErrorsUptoSaid : Prop := rasterErrorsUptoRow.holds Try.pinned (OpenSpec.upto rasterErrorsSpec)

/-- 'hemiolalaw38.RasterContains', WHERE WHAT IT READS IS OF BULK AT MOST 1048576: true; the input reads as it did. -/
def rasterContainsUptoRow : OpenClaim := { program := "ytdndehlhodigoaa", sum := "7814931190b1f73a5cb9dc0a543f9b89b923fe50b8b81bfd56f84970d10f02ac", func := "hemiola/hemiolalaw38.RasterContains", spec := "rasterContains", inPlace := ["internal/abi.NoEscape"], unfollowed := true, recurses := true, apart := false, narrowed := true }
def RasterContainsUptoSaid : Prop := rasterContainsUptoRow.holds Try.pinned (OpenSpec.upto rasterContainsSpec)

/-- 'hemiolalaw38.RasterDraws', WHERE WHAT IT READS IS OF BULK AT MOST 1048576: true; the input reads as it did. -/
def rasterDrawsUptoRow : OpenClaim := { program := "ytdndehlhodigoaa", sum := "7814931190b1f73a5cb9dc0a543f9b89b923fe50b8b81bfd56f84970d10f02ac", func := "hemiola/hemiolalaw38.RasterDraws", spec := "rasterDraws", inPlace := ["internal/abi.NoEscape"], unfollowed := true, recurses := true, apart := false, narrowed := true }
def RasterDrawsUptoSaid : Prop := rasterDrawsUptoRow.holds Try.pinned (OpenSpec.upto rasterDrawsSpec)

/-- 'hemiolalaw38.RasterMoves', WHERE WHAT IT READS IS OF BULK AT MOST 1048576: true; the input reads as it did. -/
def rasterMovesUptoRow : OpenClaim := { program := "ytdndehlhodigoaa", sum := "7814931190b1f73a5cb9dc0a543f9b89b923fe50b8b81bfd56f84970d10f02ac", func := "hemiola/hemiolalaw38.RasterMoves", spec := "rasterMoves", inPlace := ["internal/abi.NoEscape"], unfollowed := true, recurses := true, apart := false, narrowed := true }
def RasterMovesUptoSaid : Prop := rasterMovesUptoRow.holds Try.pinned (OpenSpec.upto rasterMovesSpec)

/-- 'hemiolalaw38.RasterHits', WHERE WHAT IT READS IS OF BULK AT MOST 1048576: true; the input reads as it did. -/
def rasterHitsUptoRow : OpenClaim := { program := "ytdndehlhodigoaa", sum := "7814931190b1f73a5cb9dc0a543f9b89b923fe50b8b81bfd56f84970d10f02ac", func := "hemiola/hemiolalaw38.RasterHits", spec := "rasterHits", inPlace := ["internal/abi.NoEscape"], unfollowed := true, recurses := true, apart := false, narrowed := true }
def RasterHitsUptoSaid : Prop := rasterHitsUptoRow.holds Try.pinned (OpenSpec.upto rasterHitsSpec)

/-- 'hemiolalaw38.RasterJoins', WHERE WHAT IT READS IS OF BULK AT MOST 1048576: true; the input reads as it did. -/
def rasterJoinsUptoRow : OpenClaim := { program := "ytdndehlhodigoaa", sum := "7814931190b1f73a5cb9dc0a543f9b89b923fe50b8b81bfd56f84970d10f02ac", func := "hemiola/hemiolalaw38.RasterJoins", spec := "rasterJoins", inPlace := ["internal/abi.NoEscape"], unfollowed := true, recurses := true, apart := false, narrowed := true }
def RasterJoinsUptoSaid : Prop := rasterJoinsUptoRow.holds Try.pinned (OpenSpec.upto rasterJoinsSpec)

/-- 'hemiolalaw38.RasterCrops', WHERE WHAT IT READS IS OF BULK AT MOST 1048576: true; the input reads as it did. -/
def rasterCropsUptoRow : OpenClaim := { program := "ytdndehlhodigoaa", sum := "7814931190b1f73a5cb9dc0a543f9b89b923fe50b8b81bfd56f84970d10f02ac", func := "hemiola/hemiolalaw38.RasterCrops", spec := "rasterCrops", inPlace := ["internal/abi.NoEscape"], unfollowed := true, recurses := true, apart := false, narrowed := true }
def RasterCropsUptoSaid : Prop := rasterCropsUptoRow.holds Try.pinned (OpenSpec.upto rasterCropsSpec)

/-- 'hemiolalaw38.RasterBitmaps', WHERE WHAT IT READS IS OF BULK AT MOST 1048576: true; the input reads as it did. -/
def rasterBitmapsUptoRow : OpenClaim := { program := "ytdndehlhodigoaa", sum := "7814931190b1f73a5cb9dc0a543f9b89b923fe50b8b81bfd56f84970d10f02ac", func := "hemiola/hemiolalaw38.RasterBitmaps", spec := "rasterBitmaps", inPlace := ["internal/abi.NoEscape"], unfollowed := true, recurses := true, apart := false, narrowed := true }
def RasterBitmapsUptoSaid : Prop := rasterBitmapsUptoRow.holds Try.pinned (OpenSpec.upto rasterBitmapsSpec)

end Rows
end Go.Proofs.Ytdndehlhodigoaa
