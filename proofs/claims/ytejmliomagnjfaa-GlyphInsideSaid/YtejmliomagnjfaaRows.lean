/-
  No cell of these rows narrows 'for every input' (looked for: loops, veiled, ifaces, maps, wideKeys, modest, calm, conditions, laid).
  DERIVED. THE GIVEN ROWS OF THIS SEAT. 7 by the template 'for every input the law returns true; each argument reads behind the call as it read before'; 0 by the template 'total and deterministic' (their statements: YtejmliomagnjfaaTotals.lean).
  GIVEN WITH THE SEED: the statements are not yours to turn. If you find one false, say at which input.
  Laid BY PROGRAM, IN A SANDBOX (cutbox-rows.mjs): the forced cells as the released guide's own fill.sh prints them over the translation fa59bec0811d0e3a… (all of the seat's roots in one cut). By AI agents, Wed Nov 11 2026. No macro, syntax, notation, axiom, sorry.
-/
import Derived.Test.YtejmliomagnjfaaChecked
import GoSem.Claim
import GoSem.ClaimJoined
import GoSem.ClaimMapViews
import Derived.JoinedTies
import Derived.KernelRfl
namespace Go.Proofs.Ytejmliomagnjfaa
/- THE CELL 'sum', in the pinned program and in every row, IS THE sha256 OF THE DUMP (.gsa) THAT YtejmliomagnjfaaProg.lean LOADS. Nothing in Lean hashes anything: it is a label: what it is worth is what the hold of that sum in a sandbox is worth. -/
noncomputable def Try.pinned : Pinned := { name := "ytejmliomagnjfaa", sum := "fa59bec0811d0e3a399e66f9d57d1358990c3391186f5915c3078ef5cc857c7e", checked := Try.checked }
namespace Rows
def none {H : Type} : Left H := { results := [], args := [] }

/-- 'hemiolalaw23.GlyphFinds': WHATEVER THE INPUT: true; the input reads as it did. -/
def glyphFindsSpec : ChangeSpec := { name := "glyphFinds", fn := fun _ => fun
  | [d] => { results := [.lit (.bool true)], args := [d] }
  | _ => none }
def glyphFindsRow : OpenClaim := { program := "ytejmliomagnjfaa", sum := "fa59bec0811d0e3a399e66f9d57d1358990c3391186f5915c3078ef5cc857c7e", func := "hemiola/hemiolalaw23.GlyphFinds", spec := "glyphFinds", unfollowed := true, recurses := true, apart := false }
def GlyphFindsSaid : Prop := glyphFindsRow.holds Try.pinned (OpenSpec.ofChange glyphFindsSpec)

/-- ITS FALSE NEIGHBOUR: 'it returns false'. Refute it at one input. -/
def glyphFindsWrong : ChangeSpec := { name := "glyphFinds", fn := fun _ => fun
  | [d] => { results := [.lit (.bool false)], args := [d] }
  | _ => none }
def GlyphFindsWrongFalsely : Prop := glyphFindsRow.holds Try.pinned (OpenSpec.ofChange glyphFindsWrong)

/-- 'hemiolalaw23.GlyphDynamics': WHATEVER THE INPUT: true; the input reads as it did. -/
def glyphDynamicsSpec : ChangeSpec := { name := "glyphDynamics", fn := fun _ => fun
  | [d] => { results := [.lit (.bool true)], args := [d] }
  | _ => none }
def glyphDynamicsRow : OpenClaim := { program := "ytejmliomagnjfaa", sum := "fa59bec0811d0e3a399e66f9d57d1358990c3391186f5915c3078ef5cc857c7e", func := "hemiola/hemiolalaw23.GlyphDynamics", spec := "glyphDynamics", unfollowed := true, recurses := true, apart := false }
def GlyphDynamicsSaid : Prop := glyphDynamicsRow.holds Try.pinned (OpenSpec.ofChange glyphDynamicsSpec)

/-- ITS FALSE NEIGHBOUR: 'it returns false'. Refute it at one input. -/
def glyphDynamicsWrong : ChangeSpec := { name := "glyphDynamics", fn := fun _ => fun
  | [d] => { results := [.lit (.bool false)], args := [d] }
  | _ => none }
def GlyphDynamicsWrongFalsely : Prop := glyphDynamicsRow.holds Try.pinned (OpenSpec.ofChange glyphDynamicsWrong)

/-- 'hemiolalaw23.GlyphNames': WHATEVER THE INPUT: true; the input reads as it did. -/
def glyphNamesSpec : ChangeSpec := { name := "glyphNames", fn := fun _ => fun
  | [d] => { results := [.lit (.bool true)], args := [d] }
  | _ => none }
def glyphNamesRow : OpenClaim := { program := "ytejmliomagnjfaa", sum := "fa59bec0811d0e3a399e66f9d57d1358990c3391186f5915c3078ef5cc857c7e", func := "hemiola/hemiolalaw23.GlyphNames", spec := "glyphNames", unfollowed := true, recurses := true, apart := false }
def GlyphNamesSaid : Prop := glyphNamesRow.holds Try.pinned (OpenSpec.ofChange glyphNamesSpec)

/-- ITS FALSE NEIGHBOUR: 'it returns false'. Refute it at one input. -/
def glyphNamesWrong : ChangeSpec := { name := "glyphNames", fn := fun _ => fun
  | [d] => { results := [.lit (.bool false)], args := [d] }
  | _ => none }
def GlyphNamesWrongFalsely : Prop := glyphNamesRow.holds Try.pinned (OpenSpec.ofChange glyphNamesWrong)

/-- 'hemiolalaw23.GlyphValues': WHATEVER THE INPUT: true; the input reads as it did. -/
def glyphValuesSpec : ChangeSpec := { name := "glyphValues", fn := fun _ => fun
  | [d1, d2] => { results := [.lit (.bool true)], args := [d1, d2] }
  | _ => none }
def glyphValuesRow : OpenClaim := { program := "ytejmliomagnjfaa", sum := "fa59bec0811d0e3a399e66f9d57d1358990c3391186f5915c3078ef5cc857c7e", func := "hemiola/hemiolalaw23.GlyphValues", spec := "glyphValues", unfollowed := true, recurses := true, apart := false }
def GlyphValuesSaid : Prop := glyphValuesRow.holds Try.pinned (OpenSpec.ofChange glyphValuesSpec)

/-- ITS FALSE NEIGHBOUR: 'it returns false'. Refute it at one input. -/
def glyphValuesWrong : ChangeSpec := { name := "glyphValues", fn := fun _ => fun
  | [d1, d2] => { results := [.lit (.bool false)], args := [d1, d2] }
  | _ => none }
def GlyphValuesWrongFalsely : Prop := glyphValuesRow.holds Try.pinned (OpenSpec.ofChange glyphValuesWrong)

/-- 'hemiolalaw23.GlyphSigns': WHATEVER THE INPUT: true; the input reads as it did. -/
def glyphSignsSpec : ChangeSpec := { name := "glyphSigns", fn := fun _ => fun
  | [d] => { results := [.lit (.bool true)], args := [d] }
  | _ => none }
def glyphSignsRow : OpenClaim := { program := "ytejmliomagnjfaa", sum := "fa59bec0811d0e3a399e66f9d57d1358990c3391186f5915c3078ef5cc857c7e", func := "hemiola/hemiolalaw23.GlyphSigns", spec := "glyphSigns", unfollowed := true, recurses := true, apart := false }
def GlyphSignsSaid : Prop := glyphSignsRow.holds Try.pinned (OpenSpec.ofChange glyphSignsSpec)

/-- ITS FALSE NEIGHBOUR: 'it returns false'. Refute it at one input. -/
def glyphSignsWrong : ChangeSpec := { name := "glyphSigns", fn := fun _ => fun
  | [d] => { results := [.lit (.bool false)], args := [d] }
  | _ => none }
def GlyphSignsWrongFalsely : Prop := glyphSignsRow.holds Try.pinned (OpenSpec.ofChange glyphSignsWrong)

/-- 'hemiolalaw23.GlyphInside': WHATEVER THE INPUT: true; the input reads as it did. -/
def glyphInsideSpec : ChangeSpec := { name := "glyphInside", fn := fun _ => fun
  | [d1, d2] => { results := [.lit (.bool true)], args := [d1, d2] }
  | _ => none }
def glyphInsideRow : OpenClaim := { program := "ytejmliomagnjfaa", sum := "fa59bec0811d0e3a399e66f9d57d1358990c3391186f5915c3078ef5cc857c7e", func := "hemiola/hemiolalaw23.GlyphInside", spec := "glyphInside", unfollowed := true, recurses := true, apart := false }
def GlyphInsideSaid : Prop := glyphInsideRow.holds Try.pinned (OpenSpec.ofChange glyphInsideSpec)

/-- ITS FALSE NEIGHBOUR: 'it returns false'. Refute it at one input. -/
def glyphInsideWrong : ChangeSpec := { name := "glyphInside", fn := fun _ => fun
  | [d1, d2] => { results := [.lit (.bool false)], args := [d1, d2] }
  | _ => none }
def GlyphInsideWrongFalsely : Prop := glyphInsideRow.holds Try.pinned (OpenSpec.ofChange glyphInsideWrong)

/-- 'hemiolalaw23.GlyphInBoxes': WHATEVER THE INPUT: true; the input reads as it did. -/
def glyphInBoxesSpec : ChangeSpec := { name := "glyphInBoxes", fn := fun _ => fun
  | [d1, d2] => { results := [.lit (.bool true)], args := [d1, d2] }
  | _ => none }
def glyphInBoxesRow : OpenClaim := { program := "ytejmliomagnjfaa", sum := "fa59bec0811d0e3a399e66f9d57d1358990c3391186f5915c3078ef5cc857c7e", func := "hemiola/hemiolalaw23.GlyphInBoxes", spec := "glyphInBoxes", unfollowed := true, recurses := true, apart := false }
def GlyphInBoxesSaid : Prop := glyphInBoxesRow.holds Try.pinned (OpenSpec.ofChange glyphInBoxesSpec)

/-- ITS FALSE NEIGHBOUR: 'it returns false'. Refute it at one input. -/
def glyphInBoxesWrong : ChangeSpec := { name := "glyphInBoxes", fn := fun _ => fun
  | [d1, d2] => { results := [.lit (.bool false)], args := [d1, d2] }
  | _ => none }
def GlyphInBoxesWrongFalsely : Prop := glyphInBoxesRow.holds Try.pinned (OpenSpec.ofChange glyphInBoxesWrong)

/- THE SECOND FORM. 'bulk': how many values and letters a reading holds, each counted each time it is reached (what is shared counts as often as it is met; a slice's spare places count too). A statement '..UptoSaid' is the law's where the arguments, and the package variables that the reading takes, are together of bulk at most 1048576: NARROWER than '..Said'. Prove '..Said' where nothing that the law and all that it calls make is longer than what came in: it says more and counts as full. Else prove '..UptoSaid'. A law counts once. -/
mutual
def uptoBulk {H : Type} : DataW H → Nat
  | .lit (.string bytes) => bytes.length + 1
  | .lit _ => 1
  | .nil => 1
  | .ptr d => uptoBulk d + 1
  | .slice elems spare => uptoBulkAll elems + uptoBulkAll spare + 1
  | .agg parts => uptoBulkAll parts + 1
  | .iface _ d => uptoBulk d + 1
  | .map entries => uptoBulkEntries entries + 1
  | .held _ => 1
def uptoBulkAll {H : Type} : List (DataW H) → Nat
  | [] => 0
  | d :: r => uptoBulk d + uptoBulkAll r
def uptoBulkEntries {H : Type} : List (Lit × DataW H) → Nat
  | [] => 0
  | x :: r => uptoBulkEntry x + uptoBulkEntries r
def uptoBulkEntry {H : Type} : Lit × DataW H → Nat
  | (.string bytes, d) => bytes.length + uptoBulk d + 1
  | (_, d) => uptoBulk d + 1
 end
def uptoSmall : (H : Type) → List (DataW H) → Bool := fun _ ds => decide (uptoBulkAll ds ≤ 1048576)
def OpenSpec.upto (s : _root_.Go.ChangeSpec) : _root_.Go.OpenSpec := { _root_.Go.OpenSpec.ofChange s with cond := some uptoSmall }

/-- 'hemiolalaw23.GlyphFinds', WHERE WHAT IT READS IS OF BULK AT MOST 1048576: true; the input reads as it did. -/
def glyphFindsUptoRow : OpenClaim := { program := "ytejmliomagnjfaa", sum := "fa59bec0811d0e3a399e66f9d57d1358990c3391186f5915c3078ef5cc857c7e", func := "hemiola/hemiolalaw23.GlyphFinds", spec := "glyphFinds", unfollowed := true, recurses := true, apart := false, narrowed := true }
def GlyphFindsUptoSaid : Prop := glyphFindsUptoRow.holds Try.pinned (OpenSpec.upto glyphFindsSpec)

/-- 'hemiolalaw23.GlyphDynamics', WHERE WHAT IT READS IS OF BULK AT MOST 1048576: true; the input reads as it did. -/
def glyphDynamicsUptoRow : OpenClaim := { program := "ytejmliomagnjfaa", sum := "fa59bec0811d0e3a399e66f9d57d1358990c3391186f5915c3078ef5cc857c7e", func := "hemiola/hemiolalaw23.GlyphDynamics", spec := "glyphDynamics", unfollowed := true, recurses := true, apart := false, narrowed := true }
def GlyphDynamicsUptoSaid : Prop := glyphDynamicsUptoRow.holds Try.pinned (OpenSpec.upto glyphDynamicsSpec)

/-- 'hemiolalaw23.GlyphNames', WHERE WHAT IT READS IS OF BULK AT MOST 1048576: true; the input reads as it did. -/
def glyphNamesUptoRow : OpenClaim := { program := "ytejmliomagnjfaa", sum := "fa59bec0811d0e3a399e66f9d57d1358990c3391186f5915c3078ef5cc857c7e", func := "hemiola/hemiolalaw23.GlyphNames", spec := "glyphNames", unfollowed := true, recurses := true, apart := false, narrowed := true }
def GlyphNamesUptoSaid : Prop := glyphNamesUptoRow.holds Try.pinned (OpenSpec.upto glyphNamesSpec)

/-- 'hemiolalaw23.GlyphValues', WHERE WHAT IT READS IS OF BULK AT MOST 1048576: true; the input reads as it did. -/
def glyphValuesUptoRow : OpenClaim := { program := "ytejmliomagnjfaa", sum := "fa59bec0811d0e3a399e66f9d57d1358990c3391186f5915c3078ef5cc857c7e", func := "hemiola/hemiolalaw23.GlyphValues", spec := "glyphValues", unfollowed := true, recurses := true, apart := false, narrowed := true }
def GlyphValuesUptoSaid : Prop := glyphValuesUptoRow.holds Try.pinned (OpenSpec.upto glyphValuesSpec)

/-- 'hemiolalaw23.GlyphSigns', WHERE WHAT IT READS IS OF BULK AT MOST 1048576: true; the input reads as it did. -/
def glyphSignsUptoRow : OpenClaim := { program := "ytejmliomagnjfaa", sum := "fa59bec0811d0e3a399e66f9d57d1358990c3391186f5915c3078ef5cc857c7e", func := "hemiola/hemiolalaw23.GlyphSigns", spec := "glyphSigns", unfollowed := true, recurses := true, apart := false, narrowed := true }
def GlyphSignsUptoSaid : Prop := glyphSignsUptoRow.holds Try.pinned (OpenSpec.upto glyphSignsSpec)

/-- 'hemiolalaw23.GlyphInside', WHERE WHAT IT READS IS OF BULK AT MOST 1048576: true; the input reads as it did. -/
def glyphInsideUptoRow : OpenClaim := { program := "ytejmliomagnjfaa", sum := "fa59bec0811d0e3a399e66f9d57d1358990c3391186f5915c3078ef5cc857c7e", func := "hemiola/hemiolalaw23.GlyphInside", spec := "glyphInside", unfollowed := true, recurses := true, apart := false, narrowed := true }
def GlyphInsideUptoSaid : Prop := glyphInsideUptoRow.holds Try.pinned (OpenSpec.upto glyphInsideSpec)

/-- 'hemiolalaw23.GlyphInBoxes', WHERE WHAT IT READS IS OF BULK AT MOST 1048576: true; the input reads as it did. -/
def glyphInBoxesUptoRow : OpenClaim := { program := "ytejmliomagnjfaa", sum := "fa59bec0811d0e3a399e66f9d57d1358990c3391186f5915c3078ef5cc857c7e", func := "hemiola/hemiolalaw23.GlyphInBoxes", spec := "glyphInBoxes", unfollowed := true, recurses := true, apart := false, narrowed := true }
def GlyphInBoxesUptoSaid : Prop := glyphInBoxesUptoRow.holds Try.pinned (OpenSpec.upto glyphInBoxesSpec)

end Rows
end Go.Proofs.Ytejmliomagnjfaa
