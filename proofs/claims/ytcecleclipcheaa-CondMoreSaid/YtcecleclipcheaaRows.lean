/-
  No cell of these rows narrows 'for every input' (looked for: loops, veiled, ifaces, maps, wideKeys, modest, calm, conditions, laid).
  DERIVED. THE GIVEN ROWS OF THIS SEAT. 16 by the template 'for every input the law returns true; each argument reads behind the call as it read before'; 0 by the template 'total and deterministic' (their statements: YtcecleclipcheaaTotals.lean).
  GIVEN WITH THE SEED: the statements are not yours to turn. If you find one false, say at which input.
  Laid BY PROGRAM, IN A SANDBOX (cutbox-rows.mjs): the forced cells as the released guide's own fill.sh prints them over the translation 5832c5533607892c… (all of the seat's roots in one cut). By AI agents, Wed Nov 11 2026. No macro, syntax, notation, axiom, sorry.
-/
import Derived.Test.YtcecleclipcheaaChecked
import GoSem.Claim
import GoSem.ClaimJoined
import GoSem.ClaimMapViews
import Derived.JoinedTies
import Derived.KernelRfl
namespace Go.Proofs.Ytcecleclipcheaa
/- THE CELL 'sum', in the pinned program and in every row, IS THE sha256 OF THE DUMP (.gsa) THAT YtcecleclipcheaaProg.lean LOADS. Nothing in Lean hashes anything: it is a label: what it is worth is what the hold of that sum in a sandbox is worth. -/
noncomputable def Try.pinned : Pinned := { name := "ytcecleclipcheaa", sum := "5832c5533607892c2a8fac636e78b627c68ec82a5eb73324244fcddd5c57a05d", checked := Try.checked }
namespace Rows
def none {H : Type} : Left H := { results := [], args := [] }

/-- 'fencepostlaw16.ExplFuel': WHATEVER THE INPUT: true; the input reads as it did. -/
def explFuelSpec : ChangeSpec := { name := "explFuel", fn := fun _ => fun
  | [d1, d2, d3] => { results := [.lit (.bool true)], args := [d1, d2, d3] }
  | _ => none }
def explFuelRow : OpenClaim := { program := "ytcecleclipcheaa", sum := "5832c5533607892c2a8fac636e78b627c68ec82a5eb73324244fcddd5c57a05d", func := "fencepost/fencepostlaw16.ExplFuel", spec := "explFuel", inPlace := ["internal/abi.NoEscape", "internal/bytealg.MakeNoZero", "slices.overlaps[fencepost/api.Out]"], unfollowed := true, recurses := true, apart := false }
def ExplFuelSaid : Prop := explFuelRow.holds Try.pinned (OpenSpec.ofChange explFuelSpec)

/-- ITS FALSE NEIGHBOUR: 'it returns false'. Refute it at one input. -/
def explFuelWrong : ChangeSpec := { name := "explFuel", fn := fun _ => fun
  | [d1, d2, d3] => { results := [.lit (.bool false)], args := [d1, d2, d3] }
  | _ => none }
def ExplFuelWrongFalsely : Prop := explFuelRow.holds Try.pinned (OpenSpec.ofChange explFuelWrong)

/-- 'fencepostlaw16.ExplAlone': WHATEVER THE INPUT: true; the input reads as it did. -/
def explAloneSpec : ChangeSpec := { name := "explAlone", fn := fun _ => fun
  | [d] => { results := [.lit (.bool true)], args := [d] }
  | _ => none }
def explAloneRow : OpenClaim := { program := "ytcecleclipcheaa", sum := "5832c5533607892c2a8fac636e78b627c68ec82a5eb73324244fcddd5c57a05d", func := "fencepost/fencepostlaw16.ExplAlone", spec := "explAlone", inPlace := ["internal/abi.NoEscape", "internal/bytealg.MakeNoZero", "slices.overlaps[fencepost/api.Out]"], unfollowed := true, recurses := true, apart := false }
def ExplAloneSaid : Prop := explAloneRow.holds Try.pinned (OpenSpec.ofChange explAloneSpec)

/-- ITS FALSE NEIGHBOUR: 'it returns false'. Refute it at one input. -/
def explAloneWrong : ChangeSpec := { name := "explAlone", fn := fun _ => fun
  | [d] => { results := [.lit (.bool false)], args := [d] }
  | _ => none }
def ExplAloneWrongFalsely : Prop := explAloneRow.holds Try.pinned (OpenSpec.ofChange explAloneWrong)

/-- 'fencepostlaw17.CondTells': WHATEVER THE INPUT: true; the input reads as it did. -/
def condTellsSpec : ChangeSpec := { name := "condTells", fn := fun _ => fun
  | [d1, d2, d3] => { results := [.lit (.bool true)], args := [d1, d2, d3] }
  | _ => none }
def condTellsRow : OpenClaim := { program := "ytcecleclipcheaa", sum := "5832c5533607892c2a8fac636e78b627c68ec82a5eb73324244fcddd5c57a05d", func := "fencepost/fencepostlaw17.CondTells", spec := "condTells", unfollowed := true, recurses := true, apart := false }
def CondTellsSaid : Prop := condTellsRow.holds Try.pinned (OpenSpec.ofChange condTellsSpec)

/-- ITS FALSE NEIGHBOUR: 'it returns false'. Refute it at one input. -/
def condTellsWrong : ChangeSpec := { name := "condTells", fn := fun _ => fun
  | [d1, d2, d3] => { results := [.lit (.bool false)], args := [d1, d2, d3] }
  | _ => none }
def CondTellsWrongFalsely : Prop := condTellsRow.holds Try.pinned (OpenSpec.ofChange condTellsWrong)

/-- 'fencepostlaw17.CondAll': WHATEVER THE INPUT: true; the input reads as it did. -/
def condAllSpec : ChangeSpec := { name := "condAll", fn := fun _ => fun
  | [d1, d2] => { results := [.lit (.bool true)], args := [d1, d2] }
  | _ => none }
def condAllRow : OpenClaim := { program := "ytcecleclipcheaa", sum := "5832c5533607892c2a8fac636e78b627c68ec82a5eb73324244fcddd5c57a05d", func := "fencepost/fencepostlaw17.CondAll", spec := "condAll", unfollowed := true, recurses := true, apart := false }
def CondAllSaid : Prop := condAllRow.holds Try.pinned (OpenSpec.ofChange condAllSpec)

/-- ITS FALSE NEIGHBOUR: 'it returns false'. Refute it at one input. -/
def condAllWrong : ChangeSpec := { name := "condAll", fn := fun _ => fun
  | [d1, d2] => { results := [.lit (.bool false)], args := [d1, d2] }
  | _ => none }
def CondAllWrongFalsely : Prop := condAllRow.holds Try.pinned (OpenSpec.ofChange condAllWrong)

/-- 'fencepostlaw17.CondMore': WHATEVER THE INPUT: true; the input reads as it did. -/
def condMoreSpec : ChangeSpec := { name := "condMore", fn := fun _ => fun
  | [d1, d2, d3] => { results := [.lit (.bool true)], args := [d1, d2, d3] }
  | _ => none }
def condMoreRow : OpenClaim := { program := "ytcecleclipcheaa", sum := "5832c5533607892c2a8fac636e78b627c68ec82a5eb73324244fcddd5c57a05d", func := "fencepost/fencepostlaw17.CondMore", spec := "condMore", unfollowed := true, recurses := true, apart := false }
def CondMoreSaid : Prop := condMoreRow.holds Try.pinned (OpenSpec.ofChange condMoreSpec)

/-- ITS FALSE NEIGHBOUR: 'it returns false'. Refute it at one input. -/
def condMoreWrong : ChangeSpec := { name := "condMore", fn := fun _ => fun
  | [d1, d2, d3] => { results := [.lit (.bool false)], args := [d1, d2, d3] }
  | _ => none }
def CondMoreWrongFalsely : Prop := condMoreRow.holds Try.pinned (OpenSpec.ofChange condMoreWrong)

/-- 'fencepostlaw17.CondParts': WHATEVER THE INPUT: true; the input reads as it did. -/
def condPartsSpec : ChangeSpec := { name := "condParts", fn := fun _ => fun
  | [d1, d2] => { results := [.lit (.bool true)], args := [d1, d2] }
  | _ => none }
def condPartsRow : OpenClaim := { program := "ytcecleclipcheaa", sum := "5832c5533607892c2a8fac636e78b627c68ec82a5eb73324244fcddd5c57a05d", func := "fencepost/fencepostlaw17.CondParts", spec := "condParts", unfollowed := true, recurses := true, apart := false }
def CondPartsSaid : Prop := condPartsRow.holds Try.pinned (OpenSpec.ofChange condPartsSpec)

/-- ITS FALSE NEIGHBOUR: 'it returns false'. Refute it at one input. -/
def condPartsWrong : ChangeSpec := { name := "condParts", fn := fun _ => fun
  | [d1, d2] => { results := [.lit (.bool false)], args := [d1, d2] }
  | _ => none }
def CondPartsWrongFalsely : Prop := condPartsRow.holds Try.pinned (OpenSpec.ofChange condPartsWrong)

/-- 'fencepostlaw17.CondWhere': WHATEVER THE INPUT: true; the input reads as it did. -/
def condWhereSpec : ChangeSpec := { name := "condWhere", fn := fun _ => fun
  | [d1, d2, d3, d4] => { results := [.lit (.bool true)], args := [d1, d2, d3, d4] }
  | _ => none }
def condWhereRow : OpenClaim := { program := "ytcecleclipcheaa", sum := "5832c5533607892c2a8fac636e78b627c68ec82a5eb73324244fcddd5c57a05d", func := "fencepost/fencepostlaw17.CondWhere", spec := "condWhere", unfollowed := true, recurses := true, apart := false }
def CondWhereSaid : Prop := condWhereRow.holds Try.pinned (OpenSpec.ofChange condWhereSpec)

/-- ITS FALSE NEIGHBOUR: 'it returns false'. Refute it at one input. -/
def condWhereWrong : ChangeSpec := { name := "condWhere", fn := fun _ => fun
  | [d1, d2, d3, d4] => { results := [.lit (.bool false)], args := [d1, d2, d3, d4] }
  | _ => none }
def CondWhereWrongFalsely : Prop := condWhereRow.holds Try.pinned (OpenSpec.ofChange condWhereWrong)

/-- 'fencepostlaw07.CodeRight': WHATEVER THE INPUT: true; the input reads as it did. -/
def codeRightSpec : ChangeSpec := { name := "codeRight", fn := fun _ => fun
  | [d] => { results := [.lit (.bool true)], args := [d] }
  | _ => none }
def codeRightRow : OpenClaim := { program := "ytcecleclipcheaa", sum := "5832c5533607892c2a8fac636e78b627c68ec82a5eb73324244fcddd5c57a05d", func := "fencepost/fencepostlaw07.CodeRight", spec := "codeRight", unfollowed := true, recurses := true, apart := false }
def CodeRightSaid : Prop := codeRightRow.holds Try.pinned (OpenSpec.ofChange codeRightSpec)

/-- ITS FALSE NEIGHBOUR: 'it returns false'. Refute it at one input. -/
def codeRightWrong : ChangeSpec := { name := "codeRight", fn := fun _ => fun
  | [d] => { results := [.lit (.bool false)], args := [d] }
  | _ => none }
def CodeRightWrongFalsely : Prop := codeRightRow.holds Try.pinned (OpenSpec.ofChange codeRightWrong)

/-- 'fencepostlaw07.CodeLines': WHATEVER THE INPUT: true; the input reads as it did. -/
def codeLinesSpec : ChangeSpec := { name := "codeLines", fn := fun _ => fun
  | [d1, d2, d3] => { results := [.lit (.bool true)], args := [d1, d2, d3] }
  | _ => none }
def codeLinesRow : OpenClaim := { program := "ytcecleclipcheaa", sum := "5832c5533607892c2a8fac636e78b627c68ec82a5eb73324244fcddd5c57a05d", func := "fencepost/fencepostlaw07.CodeLines", spec := "codeLines", unfollowed := true, recurses := true, apart := false }
def CodeLinesSaid : Prop := codeLinesRow.holds Try.pinned (OpenSpec.ofChange codeLinesSpec)

/-- ITS FALSE NEIGHBOUR: 'it returns false'. Refute it at one input. -/
def codeLinesWrong : ChangeSpec := { name := "codeLines", fn := fun _ => fun
  | [d1, d2, d3] => { results := [.lit (.bool false)], args := [d1, d2, d3] }
  | _ => none }
def CodeLinesWrongFalsely : Prop := codeLinesRow.holds Try.pinned (OpenSpec.ofChange codeLinesWrong)

/-- 'fencepostlaw07.CodeSteps': WHATEVER THE INPUT: true; the input reads as it did. -/
def codeStepsSpec : ChangeSpec := { name := "codeSteps", fn := fun _ => fun
  | [d1, d2, d3] => { results := [.lit (.bool true)], args := [d1, d2, d3] }
  | _ => none }
def codeStepsRow : OpenClaim := { program := "ytcecleclipcheaa", sum := "5832c5533607892c2a8fac636e78b627c68ec82a5eb73324244fcddd5c57a05d", func := "fencepost/fencepostlaw07.CodeSteps", spec := "codeSteps", unfollowed := true, recurses := true, apart := false }
def CodeStepsSaid : Prop := codeStepsRow.holds Try.pinned (OpenSpec.ofChange codeStepsSpec)

/-- ITS FALSE NEIGHBOUR: 'it returns false'. Refute it at one input. -/
def codeStepsWrong : ChangeSpec := { name := "codeSteps", fn := fun _ => fun
  | [d1, d2, d3] => { results := [.lit (.bool false)], args := [d1, d2, d3] }
  | _ => none }
def CodeStepsWrongFalsely : Prop := codeStepsRow.holds Try.pinned (OpenSpec.ofChange codeStepsWrong)

/-- 'fencepostlaw07.CodeInit': WHATEVER THE INPUT: true; the input reads as it did. -/
def codeInitSpec : ChangeSpec := { name := "codeInit", fn := fun _ => fun
  | [d1, d2] => { results := [.lit (.bool true)], args := [d1, d2] }
  | _ => none }
def codeInitRow : OpenClaim := { program := "ytcecleclipcheaa", sum := "5832c5533607892c2a8fac636e78b627c68ec82a5eb73324244fcddd5c57a05d", func := "fencepost/fencepostlaw07.CodeInit", spec := "codeInit", unfollowed := true, recurses := true, apart := false }
def CodeInitSaid : Prop := codeInitRow.holds Try.pinned (OpenSpec.ofChange codeInitSpec)

/-- ITS FALSE NEIGHBOUR: 'it returns false'. Refute it at one input. -/
def codeInitWrong : ChangeSpec := { name := "codeInit", fn := fun _ => fun
  | [d1, d2] => { results := [.lit (.bool false)], args := [d1, d2] }
  | _ => none }
def CodeInitWrongFalsely : Prop := codeInitRow.holds Try.pinned (OpenSpec.ofChange codeInitWrong)

/-- 'fencepostlaw07.CodeSpoilt': WHATEVER THE INPUT: true; the input reads as it did. -/
def codeSpoiltSpec : ChangeSpec := { name := "codeSpoilt", fn := fun _ => fun
  | [d1, d2, d3, d4] => { results := [.lit (.bool true)], args := [d1, d2, d3, d4] }
  | _ => none }
def codeSpoiltRow : OpenClaim := { program := "ytcecleclipcheaa", sum := "5832c5533607892c2a8fac636e78b627c68ec82a5eb73324244fcddd5c57a05d", func := "fencepost/fencepostlaw07.CodeSpoilt", spec := "codeSpoilt", unfollowed := true, recurses := true, apart := false }
def CodeSpoiltSaid : Prop := codeSpoiltRow.holds Try.pinned (OpenSpec.ofChange codeSpoiltSpec)

/-- ITS FALSE NEIGHBOUR: 'it returns false'. Refute it at one input. -/
def codeSpoiltWrong : ChangeSpec := { name := "codeSpoilt", fn := fun _ => fun
  | [d1, d2, d3, d4] => { results := [.lit (.bool false)], args := [d1, d2, d3, d4] }
  | _ => none }
def CodeSpoiltWrongFalsely : Prop := codeSpoiltRow.holds Try.pinned (OpenSpec.ofChange codeSpoiltWrong)

/-- 'fencepostlaw06.ShowTells': WHATEVER THE INPUT: true; the input reads as it did. -/
def showTellsSpec : ChangeSpec := { name := "showTells", fn := fun _ => fun
  | [d1, d2] => { results := [.lit (.bool true)], args := [d1, d2] }
  | _ => none }
def showTellsRow : OpenClaim := { program := "ytcecleclipcheaa", sum := "5832c5533607892c2a8fac636e78b627c68ec82a5eb73324244fcddd5c57a05d", func := "fencepost/fencepostlaw06.ShowTells", spec := "showTells", inPlace := ["internal/abi.NoEscape", "internal/bytealg.MakeNoZero"], unfollowed := true, recurses := true, apart := false }
def ShowTellsSaid : Prop := showTellsRow.holds Try.pinned (OpenSpec.ofChange showTellsSpec)

/-- ITS FALSE NEIGHBOUR: 'it returns false'. Refute it at one input. -/
def showTellsWrong : ChangeSpec := { name := "showTells", fn := fun _ => fun
  | [d1, d2] => { results := [.lit (.bool false)], args := [d1, d2] }
  | _ => none }
def ShowTellsWrongFalsely : Prop := showTellsRow.holds Try.pinned (OpenSpec.ofChange showTellsWrong)

/-- 'fencepostlaw06.ShowApart': WHATEVER THE INPUT: true; the input reads as it did. -/
def showApartSpec : ChangeSpec := { name := "showApart", fn := fun _ => fun
  | [d1, d2] => { results := [.lit (.bool true)], args := [d1, d2] }
  | _ => none }
def showApartRow : OpenClaim := { program := "ytcecleclipcheaa", sum := "5832c5533607892c2a8fac636e78b627c68ec82a5eb73324244fcddd5c57a05d", func := "fencepost/fencepostlaw06.ShowApart", spec := "showApart", inPlace := ["internal/abi.NoEscape", "internal/bytealg.MakeNoZero"], unfollowed := true, recurses := true, apart := false }
def ShowApartSaid : Prop := showApartRow.holds Try.pinned (OpenSpec.ofChange showApartSpec)

/-- ITS FALSE NEIGHBOUR: 'it returns false'. Refute it at one input. -/
def showApartWrong : ChangeSpec := { name := "showApart", fn := fun _ => fun
  | [d1, d2] => { results := [.lit (.bool false)], args := [d1, d2] }
  | _ => none }
def ShowApartWrongFalsely : Prop := showApartRow.holds Try.pinned (OpenSpec.ofChange showApartWrong)

/-- 'fencepostlaw06.ShowLines': WHATEVER THE INPUT: true; the input reads as it did. -/
def showLinesSpec : ChangeSpec := { name := "showLines", fn := fun _ => fun
  | [d] => { results := [.lit (.bool true)], args := [d] }
  | _ => none }
def showLinesRow : OpenClaim := { program := "ytcecleclipcheaa", sum := "5832c5533607892c2a8fac636e78b627c68ec82a5eb73324244fcddd5c57a05d", func := "fencepost/fencepostlaw06.ShowLines", spec := "showLines", inPlace := ["internal/abi.NoEscape", "internal/bytealg.MakeNoZero"], unfollowed := true, recurses := true, apart := false }
def ShowLinesSaid : Prop := showLinesRow.holds Try.pinned (OpenSpec.ofChange showLinesSpec)

/-- ITS FALSE NEIGHBOUR: 'it returns false'. Refute it at one input. -/
def showLinesWrong : ChangeSpec := { name := "showLines", fn := fun _ => fun
  | [d] => { results := [.lit (.bool false)], args := [d] }
  | _ => none }
def ShowLinesWrongFalsely : Prop := showLinesRow.holds Try.pinned (OpenSpec.ofChange showLinesWrong)

/-- 'fencepostlaw06.ShowLine': WHATEVER THE INPUT: true; the input reads as it did. -/
def showLineSpec : ChangeSpec := { name := "showLine", fn := fun _ => fun
  | [d1, d2] => { results := [.lit (.bool true)], args := [d1, d2] }
  | _ => none }
def showLineRow : OpenClaim := { program := "ytcecleclipcheaa", sum := "5832c5533607892c2a8fac636e78b627c68ec82a5eb73324244fcddd5c57a05d", func := "fencepost/fencepostlaw06.ShowLine", spec := "showLine", inPlace := ["internal/abi.NoEscape", "internal/bytealg.MakeNoZero"], unfollowed := true, recurses := true, apart := false }
def ShowLineSaid : Prop := showLineRow.holds Try.pinned (OpenSpec.ofChange showLineSpec)

/-- ITS FALSE NEIGHBOUR: 'it returns false'. Refute it at one input. -/
def showLineWrong : ChangeSpec := { name := "showLine", fn := fun _ => fun
  | [d1, d2] => { results := [.lit (.bool false)], args := [d1, d2] }
  | _ => none }
def ShowLineWrongFalsely : Prop := showLineRow.holds Try.pinned (OpenSpec.ofChange showLineWrong)

/- THE SECOND FORM. 'bulk': how many values and letters a reading holds, each counted each time it is reached (what is shared counts as often as it is met; a slice's spare places count too). A statement '..UptoSaid' is the law's where the arguments, and the package variables that the reading takes, are together of bulk at most 1048576: NARROWER than '..Said'. Prove '..Said' where nothing that the law and all that it calls make is longer than what came in: it says more and counts as full. Else prove '..UptoSaid'. A law counts once. -/
mutual
def uptoBulk {H : Type} : DataW H → Nat
  | .lit (.string bytes) => bytes.length + 1
  | .lit _ => 1
  | .nil => 1
  | .ptr d => uptoBulk d + 1
  | .slice elems spare => uptoBulkAll elems + uptoBulkAll spare + 1
  | .agg parts => uptoBulkAll parts + 1
  | .iface _ d => uptoBulk d + 1
  | .map entries => uptoBulkEntries entries + 1
  | .held _ => 1
def uptoBulkAll {H : Type} : List (DataW H) → Nat
  | [] => 0
  | d :: r => uptoBulk d + uptoBulkAll r
def uptoBulkEntries {H : Type} : List (Lit × DataW H) → Nat
  | [] => 0
  | x :: r => uptoBulkEntry x + uptoBulkEntries r
def uptoBulkEntry {H : Type} : Lit × DataW H → Nat
  | (.string bytes, d) => bytes.length + uptoBulk d + 1
  | (_, d) => uptoBulk d + 1
 end
def uptoSmall : (H : Type) → List (DataW H) → Bool := fun _ ds => decide (uptoBulkAll ds ≤ 1048576)
def OpenSpec.upto (s : _root_.Go.ChangeSpec) : _root_.Go.OpenSpec := { _root_.Go.OpenSpec.ofChange s with cond := some uptoSmall }

/-- 'fencepostlaw16.ExplFuel', WHERE WHAT IT READS IS OF BULK AT MOST 1048576: true; the input reads as it did. -/
def explFuelUptoRow : OpenClaim := { program := "ytcecleclipcheaa", sum := "5832c5533607892c2a8fac636e78b627c68ec82a5eb73324244fcddd5c57a05d", func := "fencepost/fencepostlaw16.ExplFuel", spec := "explFuel", inPlace := ["internal/abi.NoEscape", "internal/bytealg.MakeNoZero", "slices.overlaps[fencepost/api.Out]"], unfollowed := true, recurses := true, apart := false, narrowed := true }
def ExplFuelUptoSaid : Prop := explFuelUptoRow.holds Try.pinned (OpenSpec.upto explFuelSpec)

/-- 'fencepostlaw16.ExplAlone', WHERE WHAT IT READS IS OF BULK AT MOST 1048576: true; the input reads as it did. -/
def explAloneUptoRow : OpenClaim := { program := "ytcecleclipcheaa", sum := "5832c5533607892c2a8fac636e78b627c68ec82a5eb73324244fcddd5c57a05d", func := "fencepost/fencepostlaw16.ExplAlone", spec := "explAlone", inPlace := ["internal/abi.NoEscape", "internal/bytealg.MakeNoZero", "slices.overlaps[fencepost/api.Out]"], unfollowed := true, recurses := true, apart := false, narrowed := true }
def ExplAloneUptoSaid : Prop := explAloneUptoRow.holds Try.pinned (OpenSpec.upto explAloneSpec)

/-- 'fencepostlaw17.CondTells', WHERE WHAT IT READS IS OF BULK AT MOST 1048576: true; the input reads as it did. -/
def condTellsUptoRow : OpenClaim := { program := "ytcecleclipcheaa", sum := "5832c5533607892c2a8fac636e78b627c68ec82a5eb73324244fcddd5c57a05d", func := "fencepost/fencepostlaw17.CondTells", spec := "condTells", unfollowed := true, recurses := true, apart := false, narrowed := true }
def CondTellsUptoSaid : Prop := condTellsUptoRow.holds Try.pinned (OpenSpec.upto condTellsSpec)

/-- 'fencepostlaw17.CondAll', WHERE WHAT IT READS IS OF BULK AT MOST 1048576: true; the input reads as it did. -/
def condAllUptoRow : OpenClaim := { program := "ytcecleclipcheaa", sum := "5832c5533607892c2a8fac636e78b627c68ec82a5eb73324244fcddd5c57a05d", func := "fencepost/fencepostlaw17.CondAll", spec := "condAll", unfollowed := true, recurses := true, apart := false, narrowed := true }
def CondAllUptoSaid : Prop := condAllUptoRow.holds Try.pinned (OpenSpec.upto condAllSpec)

/-- 'fencepostlaw17.CondMore', WHERE WHAT IT READS IS OF BULK AT MOST 1048576: true; the input reads as it did. -/
def condMoreUptoRow : OpenClaim := { program := "ytcecleclipcheaa", sum := "5832c5533607892c2a8fac636e78b627c68ec82a5eb73324244fcddd5c57a05d", func := "fencepost/fencepostlaw17.CondMore", spec := "condMore", unfollowed := true, recurses := true, apart := false, narrowed := true }
def CondMoreUptoSaid : Prop := condMoreUptoRow.holds Try.pinned (OpenSpec.upto condMoreSpec)

/-- 'fencepostlaw17.CondParts', WHERE WHAT IT READS IS OF BULK AT MOST 1048576: true; the input reads as it did. -/
def condPartsUptoRow : OpenClaim := { program := "ytcecleclipcheaa", sum := "5832c5533607892c2a8fac636e78b627c68ec82a5eb73324244fcddd5c57a05d", func := "fencepost/fencepostlaw17.CondParts", spec := "condParts", unfollowed := true, recurses := true, apart := false, narrowed := true }
def CondPartsUptoSaid : Prop := condPartsUptoRow.holds Try.pinned (OpenSpec.upto condPartsSpec)

/-- 'fencepostlaw17.CondWhere', WHERE WHAT IT READS IS OF BULK AT MOST 1048576: true; the input reads as it did. -/
def condWhereUptoRow : OpenClaim := { program := "ytcecleclipcheaa", sum := "5832c5533607892c2a8fac636e78b627c68ec82a5eb73324244fcddd5c57a05d", func := "fencepost/fencepostlaw17.CondWhere", spec := "condWhere", unfollowed := true, recurses := true, apart := false, narrowed := true }
def CondWhereUptoSaid : Prop := condWhereUptoRow.holds Try.pinned (OpenSpec.upto condWhereSpec)

/-- 'fencepostlaw07.CodeRight', WHERE WHAT IT READS IS OF BULK AT MOST 1048576: true; the input reads as it did. -/
def codeRightUptoRow : OpenClaim := { program := "ytcecleclipcheaa", sum := "5832c5533607892c2a8fac636e78b627c68ec82a5eb73324244fcddd5c57a05d", func := "fencepost/fencepostlaw07.CodeRight", spec := "codeRight", unfollowed := true, recurses := true, apart := false, narrowed := true }
def CodeRightUptoSaid : Prop := codeRightUptoRow.holds Try.pinned (OpenSpec.upto codeRightSpec)

/-- 'fencepostlaw07.CodeLines', WHERE WHAT IT READS IS OF BULK AT MOST 1048576: true; the input reads as it did. -/
def codeLinesUptoRow : OpenClaim := { program := "ytcecleclipcheaa", sum := "5832c5533607892c2a8fac636e78b627c68ec82a5eb73324244fcddd5c57a05d", func := "fencepost/fencepostlaw07.CodeLines", spec := "codeLines", unfollowed := true, recurses := true, apart := false, narrowed := true }
def CodeLinesUptoSaid : Prop := codeLinesUptoRow.holds Try.pinned (OpenSpec.upto codeLinesSpec)

/-- 'fencepostlaw07.CodeSteps', WHERE WHAT IT READS IS OF BULK AT MOST 1048576: true; the input reads as it did. -/
def codeStepsUptoRow : OpenClaim := { program := "ytcecleclipcheaa", sum := "5832c5533607892c2a8fac636e78b627c68ec82a5eb73324244fcddd5c57a05d", func := "fencepost/fencepostlaw07.CodeSteps", spec := "codeSteps", unfollowed := true, recurses := true, apart := false, narrowed := true }
def CodeStepsUptoSaid : Prop := codeStepsUptoRow.holds Try.pinned (OpenSpec.upto codeStepsSpec)

/-- 'fencepostlaw07.CodeInit', WHERE WHAT IT READS IS OF BULK AT MOST 1048576: true; the input reads as it did. -/
def codeInitUptoRow : OpenClaim := { program := "ytcecleclipcheaa", sum := "5832c5533607892c2a8fac636e78b627c68ec82a5eb73324244fcddd5c57a05d", func := "fencepost/fencepostlaw07.CodeInit", spec := "codeInit", unfollowed := true, recurses := true, apart := false, narrowed := true }
def CodeInitUptoSaid : Prop := codeInitUptoRow.holds Try.pinned (OpenSpec.upto codeInitSpec)

/-- 'fencepostlaw07.CodeSpoilt', WHERE WHAT IT READS IS OF BULK AT MOST 1048576: true; the input reads as it did. -/
def codeSpoiltUptoRow : OpenClaim := { program := "ytcecleclipcheaa", sum := "5832c5533607892c2a8fac636e78b627c68ec82a5eb73324244fcddd5c57a05d", func := "fencepost/fencepostlaw07.CodeSpoilt", spec := "codeSpoilt", unfollowed := true, recurses := true, apart := false, narrowed := true }
def CodeSpoiltUptoSaid : Prop := codeSpoiltUptoRow.holds Try.pinned (OpenSpec.upto codeSpoiltSpec)

/-- 'fencepostlaw06.ShowTells', WHERE WHAT IT READS IS OF BULK AT MOST 1048576: true; the input reads as it did. -/
def showTellsUptoRow : OpenClaim := { program := "ytcecleclipcheaa", sum := "5832c5533607892c2a8fac636e78b627c68ec82a5eb73324244fcddd5c57a05d", func := "fencepost/fencepostlaw06.ShowTells", spec := "showTells", inPlace := ["internal/abi.NoEscape", "internal/bytealg.MakeNoZero"], unfollowed := true, recurses := true, apart := false, narrowed := true }
def ShowTellsUptoSaid : Prop := showTellsUptoRow.holds Try.pinned (OpenSpec.upto showTellsSpec)

/-- 'fencepostlaw06.ShowApart', WHERE WHAT IT READS IS OF BULK AT MOST 1048576: true; the input reads as it did. -/
def showApartUptoRow : OpenClaim := { program := "ytcecleclipcheaa", sum := "5832c5533607892c2a8fac636e78b627c68ec82a5eb73324244fcddd5c57a05d", func := "fencepost/fencepostlaw06.ShowApart", spec := "showApart", inPlace := ["internal/abi.NoEscape", "internal/bytealg.MakeNoZero"], unfollowed := true, recurses := true, apart := false, narrowed := true }
def ShowApartUptoSaid : Prop := showApartUptoRow.holds Try.pinned (OpenSpec.upto showApartSpec)

/-- 'fencepostlaw06.ShowLines', WHERE WHAT IT READS IS OF BULK AT MOST 1048576: true; the input reads as it did. -/
def showLinesUptoRow : OpenClaim := { program := "ytcecleclipcheaa", sum := "5832c5533607892c2a8fac636e78b627c68ec82a5eb73324244fcddd5c57a05d", func := "fencepost/fencepostlaw06.ShowLines", spec := "showLines", inPlace := ["internal/abi.NoEscape", "internal/bytealg.MakeNoZero"], unfollowed := true, recurses := true, apart := false, narrowed := true }
def ShowLinesUptoSaid : Prop := showLinesUptoRow.holds Try.pinned (OpenSpec.upto showLinesSpec)

/-- 'fencepostlaw06.ShowLine', WHERE WHAT IT READS IS OF BULK AT MOST 1048576: true; the input reads as it did. -/
def showLineUptoRow : OpenClaim := { program := "ytcecleclipcheaa", sum := "5832c5533607892c2a8fac636e78b627c68ec82a5eb73324244fcddd5c57a05d", func := "fencepost/fencepostlaw06.ShowLine", spec := "showLine", inPlace := ["internal/abi.NoEscape", "internal/bytealg.MakeNoZero"], unfollowed := true, recurses := true, apart := false, narrowed := true }
def ShowLineUptoSaid : Prop := showLineUptoRow.holds Try.pinned (OpenSpec.upto showLineSpec)

end Rows
end Go.Proofs.Ytcecleclipcheaa
