/-
  No cell of these rows narrows 'for every input' (looked for: loops, veiled, ifaces, maps, wideKeys, modest, calm, conditions, laid).
  DERIVED. THE GIVEN ROWS OF THIS SEAT. 11 by the template 'for every input the law returns true; each argument reads behind the call as it read before'; 0 by the template 'total and deterministic' (their statements: YticjjdhaikbdaaaTotals.lean).
  GIVEN WITH THE SEED: the statements are not yours to turn. If you find one false, say at which input.
  Laid BY PROGRAM, IN A SANDBOX (cutbox-rows.mjs): the forced cells as the released guide's own fill.sh prints them over the translation 4c93521e834df12d… (all of the seat's roots in one cut). By AI agents, Wed Nov 11 2026. No macro, syntax, notation, axiom, sorry.
-/
import Derived.Test.YticjjdhaikbdaaaChecked
import GoSem.Claim
import GoSem.ClaimJoined
import GoSem.ClaimMapViews
import Derived.JoinedTies
import Derived.KernelRfl
namespace Go.Proofs.Yticjjdhaikbdaaa
/- THE CELL 'sum', in the pinned program and in every row, IS THE sha256 OF THE DUMP (.gsa) THAT YticjjdhaikbdaaaProg.lean LOADS. Nothing in Lean hashes anything: it is a label: what it is worth is what the hold of that sum in a sandbox is worth. -/
noncomputable def Try.pinned : Pinned := { name := "yticjjdhaikbdaaa", sum := "4c93521e834df12d9a9418151b1985ef035837652f5fa15801abe42804698e45", checked := Try.checked }
namespace Rows
def none {H : Type} : Left H := { results := [], args := [] }

/-- 'headgatelaw06.FsRenames': WHATEVER THE INPUT: true; the input reads as it did. -/
def fsRenamesSpec : ChangeSpec := { name := "fsRenames", fn := fun _ => fun
  | [d1, d2, d3, d4] => { results := [.lit (.bool true)], args := [d1, d2, d3, d4] }
  | _ => none }
def fsRenamesRow : OpenClaim := { program := "yticjjdhaikbdaaa", sum := "4c93521e834df12d9a9418151b1985ef035837652f5fa15801abe42804698e45", func := "headgate/headgatelaw06.FsRenames", spec := "fsRenames", inPlace := ["maps.clone"], unfollowed := true, recurses := true, apart := false }
def FsRenamesSaid : Prop := fsRenamesRow.holds Try.pinned (OpenSpec.ofChange fsRenamesSpec)

/-- ITS FALSE NEIGHBOUR: 'it returns false'. Refute it at one input. -/
def fsRenamesWrong : ChangeSpec := { name := "fsRenames", fn := fun _ => fun
  | [d1, d2, d3, d4] => { results := [.lit (.bool false)], args := [d1, d2, d3, d4] }
  | _ => none }
def FsRenamesWrongFalsely : Prop := fsRenamesRow.holds Try.pinned (OpenSpec.ofChange fsRenamesWrong)

/-- 'headgatelaw06.FsPlain': WHATEVER THE INPUT: true; the input reads as it did. -/
def fsPlainSpec : ChangeSpec := { name := "fsPlain", fn := fun _ => fun
  | [d] => { results := [.lit (.bool true)], args := [d] }
  | _ => none }
def fsPlainRow : OpenClaim := { program := "yticjjdhaikbdaaa", sum := "4c93521e834df12d9a9418151b1985ef035837652f5fa15801abe42804698e45", func := "headgate/headgatelaw06.FsPlain", spec := "fsPlain", inPlace := ["maps.clone"], unfollowed := true, recurses := true, apart := false }
def FsPlainSaid : Prop := fsPlainRow.holds Try.pinned (OpenSpec.ofChange fsPlainSpec)

/-- ITS FALSE NEIGHBOUR: 'it returns false'. Refute it at one input. -/
def fsPlainWrong : ChangeSpec := { name := "fsPlain", fn := fun _ => fun
  | [d] => { results := [.lit (.bool false)], args := [d] }
  | _ => none }
def FsPlainWrongFalsely : Prop := fsPlainRow.holds Try.pinned (OpenSpec.ofChange fsPlainWrong)

/-- 'headgatelaw06.FsSafe': WHATEVER THE INPUT: true; the input reads as it did. -/
def fsSafeSpec : ChangeSpec := { name := "fsSafe", fn := fun _ => fun
  | [d1, d2, d3, d4] => { results := [.lit (.bool true)], args := [d1, d2, d3, d4] }
  | _ => none }
def fsSafeRow : OpenClaim := { program := "yticjjdhaikbdaaa", sum := "4c93521e834df12d9a9418151b1985ef035837652f5fa15801abe42804698e45", func := "headgate/headgatelaw06.FsSafe", spec := "fsSafe", inPlace := ["maps.clone"], unfollowed := true, recurses := true, apart := false }
def FsSafeSaid : Prop := fsSafeRow.holds Try.pinned (OpenSpec.ofChange fsSafeSpec)

/-- ITS FALSE NEIGHBOUR: 'it returns false'. Refute it at one input. -/
def fsSafeWrong : ChangeSpec := { name := "fsSafe", fn := fun _ => fun
  | [d1, d2, d3, d4] => { results := [.lit (.bool false)], args := [d1, d2, d3, d4] }
  | _ => none }
def FsSafeWrongFalsely : Prop := fsSafeRow.holds Try.pinned (OpenSpec.ofChange fsSafeWrong)

/-- 'headgatelaw06.FsPlays': WHATEVER THE INPUT: true; the input reads as it did. -/
def fsPlaysSpec : ChangeSpec := { name := "fsPlays", fn := fun _ => fun
  | [d1, d2] => { results := [.lit (.bool true)], args := [d1, d2] }
  | _ => none }
def fsPlaysRow : OpenClaim := { program := "yticjjdhaikbdaaa", sum := "4c93521e834df12d9a9418151b1985ef035837652f5fa15801abe42804698e45", func := "headgate/headgatelaw06.FsPlays", spec := "fsPlays", inPlace := ["maps.clone"], unfollowed := true, recurses := true, apart := false }
def FsPlaysSaid : Prop := fsPlaysRow.holds Try.pinned (OpenSpec.ofChange fsPlaysSpec)

/-- ITS FALSE NEIGHBOUR: 'it returns false'. Refute it at one input. -/
def fsPlaysWrong : ChangeSpec := { name := "fsPlays", fn := fun _ => fun
  | [d1, d2] => { results := [.lit (.bool false)], args := [d1, d2] }
  | _ => none }
def FsPlaysWrongFalsely : Prop := fsPlaysRow.holds Try.pinned (OpenSpec.ofChange fsPlaysWrong)

/-- 'headgatelaw06.FsNil': WHATEVER THE INPUT: true; the input reads as it did. -/
def fsNilSpec : ChangeSpec := { name := "fsNil", fn := fun _ => fun
  | [d] => { results := [.lit (.bool true)], args := [d] }
  | _ => none }
def fsNilRow : OpenClaim := { program := "yticjjdhaikbdaaa", sum := "4c93521e834df12d9a9418151b1985ef035837652f5fa15801abe42804698e45", func := "headgate/headgatelaw06.FsNil", spec := "fsNil", inPlace := ["maps.clone"], unfollowed := true, recurses := true, apart := false }
def FsNilSaid : Prop := fsNilRow.holds Try.pinned (OpenSpec.ofChange fsNilSpec)

/-- ITS FALSE NEIGHBOUR: 'it returns false'. Refute it at one input. -/
def fsNilWrong : ChangeSpec := { name := "fsNil", fn := fun _ => fun
  | [d] => { results := [.lit (.bool false)], args := [d] }
  | _ => none }
def FsNilWrongFalsely : Prop := fsNilRow.holds Try.pinned (OpenSpec.ofChange fsNilWrong)

/-- 'headgatelaw07.PlaceSorts': WHATEVER THE INPUT: true; the input reads as it did. -/
def placeSortsSpec : ChangeSpec := { name := "placeSorts", fn := fun _ => fun
  | [d1, d2] => { results := [.lit (.bool true)], args := [d1, d2] }
  | _ => none }
def placeSortsRow : OpenClaim := { program := "yticjjdhaikbdaaa", sum := "4c93521e834df12d9a9418151b1985ef035837652f5fa15801abe42804698e45", func := "headgate/headgatelaw07.PlaceSorts", spec := "placeSorts", inPlace := ["maps.clone"], unfollowed := true, recurses := true, apart := false }
def PlaceSortsSaid : Prop := placeSortsRow.holds Try.pinned (OpenSpec.ofChange placeSortsSpec)

/-- ITS FALSE NEIGHBOUR: 'it returns false'. Refute it at one input. -/
def placeSortsWrong : ChangeSpec := { name := "placeSorts", fn := fun _ => fun
  | [d1, d2] => { results := [.lit (.bool false)], args := [d1, d2] }
  | _ => none }
def PlaceSortsWrongFalsely : Prop := placeSortsRow.holds Try.pinned (OpenSpec.ofChange placeSortsWrong)

/-- 'headgatelaw07.PlaceNil': WHATEVER THE INPUT: true; the input reads as it did. -/
def placeNilSpec : ChangeSpec := { name := "placeNil", fn := fun _ => fun
  | [d1, d2, d3] => { results := [.lit (.bool true)], args := [d1, d2, d3] }
  | _ => none }
def placeNilRow : OpenClaim := { program := "yticjjdhaikbdaaa", sum := "4c93521e834df12d9a9418151b1985ef035837652f5fa15801abe42804698e45", func := "headgate/headgatelaw07.PlaceNil", spec := "placeNil", inPlace := ["maps.clone"], unfollowed := true, recurses := true, apart := false }
def PlaceNilSaid : Prop := placeNilRow.holds Try.pinned (OpenSpec.ofChange placeNilSpec)

/-- ITS FALSE NEIGHBOUR: 'it returns false'. Refute it at one input. -/
def placeNilWrong : ChangeSpec := { name := "placeNil", fn := fun _ => fun
  | [d1, d2, d3] => { results := [.lit (.bool false)], args := [d1, d2, d3] }
  | _ => none }
def PlaceNilWrongFalsely : Prop := placeNilRow.holds Try.pinned (OpenSpec.ofChange placeNilWrong)

/-- 'headgatelaw07.PlaceHex': WHATEVER THE INPUT: true; the input reads as it did. -/
def placeHexSpec : ChangeSpec := { name := "placeHex", fn := fun _ => fun
  | [d1, d2] => { results := [.lit (.bool true)], args := [d1, d2] }
  | _ => none }
def placeHexRow : OpenClaim := { program := "yticjjdhaikbdaaa", sum := "4c93521e834df12d9a9418151b1985ef035837652f5fa15801abe42804698e45", func := "headgate/headgatelaw07.PlaceHex", spec := "placeHex", inPlace := ["maps.clone", "internal/bytealg.IndexByteString"], unfollowed := true, recurses := true, apart := false }
def PlaceHexSaid : Prop := placeHexRow.holds Try.pinned (OpenSpec.ofChange placeHexSpec)

/-- ITS FALSE NEIGHBOUR: 'it returns false'. Refute it at one input. -/
def placeHexWrong : ChangeSpec := { name := "placeHex", fn := fun _ => fun
  | [d1, d2] => { results := [.lit (.bool false)], args := [d1, d2] }
  | _ => none }
def PlaceHexWrongFalsely : Prop := placeHexRow.holds Try.pinned (OpenSpec.ofChange placeHexWrong)

/-- 'headgatelaw07.PlaceWhole': WHATEVER THE INPUT: true; the input reads as it did. -/
def placeWholeSpec : ChangeSpec := { name := "placeWhole", fn := fun _ => fun
  | [d1, d2, d3, d4] => { results := [.lit (.bool true)], args := [d1, d2, d3, d4] }
  | _ => none }
def placeWholeRow : OpenClaim := { program := "yticjjdhaikbdaaa", sum := "4c93521e834df12d9a9418151b1985ef035837652f5fa15801abe42804698e45", func := "headgate/headgatelaw07.PlaceWhole", spec := "placeWhole", inPlace := ["maps.clone"], unfollowed := true, recurses := true, apart := false }
def PlaceWholeSaid : Prop := placeWholeRow.holds Try.pinned (OpenSpec.ofChange placeWholeSpec)

/-- ITS FALSE NEIGHBOUR: 'it returns false'. Refute it at one input. -/
def placeWholeWrong : ChangeSpec := { name := "placeWhole", fn := fun _ => fun
  | [d1, d2, d3, d4] => { results := [.lit (.bool false)], args := [d1, d2, d3, d4] }
  | _ => none }
def PlaceWholeWrongFalsely : Prop := placeWholeRow.holds Try.pinned (OpenSpec.ofChange placeWholeWrong)

/-- 'headgatelaw10.SegmentParts': WHATEVER THE INPUT: true; the input reads as it did. -/
def segmentPartsSpec : ChangeSpec := { name := "segmentParts", fn := fun _ => fun
  | [d1, d2, d3, d4, d5] => { results := [.lit (.bool true)], args := [d1, d2, d3, d4, d5] }
  | _ => none }
def segmentPartsRow : OpenClaim := { program := "yticjjdhaikbdaaa", sum := "4c93521e834df12d9a9418151b1985ef035837652f5fa15801abe42804698e45", func := "headgate/headgatelaw10.SegmentParts", spec := "segmentParts", inPlace := ["maps.clone", "internal/bytealg.IndexByteString"], unfollowed := true, recurses := true, apart := false }
def SegmentPartsSaid : Prop := segmentPartsRow.holds Try.pinned (OpenSpec.ofChange segmentPartsSpec)

/-- ITS FALSE NEIGHBOUR: 'it returns false'. Refute it at one input. -/
def segmentPartsWrong : ChangeSpec := { name := "segmentParts", fn := fun _ => fun
  | [d1, d2, d3, d4, d5] => { results := [.lit (.bool false)], args := [d1, d2, d3, d4, d5] }
  | _ => none }
def SegmentPartsWrongFalsely : Prop := segmentPartsRow.holds Try.pinned (OpenSpec.ofChange segmentPartsWrong)

/-- 'headgatelaw10.SegmentNil': WHATEVER THE INPUT: true; the input reads as it did. -/
def segmentNilSpec : ChangeSpec := { name := "segmentNil", fn := fun _ => fun
  | [d1, d2, d3, d4] => { results := [.lit (.bool true)], args := [d1, d2, d3, d4] }
  | _ => none }
def segmentNilRow : OpenClaim := { program := "yticjjdhaikbdaaa", sum := "4c93521e834df12d9a9418151b1985ef035837652f5fa15801abe42804698e45", func := "headgate/headgatelaw10.SegmentNil", spec := "segmentNil", inPlace := ["maps.clone", "internal/bytealg.IndexByteString"], unfollowed := true, recurses := true, apart := false }
def SegmentNilSaid : Prop := segmentNilRow.holds Try.pinned (OpenSpec.ofChange segmentNilSpec)

/-- ITS FALSE NEIGHBOUR: 'it returns false'. Refute it at one input. -/
def segmentNilWrong : ChangeSpec := { name := "segmentNil", fn := fun _ => fun
  | [d1, d2, d3, d4] => { results := [.lit (.bool false)], args := [d1, d2, d3, d4] }
  | _ => none }
def SegmentNilWrongFalsely : Prop := segmentNilRow.holds Try.pinned (OpenSpec.ofChange segmentNilWrong)

/- THE SECOND FORM. 'bulk': how many values and letters a reading holds, each counted each time it is reached (what is shared counts as often as it is met; a slice's spare places count too). A statement '..UptoSaid' is the law's where the arguments, and the package variables that the reading takes, are together of bulk at most 1048576: NARROWER than '..Said'. Prove '..Said' where nothing that the law and all that it calls make is longer than what came in: it says more and counts as full. Else prove '..UptoSaid'. A law counts once. -/
mutual
def uptoBulk {H : Type} : DataW H → Nat
  | .lit (.string bytes) => bytes.length + 1
  | .lit _ => 1
  | .nil => 1
  | .ptr d => uptoBulk d + 1
  | .slice elems spare => uptoBulkAll elems + uptoBulkAll spare + 1
  | .agg parts => uptoBulkAll parts + 1
  | .iface _ d => uptoBulk d + 1
  | .map entries => uptoBulkEntries entries + 1
  | .held _ => 1
def uptoBulkAll {H : Type} : List (DataW H) → Nat
  | [] => 0
  | d :: r => uptoBulk d + uptoBulkAll r
def uptoBulkEntries {H : Type} : List (Lit × DataW H) → Nat
  | [] => 0
  | x :: r => uptoBulkEntry x + uptoBulkEntries r
def uptoBulkEntry {H : Type} : Lit × DataW H → Nat
  | (.string bytes, d) => bytes.length + uptoBulk d + 1
  | (_, d) => uptoBulk d + 1
 end
def uptoSmall : (H : Type) → List (DataW H) → Bool := fun _ ds => decide (uptoBulkAll ds ≤ 1048576)
def OpenSpec.upto (s : _root_.Go.ChangeSpec) : _root_.Go.OpenSpec := { _root_.Go.OpenSpec.ofChange s with cond := some uptoSmall }

/-- 'headgatelaw06.FsRenames', WHERE WHAT IT READS IS OF BULK AT MOST 1048576: true; the input reads as it did. -/
def fsRenamesUptoRow : OpenClaim := { program := "yticjjdhaikbdaaa", sum := "4c93521e834df12d9a9418151b1985ef035837652f5fa15801abe42804698e45", func := "headgate/headgatelaw06.FsRenames", spec := "fsRenames", inPlace := ["maps.clone"], unfollowed := true, recurses := true, apart := false, narrowed := true }
def FsRenamesUptoSaid : Prop := fsRenamesUptoRow.holds Try.pinned (OpenSpec.upto fsRenamesSpec)

/-- 'headgatelaw06.FsPlain', WHERE WHAT IT READS IS OF BULK AT MOST 1048576: true; the input reads as it did. -/
def fsPlainUptoRow : OpenClaim := { program := "yticjjdhaikbdaaa", sum := "4c93521e834df12d9a9418151b1985ef035837652f5fa15801abe42804698e45", func := "headgate/headgatelaw06.FsPlain", spec := "fsPlain", inPlace := ["maps.clone"], unfollowed := true, recurses := true, apart := false, narrowed := true }
def FsPlainUptoSaid : Prop := fsPlainUptoRow.holds Try.pinned (OpenSpec.upto fsPlainSpec)

/-- 'headgatelaw06.FsSafe', WHERE WHAT IT READS IS OF BULK AT MOST 1048576: true; the input reads as it did. -/
def fsSafeUptoRow : OpenClaim := { program := "yticjjdhaikbdaaa", sum := "4c93521e834df12d9a9418151b1985ef035837652f5fa15801abe42804698e45", func := "headgate/headgatelaw06.FsSafe", spec := "fsSafe", inPlace := ["maps.clone"], unfollowed := true, recurses := true, apart := false, narrowed := true }
def FsSafeUptoSaid : Prop := fsSafeUptoRow.holds Try.pinned (OpenSpec.upto fsSafeSpec)

/-- 'headgatelaw06.FsPlays', WHERE WHAT IT READS IS OF BULK AT MOST 1048576: true; the input reads as it did. -/
def fsPlaysUptoRow : OpenClaim := { program := "yticjjdhaikbdaaa", sum := "4c93521e834df12d9a9418151b1985ef035837652f5fa15801abe42804698e45", func := "headgate/headgatelaw06.FsPlays", spec := "fsPlays", inPlace := ["maps.clone"], unfollowed := true, recurses := true, apart := false, narrowed := true }
def FsPlaysUptoSaid : Prop := fsPlaysUptoRow.holds Try.pinned (OpenSpec.upto fsPlaysSpec)

/-- 'headgatelaw06.FsNil', WHERE WHAT IT READS IS OF BULK AT MOST 1048576: true; the input reads as it did. -/
def fsNilUptoRow : OpenClaim := { program := "yticjjdhaikbdaaa", sum := "4c93521e834df12d9a9418151b1985ef035837652f5fa15801abe42804698e45", func := "headgate/headgatelaw06.FsNil", spec := "fsNil", inPlace := ["maps.clone"], unfollowed := true, recurses := true, apart := false, narrowed := true }
def FsNilUptoSaid : Prop := fsNilUptoRow.holds Try.pinned (OpenSpec.upto fsNilSpec)

/-- 'headgatelaw07.PlaceSorts', WHERE WHAT IT READS IS OF BULK AT MOST 1048576: true; the input reads as it did. -/
def placeSortsUptoRow : OpenClaim := { program := "yticjjdhaikbdaaa", sum := "4c93521e834df12d9a9418151b1985ef035837652f5fa15801abe42804698e45", func := "headgate/headgatelaw07.PlaceSorts", spec := "placeSorts", inPlace := ["maps.clone"], unfollowed := true, recurses := true, apart := false, narrowed := true }
def PlaceSortsUptoSaid : Prop := placeSortsUptoRow.holds Try.pinned (OpenSpec.upto placeSortsSpec)

/-- 'headgatelaw07.PlaceNil', WHERE WHAT IT READS IS OF BULK AT MOST 1048576: true; the input reads as it did. -/
def placeNilUptoRow : OpenClaim := { program := "yticjjdhaikbdaaa", sum := "4c93521e834df12d9a9418151b1985ef035837652f5fa15801abe42804698e45", func := "headgate/headgatelaw07.PlaceNil", spec := "placeNil", inPlace := ["maps.clone"], unfollowed := true, recurses := true, apart := false, narrowed := true }
def PlaceNilUptoSaid : Prop := placeNilUptoRow.holds Try.pinned (OpenSpec.upto placeNilSpec)

/-- 'headgatelaw07.PlaceHex', WHERE WHAT IT READS IS OF BULK AT MOST 1048576: true; the input reads as it did. -/
def placeHexUptoRow : OpenClaim := { program := "yticjjdhaikbdaaa", sum := "4c93521e834df12d9a9418151b1985ef035837652f5fa15801abe42804698e45", func := "headgate/headgatelaw07.PlaceHex", spec := "placeHex", inPlace := ["maps.clone", "internal/bytealg.IndexByteString"], unfollowed := true, recurses := true, apart := false, narrowed := true }
def PlaceHexUptoSaid : Prop := placeHexUptoRow.holds Try.pinned (OpenSpec.upto placeHexSpec)

/-- 'headgatelaw07.PlaceWhole', WHERE WHAT IT READS IS OF BULK AT MOST 1048576: true; the input reads as it did. -/
def placeWholeUptoRow : OpenClaim := { program := "yticjjdhaikbdaaa", sum := "4c93521e834df12d9a9418151b1985ef035837652f5fa15801abe42804698e45", func := "headgate/headgatelaw07.PlaceWhole", spec := "placeWhole", inPlace := ["maps.clone"], unfollowed := true, recurses := true, apart := false, narrowed := true }
def PlaceWholeUptoSaid : Prop := placeWholeUptoRow.holds Try.pinned (OpenSpec.upto placeWholeSpec)

/-- 'headgatelaw10.SegmentParts', WHERE WHAT IT READS IS OF BULK AT MOST 1048576: true; the input reads as it did. -/
def segmentPartsUptoRow : OpenClaim := { program := "yticjjdhaikbdaaa", sum := "4c93521e834df12d9a9418151b1985ef035837652f5fa15801abe42804698e45", func := "headgate/headgatelaw10.SegmentParts", spec := "segmentParts", inPlace := ["maps.clone", "internal/bytealg.IndexByteString"], unfollowed := true, recurses := true, apart := false, narrowed := true }
def SegmentPartsUptoSaid : Prop := segmentPartsUptoRow.holds Try.pinned (OpenSpec.upto segmentPartsSpec)

/-- 'headgatelaw10.SegmentNil', WHERE WHAT IT READS IS OF BULK AT MOST 1048576: true; the input reads as it did. -/
def segmentNilUptoRow : OpenClaim := { program := "yticjjdhaikbdaaa", sum := "4c93521e834df12d9a9418151b1985ef035837652f5fa15801abe42804698e45", func := "headgate/headgatelaw10.SegmentNil", spec := "segmentNil", inPlace := ["maps.clone", "internal/bytealg.IndexByteString"], unfollowed := true, recurses := true, apart := false, narrowed := true }
def SegmentNilUptoSaid : Prop := segmentNilUptoRow.holds Try.pinned (OpenSpec.upto segmentNilSpec)

end Rows
end Go.Proofs.Yticjjdhaikbdaaa
