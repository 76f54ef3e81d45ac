/-
  No cell of these rows narrows 'for every input' (looked for: loops, veiled, ifaces, maps, wideKeys, modest, calm, conditions, laid).
  DERIVED. THE GIVEN ROWS OF THIS SEAT. 5 by the template 'for every input the law returns true; each argument reads behind the call as it read before'; 0 by the template 'total and deterministic' (their statements: YtfpdejkcjijmmaaTotals.lean).
  GIVEN WITH THE SEED: the statements are not yours to turn. If you find one false, say at which input.
  Laid BY PROGRAM, IN A SANDBOX (cutbox-rows.mjs): the forced cells as the released guide's own fill.sh prints them over the translation 1093075223130d9a… (all of the seat's roots in one cut). By AI agents, Wed Nov 11 2026. No macro, syntax, notation, axiom, sorry.
-/
import Derived.Test.YtfpdejkcjijmmaaChecked
import GoSem.Claim
import GoSem.ClaimJoined
import GoSem.ClaimMapViews
import Derived.JoinedTies
import Derived.KernelRfl
namespace Go.Proofs.Ytfpdejkcjijmmaa
/- THE CELL 'sum', in the pinned program and in every row, IS THE sha256 OF THE DUMP (.gsa) THAT YtfpdejkcjijmmaaProg.lean LOADS. Nothing in Lean hashes anything: it is a label: what it is worth is what the hold of that sum in a sandbox is worth. -/
noncomputable def Try.pinned : Pinned := { name := "ytfpdejkcjijmmaa", sum := "1093075223130d9a017d1786737ff8bd18ed66ff4af63fb819dd31c022cbdde7", checked := Try.checked }
namespace Rows
def none {H : Type} : Left H := { results := [], args := [] }

/-- 'headgatelaw17.TablePlays': WHATEVER THE INPUT: true; the input reads as it did. -/
def tablePlaysSpec : ChangeSpec := { name := "tablePlays", fn := fun _ => fun
  | [d] => { results := [.lit (.bool true)], args := [d] }
  | _ => none }
def tablePlaysRow : OpenClaim := { program := "ytfpdejkcjijmmaa", sum := "1093075223130d9a017d1786737ff8bd18ed66ff4af63fb819dd31c022cbdde7", func := "headgate/headgatelaw17.TablePlays", spec := "tablePlays", inPlace := ["maps.clone", "internal/bytealg.abigen_runtime_cmpstring"], unfollowed := true, recurses := true, apart := false }
def TablePlaysSaid : Prop := tablePlaysRow.holds Try.pinned (OpenSpec.ofChange tablePlaysSpec)

/-- ITS FALSE NEIGHBOUR: 'it returns false'. Refute it at one input. -/
def tablePlaysWrong : ChangeSpec := { name := "tablePlays", fn := fun _ => fun
  | [d] => { results := [.lit (.bool false)], args := [d] }
  | _ => none }
def TablePlaysWrongFalsely : Prop := tablePlaysRow.holds Try.pinned (OpenSpec.ofChange tablePlaysWrong)

/-- 'headgatelaw17.TableStops': WHATEVER THE INPUT: true; the input reads as it did. -/
def tableStopsSpec : ChangeSpec := { name := "tableStops", fn := fun _ => fun
  | [d1, d2] => { results := [.lit (.bool true)], args := [d1, d2] }
  | _ => none }
def tableStopsRow : OpenClaim := { program := "ytfpdejkcjijmmaa", sum := "1093075223130d9a017d1786737ff8bd18ed66ff4af63fb819dd31c022cbdde7", func := "headgate/headgatelaw17.TableStops", spec := "tableStops", inPlace := ["maps.clone", "internal/bytealg.abigen_runtime_cmpstring"], unfollowed := true, recurses := true, apart := false }
def TableStopsSaid : Prop := tableStopsRow.holds Try.pinned (OpenSpec.ofChange tableStopsSpec)

/-- ITS FALSE NEIGHBOUR: 'it returns false'. Refute it at one input. -/
def tableStopsWrong : ChangeSpec := { name := "tableStops", fn := fun _ => fun
  | [d1, d2] => { results := [.lit (.bool false)], args := [d1, d2] }
  | _ => none }
def TableStopsWrongFalsely : Prop := tableStopsRow.holds Try.pinned (OpenSpec.ofChange tableStopsWrong)

/-- 'headgatelaw17.TableDiffs': WHATEVER THE INPUT: true; the input reads as it did. -/
def tableDiffsSpec : ChangeSpec := { name := "tableDiffs", fn := fun _ => fun
  | [d1, d2, d3] => { results := [.lit (.bool true)], args := [d1, d2, d3] }
  | _ => none }
def tableDiffsRow : OpenClaim := { program := "ytfpdejkcjijmmaa", sum := "1093075223130d9a017d1786737ff8bd18ed66ff4af63fb819dd31c022cbdde7", func := "headgate/headgatelaw17.TableDiffs", spec := "tableDiffs", inPlace := ["maps.clone", "internal/bytealg.abigen_runtime_cmpstring"], unfollowed := true, recurses := true, apart := false }
def TableDiffsSaid : Prop := tableDiffsRow.holds Try.pinned (OpenSpec.ofChange tableDiffsSpec)

/-- ITS FALSE NEIGHBOUR: 'it returns false'. Refute it at one input. -/
def tableDiffsWrong : ChangeSpec := { name := "tableDiffs", fn := fun _ => fun
  | [d1, d2, d3] => { results := [.lit (.bool false)], args := [d1, d2, d3] }
  | _ => none }
def TableDiffsWrongFalsely : Prop := tableDiffsRow.holds Try.pinned (OpenSpec.ofChange tableDiffsWrong)

/-- 'headgatelaw17.TableBack': WHATEVER THE INPUT: true; the input reads as it did. -/
def tableBackSpec : ChangeSpec := { name := "tableBack", fn := fun _ => fun
  | [d1, d2] => { results := [.lit (.bool true)], args := [d1, d2] }
  | _ => none }
def tableBackRow : OpenClaim := { program := "ytfpdejkcjijmmaa", sum := "1093075223130d9a017d1786737ff8bd18ed66ff4af63fb819dd31c022cbdde7", func := "headgate/headgatelaw17.TableBack", spec := "tableBack", inPlace := ["maps.clone", "internal/bytealg.abigen_runtime_cmpstring"], unfollowed := true, recurses := true, apart := false }
def TableBackSaid : Prop := tableBackRow.holds Try.pinned (OpenSpec.ofChange tableBackSpec)

/-- ITS FALSE NEIGHBOUR: 'it returns false'. Refute it at one input. -/
def tableBackWrong : ChangeSpec := { name := "tableBack", fn := fun _ => fun
  | [d1, d2] => { results := [.lit (.bool false)], args := [d1, d2] }
  | _ => none }
def TableBackWrongFalsely : Prop := tableBackRow.holds Try.pinned (OpenSpec.ofChange tableBackWrong)

/-- 'headgatelaw17.TableInts': WHATEVER THE INPUT: true; the input reads as it did. -/
def tableIntsSpec : ChangeSpec := { name := "tableInts", fn := fun _ => fun
  | [d1, d2] => { results := [.lit (.bool true)], args := [d1, d2] }
  | _ => none }
def tableIntsRow : OpenClaim := { program := "ytfpdejkcjijmmaa", sum := "1093075223130d9a017d1786737ff8bd18ed66ff4af63fb819dd31c022cbdde7", func := "headgate/headgatelaw17.TableInts", spec := "tableInts", inPlace := ["maps.clone", "internal/bytealg.abigen_runtime_cmpstring"], unfollowed := true, recurses := true, apart := false }
def TableIntsSaid : Prop := tableIntsRow.holds Try.pinned (OpenSpec.ofChange tableIntsSpec)

/-- ITS FALSE NEIGHBOUR: 'it returns false'. Refute it at one input. -/
def tableIntsWrong : ChangeSpec := { name := "tableInts", fn := fun _ => fun
  | [d1, d2] => { results := [.lit (.bool false)], args := [d1, d2] }
  | _ => none }
def TableIntsWrongFalsely : Prop := tableIntsRow.holds Try.pinned (OpenSpec.ofChange tableIntsWrong)

/- THE SECOND FORM. 'bulk': how many values and letters a reading holds, each counted each time it is reached (what is shared counts as often as it is met; a slice's spare places count too). A statement '..UptoSaid' is the law's where the arguments, and the package variables that the reading takes, are together of bulk at most 1048576: NARROWER than '..Said'. Prove '..Said' where nothing that the law and all that it calls make is longer than what came in: it says more and counts as full. Else prove '..UptoSaid'. A law counts once. -/
mutual
def uptoBulk {H : Type} : DataW H → Nat
  | .lit (.string bytes) => bytes.length + 1
  | .lit _ => 1
  | .nil => 1
  | .ptr d => uptoBulk d + 1
  | .slice elems spare => uptoBulkAll elems + uptoBulkAll spare + 1
  | .agg parts => uptoBulkAll parts + 1
  | .iface _ d => uptoBulk d + 1
  | .map entries => uptoBulkEntries entries + 1
  | .held _ => 1
def uptoBulkAll {H : Type} : List (DataW H) → Nat
  | [] => 0
  | d :: r => uptoBulk d + uptoBulkAll r
def uptoBulkEntries {H : Type} : List (Lit × DataW H) → Nat
  | [] => 0
  | x :: r => uptoBulkEntry x + uptoBulkEntries r
def uptoBulkEntry {H : Type} : Lit × DataW H → Nat
  | (.string bytes, d) => bytes.length + uptoBulk d + 1
  | (_, d) => uptoBulk d + 1
 end
def uptoSmall : (H : Type) → List (DataW H) → Bool := fun _ ds => decide (uptoBulkAll ds ≤ 1048576)
def OpenSpec.upto (s : _root_.Go.ChangeSpec) : _root_.Go.OpenSpec := { _root_.Go.OpenSpec.ofChange s with cond := some uptoSmall }

/-- 'headgatelaw17.TablePlays', WHERE WHAT IT READS IS OF BULK AT MOST 1048576: true; the input reads as it did. -/
def tablePlaysUptoRow : OpenClaim := { program := "ytfpdejkcjijmmaa", sum := "1093075223130d9a017d1786737ff8bd18ed66ff4af63fb819dd31c022cbdde7", func := "headgate/headgatelaw17.TablePlays", spec := "tablePlays", inPlace := ["maps.clone", "internal/bytealg.abigen_runtime_cmpstring"], unfollowed := true, recurses := true, apart := false, narrowed := true }
def TablePlaysUptoSaid : Prop := tablePlaysUptoRow.holds Try.pinned (OpenSpec.upto tablePlaysSpec)

/-- 'headgatelaw17.TableStops', WHERE WHAT IT READS IS OF BULK AT MOST 1048576: true; the input reads as it did. -/
def tableStopsUptoRow : OpenClaim := { program := "ytfpdejkcjijmmaa", sum := "1093075223130d9a017d1786737ff8bd18ed66ff4af63fb819dd31c022cbdde7", func := "headgate/headgatelaw17.TableStops", spec := "tableStops", inPlace := ["maps.clone", "internal/bytealg.abigen_runtime_cmpstring"], unfollowed := true, recurses := true, apart := false, narrowed := true }
def TableStopsUptoSaid : Prop := tableStopsUptoRow.holds Try.pinned (OpenSpec.upto tableStopsSpec)

/-- 'headgatelaw17.TableDiffs', WHERE WHAT IT READS IS OF BULK AT MOST 1048576: true; the input reads as it did. -/
def tableDiffsUptoRow : OpenClaim := { program := "ytfpdejkcjijmmaa", sum := "1093075223130d9a017d1786737ff8bd18ed66ff4af63fb819dd31c022cbdde7", func := "headgate/headgatelaw17.TableDiffs", spec := "tableDiffs", inPlace := ["maps.clone", "internal/bytealg.abigen_runtime_cmpstring"], unfollowed := true, recurses := true, apart := false, narrowed := true }
def TableDiffsUptoSaid : Prop := tableDiffsUptoRow.holds Try.pinned (OpenSpec.upto tableDiffsSpec)

/-- 'headgatelaw17.TableBack', WHERE WHAT IT READS IS OF BULK AT MOST 1048576: true; the input reads as it did. -/
def tableBackUptoRow : OpenClaim := { program := "ytfpdejkcjijmmaa", sum := "1093075223130d9a017d1786737ff8bd18ed66ff4af63fb819dd31c022cbdde7", func := "headgate/headgatelaw17.TableBack", spec := "tableBack", inPlace := ["maps.clone", "internal/bytealg.abigen_runtime_cmpstring"], unfollowed := true, recurses := true, apart := false, narrowed := true }
def TableBackUptoSaid : Prop := tableBackUptoRow.holds Try.pinned (OpenSpec.upto tableBackSpec)

/-- 'headgatelaw17.TableInts', WHERE WHAT IT READS IS OF BULK AT MOST 1048576: true; the input reads as it did. -/
def tableIntsUptoRow : OpenClaim := { program := "ytfpdejkcjijmmaa", sum := "1093075223130d9a017d1786737ff8bd18ed66ff4af63fb819dd31c022cbdde7", func := "headgate/headgatelaw17.TableInts", spec := "tableInts", inPlace := ["maps.clone", "internal/bytealg.abigen_runtime_cmpstring"], unfollowed := true, recurses := true, apart := false, narrowed := true }
def TableIntsUptoSaid : Prop := tableIntsUptoRow.holds Try.pinned (OpenSpec.upto tableIntsSpec)

end Rows
end Go.Proofs.Ytfpdejkcjijmmaa
