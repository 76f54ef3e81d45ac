/-
  No cell of these rows narrows 'for every input' (looked for: loops, veiled, ifaces, maps, wideKeys, modest, calm, conditions, laid).
  DERIVED. THE GIVEN ROWS OF THIS SEAT. 4 by the template 'for every input the law returns true; each argument reads behind the call as it read before'; 0 by the template 'total and deterministic' (their statements: YtibdiikcigokjaaGreatTotals.lean).
  GIVEN WITH THE SEED: the statements are not yours to turn. If you find one false, say at which input.
  Laid BY PROGRAM, IN A SANDBOX (cutbox-rows.mjs): the forced cells as the released guide's own fill.sh prints them over the translation fdbefdb86410986e… (all of the seat's roots in one cut). By AI agents, Wed Nov 11 2026. No macro, syntax, notation, axiom, sorry.
-/
import Derived.Test.YtibdiikcigokjaaGreatChecked
import GoSem.Claim
import GoSem.ClaimJoined
import GoSem.ClaimMapViews
import Derived.JoinedTies
import Derived.KernelRfl
namespace Go.Proofs.YtibdiikcigokjaaGreat
/- THE CELL 'sum', in the pinned program and in every row, IS THE sha256 OF THE DUMP (.gsa) THAT YtibdiikcigokjaaGreatProg.lean LOADS. Nothing in Lean hashes anything: it is a label: what it is worth is what the hold of that sum in a sandbox is worth. -/
noncomputable def Tryz.pinned : Pinned := { name := "ytibdiikcigokjaagreat", sum := "fdbefdb86410986ecc2f4528942914b7c86f232de0de3bbcf04604d1fba15179", checked := Tryz.checked }
namespace Rows
def none {H : Type} : Left H := { results := [], args := [] }

/-- 'headgatelaw18.StateNil': WHATEVER THE INPUT: true; the input reads as it did. -/
def stateNilSpec : ChangeSpec := { name := "stateNil", fn := fun _ => fun
  | [d] => { results := [.lit (.bool true)], args := [d] }
  | _ => none }
def stateNilRow : OpenClaim := { program := "ytibdiikcigokjaagreat", sum := "fdbefdb86410986ecc2f4528942914b7c86f232de0de3bbcf04604d1fba15179", func := "headgate/headgatelaw18.StateNil", spec := "stateNil", inPlace := ["maps.clone", "internal/bytealg.IndexByteString", "internal/bytealg.abigen_runtime_cmpstring"], unfollowed := true, recurses := true, apart := false }
def StateNilSaid : Prop := stateNilRow.holds Tryz.pinned (OpenSpec.ofChange stateNilSpec)

/-- ITS FALSE NEIGHBOUR: 'it returns false'. Refute it at one input. -/
def stateNilWrong : ChangeSpec := { name := "stateNil", fn := fun _ => fun
  | [d] => { results := [.lit (.bool false)], args := [d] }
  | _ => none }
def StateNilWrongFalsely : Prop := stateNilRow.holds Tryz.pinned (OpenSpec.ofChange stateNilWrong)

/-- 'headgatelaw18.StateSnaps': WHATEVER THE INPUT: true; the input reads as it did. -/
def stateSnapsSpec : ChangeSpec := { name := "stateSnaps", fn := fun _ => fun
  | [d1, d2] => { results := [.lit (.bool true)], args := [d1, d2] }
  | _ => none }
def stateSnapsRow : OpenClaim := { program := "ytibdiikcigokjaagreat", sum := "fdbefdb86410986ecc2f4528942914b7c86f232de0de3bbcf04604d1fba15179", func := "headgate/headgatelaw18.StateSnaps", spec := "stateSnaps", inPlace := ["maps.clone", "internal/bytealg.IndexByteString", "internal/bytealg.abigen_runtime_cmpstring"], unfollowed := true, recurses := true, apart := false }
def StateSnapsSaid : Prop := stateSnapsRow.holds Tryz.pinned (OpenSpec.ofChange stateSnapsSpec)

/-- ITS FALSE NEIGHBOUR: 'it returns false'. Refute it at one input. -/
def stateSnapsWrong : ChangeSpec := { name := "stateSnaps", fn := fun _ => fun
  | [d1, d2] => { results := [.lit (.bool false)], args := [d1, d2] }
  | _ => none }
def StateSnapsWrongFalsely : Prop := stateSnapsRow.holds Tryz.pinned (OpenSpec.ofChange stateSnapsWrong)

/-- 'headgatelaw18.StateKeeps': WHATEVER THE INPUT: true; the input reads as it did. -/
def stateKeepsSpec : ChangeSpec := { name := "stateKeeps", fn := fun _ => fun
  | [d1, d2, d3, d4, d5] => { results := [.lit (.bool true)], args := [d1, d2, d3, d4, d5] }
  | _ => none }
def stateKeepsRow : OpenClaim := { program := "ytibdiikcigokjaagreat", sum := "fdbefdb86410986ecc2f4528942914b7c86f232de0de3bbcf04604d1fba15179", func := "headgate/headgatelaw18.StateKeeps", spec := "stateKeeps", inPlace := ["maps.clone", "internal/bytealg.IndexByteString", "internal/bytealg.abigen_runtime_cmpstring"], unfollowed := true, recurses := true, apart := false }
def StateKeepsSaid : Prop := stateKeepsRow.holds Tryz.pinned (OpenSpec.ofChange stateKeepsSpec)

/-- ITS FALSE NEIGHBOUR: 'it returns false'. Refute it at one input. -/
def stateKeepsWrong : ChangeSpec := { name := "stateKeeps", fn := fun _ => fun
  | [d1, d2, d3, d4, d5] => { results := [.lit (.bool false)], args := [d1, d2, d3, d4, d5] }
  | _ => none }
def StateKeepsWrongFalsely : Prop := stateKeepsRow.holds Tryz.pinned (OpenSpec.ofChange stateKeepsWrong)

/-- 'headgatelaw18.StatePlays': WHATEVER THE INPUT: true; the input reads as it did. -/
def statePlaysSpec : ChangeSpec := { name := "statePlays", fn := fun _ => fun
  | [d1, d2] => { results := [.lit (.bool true)], args := [d1, d2] }
  | _ => none }
def statePlaysRow : OpenClaim := { program := "ytibdiikcigokjaagreat", sum := "fdbefdb86410986ecc2f4528942914b7c86f232de0de3bbcf04604d1fba15179", func := "headgate/headgatelaw18.StatePlays", spec := "statePlays", inPlace := ["maps.clone", "internal/bytealg.IndexByteString", "internal/bytealg.abigen_runtime_cmpstring"], unfollowed := true, recurses := true, apart := false }
def StatePlaysSaid : Prop := statePlaysRow.holds Tryz.pinned (OpenSpec.ofChange statePlaysSpec)

/-- ITS FALSE NEIGHBOUR: 'it returns false'. Refute it at one input. -/
def statePlaysWrong : ChangeSpec := { name := "statePlays", fn := fun _ => fun
  | [d1, d2] => { results := [.lit (.bool false)], args := [d1, d2] }
  | _ => none }
def StatePlaysWrongFalsely : Prop := statePlaysRow.holds Tryz.pinned (OpenSpec.ofChange statePlaysWrong)

/- THE SECOND FORM. 'bulk': how many values and letters a reading holds, each counted each time it is reached (what is shared counts as often as it is met; a slice's spare places count too). A statement '..UptoSaid' is the law's where the arguments, and the package variables that the reading takes, are together of bulk at most 1048576: NARROWER than '..Said'. Prove '..Said' where nothing that the law and all that it calls make is longer than what came in: it says more and counts as full. Else prove '..UptoSaid'. A law counts once. -/
mutual
def uptoBulk {H : Type} : DataW H → Nat
  | .lit (.string bytes) => bytes.length + 1
  | .lit _ => 1
  | .nil => 1
  | .ptr d => uptoBulk d + 1
  | .slice elems spare => uptoBulkAll elems + uptoBulkAll spare + 1
  | .agg parts => uptoBulkAll parts + 1
  | .iface _ d => uptoBulk d + 1
  | .map entries => uptoBulkEntries entries + 1
  | .held _ => 1
def uptoBulkAll {H : Type} : List (DataW H) → Nat
  | [] => 0
  | d :: r => uptoBulk d + uptoBulkAll r
def uptoBulkEntries {H : Type} : List (Lit × DataW H) → Nat
  | [] => 0
  | x :: r => uptoBulkEntry x + uptoBulkEntries r
def uptoBulkEntry {H : Type} : Lit × DataW H → Nat
  | (.string bytes, d) => bytes.length + uptoBulk d + 1
  | (_, d) => uptoBulk d + 1
 end
def uptoSmall : (H : Type) → List (DataW H) → Bool := fun _ ds => decide (uptoBulkAll ds ≤ 1048576)
def OpenSpec.upto (s : _root_.Go.ChangeSpec) : _root_.Go.OpenSpec := { _root_.Go.OpenSpec.ofChange s with cond := some uptoSmall }

/-- 'headgatelaw18.StateNil', WHERE WHAT IT READS IS OF BULK AT MOST 1048576: true; the input reads as it did. -/
def stateNilUptoRow : OpenClaim := { program := "ytibdiikcigokjaagreat", sum := "fdbefdb86410986ecc2f4528942914b7c86f232de0de3bbcf04604d1fba15179", func := "headgate/headgatelaw18.StateNil", spec := "stateNil", inPlace := ["maps.clone", "internal/bytealg.IndexByteString", "internal/bytealg.abigen_runtime_cmpstring"], unfollowed := true, recurses := true, apart := false, narrowed := true }
def StateNilUptoSaid : Prop := stateNilUptoRow.holds Tryz.pinned (OpenSpec.upto stateNilSpec)

/-- 'headgatelaw18.StateSnaps', WHERE WHAT IT READS IS OF BULK AT MOST 1048576: true; the input reads as it did. -/
def stateSnapsUptoRow : OpenClaim := { program := "ytibdiikcigokjaagreat", sum := "fdbefdb86410986ecc2f4528942914b7c86f232de0de3bbcf04604d1fba15179", func := "headgate/headgatelaw18.StateSnaps", spec := "stateSnaps", inPlace := ["maps.clone", "internal/bytealg.IndexByteString", "internal/bytealg.abigen_runtime_cmpstring"], unfollowed := true, recurses := true, apart := false, narrowed := true }
def StateSnapsUptoSaid : Prop := stateSnapsUptoRow.holds Tryz.pinned (OpenSpec.upto stateSnapsSpec)

/-- 'headgatelaw18.StateKeeps', WHERE WHAT IT READS IS OF BULK AT MOST 1048576: true; the input reads as it did. -/
def stateKeepsUptoRow : OpenClaim := { program := "ytibdiikcigokjaagreat", sum := "fdbefdb86410986ecc2f4528942914b7c86f232de0de3bbcf04604d1fba15179", func := "headgate/headgatelaw18.StateKeeps", spec := "stateKeeps", inPlace := ["maps.clone", "internal/bytealg.IndexByteString", "internal/bytealg.abigen_runtime_cmpstring"], unfollowed := true, recurses := true, apart := false, narrowed := true }
def StateKeepsUptoSaid : Prop := stateKeepsUptoRow.holds Tryz.pinned (OpenSpec.upto stateKeepsSpec)

/-- 'headgatelaw18.StatePlays', WHERE WHAT IT READS IS OF BULK AT MOST 1048576: true; the input reads as it did. -/
def statePlaysUptoRow : OpenClaim := { program := "ytibdiikcigokjaagreat", sum := "fdbefdb86410986ecc2f4528942914b7c86f232de0de3bbcf04604d1fba15179", func := "headgate/headgatelaw18.StatePlays", spec := "statePlays", inPlace := ["maps.clone", "internal/bytealg.IndexByteString", "internal/bytealg.abigen_runtime_cmpstring"], unfollowed := true, recurses := true, apart := false, narrowed := true }
def StatePlaysUptoSaid : Prop := statePlaysUptoRow.holds Tryz.pinned (OpenSpec.upto statePlaysSpec)

end Rows
end Go.Proofs.YtibdiikcigokjaaGreat
