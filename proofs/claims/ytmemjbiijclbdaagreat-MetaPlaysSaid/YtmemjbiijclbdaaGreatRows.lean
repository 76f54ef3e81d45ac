/-
  No cell of these rows narrows 'for every input' (looked for: loops, veiled, ifaces, maps, wideKeys, modest, calm, conditions, laid).
  DERIVED. THE GIVEN ROWS OF THIS SEAT. 5 by the template 'for every input the law returns true; each argument reads behind the call as it read before'; 0 by the template 'total and deterministic' (their statements: YtmemjbiijclbdaaGreatTotals.lean).
  GIVEN WITH THE SEED: the statements are not yours to turn. If you find one false, say at which input.
  Laid BY PROGRAM, IN A SANDBOX (cutbox-rows.mjs): the forced cells as the released guide's own fill.sh prints them over the translation e2d628daa5680c29… (all of the seat's roots in one cut). By AI agents, Wed Nov 11 2026. No macro, syntax, notation, axiom, sorry.
-/
import Derived.Test.YtmemjbiijclbdaaGreatChecked
import GoSem.Claim
import GoSem.ClaimJoined
import GoSem.ClaimMapViews
import Derived.JoinedTies
import Derived.KernelRfl
namespace Go.Proofs.YtmemjbiijclbdaaGreat
/- THE CELL 'sum', in the pinned program and in every row, IS THE sha256 OF THE DUMP (.gsa) THAT YtmemjbiijclbdaaGreatProg.lean LOADS. Nothing in Lean hashes anything: it is a label: what it is worth is what the hold of that sum in a sandbox is worth. -/
noncomputable def Tryz.pinned : Pinned := { name := "ytmemjbiijclbdaagreat", sum := "e2d628daa5680c2984f8940a22e3e0d5ae060efb326daa500dc36a6022bb9594", checked := Tryz.checked }
namespace Rows
def none {H : Type} : Left H := { results := [], args := [] }

/-- 'headgatelaw09.MetaOnce': WHATEVER THE INPUT: true; the input reads as it did. -/
def metaOnceSpec : ChangeSpec := { name := "metaOnce", fn := fun _ => fun
  | [d1, d2, d3, d4] => { results := [.lit (.bool true)], args := [d1, d2, d3, d4] }
  | _ => none }
def metaOnceRow : OpenClaim := { program := "ytmemjbiijclbdaagreat", sum := "e2d628daa5680c2984f8940a22e3e0d5ae060efb326daa500dc36a6022bb9594", func := "headgate/headgatelaw09.MetaOnce", spec := "metaOnce", inPlace := ["maps.clone", "internal/bytealg.IndexByteString"], unfollowed := true, recurses := true, apart := false }
def MetaOnceSaid : Prop := metaOnceRow.holds Tryz.pinned (OpenSpec.ofChange metaOnceSpec)

/-- ITS FALSE NEIGHBOUR: 'it returns false'. Refute it at one input. -/
def metaOnceWrong : ChangeSpec := { name := "metaOnce", fn := fun _ => fun
  | [d1, d2, d3, d4] => { results := [.lit (.bool false)], args := [d1, d2, d3, d4] }
  | _ => none }
def MetaOnceWrongFalsely : Prop := metaOnceRow.holds Tryz.pinned (OpenSpec.ofChange metaOnceWrong)

/-- 'headgatelaw09.MetaFolds': WHATEVER THE INPUT: true; the input reads as it did. -/
def metaFoldsSpec : ChangeSpec := { name := "metaFolds", fn := fun _ => fun
  | [d1, d2] => { results := [.lit (.bool true)], args := [d1, d2] }
  | _ => none }
def metaFoldsRow : OpenClaim := { program := "ytmemjbiijclbdaagreat", sum := "e2d628daa5680c2984f8940a22e3e0d5ae060efb326daa500dc36a6022bb9594", func := "headgate/headgatelaw09.MetaFolds", spec := "metaFolds", inPlace := ["maps.clone", "internal/bytealg.IndexByteString"], unfollowed := true, recurses := true, apart := false }
def MetaFoldsSaid : Prop := metaFoldsRow.holds Tryz.pinned (OpenSpec.ofChange metaFoldsSpec)

/-- ITS FALSE NEIGHBOUR: 'it returns false'. Refute it at one input. -/
def metaFoldsWrong : ChangeSpec := { name := "metaFolds", fn := fun _ => fun
  | [d1, d2] => { results := [.lit (.bool false)], args := [d1, d2] }
  | _ => none }
def MetaFoldsWrongFalsely : Prop := metaFoldsRow.holds Tryz.pinned (OpenSpec.ofChange metaFoldsWrong)

/-- 'headgatelaw09.MetaNil': WHATEVER THE INPUT: true; the input reads as it did. -/
def metaNilSpec : ChangeSpec := { name := "metaNil", fn := fun _ => fun
  | [d1, d2] => { results := [.lit (.bool true)], args := [d1, d2] }
  | _ => none }
def metaNilRow : OpenClaim := { program := "ytmemjbiijclbdaagreat", sum := "e2d628daa5680c2984f8940a22e3e0d5ae060efb326daa500dc36a6022bb9594", func := "headgate/headgatelaw09.MetaNil", spec := "metaNil", inPlace := ["maps.clone", "internal/bytealg.IndexByteString"], unfollowed := true, recurses := true, apart := false }
def MetaNilSaid : Prop := metaNilRow.holds Tryz.pinned (OpenSpec.ofChange metaNilSpec)

/-- ITS FALSE NEIGHBOUR: 'it returns false'. Refute it at one input. -/
def metaNilWrong : ChangeSpec := { name := "metaNil", fn := fun _ => fun
  | [d1, d2] => { results := [.lit (.bool false)], args := [d1, d2] }
  | _ => none }
def MetaNilWrongFalsely : Prop := metaNilRow.holds Tryz.pinned (OpenSpec.ofChange metaNilWrong)

/-- 'headgatelaw09.MetaKeeps': WHATEVER THE INPUT: true; the input reads as it did. -/
def metaKeepsSpec : ChangeSpec := { name := "metaKeeps", fn := fun _ => fun
  | [d1, d2, d3] => { results := [.lit (.bool true)], args := [d1, d2, d3] }
  | _ => none }
def metaKeepsRow : OpenClaim := { program := "ytmemjbiijclbdaagreat", sum := "e2d628daa5680c2984f8940a22e3e0d5ae060efb326daa500dc36a6022bb9594", func := "headgate/headgatelaw09.MetaKeeps", spec := "metaKeeps", inPlace := ["maps.clone", "internal/bytealg.IndexByteString"], unfollowed := true, recurses := true, apart := false }
def MetaKeepsSaid : Prop := metaKeepsRow.holds Tryz.pinned (OpenSpec.ofChange metaKeepsSpec)

/-- ITS FALSE NEIGHBOUR: 'it returns false'. Refute it at one input. -/
def metaKeepsWrong : ChangeSpec := { name := "metaKeeps", fn := fun _ => fun
  | [d1, d2, d3] => { results := [.lit (.bool false)], args := [d1, d2, d3] }
  | _ => none }
def MetaKeepsWrongFalsely : Prop := metaKeepsRow.holds Tryz.pinned (OpenSpec.ofChange metaKeepsWrong)

/-- 'headgatelaw09.MetaPlays': WHATEVER THE INPUT: true; the input reads as it did. -/
def metaPlaysSpec : ChangeSpec := { name := "metaPlays", fn := fun _ => fun
  | [d1, d2] => { results := [.lit (.bool true)], args := [d1, d2] }
  | _ => none }
def metaPlaysRow : OpenClaim := { program := "ytmemjbiijclbdaagreat", sum := "e2d628daa5680c2984f8940a22e3e0d5ae060efb326daa500dc36a6022bb9594", func := "headgate/headgatelaw09.MetaPlays", spec := "metaPlays", inPlace := ["maps.clone", "internal/bytealg.IndexByteString"], unfollowed := true, recurses := true, apart := false }
def MetaPlaysSaid : Prop := metaPlaysRow.holds Tryz.pinned (OpenSpec.ofChange metaPlaysSpec)

/-- ITS FALSE NEIGHBOUR: 'it returns false'. Refute it at one input. -/
def metaPlaysWrong : ChangeSpec := { name := "metaPlays", fn := fun _ => fun
  | [d1, d2] => { results := [.lit (.bool false)], args := [d1, d2] }
  | _ => none }
def MetaPlaysWrongFalsely : Prop := metaPlaysRow.holds Tryz.pinned (OpenSpec.ofChange metaPlaysWrong)

/- THE SECOND FORM. 'bulk': how many values and letters a reading holds, each counted each time it is reached (what is shared counts as often as it is met; a slice's spare places count too). A statement '..UptoSaid' is the law's where the arguments, and the package variables that the reading takes, are together of bulk at most 1048576: NARROWER than '..Said'. Prove '..Said' where nothing that the law and all that it calls make is longer than what came in: it says more and counts as full. Else prove '..UptoSaid'. A law counts once. -/
mutual
def uptoBulk {H : Type} : DataW H → Nat
  | .lit (.string bytes) => bytes.length + 1
  | .lit _ => 1
  | .nil => 1
  | .ptr d => uptoBulk d + 1
  | .slice elems spare => uptoBulkAll elems + uptoBulkAll spare + 1
  | .agg parts => uptoBulkAll parts + 1
  | .iface _ d => uptoBulk d + 1
  | .map entries => uptoBulkEntries entries + 1
  | .held _ => 1
def uptoBulkAll {H : Type} : List (DataW H) → Nat
  | [] => 0
  | d :: r => uptoBulk d + uptoBulkAll r
def uptoBulkEntries {H : Type} : List (Lit × DataW H) → Nat
  | [] => 0
  | x :: r => uptoBulkEntry x + uptoBulkEntries r
def uptoBulkEntry {H : Type} : Lit × DataW H → Nat
  | (.string bytes, d) => bytes.length + uptoBulk d + 1
  | (_, d) => uptoBulk d + 1
 end
def uptoSmall : (H : Type) → List (DataW H) → Bool := fun _ ds => decide (uptoBulkAll ds ≤ 1048576)
def OpenSpec.upto (s : _root_.Go.ChangeSpec) : _root_.Go.OpenSpec := { _root_.Go.OpenSpec.ofChange s with cond := some uptoSmall }

/-- 'headgatelaw09.MetaOnce', WHERE WHAT IT READS IS OF BULK AT MOST 1048576: true; the input reads as it did. -/
def metaOnceUptoRow : OpenClaim := { program := "ytmemjbiijclbdaagreat", sum := "e2d628daa5680c2984f8940a22e3e0d5ae060efb326daa500dc36a6022bb9594", func := "headgate/headgatelaw09.MetaOnce", spec := "metaOnce", inPlace := ["maps.clone", "internal/bytealg.IndexByteString"], unfollowed := true, recurses := true, apart := false, narrowed := true }
def MetaOnceUptoSaid : Prop := metaOnceUptoRow.holds Tryz.pinned (OpenSpec.upto metaOnceSpec)

/-- 'headgatelaw09.MetaFolds', WHERE WHAT IT READS IS OF BULK AT MOST 1048576: true; the input reads as it did. -/
def metaFoldsUptoRow : OpenClaim := { program := "ytmemjbiijclbdaagreat", sum := "e2d628daa5680c2984f8940a22e3e0d5ae060efb326daa500dc36a6022bb9594", func := "headgate/headgatelaw09.MetaFolds", spec := "metaFolds", inPlace := ["maps.clone", "internal/bytealg.IndexByteString"], unfollowed := true, recurses := true, apart := false, narrowed := true }
def MetaFoldsUptoSaid : Prop := metaFoldsUptoRow.holds Tryz.pinned (OpenSpec.upto metaFoldsSpec)

/-- 'headgatelaw09.MetaNil', WHERE WHAT IT READS IS OF BULK AT MOST 1048576: true; the input reads as it did. -/
def metaNilUptoRow : OpenClaim := { program := "ytmemjbiijclbdaagreat", sum := "e2d628daa5680c2984f8940a22e3e0d5ae060efb326daa500dc36a6022bb9594", func := "headgate/headgatelaw09.MetaNil", spec := "metaNil", inPlace := ["maps.clone", "internal/bytealg.IndexByteString"], unfollowed := true, recurses := true, apart := false, narrowed := true }
def MetaNilUptoSaid : Prop := metaNilUptoRow.holds Tryz.pinned (OpenSpec.upto metaNilSpec)

/-- 'headgatelaw09.MetaKeeps', WHERE WHAT IT READS IS OF BULK AT MOST 1048576: true; the input reads as it did. -/
def metaKeepsUptoRow : OpenClaim := { program := "ytmemjbiijclbdaagreat", sum := "e2d628daa5680c2984f8940a22e3e0d5ae060efb326daa500dc36a6022bb9594", func := "headgate/headgatelaw09.MetaKeeps", spec := "metaKeeps", inPlace := ["maps.clone", "internal/bytealg.IndexByteString"], unfollowed := true, recurses := true, apart := false, narrowed := true }
def MetaKeepsUptoSaid : Prop := metaKeepsUptoRow.holds Tryz.pinned (OpenSpec.upto metaKeepsSpec)

/-- 'headgatelaw09.MetaPlays', WHERE WHAT IT READS IS OF BULK AT MOST 1048576: true; the input reads as it did. -/
def metaPlaysUptoRow : OpenClaim := { program := "ytmemjbiijclbdaagreat", sum := "e2d628daa5680c2984f8940a22e3e0d5ae060efb326daa500dc36a6022bb9594", func := "headgate/headgatelaw09.MetaPlays", spec := "metaPlays", inPlace := ["maps.clone", "internal/bytealg.IndexByteString"], unfollowed := true, recurses := true, apart := false, narrowed := true }
def MetaPlaysUptoSaid : Prop := metaPlaysUptoRow.holds Tryz.pinned (OpenSpec.upto metaPlaysSpec)

end Rows
end Go.Proofs.YtmemjbiijclbdaaGreat
