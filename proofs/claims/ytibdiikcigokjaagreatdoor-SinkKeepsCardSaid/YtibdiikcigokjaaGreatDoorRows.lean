/-
  NARROWER THAN 'FOR EVERY INPUT', by the rows' own cells (each row's printed sentence says how): SinkNil: laid · SinkFolds: laid · SinkKeeps: laid · SinkPlays: laid.
  DERIVED. THE GIVEN ROWS OF THIS SEAT. 4 by the template 'for every input the law returns true; each argument reads behind the call as it read before'; 0 by the template 'total and deterministic' (their statements: YtibdiikcigokjaaGreatDoorTotals.lean).
  GIVEN WITH THE SEED: the statements are not yours to turn. If you find one false, say at which input.
  Laid BY PROGRAM, IN A SANDBOX (cutbox-rows.mjs): the forced cells as the released guide's own fill.sh prints them over the translation 820f9b5ce61095a2… (all of the seat's roots in one cut). By AI agents, Wed Nov 11 2026. No macro, syntax, notation, axiom, sorry.
-/
import Derived.Test.YtibdiikcigokjaaGreatDoorChecked
import GoSem.PinnedTables
import GoSem.Claim
import GoSem.ClaimJoined
import GoSem.ClaimMapViews
import Derived.JoinedTies
import Derived.KernelRfl
namespace Go.Proofs.YtibdiikcigokjaaGreatDoor
/- THE CELL 'sum', in the pinned program and in every row, IS THE sha256 OF THE DUMP (.gsa) THAT YtibdiikcigokjaaGreatDoorProg.lean LOADS. Nothing in Lean hashes anything: it is a label: what it is worth is what the hold of that sum in a sandbox is worth. -/
noncomputable def Tryz.pinned : Pinned := { name := "ytibdiikcigokjaagreatdoor", sum := "820f9b5ce61095a26dc1e672ee6408cd17d98897ad937193c32301a8341c64e2", checked := Tryz.checked }
namespace Rows
def none {H : Type} : Left H := { results := [], args := [] }

/- WHAT THE LISTED PACKAGE-LEVEL VARIABLES READ AS WHEN THE CALL BEGINS. Each datum BY PROGRAM (the guide's laid-datum.mjs) off the statement by which the dump's own 'gosem.cut.vars' lays the variable. In a bare row this is a premise. The card (YtibdiikcigokjaaGreatDoorCards.lean) ties it to the program's text. -/
def laid_unicode_utf8_acceptRanges {H : Type} : DataW H := .agg [.agg [.lit (.int .u8 128), .lit (.int .u8 191)], .agg [.lit (.int .u8 160), .lit (.int .u8 191)], .agg [.lit (.int .u8 128), .lit (.int .u8 159)], .agg [.lit (.int .u8 144), .lit (.int .u8 191)], .agg [.lit (.int .u8 128), .lit (.int .u8 143)], .agg [.lit (.int .u8 0), .lit (.int .u8 0)], .agg [.lit (.int .u8 0), .lit (.int .u8 0)], .agg [.lit (.int .u8 0), .lit (.int .u8 0)], .agg [.lit (.int .u8 0), .lit (.int .u8 0)], .agg [.lit (.int .u8 0), .lit (.int .u8 0)], .agg [.lit (.int .u8 0), .lit (.int .u8 0)], .agg [.lit (.int .u8 0), .lit (.int .u8 0)], .agg [.lit (.int .u8 0), .lit (.int .u8 0)], .agg [.lit (.int .u8 0), .lit (.int .u8 0)], .agg [.lit (.int .u8 0), .lit (.int .u8 0)], .agg [.lit (.int .u8 0), .lit (.int .u8 0)]]
/-- One of Go's own tables, pinned by name: the form's constant. -/
def laid_unicode_utf8_first : DataW Unit := Go.Pinned.utf8First

/-- 'headgatelaw24.SinkNil': WHATEVER THE INPUT: true; the input reads as it did. -/
def sinkNilSpec : ChangeSpec := { name := "sinkNil", fn := fun _ => fun
  | [d1, d2] => { results := [.lit (.bool true)], args := [d1, d2] }
  | _ => none }
def sinkNilRow : OpenClaim := { program := "ytibdiikcigokjaagreatdoor", sum := "820f9b5ce61095a26dc1e672ee6408cd17d98897ad937193c32301a8341c64e2", func := "headgate/headgatelaw24.SinkNil", spec := "sinkNil", inPlace := ["maps.clone", "internal/bytealg.IndexByteString", "internal/bytealg.CountString", "internal/bytealg.IndexString", "internal/abi.NoEscape", "internal/bytealg.MakeNoZero"], unfollowed := true, recurses := true, named := ["internal/bytealg.MaxLen", "unicode/utf8.first", "unicode/utf8.acceptRanges"], apart := false, laid := [("unicode/utf8.acceptRanges", laid_unicode_utf8_acceptRanges), ("unicode/utf8.first", laid_unicode_utf8_first)] }
def SinkNilSaid : Prop := sinkNilRow.holds Tryz.pinned (OpenSpec.ofChange sinkNilSpec)

/-- ITS FALSE NEIGHBOUR: 'it returns false'. Refute it at one input. -/
def sinkNilWrong : ChangeSpec := { name := "sinkNil", fn := fun _ => fun
  | [d1, d2] => { results := [.lit (.bool false)], args := [d1, d2] }
  | _ => none }
def SinkNilWrongFalsely : Prop := sinkNilRow.holds Tryz.pinned (OpenSpec.ofChange sinkNilWrong)

/-- 'headgatelaw24.SinkFolds': WHATEVER THE INPUT: true; the input reads as it did. -/
def sinkFoldsSpec : ChangeSpec := { name := "sinkFolds", fn := fun _ => fun
  | [d1, d2] => { results := [.lit (.bool true)], args := [d1, d2] }
  | _ => none }
def sinkFoldsRow : OpenClaim := { program := "ytibdiikcigokjaagreatdoor", sum := "820f9b5ce61095a26dc1e672ee6408cd17d98897ad937193c32301a8341c64e2", func := "headgate/headgatelaw24.SinkFolds", spec := "sinkFolds", inPlace := ["maps.clone", "internal/bytealg.IndexByteString", "internal/bytealg.CountString", "internal/bytealg.IndexString", "internal/abi.NoEscape", "internal/bytealg.MakeNoZero"], unfollowed := true, recurses := true, named := ["internal/bytealg.MaxLen", "unicode/utf8.first", "unicode/utf8.acceptRanges"], apart := false, laid := [("unicode/utf8.acceptRanges", laid_unicode_utf8_acceptRanges), ("unicode/utf8.first", laid_unicode_utf8_first)] }
def SinkFoldsSaid : Prop := sinkFoldsRow.holds Tryz.pinned (OpenSpec.ofChange sinkFoldsSpec)

/-- ITS FALSE NEIGHBOUR: 'it returns false'. Refute it at one input. -/
def sinkFoldsWrong : ChangeSpec := { name := "sinkFolds", fn := fun _ => fun
  | [d1, d2] => { results := [.lit (.bool false)], args := [d1, d2] }
  | _ => none }
def SinkFoldsWrongFalsely : Prop := sinkFoldsRow.holds Tryz.pinned (OpenSpec.ofChange sinkFoldsWrong)

/-- 'headgatelaw24.SinkKeeps': WHATEVER THE INPUT: true; the input reads as it did. -/
def sinkKeepsSpec : ChangeSpec := { name := "sinkKeeps", fn := fun _ => fun
  | [d1, d2, d3, d4, d5] => { results := [.lit (.bool true)], args := [d1, d2, d3, d4, d5] }
  | _ => none }
def sinkKeepsRow : OpenClaim := { program := "ytibdiikcigokjaagreatdoor", sum := "820f9b5ce61095a26dc1e672ee6408cd17d98897ad937193c32301a8341c64e2", func := "headgate/headgatelaw24.SinkKeeps", spec := "sinkKeeps", inPlace := ["maps.clone", "internal/bytealg.IndexByteString", "internal/bytealg.CountString", "internal/bytealg.IndexString", "internal/abi.NoEscape", "internal/bytealg.MakeNoZero"], unfollowed := true, recurses := true, named := ["internal/bytealg.MaxLen", "unicode/utf8.first", "unicode/utf8.acceptRanges"], apart := false, laid := [("unicode/utf8.acceptRanges", laid_unicode_utf8_acceptRanges), ("unicode/utf8.first", laid_unicode_utf8_first)] }
def SinkKeepsSaid : Prop := sinkKeepsRow.holds Tryz.pinned (OpenSpec.ofChange sinkKeepsSpec)

/-- ITS FALSE NEIGHBOUR: 'it returns false'. Refute it at one input. -/
def sinkKeepsWrong : ChangeSpec := { name := "sinkKeeps", fn := fun _ => fun
  | [d1, d2, d3, d4, d5] => { results := [.lit (.bool false)], args := [d1, d2, d3, d4, d5] }
  | _ => none }
def SinkKeepsWrongFalsely : Prop := sinkKeepsRow.holds Tryz.pinned (OpenSpec.ofChange sinkKeepsWrong)

/-- 'headgatelaw24.SinkPlays': WHATEVER THE INPUT: true; the input reads as it did. -/
def sinkPlaysSpec : ChangeSpec := { name := "sinkPlays", fn := fun _ => fun
  | [d1, d2, d3] => { results := [.lit (.bool true)], args := [d1, d2, d3] }
  | _ => none }
def sinkPlaysRow : OpenClaim := { program := "ytibdiikcigokjaagreatdoor", sum := "820f9b5ce61095a26dc1e672ee6408cd17d98897ad937193c32301a8341c64e2", func := "headgate/headgatelaw24.SinkPlays", spec := "sinkPlays", inPlace := ["maps.clone", "internal/bytealg.IndexByteString", "internal/bytealg.CountString", "internal/bytealg.IndexString", "internal/abi.NoEscape", "internal/bytealg.MakeNoZero"], unfollowed := true, recurses := true, named := ["internal/bytealg.MaxLen", "unicode/utf8.first", "unicode/utf8.acceptRanges"], apart := false, laid := [("unicode/utf8.acceptRanges", laid_unicode_utf8_acceptRanges), ("unicode/utf8.first", laid_unicode_utf8_first)] }
def SinkPlaysSaid : Prop := sinkPlaysRow.holds Tryz.pinned (OpenSpec.ofChange sinkPlaysSpec)

/-- ITS FALSE NEIGHBOUR: 'it returns false'. Refute it at one input. -/
def sinkPlaysWrong : ChangeSpec := { name := "sinkPlays", fn := fun _ => fun
  | [d1, d2, d3] => { results := [.lit (.bool false)], args := [d1, d2, d3] }
  | _ => none }
def SinkPlaysWrongFalsely : Prop := sinkPlaysRow.holds Tryz.pinned (OpenSpec.ofChange sinkPlaysWrong)

/- THE SECOND FORM. 'bulk': how many values and letters a reading holds, each counted each time it is reached (what is shared counts as often as it is met; a slice's spare places count too). A statement '..UptoSaid' is the law's where the arguments, and the package variables that the reading takes, are together of bulk at most 1048576: NARROWER than '..Said'. Prove '..Said' where nothing that the law and all that it calls make is longer than what came in: it says more and counts as full. Else prove '..UptoSaid'. A law counts once. -/
mutual
def uptoBulk {H : Type} : DataW H → Nat
  | .lit (.string bytes) => bytes.length + 1
  | .lit _ => 1
  | .nil => 1
  | .ptr d => uptoBulk d + 1
  | .slice elems spare => uptoBulkAll elems + uptoBulkAll spare + 1
  | .agg parts => uptoBulkAll parts + 1
  | .iface _ d => uptoBulk d + 1
  | .map entries => uptoBulkEntries entries + 1
  | .held _ => 1
def uptoBulkAll {H : Type} : List (DataW H) → Nat
  | [] => 0
  | d :: r => uptoBulk d + uptoBulkAll r
def uptoBulkEntries {H : Type} : List (Lit × DataW H) → Nat
  | [] => 0
  | x :: r => uptoBulkEntry x + uptoBulkEntries r
def uptoBulkEntry {H : Type} : Lit × DataW H → Nat
  | (.string bytes, d) => bytes.length + uptoBulk d + 1
  | (_, d) => uptoBulk d + 1
 end
def uptoSmall : (H : Type) → List (DataW H) → Bool := fun _ ds => decide (uptoBulkAll ds ≤ 1048576)
def OpenSpec.upto (s : _root_.Go.ChangeSpec) : _root_.Go.OpenSpec := { _root_.Go.OpenSpec.ofChange s with cond := some uptoSmall }

/-- 'headgatelaw24.SinkNil', WHERE WHAT IT READS IS OF BULK AT MOST 1048576: true; the input reads as it did. -/
def sinkNilUptoRow : OpenClaim := { program := "ytibdiikcigokjaagreatdoor", sum := "820f9b5ce61095a26dc1e672ee6408cd17d98897ad937193c32301a8341c64e2", func := "headgate/headgatelaw24.SinkNil", spec := "sinkNil", inPlace := ["maps.clone", "internal/bytealg.IndexByteString", "internal/bytealg.CountString", "internal/bytealg.IndexString", "internal/abi.NoEscape", "internal/bytealg.MakeNoZero"], unfollowed := true, recurses := true, named := ["internal/bytealg.MaxLen", "unicode/utf8.first", "unicode/utf8.acceptRanges"], apart := false, laid := [("unicode/utf8.acceptRanges", laid_unicode_utf8_acceptRanges), ("unicode/utf8.first", laid_unicode_utf8_first)], narrowed := true }
def SinkNilUptoSaid : Prop := sinkNilUptoRow.holds Tryz.pinned (OpenSpec.upto sinkNilSpec)

/-- 'headgatelaw24.SinkFolds', WHERE WHAT IT READS IS OF BULK AT MOST 1048576: true; the input reads as it did. -/
def sinkFoldsUptoRow : OpenClaim := { program := "ytibdiikcigokjaagreatdoor", sum := "820f9b5ce61095a26dc1e672ee6408cd17d98897ad937193c32301a8341c64e2", func := "headgate/headgatelaw24.SinkFolds", spec := "sinkFolds", inPlace := ["maps.clone", "internal/bytealg.IndexByteString", "internal/bytealg.CountString", "internal/bytealg.IndexString", "internal/abi.NoEscape", "internal/bytealg.MakeNoZero"], unfollowed := true, recurses := true, named := ["internal/bytealg.MaxLen", "unicode/utf8.first", "unicode/utf8.acceptRanges"], apart := false, laid := [("unicode/utf8.acceptRanges", laid_unicode_utf8_acceptRanges), ("unicode/utf8.first", laid_unicode_utf8_first)], narrowed := true }
def SinkFoldsUptoSaid : Prop := sinkFoldsUptoRow.holds Tryz.pinned (OpenSpec.upto sinkFoldsSpec)

/-- 'headgatelaw24.SinkKeeps', WHERE WHAT IT READS IS OF BULK AT MOST 1048576: true; the input reads as it did. -/
def sinkKeepsUptoRow : OpenClaim := { program := "ytibdiikcigokjaagreatdoor", sum := "820f9b5ce61095a26dc1e672ee6408cd17d98897ad937193c32301a8341c64e2", func := "headgate/headgatelaw24.SinkKeeps", spec := "sinkKeeps", inPlace := ["maps.clone", "internal/bytealg.IndexByteString", "internal/bytealg.CountString", "internal/bytealg.IndexString", "internal/abi.NoEscape", "internal/bytealg.MakeNoZero"], unfollowed := true, recurses := true, named := ["internal/bytealg.MaxLen", "unicode/utf8.first", "unicode/utf8.acceptRanges"], apart := false, laid := [("unicode/utf8.acceptRanges", laid_unicode_utf8_acceptRanges), ("unicode/utf8.first", laid_unicode_utf8_first)], narrowed := true }
def SinkKeepsUptoSaid : Prop := sinkKeepsUptoRow.holds Tryz.pinned (OpenSpec.upto sinkKeepsSpec)

/-- 'headgatelaw24.SinkPlays', WHERE WHAT IT READS IS OF BULK AT MOST 1048576: true; the input reads as it did. -/
def sinkPlaysUptoRow : OpenClaim := { program := "ytibdiikcigokjaagreatdoor", sum := "820f9b5ce61095a26dc1e672ee6408cd17d98897ad937193c32301a8341c64e2", func := "headgate/headgatelaw24.SinkPlays", spec := "sinkPlays", inPlace := ["maps.clone", "internal/bytealg.IndexByteString", "internal/bytealg.CountString", "internal/bytealg.IndexString", "internal/abi.NoEscape", "internal/bytealg.MakeNoZero"], unfollowed := true, recurses := true, named := ["internal/bytealg.MaxLen", "unicode/utf8.first", "unicode/utf8.acceptRanges"], apart := false, laid := [("unicode/utf8.acceptRanges", laid_unicode_utf8_acceptRanges), ("unicode/utf8.first", laid_unicode_utf8_first)], narrowed := true }
def SinkPlaysUptoSaid : Prop := sinkPlaysUptoRow.holds Tryz.pinned (OpenSpec.upto sinkPlaysSpec)

end Rows
end Go.Proofs.YtibdiikcigokjaaGreatDoor
