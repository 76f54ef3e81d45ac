/- Names and data beside each other: found,taken out. Files have what was put behind them: plain. FsPlain: the walk. FsPlain: the acts. -/
import Derived.Test.YtdpaiiibndnanaaGreatDoorQpFsE
namespace Go.Proofs.YtdpaiiibndnanaaGreatDoor
open Go Go.RowKit
set_option linter.unusedVariables false
set_option linter.unusedSimpArgs false
def HR (o:Option Nat):Int:=match o with
 | some i=>(i:Int)
 | none => -1
open Go
namespace AF
end AF
end Go.Proofs.YtdpaiiibndnanaaGreatDoor
