/- Calls whose outcome is known; the chapter's example. A rename over another file: wholly or not at all; what is safe stays. FsRenames, FsSafe: the walks. Slices of whole numbers that came in. No file system: what it answers. Structs and slices of structs that came in, read: the acts of a file system. Slices of acts that came in; how heavy they are. -/
import Derived.Test.YtibdiikcigokjaaGreatDoorKsFsD
import Derived.Test.YtibdiikcigokjaaGreatDoorKsFsB
import Derived.Deep.Slices
import Derived.ChangeSlices
import Derived.ChangeArms
import Derived.WideShapes
import Derived.ProofKit
import Derived.OpenShut
import Derived.ChangeOld
namespace Go.Proofs.YtibdiikcigokjaaGreatDoor
open Go Go.RowKit Go.MapKept
set_option linter.unusedVariables false
set_option linter.unusedSimpArgs false
section
variable {b : Nat} {A A' : AF.FS} {e : Nat} {F : List HProp} {h : Heap} {dir name : ByteArray}
theorem cText {s : ByteArray} {K : Value → Heap → Prop} (H : sat F h) (hz : s.size ≤ maxLen) (hK : ∀ a c h', sat (ownS 5 1 a s.size c ((sb s).map nv) :: F) h' → K (.slice a s.size c) h') : RunH Tryz.prog (Go.convert 9 85 (.string s)) h K :=
 bytesOfB (by kernel_rfl) u31 (by kernel_rfl) hz H fun b c h' H' => hK _ c h' H'
end
namespace AF
end AF
theorem pks_old {h : Heap} {pa : Option Addr} {pl pc : Nat} {ps : List Int} (hr : RdC h pa (ps.map iv)) (hl : ps.length = pl) (hc : pl ≤ pc) : Pks [old h] ps pa pl pc := ⟨hl, hc, fun h' hh => hr.old hh⟩
theorem set_fuse {A : AF.FS} {m : Nat} : A.setFuse (m : Int) = ({ A with fuse := some m }, 0) := by
 unfold AF.FS.setFuse
 rw [if_neg (by omega)]
 rfl
namespace AF
end AF
theorem right_size {s : ByteArray} (h : AF.right s = true) : s.size ≤ 32 := by
 unfold AF.right at h
 simp only [Bool.and_eq_true, decide_eq_true_eq] at h
 exact h.1.2
open Go Go.RowKit
open Go Go.RowKit Go.ChangeShapes Go.WideShapes Go.ChangeAt
end Go.Proofs.YtibdiikcigokjaaGreatDoor
