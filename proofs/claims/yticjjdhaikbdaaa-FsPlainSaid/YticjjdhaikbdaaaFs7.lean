/- How a file system lies in memory. -/
import Derived.Test.YticjjdhaikbdaaaFs6
import Derived.Test.YticjjdhaikbdaaaFw17
import Derived.Test.YticjjdhaikbdaaaTa
namespace Go.Proofs.Yticjjdhaikbdaaa
open Go Go.RowKit Go.MapKept
set_option linter.unusedVariables false
set_option linter.unusedSimpArgs false

def ptrV (b : Nat) : Value := .pointer (some ⟨b, 0, none⟩)
/-- A file: its bytes, and how many are safe. -/
def fileP (x : AF.File) (xb : Nat) : HProp := exi fun q : Option Addr × Nat => Many [pt xb (.cells #[.slice q.1 x.b.length q.2, .int .i64 (x.safe : Int)] 94 (0, 0)), ownS 5 1 q.1 x.b.length q.2 (x.b.map nv)]
/-- Entries: a map from names to files' blocks. -/
def namesP (xbs : List Nat) (mb : Nat) (l : AF.Names) : HProp := exi fun m : List (ByteArray × Value) => Many [ownM strKeys mb m, pur (m.Perm (l.map fun p => (p.1, ptrV (xbs.getD p.2 0))))]
/-- A pending operation: a closure, with what it holds. -/
def opP (xbs : List Nat) : AF.Op → Value → HProp
  | .create n f, v => exi fun q : Nat × Nat => Many [pur (v = .func (.func 59) #[] #[ptrV q.1, ptrV q.2]), ro q.1 (.cells #[ptrV (xbs.getD f 0)] 92 (0, 0)), ro q.2 (.cells #[.string n] 9 (0, 0))]
  | .rename a b, v => exi fun q : Nat × Nat => Many [pur (v = .func (.func 62) #[] #[ptrV q.1, ptrV q.2]), ro q.1 (.cells #[.string a] 9 (0, 0)), ro q.2 (.cells #[.string b] 9 (0, 0))]
  | .remove a, v => exi fun q : Nat => Many [pur (v = .func (.func 68) #[] #[ptrV q]), ro q (.cells #[.string a] 9 (0, 0))]
structure DirQ where
  nb : Nat
  bb : Nat
  a : Option Addr
  c : Nat
def dirP (xbs : List Nat) (d : AF.Dir) (fb : Nat) : HProp := exi fun q : DirQ => Many [pt fb (.cells #[.map (some q.nb), .map (some q.bb), .slice q.a d.pend.length q.c] 91 (0, 0)), namesP xbs q.nb d.now, namesP xbs q.bb d.base, ownL (opP xbs) 96 q.a d.pend.length q.c d.pend]
def fuseI : Option Nat → Int
  | some n => (n : Int)
  | none => -1
structure FsQ where
  md : Nat
  fbs : List Nat
  xbs : List Nat
  m : List (ByteArray × Value)
def filesP (xbs : List Nat) (fs : List AF.File) : HProp := Many (List.zipWith fileP fs xbs)
def dirsP (xbs fbs : List Nat) (ds : List AF.Dir) : HProp := Many (List.zipWith (dirP xbs) ds fbs)
/-- What the blocks of a file system are to be. -/
def fsQ (A : AF.FS) (q : FsQ) : Prop := q.m.Perm (List.zipWith (fun (d : AF.Dir) fb => (d.name, ptrV fb)) A.dirs q.fbs) ∧ q.fbs.length = A.dirs.length ∧ q.xbs.length = A.files.length
def rawOf (b : Nat) (A : AF.FS) (md : Nat) : HProp := rawFS b (A.room : Int) (A.used : Int) (A.steps : Int) (fuseI A.fuse) A.off md
/-- A file system, its blocks named; a file system. -/
def fsO (b : Nat) (A : AF.FS) (q : FsQ) : HProp := Many [rawOf b A q.md, ownM strKeys q.md q.m, filesP q.xbs A.files, dirsP q.xbs q.fbs A.dirs]
def fsP (b : Nat) (A : AF.FS) : HProp := exi fun q : FsQ => Many [pur (fsQ A q), fsO b A q]
section
variable {b : Nat} {A : AF.FS} {F : List HProp} {h : Heap}
theorem fsP_open (H : sat (fsP b A :: F) h) : ∃ q : FsQ, fsQ A q ∧ sat (rawOf b A q.md :: ownM strKeys q.md q.m :: filesP q.xbs A.files :: dirsP q.xbs q.fbs A.dirs :: F) h := by
  obtain ⟨q, H⟩ := sat_exi.1 H
  obtain ⟨hq, H2⟩ := sat_pur.1 H.open
  exact ⟨q, hq, H2.open⟩
theorem fsP_shut (q : FsQ) (hq : fsQ A q) (H : sat (rawOf b A q.md :: ownM strKeys q.md q.m :: filesP q.xbs A.files :: dirsP q.xbs q.fbs A.dirs :: F) h) : sat (fsP b A :: F) h := by
  have H2 : sat (fsO b A q :: F) h := sat.shut (m := [rawOf b A q.md, ownM strKeys q.md q.m, filesP q.xbs A.files, dirsP q.xbs q.fbs A.dirs]) (l := F) H
  have H3 : sat (pur (fsQ A q) :: fsO b A q :: F) h := sat_pur.2 ⟨hq, H2⟩
  exact sat_exi.2 ⟨q, sat.shut (m := [pur (fsQ A q), fsO b A q]) (l := F) H3⟩
end
theorem many_nil {F : List HProp} {h : Heap} (H : sat F h) : sat (Many [] :: F) h := sat.shut (m := []) H

/-- A new file system. -/
theorem F15_spec {room : Nat} {h : Heap} {F : List HProp} (H : sat F h) (hr : room ≤ 1073741824) :
    CallsH Try.prog 15 [.int .i64 (room : Int)] h fun v h' => ∃ b, v = .tuple #[ptrV b, .int .i64 0] ∧ sat (fsP b ⟨room, 0, none, false, [], []⟩ :: F) h' := by
  apply F15_ok
  unfold F15
  rw [decide_eq_false (show ¬ ((room : Int) < 0) by omega), cond_false, decide_eq_false (show ¬ ((room : Int) > 1073741824) by omega), cond_false]
  refine Al_sat H fun b0 h1 H1 => Al_sat H1 fun b1 h2 H2 => ?_
  refine ⟨b1, rfl, ?_⟩
  have H3 := (ownM_new strKeys (H2.mv 1)).mv 1
  refine fsP_shut ⟨b0, [], [], []⟩ ⟨.refl _, rfl, rfl⟩ ?_
  have H4 : sat (filesP [] [] :: rawOf b1 ⟨room, 0, none, false, [], []⟩ b0 :: ownM strKeys b0 [] :: F) h2 := many_nil H3
  have H5 : sat (dirsP [] [] [] :: filesP [] [] :: rawOf b1 ⟨room, 0, none, false, [], []⟩ b0 :: ownM strKeys b0 [] :: F) h2 := many_nil H4
  exact H5.ordT 4 [2, 3, 1, 0]

end Go.Proofs.Yticjjdhaikbdaaa
