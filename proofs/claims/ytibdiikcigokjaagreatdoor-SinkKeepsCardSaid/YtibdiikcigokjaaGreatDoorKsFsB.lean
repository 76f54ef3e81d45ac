/- A file system as plain data: what the calls do, after the document. What always holds of a file system stays, whatever is called. What crashes leave: plain. -/
import Derived.Test.YtibdiikcigokjaaGreatDoorKsFwB
import Derived.Sort.Walk0
namespace Go.Proofs.YtibdiikcigokjaaGreatDoor
namespace AF
def ltB (a b : ByteArray) : Bool := decide (a.data.toList < b.data.toList)
set_option linter.unusedVariables false
structure File where
 b : List Nat
 safe : Nat
instance : Inhabited File := ⟨⟨[], 0⟩⟩
abbrev Names := List (ByteArray × Nat)
inductive Op where
 | create (n : ByteArray) (f : Nat)
 | rename (a b : ByteArray)
 | remove (a : ByteArray)
structure Dir where
 name : ByteArray
 now : Names
 base : Names
 pend : List Op
instance : Inhabited Dir := ⟨⟨.empty, [], [], []⟩⟩
structure FS where
 room : Nat
 steps : Nat
 fuse : Option Nat
 off : Bool
 files : List File
 dirs : List Dir
def of (l : Names) (n : ByteArray) : Option Nat := (l.find? fun p => decide (p.1 = n)).map (·.2)
def drop (l : Names) (n : ByteArray) : Names := l.filter fun p => !decide (p.1 = n)
def ins (n : ByteArray) (f : Nat) : Names → Names
 | [] => [(n, f)]
 | p :: l => if p.1 = n then (n, f) :: l else if ltB n p.1 then (n, f) :: p :: l else p :: ins n f l
def does (l : Names) : Op → Names
 | .create n f => ins n f l
 | .rename a b => match of l a with
   | some f => ins b f (drop l a)
   | none => drop l a
 | .remove a => drop l a
def right (s : ByteArray) : Bool := decide (1 ≤ s.size) && decide (s.size ≤ 32) && s.data.toList.all fun c => (decide (97 ≤ c.toNat) && decide (c.toNat ≤ 122)) || (decide (48 ≤ c.toNat) && decide (c.toNat ≤ 57)) || decide (c.toNat = 46)
def FS.at (f : FS) (n : ByteArray) : Option Nat := f.dirs.findIdx? fun d => decide (d.name = n)
def FS.D (f : FS) (i : Nat) : Dir := f.dirs.getD i default
def FS.X (f : FS) (i : Nat) : File := f.files.getD i default
def FS.idx (f : FS) : List Nat := f.dirs.flatMap fun d => d.now.map (·.2)
def FS.used (f : FS) : Nat := (f.idx.map fun x => (f.X x).b.length).sum
def FS.named (f : FS) (dir : ByteArray) (ss : List ByteArray) : Except Nat Nat :=
 if right dir && ss.all right then match f.at dir with
  | some i => .ok i
  | none => .error 61
 else .error 65
def FS.ready (f : FS) (dir : ByteArray) (ss : List ByteArray) : Except Nat Nat := if f.off then .error 60 else f.named dir ss
def FS.stepOn (f : FS) : FS := { f with fuse := f.fuse.map (· - 1), steps := f.steps + 1 }
def FS.step (f : FS) (g : FS → FS) : FS × Nat := if f.fuse = some 0 then ({ f with off := true }, 60) else (g f.stepOn, 0)
def FS.setDir (f : FS) (i : Nat) (g : Dir → Dir) : FS := { f with dirs := f.dirs.modify i g }
def FS.setFile (f : FS) (i : Nat) (g : File → File) : FS := { f with files := f.files.modify i g }
def Dir.did (d : Dir) (o : Op) : Dir := { d with now := does d.now o, pend := d.pend ++ [o] }
def FS.did (f : FS) (i : Nat) (o : Op) : FS := f.setDir i (·.did o)
def insDir (d : Dir) : List Dir → List Dir
 | [] => [d]
 | e :: l => if ltB d.name e.name then d :: e :: l else e :: insDir d l
def FS.mkdir (f : FS) (dir : ByteArray) : FS × Nat := match f.ready dir [] with
 | .ok _ => (f, 63)
 | .error e => if e = 61 then (if 64 ≤ f.dirs.length then (f, 66) else f.step fun g => { g with dirs := insDir ⟨dir, [], [], []⟩ g.dirs }) else (f, e)
def FS.create (f : FS) (dir name : ByteArray) : FS × Nat := match f.ready dir [name] with
 | .error e => (f, e)
 | .ok i => if (of (f.D i).now name).isSome then (f, 63) else if 4096 ≤ (f.D i).now.length then (f, 66) else f.step fun g => FS.did { g with files := g.files ++ [⟨[], 0⟩] } i (.create name g.files.length)
def FS.entry (f : FS) (dir name : ByteArray) : Except Nat (Nat × Nat) := match f.ready dir [name] with
 | .error e => .error e
 | .ok i => match of (f.D i).now name with
   | some x => .ok (i, x)
   | none => .error 62
def FS.append (f : FS) (dir name : ByteArray) (b : List Nat) : FS × Nat := match f.entry dir name with
 | .error e => (f, e)
 | .ok (_, x) => if 16777216 < (f.X x).b.length + b.length then (f, 67) else if f.room < f.used + b.length then (f, 64) else f.step fun g => g.setFile x fun y => { y with b := y.b ++ b }
def FS.sync (f : FS) (dir name : ByteArray) : FS × Nat := match f.entry dir name with
 | .error e => (f, e)
 | .ok (_, x) => f.step fun g => g.setFile x fun y => { y with safe := y.b.length }
def FS.syncDir (f : FS) (dir : ByteArray) : FS × Nat := match f.ready dir [] with
 | .error e => (f, e)
 | .ok i => f.step fun g => g.setDir i fun d => { d with base := d.now, pend := [] }
def FS.rename (f : FS) (dir a b : ByteArray) : FS × Nat := match f.ready dir [a, b] with
 | .error e => (f, e)
 | .ok i => if (of (f.D i).now a).isNone then (f, 62) else f.step fun g => g.did i (.rename a b)
def FS.remove (f : FS) (dir a : ByteArray) : FS × Nat := match f.entry dir a with
 | .error e => (f, e)
 | .ok (i, _) => f.step fun g => g.did i (.remove a)
def FS.read (f : FS) (dir name : ByteArray) : Except Nat (List Nat) := match f.entry dir name with
 | .error e => .error e
 | .ok (_, x) => .ok (f.X x).b
def FS.list (f : FS) (dir : ByteArray) : Except Nat (List ByteArray) := match f.ready dir [] with
 | .error e => .error e
 | .ok i => .ok ((f.D i).now.map (·.1))
def FS.setFuse (f : FS) (n : Int) : FS × Nat := if n < 0 then (f, 2) else ({ f with fuse := some n.toNat }, 0)
def play (l : Names) (os : List Op) : Names := os.foldl does l
def pick (l : List Int) (n : Nat) : Nat × List Int := match l with
 | [] => (0, [])
 | p :: l => ((IntKind.wrap .u64 p).toNat % (n + 1), l)
def crashDirs : List Dir → List Int → List Dir × List Int
 | [], l => ([], l)
 | d :: ds, l =>
   let k := pick l d.pend.length
   let r := crashDirs ds k.2
   (⟨d.name, play d.base (d.pend.take k.1), play d.base (d.pend.take k.1), []⟩ :: r.1, r.2)
def crashFiles : List Nat → List File → List Int → List File × List Int
 | [], fs, l => (fs, l)
 | x :: xs, fs, l =>
   let y := fs.getD x default
   let k := pick l (y.b.length - y.safe)
   crashFiles xs (fs.set x ⟨y.b.take (y.safe + k.1), y.safe + k.1⟩) k.2
def FS.crash (f : FS) (picks : List Int) : FS :=
 let r := crashDirs f.dirs picks
 let g : FS := { f with dirs := r.1, off := false, fuse := none }
 { g with files := (crashFiles g.idx g.files r.2).1 }
theorem strLt_iff (a b : ByteArray) : ltB a b = true ↔ a.data.toList < b.data.toList := decide_eq_true_iff
theorem strLt_eq (a b : ByteArray) : strLt a b = ltB a b := by
 unfold strLt ltB
 rw [bytesLess_eq, Lib.toList_data, Lib.toList_data]
theorem strLt_irrefl (a : ByteArray) : ¬ ltB a a = true := by rw [strLt_iff]; exact List.lt_irrefl _
theorem strLt_trans {a b c : ByteArray} (h1 : ltB a b = true) (h2 : ltB b c = true) : ltB a c = true := by
 rw [strLt_iff] at *
 exact List.lt_trans h1 h2
theorem strLt_total {a b : ByteArray} (h : a ≠ b) (h1 : ¬ ltB a b = true) : ltB b a = true := by
 rw [strLt_iff] at *
 rcases List.le_total b.data.toList a.data.toList with h2 | h2
 · rcases Decidable.em (b.data.toList < a.data.toList) with h3 | h3
   · exact h3
   · exact absurd (List.le_antisymm (List.not_lt.1 h3) h2) fun e => h (by cases a; cases b; simp at e; exact congrArg _ e)
 · exact absurd (List.le_antisymm h2 (List.not_lt.1 h1)) fun e => h (by cases a; cases b; simp at e; exact congrArg _ e)
theorem mem_filt {α : Type} {p : α → Bool} {l : List α} {a : α} (h : a ∈ l.filter p) : a ∈ l := (List.mem_filter.1 h).1
def Up (l : Names) : Prop := l.Pairwise fun p q => ltB p.1 q.1 = true
structure Ok (n : Nat) (l : Names) : Prop where
 up : Up l
 each : ∀ p ∈ l, p.2 < n ∧ right p.1 = true
 once : (l.map (·.2)).Nodup
 few : l.length ≤ 4096
def Fits (n : Nat) (l : Names) : Op → Prop
 | .create a f => right a = true ∧ f < n ∧ f ∉ l.map (·.2) ∧ l.length < 4096
 | .rename a b => right a = true ∧ right b = true ∧ (of l a).isSome
 | .remove a => right a = true
theorem Up.nodup {l : Names} (h : Up l) : (l.map (·.1)).Nodup := by
 rw [List.Nodup, List.pairwise_map]
 refine List.Pairwise.imp ?_ h
 intro a b hab e
 rw [← e] at hab
 exact strLt_irrefl a.1 hab
theorem Up.drop {l : Names} (h : Up l) (a : ByteArray) : Up (drop l a) := List.Pairwise.filter _ h
theorem drop_none {l : Names} {a : ByteArray} (h : ∀ p ∈ l, p.1 ≠ a) : drop l a = l := List.filter_eq_self.2 fun p hp => by simpa using h p hp
theorem ins_perm {n : ByteArray} {f : Nat} : ∀ {l : Names}, Up l → (ins n f l).Perm ((n, f) :: drop l n)
 | [], _ => .refl _
 | p :: l, h => by
   have h2 := List.pairwise_cons.1 h;unfold ins;by_cases he : p.1 = n
   · rw [if_pos he];have : drop (p :: l) n = l := by
      unfold drop;rw [List.filter_cons, if_neg (by simp [he])];exact drop_none fun q hq e => strLt_irrefl n (by have := h2.1 q hq; rw [he, e] at this; exact this)
     rw [this]
   · rw [if_neg he];by_cases hl : ltB n p.1 = true
     · rw [if_pos hl, drop_none];intro q hq e
       rcases List.mem_cons.1 hq with rfl | hq
       · exact he e
       · have := strLt_trans hl (h2.1 q hq);rw [e] at this;exact strLt_irrefl _ this
     · rw [if_neg hl];have : drop (p :: l) n = p :: drop l n := by
        unfold drop;rw [List.filter_cons, if_pos (by simp [he])]
       rw [this];exact ((ins_perm h2.2).cons p).trans (.swap _ _ _)
theorem ins_up {n : ByteArray} {f : Nat} : ∀ {l : Names}, Up l → Up (ins n f l)
 | [], _ => by unfold ins; exact List.pairwise_singleton _ _
 | p :: l, h => by
   have h2 := List.pairwise_cons.1 h;unfold ins;by_cases he : p.1 = n
   · rw [if_pos he];exact List.pairwise_cons.2 ⟨fun q hq => by have := h2.1 q hq; rw [he] at this; exact this, h2.2⟩
   · rw [if_neg he];by_cases hl : ltB n p.1 = true
     · rw [if_pos hl];refine List.pairwise_cons.2 ⟨fun q hq => ?_, h⟩
       rcases List.mem_cons.1 hq with rfl | hq
       · exact hl
       · exact strLt_trans hl (h2.1 q hq)
     · rw [if_neg hl];refine List.pairwise_cons.2 ⟨fun q hq => ?_, ins_up h2.2⟩;have hm := (ins_perm h2.2).mem_iff.1 hq
       rcases List.mem_cons.1 hm with rfl | hm
       · exact strLt_total (fun e => he e.symm) hl
       · exact h2.1 q (mem_filt hm)
theorem of_mem {l : Names} {a : ByteArray} {f : Nat} (h : of l a = some f) : (a, f) ∈ l := by
 unfold of at h
 cases hf : l.find? (fun p => decide (p.1 = a)) with
 | none => rw [hf] at h; cases h
 | some p =>
   rw [hf] at h;simp only [Option.map_some, Option.some.injEq] at h;have h1 := List.find?_some hf;simp only [decide_eq_true_eq] at h1;have h2 := List.mem_of_find?_eq_some hf;rw [← h, ← h1];exact h2
theorem mem_of {l : Names} (hu : (l.map (·.1)).Nodup) {a : ByteArray} {f : Nat} (h : (a, f) ∈ l) : of l a = some f := by
 induction l with
 | nil => cases h
 | cons q l ih =>
   simp only [List.map_cons, List.nodup_cons] at hu;unfold of;rw [List.find?_cons]
   rcases List.mem_cons.1 h with rfl | h
   · simp
   · have hne : q.1 ≠ a := fun e => hu.1 (by rw [e]; exact List.mem_map.2 ⟨(a, f), h, rfl⟩);simp only [hne, decide_false];exact ih hu.2 h
theorem of_none {l : Names} {a : ByteArray} (h : of l a = none) : ∀ p ∈ l, p.1 ≠ a := by
 unfold of at h
 simp only [Option.map_eq_none_iff, List.find?_eq_none, decide_eq_true_eq] at h
 exact h
theorem Ok.drop {n : Nat} {l : Names} (h : Ok n l) (a : ByteArray) : Ok n (drop l a) :=
 ⟨h.up.drop a, fun p hp => h.each p (mem_filt hp), List.Pairwise.sublist (List.Sublist.map _ List.filter_sublist) h.once, Nat.le_trans (List.length_filter_le _ _) h.few⟩
theorem Ok.ins {n : Nat} {l : Names} (h : Ok n l) {a : ByteArray} {f : Nat} (ha : right a = true) (hf : f < n) (hn : f ∉ l.map (·.2)) (hl : l.length < 4096) : Ok n (ins a f l) := by
 have hp := ins_perm (n := a) (f := f) h.up
 refine ⟨ins_up h.up, fun p hm => ?_, ?_, ?_⟩
 · rcases List.mem_cons.1 (hp.mem_iff.1 hm) with rfl | hm
   · exact ⟨hf, ha⟩
   · exact h.each p (mem_filt hm)
 · rw [(hp.map (·.2)).nodup_iff];simp only [List.map_cons, List.nodup_cons];refine ⟨fun hm => hn ?_, (h.drop a).once⟩;obtain ⟨p, hp, e⟩ := List.mem_map.1 hm;exact List.mem_map.2 ⟨p, mem_filt hp, e⟩
 · rw [hp.length_eq, List.length_cons];have := List.length_filter_le (fun p : ByteArray × Nat => !decide (p.1 = a)) l;unfold AF.drop;omega
theorem drop_lt {l : Names} {a : ByteArray} (h : (of l a).isSome) : (drop l a).length < l.length := by
 obtain ⟨f, hf⟩ := Option.isSome_iff_exists.1 h
 have hm := of_mem hf
 unfold drop
 exact List.length_filter_lt_length_iff_exists.2 ⟨_, hm, by simp⟩
theorem Ok.does {n : Nat} {l : Names} (h : Ok n l) {o : Op} (hf : Fits n l o) : Ok n (does l o) := by
 cases o with
 | create a f => exact h.ins hf.1 hf.2.1 hf.2.2.1 hf.2.2.2
 | remove a => exact h.drop a
 | rename a b =>
   obtain ⟨ha, hb, hs⟩ := hf;have hlt := drop_lt hs;obtain ⟨f, hf⟩ := Option.isSome_iff_exists.1 hs;simp only [AF.does, hf];have hm := of_mem hf;refine (h.drop a).ins hb (h.each _ hm).1 ?_ (by have := h.few; omega);intro hx;obtain ⟨p, hp, e⟩ := List.mem_map.1 hx;have hp2 := List.mem_filter.1 hp;have hone := h.once;have : p = (a, f) := by
    have hn : l.Pairwise fun p q => p.2 ≠ q.2 := List.pairwise_map.1 hone;refine Classical.byContradiction fun hne => ?_;have h1 : l.Pairwise fun p q => p ≠ q → p.2 ≠ q.2 := List.Pairwise.imp (by intro a b h _; exact h) hn;have h2 : l.Pairwise fun p q => q ≠ p → q.2 ≠ p.2 := List.Pairwise.imp (by intro a b h _ e; exact h e.symm) hn;exact (List.Pairwise.forall_of_forall_of_flip (R := fun p q : ByteArray × Nat => p ≠ q → p.2 ≠ q.2) (fun x _ h => absurd rfl h) h1 h2 hp2.1 hm hne) e
   rw [this] at hp2;simp at hp2
def Runs (n : Nat) : Names → List Op → Prop
 | l, [] => Ok n l
 | l, o :: os => Ok n l ∧ Fits n l o ∧ Runs n (does l o) os
theorem Runs.first {n : Nat} {l : Names} {os : List Op} (h : Runs n l os) : Ok n l := by
 cases os with
 | nil => exact h
 | cons o os => exact h.1
theorem Runs.last {n : Nat} : ∀ {os : List Op} {l : Names}, Runs n l os → Ok n (play l os)
 | [], l, h => h
 | o :: os, l, h => Runs.last (os := os) h.2.2
theorem Runs.take {n : Nat} : ∀ {os : List Op} {l : Names} (k : Nat), Runs n l os → Runs n l (os.take k)
 | [], l, k, h => by simpa using h
 | o :: os, l, 0, h => h.1
 | o :: os, l, k + 1, h => ⟨h.1, h.2.1, Runs.take k h.2.2⟩
theorem Runs.snoc {n : Nat} : ∀ {os : List Op} {l : Names} {o : Op}, Runs n l os → Fits n (play l os) o → Runs n l (os ++ [o])
 | [], l, o, h, hf => ⟨h, hf, h.does hf⟩
 | p :: os, l, o, h, hf => ⟨h.1, h.2.1, Runs.snoc h.2.2 hf⟩
theorem play_snoc (l : Names) (os : List Op) (o : Op) : play l (os ++ [o]) = does (play l os) o := by simp [play]
theorem Runs.at {n : Nat} : ∀ {os : List Op} {l : Names} (k : Nat) {o : Op}, Runs n l os → os[k]? = some o → Ok n (play l (os.take k)) ∧ Fits n (play l (os.take k)) o
 | [], l, k, o, h, hk => by simp at hk
 | p :: os, l, 0, o, h, hk => by simp at hk; subst hk; exact ⟨h.1, h.2.1⟩
 | p :: os, l, k + 1, o, h, hk => Runs.at (os := os) k h.2.2 (by simpa using hk)
theorem Ok.grow {n m : Nat} {l : Names} (h : Ok n l) (hm : n ≤ m) : Ok m l := ⟨h.up, fun p hp => ⟨by have := (h.each p hp).1; omega, (h.each p hp).2⟩, h.once, h.few⟩
theorem Fits.grow {n m : Nat} {l : Names} {o : Op} (h : Fits n l o) (hm : n ≤ m) : Fits m l o := by
 cases o with
 | create a f => exact ⟨h.1, by have := h.2.1; omega, h.2.2⟩
 | rename a b => exact h
 | remove a => exact h
theorem Runs.grow {n m : Nat} : ∀ {os : List Op} {l : Names}, Runs n l os → n ≤ m → Runs m l os
 | [], l, h, hm => Ok.grow h hm
 | o :: os, l, h, hm => ⟨h.1.grow hm, h.2.1.grow hm, Runs.grow h.2.2 hm⟩
def opFiles : Op → List Nat
 | .create _ f => [f]
 | _ => []
def Dir.speaks (d : Dir) : List Nat := d.base.map (·.2) ++ d.pend.flatMap opFiles
theorem does_files {l : Names} {o : Op} {x : Nat} (h : x ∈ (does l o).map (·.2)) (hu : Up l) : x ∈ l.map (·.2) ∨ x ∈ opFiles o := by
 have hd : ∀ a, x ∈ (drop l a).map (·.2) → x ∈ l.map (·.2) := fun a h => by
  obtain ⟨p, hp, e⟩ := List.mem_map.1 h;exact List.mem_map.2 ⟨p, mem_filt hp, e⟩
 cases o with
 | create a f =>
   have := (((ins_perm (n := a) (f := f) hu).map (·.2)).mem_iff).1 h
   rcases List.mem_cons.1 this with rfl | h
   · exact .inr (by simp [opFiles])
   · exact .inl (hd a h)
 | remove a => exact .inl (hd a h)
 | rename a b =>
   cases hf : of l a with
   | none => simp only [AF.does, hf] at h; exact .inl (hd a h)
   | some f =>
     simp only [AF.does, hf] at h;have := (((ins_perm (n := b) (f := f) (hu.drop a)).map (·.2)).mem_iff).1 h
     rcases List.mem_cons.1 this with rfl | h
     · exact .inl (List.mem_map.2 ⟨_, of_mem hf, rfl⟩)
     · obtain ⟨p, hp, e⟩ := List.mem_map.1 h;exact .inl (hd a (List.mem_map.2 ⟨p, mem_filt hp, e⟩))
theorem play_files {n : Nat} : ∀ {os : List Op} {l : Names} {x : Nat}, Runs n l os → x ∈ (play l os).map (·.2) → x ∈ l.map (·.2) ++ os.flatMap opFiles
 | [], l, x, _, h => by simpa [play] using h
 | o :: os, l, x, hr, h => by
   have := play_files (os := os) hr.2.2 h
   rcases List.mem_append.1 this with h | h
   · rcases does_files h hr.1.up with h | h
     · exact List.mem_append.2 (.inl h)
     · exact List.mem_append.2 (.inr (by rw [List.flatMap_cons]; exact List.mem_append.2 (.inl h)))
   · exact List.mem_append.2 (.inr (by rw [List.flatMap_cons]; exact List.mem_append.2 (.inr h)))
theorem speaks_lt {n : Nat} : ∀ {os : List Op} {l : Names} {x : Nat}, Runs n l os → x ∈ l.map (·.2) ++ os.flatMap opFiles → x < n
 | [], l, x, hr, h => by
   obtain ⟨p, hp, e⟩ := List.mem_map.1 (by simpa using h : x ∈ l.map (·.2));rw [← e];exact ((hr : Ok n l).each p hp).1
 | o :: os, l, x, hr, h => by
   rcases List.mem_append.1 h with h | h
   · obtain ⟨p, hp, e⟩ := List.mem_map.1 h;rw [← e];exact (hr.1.each p hp).1
   · rw [List.flatMap_cons] at h
     rcases List.mem_append.1 h with h | h
     · cases o with
       | create a f => simp [opFiles] at h; rw [h]; exact hr.2.1.2.1
       | rename a b => simp [opFiles] at h
       | remove a => simp [opFiles] at h
     · exact speaks_lt (os := os) hr.2.2 (List.mem_append.2 (.inr h))
structure Dir.WF (n s : Nat) (d : Dir) : Prop where
 name : right d.name = true
 now : d.now = play d.base d.pend
 runs : Runs n d.base d.pend
 pend : d.pend.length ≤ s
theorem Dir.WF.ok {n s : Nat} {d : Dir} (h : d.WF n s) : Ok n d.now := by rw [h.now]; exact h.runs.last
structure FS.WF (f : FS) : Prop where
 room : f.room ≤ 1073741824
 up : f.dirs.Pairwise fun d e => ltB d.name e.name = true
 each : ∀ d ∈ f.dirs, d.WF f.files.length f.steps
 apart : f.dirs.Pairwise fun d e => ∀ x ∈ d.speaks, x ∉ e.speaks
 files : ∀ x ∈ f.files, x.safe ≤ x.b.length ∧ x.b.length ≤ 16777216 ∧ B8 x.b
 few : f.dirs.length ≤ 64
 fuse : ∀ n, f.fuse = some n → n ≤ 9223372036854775807
end AF
namespace AF
set_option linter.unusedVariables false
theorem pairwise_modify {α : Type} {R : α → α → Prop} {g : α → α} : ∀ (l : List α) (i : Nat), l.Pairwise R → (∀ d, l[i]? = some d → ∀ e ∈ l, (R e d → R e (g d)) ∧ (R d e → R (g d) e)) → (l.modify i g).Pairwise R
 | [], i, h, hg => by simp
 | a :: l, 0, h, hg => by
   have h2 := List.pairwise_cons.1 h;rw [List.modify_zero_cons];exact List.pairwise_cons.2 ⟨fun e he => (hg a rfl e (List.mem_cons_of_mem _ he)).2 (h2.1 e he), h2.2⟩
 | a :: l, i + 1, h, hg => by
   have h2 := List.pairwise_cons.1 h;rw [List.modify_succ_cons];refine List.pairwise_cons.2 ⟨fun e he => ?_, pairwise_modify l i h2.2 fun d hd e he => hg d (by simpa using hd) e (List.mem_cons_of_mem _ he)⟩;obtain ⟨j, hj⟩ := List.getElem?_of_mem he;rw [get_modify] at hj
   cases hlj : l[j]? with
   | none => rw [hlj] at hj; cases hj
   | some d =>
     rw [hlj] at hj;simp only [Option.map_some, Option.some.injEq] at hj;by_cases hij : i = j
     · rw [if_pos hij] at hj;rw [← hj];subst hij;exact (hg d (by simpa using hlj) a (by simp)).1 (h2.1 d (List.mem_of_getElem? hlj))
     · rw [if_neg hij] at hj;rw [← hj];exact h2.1 d (List.mem_of_getElem? hlj)
theorem mem_modify {α : Type} {g : α → α} {l : List α} {i : Nat} {e : α} (h : e ∈ l.modify i g) : e ∈ l ∨ ∃ d, l[i]? = some d ∧ e = g d := by
 obtain ⟨j, hj⟩ := List.getElem?_of_mem h
 rw [get_modify] at hj
 cases hlj : l[j]? with
 | none => rw [hlj] at hj; cases hj
 | some d =>
   rw [hlj] at hj;simp only [Option.map_some, Option.some.injEq] at hj;by_cases hij : i = j
   · rw [if_pos hij] at hj;subst hij;exact .inr ⟨d, hlj, hj.symm⟩
   · rw [if_neg hij] at hj;exact .inl (by rw [← hj]; exact List.mem_of_getElem? hlj)
theorem Dir.WF.grow {n m s t : Nat} {d : Dir} (h : d.WF n s) (hn : n ≤ m) (hs : s ≤ t) : d.WF m t := ⟨h.name, h.now, h.runs.grow hn, Nat.le_trans h.pend hs⟩
variable {f : FS}
theorem FS.WF.stepOn (h : f.WF) : f.stepOn.WF :=
 ⟨h.room, h.up, fun d hd => (h.each d hd).grow (Nat.le_refl _) (Nat.le_succ _), h.apart, h.files, h.few, fun n hn => by
  unfold FS.stepOn at hn;simp only [Option.map_eq_some_iff] at hn;obtain ⟨k, hk, e⟩ := hn;have := h.fuse k hk;omega⟩
theorem FS.WF.down (h : f.WF) : FS.WF { f with off := true } := ⟨h.room, h.up, h.each, h.apart, h.files, h.few, h.fuse⟩
theorem FS.WF.step {g : FS → FS} (h : f.WF) (hg : (g f.stepOn).WF) : (f.step g).1.WF := by
 unfold FS.step
 split
 · exact h.down
 · exact hg
theorem speaks_of {d : Dir} {n s : Nat} (h : d.WF n s) {x : Nat} (hx : x ∈ d.speaks) : x < n := speaks_lt h.runs hx
theorem now_speaks {d : Dir} {n s : Nat} (h : d.WF n s) {x : Nat} (hx : x ∈ d.now.map (·.2)) : x ∈ d.speaks := by
 rw [h.now] at hx
 exact play_files h.runs hx
theorem did_speaks {d : Dir} {o : Op} {x : Nat} (h : x ∈ (d.did o).speaks) : x ∈ d.speaks ∨ x ∈ opFiles o := by
 unfold Dir.speaks Dir.did at h
 simp only [List.flatMap_append, List.flatMap_cons, List.flatMap_nil, List.append_nil] at h
 rw [← List.append_assoc] at h
 exact List.mem_append.1 h
theorem FS.WF.did (h : f.WF) {i : Nat} {d : Dir} {o : Op} (hd : f.dirs[i]? = some d) (hf : Fits f.files.length d.now o) (hn : ∀ x ∈ opFiles o, ∀ e ∈ f.dirs, x ∉ e.speaks) (hp : d.pend.length < f.steps) : (f.did i o).WF := by
 refine ⟨h.room, pairwise_modify _ _ h.up fun d' hd' e he => ⟨fun k => k, fun k => k⟩, fun e he => ?_, pairwise_modify _ _ h.apart fun d' hd' e he => ⟨fun k x hx hx2 => ?_, fun k x hx hx2 => ?_⟩, h.files, by show (List.modify _ _ _).length ≤ 64; rw [List.length_modify]; exact h.few, h.fuse⟩
 · rcases mem_modify he with he | ⟨d', hd', rfl⟩
   · exact h.each e he
   · rw [hd] at hd';cases hd';have w := h.each d (List.mem_of_getElem? hd);refine ⟨w.name, ?_, w.runs.snoc (by rw [← w.now]; exact hf), ?_⟩
     · show does d.now o = play d.base (d.pend ++ [o]);rw [play_snoc, ← w.now]
     · show (d.pend ++ [o]).length ≤ f.steps;rw [List.length_append];simp only [List.length_cons, List.length_nil];omega
 · rcases did_speaks hx2 with h1 | h1
   · exact k x hx h1
   · exact hn x h1 e he hx
 · rcases did_speaks hx with h1 | h1
   · exact k x h1 hx2
   · exact hn x h1 e he hx2
theorem FS.WF.newFile (h : f.WF) : FS.WF { f with files := f.files ++ [⟨[], 0⟩] } :=
 ⟨h.room, h.up, fun d hd => (h.each d hd).grow (by simp) (Nat.le_refl _), h.apart, fun x hx => by
  rcases List.mem_append.1 hx with hx | hx
  · exact h.files x hx
  · simp only [List.mem_singleton] at hx;subst hx;exact ⟨Nat.le_refl _, by simp, fun n hn => by cases hn⟩, h.few, h.fuse⟩
theorem FS.WF.setFile (h : f.WF) {i : Nat} {g : File → File} (hg : ∀ y, f.files[i]? = some y → (g y).safe ≤ (g y).b.length ∧ (g y).b.length ≤ 16777216 ∧ B8 (g y).b) : (f.setFile i g).WF :=
 ⟨h.room, h.up, fun d hd => by show d.WF (f.files.modify i g).length f.steps; rw [List.length_modify]; exact h.each d hd, h.apart, fun x hx => by
  rcases mem_modify hx with hx | ⟨y, hy, rfl⟩
  · exact h.files x hx
  · exact hg y hy, h.few, h.fuse⟩
theorem FS.WF.settle (h : f.WF) {i : Nat} : (f.setDir i fun d => { d with base := d.now, pend := [] }).WF := by
 refine ⟨h.room, pairwise_modify _ _ h.up fun d' hd' e he => ⟨fun k => k, fun k => k⟩, fun e he => ?_, pairwise_modify _ _ h.apart fun d' hd' e he => ⟨fun k x hx hx2 => ?_, fun k x hx hx2 => ?_⟩, h.files, by show (List.modify _ _ _).length ≤ 64; rw [List.length_modify]; exact h.few, h.fuse⟩
 · rcases mem_modify he with he | ⟨d', hd', rfl⟩
   · exact h.each e he
   · have w := h.each d' (List.mem_of_getElem? hd');exact ⟨w.name, rfl, w.ok, Nat.zero_le _⟩
 · have w := h.each d' (List.mem_of_getElem? hd');exact k x hx (now_speaks w (by simpa [Dir.speaks] using hx2))
 · have w := h.each d' (List.mem_of_getElem? hd');exact k x (now_speaks w (by simpa [Dir.speaks] using hx)) hx2
theorem insDir_perm (d : Dir) : ∀ l : List Dir, (insDir d l).Perm (d :: l)
 | [] => .refl _
 | e :: l => by
   unfold insDir;split
   · exact .refl _
   · exact ((insDir_perm d l).cons e).trans (.swap _ _ _)
theorem insDir_up {d : Dir} : ∀ {l : List Dir}, (l.Pairwise fun d e : Dir => ltB d.name e.name = true) → (∀ e ∈ l, e.name ≠ d.name) → (insDir d l).Pairwise fun d e : Dir => ltB d.name e.name = true
 | [], _, _ => List.pairwise_singleton _ _
 | e :: l, h, hn => by
   have h2 := List.pairwise_cons.1 h;unfold insDir;split
   · rename_i hl;refine List.pairwise_cons.2 ⟨fun q hq => ?_, h⟩
     rcases List.mem_cons.1 hq with rfl | hq
     · exact hl
     · exact strLt_trans hl (h2.1 q hq)
   · rename_i hl;refine List.pairwise_cons.2 ⟨fun q hq => ?_, insDir_up h2.2 fun e he => hn e (List.mem_cons_of_mem _ he)⟩
     rcases List.mem_cons.1 ((insDir_perm d l).mem_iff.1 hq) with rfl | hq
     · exact strLt_total (fun e' => hn e (by simp) e'.symm) hl
     · exact h2.1 q hq
theorem at_none {n : ByteArray} (h : f.at n = none) : ∀ e ∈ f.dirs, e.name ≠ n := by
 unfold FS.at at h
 rw [List.findIdx?_eq_none_iff] at h
 intro e he
 simpa using h e he
theorem at_some {n : ByteArray} {i : Nat} (h : f.at n = some i) : ∃ d, f.dirs[i]? = some d ∧ d.name = n := by
 unfold FS.at at h
 rw [List.findIdx?_eq_some_iff_getElem] at h
 obtain ⟨hi, hd, _⟩ := h
 exact ⟨f.dirs[i], List.getElem?_eq_getElem hi, by simpa using hd⟩
theorem D_of {i : Nat} {d : Dir} (h : f.dirs[i]? = some d) : f.D i = d := by
 unfold FS.D
 rw [List.getD_eq_getElem?_getD, h]
 rfl
theorem X_of {i : Nat} {x : File} (h : f.files[i]? = some x) : f.X i = x := by
 unfold FS.X
 rw [List.getD_eq_getElem?_getD, h]
 rfl
theorem ready_ok {dir : ByteArray} {ss : List ByteArray} {i : Nat} (h : f.ready dir ss = .ok i) : f.off = false ∧ right dir = true ∧ (∀ s ∈ ss, right s = true) ∧ f.at dir = some i ∧ ∃ d, f.dirs[i]? = some d ∧ d.name = dir := by
 unfold FS.ready FS.named at h
 split at h
 · cases h
 · rename_i ho;split at h
   · rename_i hr;rw [Bool.and_eq_true, List.all_eq_true] at hr
     cases ha : f.at dir with
     | none => rw [ha] at h; cases h
     | some j =>
       rw [ha] at h;cases h;exact ⟨by simpa using ho, hr.1, hr.2, rfl, at_some ha⟩
   · cases h
theorem ready_61 {dir : ByteArray} {ss : List ByteArray} (h : f.ready dir ss = .error 61) : right dir = true ∧ f.at dir = none := by
 unfold FS.ready FS.named at h
 split at h
 · cases h
 · split at h
   · rename_i hr;rw [Bool.and_eq_true] at hr
     cases ha : f.at dir with
     | none => exact ⟨hr.1, rfl⟩
     | some j => rw [ha] at h; cases h
   · cases h
theorem entry_ok {dir name : ByteArray} {i x : Nat} (h : f.entry dir name = .ok (i, x)) : f.ready dir [name] = .ok i ∧ of (f.D i).now name = some x := by
 unfold FS.entry at h
 cases hr : f.ready dir [name] with
 | error e => rw [hr] at h; cases h
 | ok j =>
   rw [hr] at h
   cases ho : of (f.D j).now name with
   | none => simp only [ho] at h; cases h
   | some y =>
     simp only [ho] at h;cases h;exact ⟨rfl, ho⟩
theorem FS.WF.mkdir (h : f.WF) (dir : ByteArray) : (f.mkdir dir).1.WF := by
 unfold FS.mkdir
 split
 · exact h
 · rename_i e he;split
   · rename_i he2;subst he2;split
     · exact h
     · rename_i hl;obtain ⟨hr, ha⟩ := ready_61 he;refine h.step ?_;have hp := insDir_perm ⟨dir, [], [], []⟩ f.dirs;show FS.WF { f.stepOn with dirs := insDir ⟨dir, [], [], []⟩ f.dirs };refine ⟨h.room, insDir_up h.up (at_none ha), fun e he => ?_, ?_, h.files, ?_, h.stepOn.fuse⟩
       · rcases List.mem_cons.1 (hp.mem_iff.1 he) with rfl | he
         · refine ⟨hr, rfl, ?_, Nat.zero_le _⟩;show Ok _ [];exact ⟨List.Pairwise.nil, by simp, List.nodup_nil, by simp⟩
         · exact h.stepOn.each e he
       · show List.Pairwise _ (insDir _ f.dirs);rw [hp.pairwise_iff (fun {x y} hxy z hz hz2 => hxy z hz2 hz)];exact List.pairwise_cons.2 ⟨fun e he x hx => by simp [Dir.speaks] at hx, h.apart⟩
       · show (insDir _ f.dirs).length ≤ 64;rw [hp.length_eq, List.length_cons];omega
   · exact h
theorem create_fits (h : f.WF) {name : ByteArray} {i : Nat} {d : Dir} (hd : f.dirs[i]? = some d) (hr : right name = true) (hl : d.now.length < 4096) : Fits (f.files.length + 1) d.now (.create name f.files.length) := by
 have w := h.each d (List.mem_of_getElem? hd)
 refine ⟨hr, by omega, ?_, hl⟩
 intro hx
 have := speaks_of w (now_speaks w hx)
 omega
theorem create_wf (h : f.WF) {name : ByteArray} {i : Nat} {d : Dir} (hd : f.dirs[i]? = some d) (hr : right name = true) (hl : d.now.length < 4096) : (FS.did { f.stepOn with files := f.files ++ [⟨[], 0⟩] } i (.create name f.files.length)).WF := by
 have w := h.each d (List.mem_of_getElem? hd)
 refine h.stepOn.newFile.did (d := d) hd ?_ ?_ ?_
 · show Fits (f.files ++ [(⟨[], 0⟩ : File)]).length d.now (.create name f.files.length);rw [List.length_append];exact create_fits h hd hr hl
 · intro x hx e he hx2;simp only [opFiles, List.mem_singleton] at hx;have := speaks_of (h.each e he) hx2;omega
 · have := w.pend;show d.pend.length < f.steps + 1;omega
theorem FS.WF.create (h : f.WF) (dir name : ByteArray) : (f.create dir name).1.WF := by
 unfold FS.create
 split
 · exact h
 · rename_i i hi;obtain ⟨_, _, hr, _, d, hd, _⟩ := ready_ok hi;rw [D_of hd];split
   · exact h
   · split
     · exact h
     · rename_i h1 h2;exact h.step (create_wf h hd (hr name (by simp)) (by omega))
theorem FS.WF.append (h : f.WF) (dir name : ByteArray) {b : List Nat} (hb : B8 b) : (f.append dir name b).1.WF := by
 unfold FS.append
 split
 · exact h
 · rename_i i x hx;split
   · exact h
   · split
     · exact h
     · rename_i h1 h2;refine h.step (h.stepOn.setFile fun y hy => ?_);have hy2 : f.files[x]? = some y := hy;rw [X_of hy2] at h1;have w := h.files y (List.mem_of_getElem? hy2);refine ⟨by simp only [List.length_append]; omega, by simp only [List.length_append]; omega, fun n hn => ?_⟩
       rcases List.mem_append.1 hn with hn | hn
       · exact w.2.2 n hn
       · exact hb n hn
theorem FS.WF.sync (h : f.WF) (dir name : ByteArray) : (f.sync dir name).1.WF := by
 unfold FS.sync
 split
 · exact h
 · exact h.step (h.stepOn.setFile fun y hy => ⟨Nat.le_refl _, (h.files y (List.mem_of_getElem? hy)).2⟩)
theorem FS.WF.syncDir (h : f.WF) (dir : ByteArray) : (f.syncDir dir).1.WF := by
 unfold FS.syncDir
 split
 · exact h
 · exact h.step h.stepOn.settle
theorem rename_fits {n : Nat} {l : Names} {a b : ByteArray} (ha : right a = true) (hb : right b = true) (ho : of l a ≠ none) : Fits n l (.rename a b) := by
 refine ⟨ha, hb, ?_⟩
 cases h : of l a with
 | none => exact absurd h ho
 | some x => rfl
theorem rename_wf (h : f.WF) {a b : ByteArray} {i : Nat} {d : Dir} (hd : f.dirs[i]? = some d) (ha : right a = true) (hb : right b = true) (ho : of d.now a ≠ none) : (f.stepOn.did i (.rename a b)).WF := by
 have w := h.each d (List.mem_of_getElem? hd)
 refine h.stepOn.did hd (rename_fits ha hb ho) (fun x hx => by simp [opFiles] at hx) ?_
 have := w.pend
 show d.pend.length < f.steps + 1
 omega
theorem FS.WF.rename (h : f.WF) (dir a b : ByteArray) : (f.rename dir a b).1.WF := by
 unfold FS.rename
 split
 · exact h
 · rename_i i hi;obtain ⟨_, _, hr, _, d, hd, _⟩ := ready_ok hi;rw [D_of hd];split
   · exact h
   · rename_i hs;exact h.step (rename_wf h hd (hr a (by simp)) (hr b (by simp)) fun e => hs (by rw [e]; rfl))
theorem remove_wf (h : f.WF) {a : ByteArray} {i : Nat} {d : Dir} (hd : f.dirs[i]? = some d) (ha : right a = true) : (f.stepOn.did i (.remove a)).WF := by
 have w := h.each d (List.mem_of_getElem? hd)
 refine h.stepOn.did hd ha (fun x hx => by simp [opFiles] at hx) ?_
 have := w.pend
 show d.pend.length < f.steps + 1
 omega
theorem FS.WF.remove (h : f.WF) (dir a : ByteArray) : (f.remove dir a).1.WF := by
 unfold FS.remove
 split
 · exact h
 · rename_i i x hx;obtain ⟨hi, _⟩ := entry_ok hx;obtain ⟨_, _, hr, _, d, hd, _⟩ := ready_ok hi;exact h.step (remove_wf h hd (hr a (by simp)))
theorem FS.WF.setFuse (h : f.WF) {n : Int} (hn : n ≤ 9223372036854775807) : (f.setFuse n).1.WF := by
 unfold FS.setFuse
 split
 · exact h
 · refine ⟨h.room, h.up, h.each, h.apart, h.files, h.few, fun k hk => ?_⟩;simp only [Option.some.injEq] at hk;omega
theorem crashDirs_each {n s : Nat} : ∀ {ds : List Dir} {l : List Int}, (∀ d ∈ ds, d.WF n s) → ∀ e ∈ (crashDirs ds l).1, ∃ d ∈ ds, e.name = d.name ∧ e.WF n s ∧ ∀ x ∈ e.speaks, x ∈ d.speaks
 | [], l, h, e, he => by simp [crashDirs] at he
 | d :: ds, l, h, e, he => by
   unfold crashDirs at he
   rcases List.mem_cons.1 he with rfl | he
   · have w := h d (by simp);refine ⟨d, by simp, rfl, ⟨w.name, rfl, (w.runs.take _).last, Nat.zero_le _⟩, fun x hx => ?_⟩;have hx2 : x ∈ (play d.base (d.pend.take (pick l d.pend.length).1)).map (·.2) := by simpa [Dir.speaks] using hx
     have := play_files (w.runs.take _) hx2
     rcases List.mem_append.1 this with h1 | h1
     · exact List.mem_append.2 (.inl h1)
     · refine List.mem_append.2 (.inr ?_);obtain ⟨o, ho, hxo⟩ := List.mem_flatMap.1 h1;exact List.mem_flatMap.2 ⟨o, List.mem_of_mem_take ho, hxo⟩
   · obtain ⟨d', hd', h1⟩ := crashDirs_each (fun d hd => h d (List.mem_cons_of_mem _ hd)) e he;exact ⟨d', List.mem_cons_of_mem _ hd', h1⟩
theorem crashDirs_pair {n s : Nat} {R : Dir → Dir → Prop} (hR : ∀ d e d' e' : Dir, R d e → d'.name = d.name → e'.name = e.name → (∀ x ∈ d'.speaks, x ∈ d.speaks) → (∀ x ∈ e'.speaks, x ∈ e.speaks) → R d' e') :
  ∀ {ds : List Dir} {l : List Int}, (∀ d ∈ ds, d.WF n s) → ds.Pairwise R → (crashDirs ds l).1.Pairwise R
 | [], l, h, hp => List.Pairwise.nil
 | d :: ds, l, h, hp => by
   have h2 := List.pairwise_cons.1 hp;unfold crashDirs;refine List.pairwise_cons.2 ⟨fun e he => ?_, crashDirs_pair hR (fun d hd => h d (List.mem_cons_of_mem _ hd)) h2.2⟩;obtain ⟨d', hd', h1, h3, h4⟩ := crashDirs_each (n := n) (s := s) (fun d hd => h d (List.mem_cons_of_mem _ hd)) e he;obtain ⟨d0, hd0, h5, h6, h7⟩ := crashDirs_each (n := n) (s := s) (ds := [d]) (l := l) (fun e he => by simp at he; subst he; exact h _ (by simp)) ⟨d.name, play d.base (d.pend.take (pick l d.pend.length).1), play d.base (d.pend.take (pick l d.pend.length).1), []⟩ (by simp [crashDirs]);simp only [List.mem_singleton] at hd0;subst hd0;exact hR _ _ _ _ (h2.1 d' hd') rfl h1 h7 h4
theorem crashDirs_length : ∀ (ds : List Dir) (l : List Int), (crashDirs ds l).1.length = ds.length
 | [], l => rfl
 | d :: ds, l => by unfold crashDirs; simp [crashDirs_length ds]
theorem pick_le (l : List Int) (n : Nat) : (pick l n).1 ≤ n := by
 unfold pick
 split
 · exact Nat.zero_le _
 · exact Nat.le_of_lt_succ (Nat.mod_lt _ (Nat.succ_pos _))
theorem crashFiles_length : ∀ (xs : List Nat) (fs : List File) (l : List Int), (crashFiles xs fs l).1.length = fs.length
 | [], fs, l => rfl
 | x :: xs, fs, l => by unfold crashFiles; simp [crashFiles_length xs]
def FileOk (x : File) : Prop := x.safe ≤ x.b.length ∧ x.b.length ≤ 16777216 ∧ B8 x.b
theorem cut_ok {y : File} (h : FileOk y) {k : Nat} (hk : k ≤ y.b.length - y.safe) : FileOk ⟨y.b.take (y.safe + k), y.safe + k⟩ := by
 obtain ⟨h1, h2, h3⟩ := h
 exact ⟨by show y.safe + k ≤ (y.b.take _).length; rw [List.length_take]; omega, by show (y.b.take _).length ≤ _; rw [List.length_take]; omega, fun n hn => h3 n (List.mem_of_mem_take hn)⟩
theorem getD_ok {fs : List File} (h : ∀ x ∈ fs, FileOk x) (i : Nat) : FileOk (fs.getD i default) := by
 rw [List.getD_eq_getElem?_getD]
 cases hi : fs[i]? with
 | none => exact ⟨Nat.zero_le _, by show (0 : Nat) ≤ _; omega, fun n hn => by cases hn⟩
 | some x => exact h x (List.mem_of_getElem? hi)
theorem crashFiles_ok : ∀ {xs : List Nat} {fs : List File} {l : List Int}, (∀ x ∈ fs, FileOk x) → ∀ x ∈ (crashFiles xs fs l).1, FileOk x
 | [], fs, l, h => h
 | x :: xs, fs, l, h => by
   unfold crashFiles;refine crashFiles_ok fun z hz => ?_
   rcases List.mem_or_eq_of_mem_set hz with hz | rfl
   · exact h z hz
   · exact cut_ok (getD_ok h x) (pick_le _ _)
theorem FS.WF.crash (h : f.WF) (l : List Int) : (f.crash l).WF := by
 refine ⟨h.room, crashDirs_pair (n := f.files.length) (s := f.steps) (fun d e d' e' hde h1 h2 _ _ => by rw [h1, h2]; exact hde) h.each h.up, fun e he => ?_, crashDirs_pair (n := f.files.length) (s := f.steps) (fun d e d' e' hde _ _ h3 h4 x hx hx2 => hde x (h3 x hx) (h4 x hx2)) h.each h.apart, fun x hx => crashFiles_ok h.files x hx, ?_, fun n hn => by cases hn⟩
 · show e.WF (crashFiles _ _ _).1.length f.steps;rw [crashFiles_length];obtain ⟨d, _, _, hw, _⟩ := crashDirs_each h.each e he;exact hw
 · show (crashDirs _ _).1.length ≤ 64;rw [crashDirs_length];exact h.few
theorem FS.WF.idx_nodup (h : f.WF) : f.idx.Nodup := by
 unfold FS.idx List.Nodup
 rw [List.pairwise_flatMap]
 refine ⟨fun d hd => (h.each d hd).ok.once, h.apart.imp_of_mem fun {d e} hd he hde x hx y hy hxy => ?_⟩
 subst hxy
 exact hde x (now_speaks (h.each d hd) hx) (now_speaks (h.each e he) hy)
theorem FS.WF.idx_lt (h : f.WF) {x : Nat} (hx : x ∈ f.idx) : x < f.files.length := by
 obtain ⟨d, hd, hx⟩ := List.mem_flatMap.1 hx
 obtain ⟨p, hp, e⟩ := List.mem_map.1 hx
 rw [← e]
 exact ((h.each d hd).ok.each p hp).1
theorem sum_le {l : List Nat} {k : Nat} (h : ∀ x ∈ l, x ≤ k) : l.sum ≤ l.length * k := by
 induction l with
 | nil => simp
 | cons a l ih =>
   have := ih fun x hx => h x (List.mem_cons_of_mem _ hx);have h1 := h a (by simp);rw [List.sum_cons, List.length_cons, Nat.succ_mul];omega
theorem FS.WF.X_ok (h : f.WF) (x : Nat) : FileOk (f.X x) := getD_ok h.files x
theorem FS.WF.used_le (h : f.WF) : f.used ≤ 4398046511104 := by
 have h1 : f.used ≤ f.idx.length * 16777216 := by
  unfold FS.used;have := sum_le (l := f.idx.map fun x => (f.X x).b.length) (k := 16777216) fun y hy => by
   obtain ⟨x, _, rfl⟩ := List.mem_map.1 hy;exact (h.X_ok x).2.1
  rwa [List.length_map] at this
 have h2 : f.idx.length ≤ 262144 := by
  unfold FS.idx;rw [List.length_flatMap];have := sum_le (l := f.dirs.map fun d => (d.now.map (·.2)).length) (k := 4096) fun y hy => by
   obtain ⟨d, hd, rfl⟩ := List.mem_map.1 hy;rw [List.length_map];exact (h.each d hd).ok.few
  rw [List.length_map] at this;have := h.few;omega
 omega
theorem sum_bump {g g' : Nat → Nat} {x k : Nat} : ∀ {l : List Nat}, l.Nodup → x ∈ l → g' x = g x + k → (∀ y, y ≠ x → g' y = g y) → (l.map g').sum = (l.map g).sum + k
 | [], _, hx, _, _ => by cases hx
 | a :: l, hn, hx, h1, h2 => by
   have hn2 := List.nodup_cons.1 hn;simp only [List.map_cons, List.sum_cons]
   rcases List.mem_cons.1 hx with rfl | hx
   · have : l.map g' = l.map g := List.map_congr_left fun y hy => h2 y fun e => hn2.1 (by rw [← e]; exact hy);rw [this, h1];omega
   · rw [sum_bump hn2.2 hx h1 h2, h2 a fun e => hn2.1 (by rw [e]; exact hx)];omega
theorem X_setFile {g : File → File} (x y : Nat) : (f.setFile x g).X y = if x = y ∧ y < f.files.length then g (f.X y) else f.X y := by
 unfold FS.X FS.setFile
 simp only [List.getD_eq_getElem?_getD, get_modify]
 by_cases h : x = y
 · subst h
   cases hx : f.files[x]? with
   | none =>
     have : ¬ x < f.files.length := by rw [List.getElem?_eq_none_iff] at hx; omega
     simp [this]
   | some z =>
     have : x < f.files.length := (List.getElem?_eq_some_iff.1 hx).1;simp [this]
 · simp [h]
theorem FS.WF.used_append (h : f.WF) {x : Nat} (hx : x ∈ f.idx) (b : List Nat) : (f.setFile x fun y => { y with b := y.b ++ b }).used = f.used + b.length := by
 unfold FS.used
 have hl := h.idx_lt hx
 refine sum_bump (x := x) h.idx_nodup hx ?_ fun y hy => ?_
 · rw [X_setFile, if_pos ⟨rfl, hl⟩, List.length_append]
 · rw [X_setFile, if_neg fun e => hy e.1.symm]
theorem entry_idx {dir name : ByteArray} {i x : Nat} (h : f.entry dir name = .ok (i, x)) : x ∈ f.idx := by
 obtain ⟨h1, h2⟩ := entry_ok h
 obtain ⟨_, _, _, _, d, hd, _⟩ := ready_ok h1
 rw [D_of hd] at h2
 exact List.mem_flatMap.2 ⟨d, List.mem_of_getElem? hd, List.mem_map.2 ⟨_, of_mem h2, rfl⟩⟩
end AF
namespace AF
set_option linter.unusedVariables false
def Cut (y z : File) : Prop := ∃ n, y.safe ≤ n ∧ n ≤ y.b.length ∧ z.b = y.b.take n ∧ y.safe ≤ z.safe ∧ z.safe ≤ z.b.length
theorem Cut.refl {y : File} (h : FileOk y) : Cut y y := ⟨y.b.length, h.1, Nat.le_refl _, by rw [List.take_length], Nat.le_refl _, h.1⟩
theorem Cut.trans {x y z : File} (h1 : Cut x y) (h2 : Cut y z) : Cut x z := by
 obtain ⟨n, a1, a2, a3, a4, a5⟩ := h1
 obtain ⟨m, b1, b2, b3, b4, b5⟩ := h2
 have hl : y.b.length = n := by rw [a3, List.length_take]; omega
 exact ⟨m, by omega, by omega, by rw [b3, a3, List.take_take, Nat.min_eq_left (by omega)], by omega, b5⟩
theorem crashFiles_cut : ∀ (xs : List Nat) (fs : List File) (l : List Int), (∀ y ∈ fs, FileOk y) → ∀ (i : Nat) (y : File), fs[i]? = some y → ∃ z, (crashFiles xs fs l).1[i]? = some z ∧ Cut y z
 | [], fs, l, ho, i, y, hy => ⟨y, hy, Cut.refl (ho y (List.mem_of_getElem? hy))⟩
 | x :: xs, fs, l, ho, i, y, hy => by
   simp only [crashFiles];have hx := getD_ok ho x;have hok : ∀ z ∈ fs.set x ⟨(fs.getD x default).b.take ((fs.getD x default).safe + (pick l ((fs.getD x default).b.length - (fs.getD x default).safe)).1), (fs.getD x default).safe + (pick l ((fs.getD x default).b.length - (fs.getD x default).safe)).1⟩, FileOk z := fun z hz => by
    rcases List.mem_or_eq_of_mem_set hz with hz | rfl
    · exact ho z hz
    · exact cut_ok hx (pick_le _ _)
   have step : ∃ z, (fs.set x ⟨(fs.getD x default).b.take ((fs.getD x default).safe + (pick l ((fs.getD x default).b.length - (fs.getD x default).safe)).1), (fs.getD x default).safe + (pick l ((fs.getD x default).b.length - (fs.getD x default).safe)).1⟩)[i]? = some z ∧ Cut y z := by
    by_cases hxi : x = i
    · subst hxi;have hg : fs.getD x default = y := by rw [List.getD_eq_getElem?_getD, hy]; rfl
      rw [hg] at hx ⊢;have hp := pick_le l (y.b.length - y.safe);have h1 := hx.1;refine ⟨_, by rw [List.getElem?_set]; rw [if_pos rfl, if_pos (List.getElem?_eq_some_iff.1 hy).1], y.safe + (pick l (y.b.length - y.safe)).1, by omega, by omega, rfl, by show y.safe ≤ y.safe + _; omega, ?_⟩;show y.safe + _ ≤ (y.b.take _).length;rw [List.length_take];omega
    · exact ⟨y, by rw [List.getElem?_set, if_neg hxi]; exact hy, Cut.refl (ho y (List.mem_of_getElem? hy))⟩
   obtain ⟨z, hz, hc⟩ := step;obtain ⟨z2, hz2, hc2⟩ := crashFiles_cut xs _ (pick l ((fs.getD x default).b.length - (fs.getD x default).safe)).2 hok i z hz;exact ⟨z2, hz2, hc.trans hc2⟩
theorem crashDirs_at : ∀ (ds : List Dir) (l : List Int) (i : Nat) (d : Dir), ds[i]? = some d → ∃ k, k ≤ d.pend.length ∧ (crashDirs ds l).1[i]? = some ⟨d.name, play d.base (d.pend.take k), play d.base (d.pend.take k), []⟩
 | [], l, i, d, h => by simp at h
 | e :: ds, l, 0, d, h => by
   simp only [List.getElem?_cons_zero, Option.some.injEq] at h;subst h;exact ⟨_, pick_le l _, rfl⟩
 | e :: ds, l, i + 1, d, h => by
   obtain ⟨k, hk, he⟩ := crashDirs_at ds (pick l e.pend.length).2 i d (by simpa using h);exact ⟨k, hk, by simpa [crashDirs] using he⟩
section
variable {f : FS}
theorem crash_look (h : f.WF) (l : List Int) {i : Nat} {d : Dir} (hd : f.dirs[i]? = some d) : ∃ k, k ≤ d.pend.length ∧ (f.crash l).dirs[i]? = some ⟨d.name, play d.base (d.pend.take k), play d.base (d.pend.take k), []⟩ ∧
  ∀ (x : Nat) (y : File), f.files[x]? = some y → ∃ z, (f.crash l).files[x]? = some z ∧ Cut y z := by
 obtain ⟨k, hk, he⟩ := crashDirs_at f.dirs l i d hd
 refine ⟨k, hk, he, fun x y hy => ?_⟩
 exact crashFiles_cut _ f.files _ h.files x y hy
theorem find_first {l : List Dir} {i : Nat} {d : Dir} (hn : (l.map (·.name)).Nodup) (hd : l[i]? = some d) : l.findIdx? (fun e => decide (e.name = d.name)) = some i := by
 rw [List.findIdx?_eq_some_iff_getElem]
 obtain ⟨hi, e⟩ := List.getElem?_eq_some_iff.1 hd
 refine ⟨hi, by simp [e], fun j hj => ?_⟩
 have := List.pairwise_iff_getElem.1 (List.pairwise_map.1 hn) j i (by omega) hi hj
 rw [e] at this
 simpa using this
theorem FS.WF.at_of (h : f.WF) {i : Nat} {d : Dir} (hd : f.dirs[i]? = some d) : f.at d.name = some i := by
 refine find_first ?_ hd
 rw [List.Nodup, List.pairwise_map]
 refine List.Pairwise.imp ?_ h.up
 intro a b hab e
 rw [← e] at hab
 exact strLt_irrefl a.name hab
theorem ready_of (h : f.WF) (ho : f.off = false) {i : Nat} {d : Dir} (hd : f.dirs[i]? = some d) {ss : List ByteArray} (hs : ∀ s ∈ ss, right s = true) : f.ready d.name ss = .ok i := by
 have hr : (right d.name && ss.all right) = true := by
  rw [Bool.and_eq_true, List.all_eq_true];exact ⟨(h.each d (List.mem_of_getElem? hd)).name, hs⟩
 unfold FS.ready FS.named
 rw [ho, if_neg (by decide), if_pos hr, h.at_of hd]
end
end AF
end Go.Proofs.YtibdiikcigokjaaGreatDoor
