/- The iterator over frames in the program of seat r2; the records at the beginning of bytes. The log as plain data; its last segment, names, Sync. The log: a new segment, a record more. The log: Append, what is told of it, the search. The log: Read. The log: Read, the walk. The log in a file system with power and room: what it keeps (plain). The log in a file system with power and room: records are put, and read. The log in a file system with power and room: what is read. A log in a new directory; the chapter's example; no log. -/
import Derived.Test.YticjjdhaikbdaaaGreatPpPlA
import Derived.Test.YticjjdhaikbdaaaGreatPpTe

namespace Go.Proofs.YticjjdhaikbdaaaGreat
open Go Go.RowKit
set_option linter.unusedVariables false
set_option linter.unusedSimpArgs false
open Crc (Run More)
open Frame (be4 val4 packN firstN refAt scanN reach be4_B8 val4_lt val4_take packN_length packN_B8)

theorem sub_left {r s : PHeap} {h : Heap} (H : sub (union r s) h) : sub r h := fun b x hx => H b x (union_left hx)
/-- The records with which bytes begin. -/
def goodN (x : List Nat) : List (List Nat) := (scanN x).takeWhile fun y => decide (y.length ≤ 1024)
end Go.Proofs.YticjjdhaikbdaaaGreat

namespace Go.Proofs.YticjjdhaikbdaaaGreat
open Go Go.RowKit
set_option linter.unusedVariables false
set_option linter.unusedSimpArgs false
open Frame (packN)

theorem ofN_size {x : List Nat} (h8 : B8 x) : (ofN x).size = x.length := by rw [← sb_length, sb_ofN h8]
namespace AF
/-- A segment's name. -/
def sgN (n : Nat) : ByteArray := ⟨#[115, 46]⟩ ++ ofN (Hex.digs 16 n)
structure Part where
  base : Nat
  count : Nat
  size : Nat
structure Log where
  dir : ByteArray
  size : Nat
  parts : List Part
  fin : Nat
  dur : Nat
def Log.sync (L : Log) (A : FS) : FS × Nat := match L.parts.getLast? with
  | none => (A, 0)
  | some p => A.sync L.dir (sgN p.base)
/-- A new segment. -/
def Log.roll (L : Log) (A : FS) : FS × Log × Nat :=
  let r1 := L.sync A
  if r1.2 ≠ 0 then (r1.1, L, r1.2) else
  let r2 := r1.1.create L.dir (sgN L.fin)
  if r2.2 ≠ 0 then (r2.1, { L with dur := L.fin }, r2.2) else
  let r3 := r2.1.syncDir L.dir
  if r3.2 ≠ 0 then (r3.1, { L with dur := L.fin }, r3.2) else
  (r3.1, { L with dur := L.fin, parts := L.parts ++ [⟨L.fin, 0, 0⟩] }, 0)
/-- A record behind the last segment. -/
def Log.put (L : Log) (A : FS) (b : List Nat) : FS × Log × Except Nat Nat := match L.parts.getLast? with
  | none => (A, L, .error 0)
  | some p =>
    let r := A.append L.dir (sgN p.base) (packN b)
    if r.2 ≠ 0 then (r.1, L, .error r.2) else (r.1, { L with parts := L.parts.dropLast ++ [⟨p.base, p.count + 1, p.size + (8 + b.length)⟩], fin := L.fin + 1 }, .ok L.fin)
def Log.full (L : Log) : Bool := match L.parts.getLast? with
  | none => true
  | some p => decide (L.size ≤ p.size)
def Log.append (L : Log) (A : FS) (b : List Nat) : FS × Log × Except Nat Nat :=
  if 1024 < b.length then (A, L, .error 100) else
  if L.full then
    let r := L.roll A
    if r.2.2 ≠ 0 then (r.1, r.2.1, .error r.2.2) else r.2.1.put r.1 b
  else L.put A b
structure Log.Small (k : Nat) (L : Log) : Prop where
  few : k ≤ 100000
  size : L.size ≤ 16777216
  dir : L.dir.size < 4611686018427387904
  many : L.parts.length ≤ k
  fin : L.fin ≤ k * 16777216
  each : ∀ p ∈ L.parts, p.base ≤ k * 16777216 ∧ p.count ≤ k * 16777216 ∧ p.size ≤ k * 16777216
theorem sgN_size (n : Nat) : (sgN n).size = 18 := by
  unfold sgN
  rw [ByteArray.size_append, ofN_size (Hex.digs_B8 16 n), Hex.digs_length]
  rfl
end AF

section
variable {lb fb : Nat} {L : AF.Log} {A : AF.FS} {F : List HProp} {h : Heap} {k : Nat}
end

end Go.Proofs.YticjjdhaikbdaaaGreat

namespace Go.Proofs.YticjjdhaikbdaaaGreat
open Go Go.RowKit
set_option linter.unusedVariables false
set_option linter.unusedSimpArgs false
set_option maxRecDepth 4000
open Frame (packN packN_length packN_B8)

/-- append, for elements of several cells. -/
def infoSz (P : Program) (e : TypeId) (sz b : Nat) : Bool :=
  match P.info? e with
  | some i => match i.zero with
    | some z => Nat.beq z.cells.size sz && Nat.beq i.size sz && Nat.beq i.bytes b && Nat.ble 1 b && Nat.ble 1 sz
    | none => false
  | none => false
theorem infoSz_ex {P : Program} {e : TypeId} {sz b : Nat} (h : infoSz P e sz b = true) : ∃ i z, P.info? e = some i ∧ i.zero = some z ∧ z.cells.size = sz ∧ i.size = sz ∧ i.bytes = b ∧ 1 ≤ b ∧ 1 ≤ sz := by
  unfold infoSz at h
  split at h
  · rename_i i hi
    split at h
    · rename_i z hz
      simp only [Bool.and_eq_true] at h
      exact ⟨i, z, hi, hz, Nat.eq_of_beq_eq_true h.1.1.1.1, Nat.eq_of_beq_eq_true h.1.1.1.2, Nat.eq_of_beq_eq_true h.1.1.2, Nat.le_of_ble_eq_true h.1.2, Nat.le_of_ble_eq_true h.2⟩
    · cases h
  · cases h
theorem appendN {P : Program} {h : Heap} {F : List HProp} {a : Option Addr} {l c sz : Nat} {xs ys : List Value} {t u ty e : TypeId} {b : Nat} {x : Value} {n : Nat} {K : Value → Heap → Prop}
    (ht : P.underlying t = some (.slice e)) (hu : srcTy P u = true) (hi : infoSz P e sz b = true)
    (H : sat (ownS e sz a l c xs :: F) h) (hx : SrcOf P h sz x n ys) (h1 : ∀ u ∈ ys, u.oneCell' = true) (hb : (l + n) * b ≤ 140737488355328)
    (hK : ∀ a' c' h', (a' = none → l + n = 0) → sat (ownS e sz a' (l + n) c' (xs ++ ys) :: F) h' → K (.slice a' (l + n) c') h') :
    RunH P (Builtin.append_ #[t, u] ty #[.slice a l c, x]) h K := by
  obtain ⟨i, z, e1, e2, e3, e4, e5, e6, e7⟩ := infoSz_ex hi
  subst e5
  have hle : l + n ≤ (l + n) * i.bytes := Nat.le_mul_of_pos_right _ (by omega)
  refine append_sat ht hu e1 e2 (by rw [e3, e4]) (by omega) (by rw [e4]; exact H) (by rw [e4]; exact hx) h1 (by omega) hb (by unfold maxLen; omega) ?_
  rw [e4]
  exact hK
namespace AF
variable {L : Log} {A : FS} {k : Nat}
theorem Log.Small.grow {k' : Nat} (S : L.Small k) (hk : k ≤ k') (hk' : k' ≤ 100000) : L.Small k' := by
  have hm : k * 16777216 ≤ k' * 16777216 := Nat.mul_le_mul_right _ hk
  exact ⟨hk', S.size, S.dir, Nat.le_trans S.many hk, Nat.le_trans S.fin hm, fun p hp => ⟨Nat.le_trans (S.each p hp).1 hm, Nat.le_trans (S.each p hp).2.1 hm, Nat.le_trans (S.each p hp).2.2 hm⟩⟩
theorem Log.sync_steps : (L.sync A).1.steps ≤ A.steps + 1 := by
  unfold Log.sync
  split
  · exact Nat.le_succ _
  · exact AF.sync_steps _ _
end AF

section
variable {lb fb : Nat} {L : AF.Log} {A : AF.FS} {F : List HProp} {h : Heap} {k : Nat}
theorem LdStr {h : Heap} {F : List HProp} {b i : Nat} {c : Array Value} {e : TypeId} {fr : Nat × Nat} {x : ByteArray} {K : ByteArray → Prop} (H : sat (pt b (.cells c e fr) :: F) h) (hv : c[i]? = some (.string x)) (hK : K x) :
    Ld h ((Addr.mk b 0 none).add i) fun v => DS v K := LdC (v := .string x) H hv ⟨_, rfl, hK⟩
theorem LdInt {h : Heap} {F : List HProp} {b i : Nat} {c : Array Value} {e : TypeId} {fr : Nat × Nat} {k : IntKind} {x : Int} {K : Int → Prop} (H : sat (pt b (.cells c e fr) :: F) h) (hv : c[i]? = some (.int k x)) (hK : K x) :
    Ld h ((Addr.mk b 0 none).add i) fun v => DI k v K := LdC (v := .int k x) H hv ⟨_, rfl, hK⟩
theorem LdSl {h : Heap} {F : List HProp} {b i : Nat} {c : Array Value} {e : TypeId} {fr : Nat × Nat} {a : Option Addr} {l m : Nat} {K : Option Addr → Nat → Nat → Prop} (H : sat (pt b (.cells c e fr) :: F) h) (hv : c[i]? = some (.slice a l m)) (hK : K a l m) :
    Ld h ((Addr.mk b 0 none).add i) fun v => DSl v K := LdC (v := .slice a l m) H hv (by rw [DSl_slice]; exact hK)
end

end Go.Proofs.YticjjdhaikbdaaaGreat

namespace Go.Proofs.YticjjdhaikbdaaaGreat
open Go Go.RowKit
set_option linter.unusedVariables false
set_option linter.unusedSimpArgs false
open Frame (packN packN_length packN_B8)

namespace AF
variable {L : Log} {A : FS} {k : Nat} {b : List Nat}
/-- Ends rise, and the last is not behind the log's end. -/
structure Log.Up (L : Log) : Prop where
  ends : ∀ p ∈ L.parts, p.base + p.count ≤ L.fin
  rise : L.parts.Pairwise fun p q => p.base + p.count ≤ q.base + q.count
end AF

section
variable {lb fb : Nat} {L : AF.Log} {A : AF.FS} {F : List HProp} {h : Heap} {k : Nat}
end

end Go.Proofs.YticjjdhaikbdaaaGreat

namespace Go.Proofs.YticjjdhaikbdaaaGreat
open Go Go.RowKit
set_option linter.unusedVariables false
set_option linter.unusedSimpArgs false
open Frame (packN packN_length packN_B8)

namespace AF
def Log.readGo (A : FS) (dir : ByteArray) (lo hi : Nat) : List Part → List (List Nat) → Except Nat (List (List Nat))
  | [], out => .ok out
  | p :: ps, out => if hi ≤ p.base ∨ lo = hi then .ok out else if p.count = 0 then Log.readGo A dir lo hi ps out else
    match A.read dir (sgN p.base) with
    | .error e => .error e
    | .ok bs => if (goodN bs).length < p.count then .error 70 else Log.readGo A dir lo hi ps (out ++ ((goodN bs).take (min (hi - p.base) p.count)).drop (lo - p.base))
/-- From where on it is read. -/
def Log.from_ (L : Log) (lo : Nat) : Nat := L.parts.findIdx fun p => decide (lo < p.base + p.count)
def Log.read (L : Log) (A : FS) (lo hi : Int) : Except Nat (List (List Nat)) :=
  if lo < 0 ∨ hi < lo ∨ (L.fin : Int) < hi then .error 101 else Log.readGo A L.dir lo.toNat hi.toNat (L.parts.drop (L.from_ lo.toNat)) []
end AF

theorem CInt {h : Heap} {a : Addr} {k : IntKind} {x : Int} {K : Int → Prop} (hv : cellAt h a = some (.int k x)) (hK : K x) : Ld h a fun v => DI k v K := ⟨_, hv, _, rfl, hK⟩
section
variable {lb fb : Nat} {L : AF.Log} {A : AF.FS} {F : List HProp} {h : Heap} {k : Nat}
end

end Go.Proofs.YticjjdhaikbdaaaGreat

namespace Go.Proofs.YticjjdhaikbdaaaGreat
open Go Go.RowKit
set_option linter.unusedVariables false
set_option linter.unusedSimpArgs false
open Frame (packN packN_length packN_B8 reach)

section
variable {lb fb : Nat} {L : AF.Log} {A : AF.FS} {F : List HProp} {h : Heap} {k : Nat}
end

end Go.Proofs.YticjjdhaikbdaaaGreat

namespace Go.Proofs.YticjjdhaikbdaaaGreat
open Go Go.RowKit
set_option linter.unusedVariables false
set_option linter.unusedSimpArgs false
open Frame (packN packN_length packN_B8 scanN reach)
open Hex (digs hexd)

theorem hexd_right {x : Nat} (h : x < 16) : (decide (97 ≤ hexd x) && decide (hexd x ≤ 122) || (decide (48 ≤ hexd x) && decide (hexd x ≤ 57)) || decide (hexd x = 46)) = true := by
  have : ∀ x : Fin 16, (decide (97 ≤ hexd x.val) && decide (hexd x.val ≤ 122) || (decide (48 ≤ hexd x.val) && decide (hexd x.val ≤ 57)) || decide (hexd x.val = 46)) = true := by decide
  exact this ⟨x, h⟩
theorem digs_mem : ∀ (k m c : Nat), c ∈ digs k m → ∃ x, x < 16 ∧ c = hexd x
  | 0, m, c, h => by cases h
  | k + 1, m, c, h => by
    rw [digs] at h
    rcases List.mem_cons.1 h with rfl | h
    · exact ⟨_, Nat.mod_lt _ (by decide), rfl⟩
    · exact digs_mem k m c h
namespace AF
theorem sgN_right (n : Nat) : right (sgN n) = true := by
  unfold right
  rw [sgN_size]
  have : (sgN n).data.toList.all (fun c => (decide (97 ≤ c.toNat) && decide (c.toNat ≤ 122)) || (decide (48 ≤ c.toNat) && decide (c.toNat ≤ 57)) || decide (c.toNat = 46)) = true := by
    rw [List.all_eq_true]
    intro c hc
    have e : sb (sgN n) = [115, 46] ++ digs 16 n := by
      unfold sgN
      rw [sb_append, sb_ofN (Hex.digs_B8 16 n)]
      rfl
    have hm : c.toNat ∈ sb (sgN n) := List.mem_map.2 ⟨c, hc, rfl⟩
    rw [e] at hm
    rcases List.mem_append.1 hm with h | h
    · have : c.toNat = 115 ∨ c.toNat = 46 := by simpa using h
      rcases this with h | h <;> rw [h] <;> decide
    · obtain ⟨x, hx, hc⟩ := digs_mem 16 n _ h
      rw [hc]
      exact hexd_right hx
  rw [this]
  rfl
theorem ins_end {n : ByteArray} {f : Nat} : ∀ {l : Names}, (∀ p ∈ l, ltB p.1 n = true) → ins n f l = l ++ [(n, f)]
  | [], _ => rfl
  | p :: l, h => by
    have h1 := h p (by simp)
    have h2 : p.1 ≠ n := fun e => by rw [e] at h1; exact strLt_irrefl _ h1
    have h3 : ¬ ltB n p.1 = true := fun e => strLt_irrefl _ (strLt_trans e h1)
    rw [ins, if_neg h2, if_neg h3, ins_end fun q hq => h q (by simp [hq])]
    rfl
def pN : ByteArray := ⟨#[112]⟩
def body (g : List (List Nat)) : List Nat := (g.map packN).flatten
def partsOf : Nat → List (List (List Nat)) → List Part
  | _, [] => []
  | b, g :: gs => ⟨b, g.length, (body g).length⟩ :: partsOf (b + g.length) gs
def nowOf : Nat → Nat → List (List (List Nat)) → Names
  | _, _, [] => []
  | b, i, g :: gs => (sgN b, i) :: nowOf (b + g.length) (i + 1) gs
theorem nowOf_idx : ∀ (b i : Nat) (gs : List (List (List Nat))), (nowOf b i gs).map (·.2) = List.range' i gs.length
  | b, i, [] => rfl
  | b, i, x :: gs => by rw [nowOf, List.map_cons, nowOf_idx, List.length_cons, List.range'_succ]
theorem nowOf_mem : ∀ (b i j : Nat) (gs : List (List (List Nat))), j < gs.length → (sgN (b + (gs.take j).flatten.length), i + j) ∈ nowOf b i gs
  | b, i, j, [], h => by simp at h
  | b, i, 0, x :: gs, h => by simp [nowOf]
  | b, i, j + 1, x :: gs, h => by
    have := nowOf_mem (b + x.length) (i + 1) j gs (by simpa using h)
    rw [nowOf, List.take_succ_cons, List.flatten_cons, List.length_append, ← Nat.add_assoc, Nat.add_comm j 1, ← Nat.add_assoc]
    exact List.mem_cons_of_mem _ this
structure SegInv (room : Nat) (gs : List (List (List Nat))) (A : FS) (L : Log) : Prop where
  wf : A.WF
  off : A.off = false
  fuse : A.fuse = none
  room : A.room = room
  dir : ∃ base pend, A.dirs = [⟨pN, nowOf 0 0 gs, base, pend⟩]
  files : A.files.map (·.b) = gs.map body
  ldir : L.dir = pN
  parts : L.parts = partsOf 0 gs
  fin : L.fin = gs.flatten.length
  size : 1 ≤ L.size
section
variable {room : Nat} {gs : List (List (List Nat))} {g : List (List Nat)} {A : FS} {L : Log} {b : List Nat}
theorem SegInv.ready (I : SegInv room gs A L) {ss : List ByteArray} (hs : ∀ s ∈ ss, right s = true) : A.ready pN ss = .ok 0 := by
  obtain ⟨base, pend, hd⟩ := I.dir
  exact ready_of (d := ⟨pN, nowOf 0 0 gs, base, pend⟩) I.wf I.off (i := 0) (by rw [hd]; rfl) hs
theorem SegInv.now (I : SegInv room gs A L) : (A.D 0).now = nowOf 0 0 gs := by
  obtain ⟨base, pend, hd⟩ := I.dir
  unfold FS.D
  rw [hd]
  rfl
theorem SegInv.ok (I : SegInv room gs A L) : Ok A.files.length (nowOf 0 0 gs) := by
  obtain ⟨base, pend, hd⟩ := I.dir
  exact (I.wf.each ⟨pN, nowOf 0 0 gs, base, pend⟩ (by rw [hd]; simp)).ok
theorem SegInv.of (I : SegInv room gs A L) {j : Nat} (hj : j < gs.length) : of (A.D 0).now (sgN (gs.take j).flatten.length) = some j := by
  rw [I.now]
  have := nowOf_mem 0 0 j gs hj
  rw [Nat.zero_add, Nat.zero_add] at this
  exact mem_of I.ok.up.nodup this
theorem SegInv.entry (I : SegInv room gs A L) {j : Nat} (hj : j < gs.length) : A.entry pN (sgN (gs.take j).flatten.length) = .ok (0, j) := by
  unfold FS.entry
  rw [I.ready (by intro s hs; rw [List.mem_singleton] at hs; rw [hs]; exact sgN_right _)]
  simp only [I.of hj]
theorem SegInv.file (I : SegInv room gs A L) {j : Nat} {g : List (List Nat)} (hj : gs[j]? = some g) : (A.X j).b = body g := by
  have := congrArg (fun l => l[j]?) I.files
  simp only [List.getElem?_map, hj] at this
  unfold FS.X
  rw [List.getD_eq_getElem?_getD]
  cases hf : A.files[j]? with
  | none => rw [hf] at this; cases this
  | some x => rw [hf] at this; simpa using this
theorem SegInv.read (I : SegInv room gs A L) {j : Nat} {g : List (List Nat)} (hj : gs[j]? = some g) : A.read pN (sgN (gs.take j).flatten.length) = .ok (body g) := by
  unfold FS.read
  rw [I.entry (List.getElem?_eq_some_iff.1 hj).1]
  simp only [I.file hj]
theorem SegInv.used (I : SegInv room gs A L) : A.used = (gs.map fun g => (body g).length).sum := by
  obtain ⟨base, pend, hd⟩ := I.dir
  unfold FS.used FS.idx
  rw [hd, List.flatMap_cons, List.flatMap_nil, List.append_nil]
  dsimp only
  rw [nowOf_idx]
  congr 1
  apply List.ext_getElem?
  intro j
  rw [List.getElem?_map, List.getElem?_map]
  by_cases hj : j < gs.length
  · rw [List.getElem?_range' hj]
    obtain ⟨g, hg⟩ : ∃ g, gs[j]? = some g := ⟨_, List.getElem?_eq_getElem hj⟩
    rw [hg, Option.map_some, Option.map_some, Nat.zero_add, Nat.one_mul, I.file hg]
  · rw [List.getElem?_eq_none (by rw [List.length_range']; omega), List.getElem?_eq_none (by omega)]
    rfl
end
end AF

end Go.Proofs.YticjjdhaikbdaaaGreat

namespace Go.Proofs.YticjjdhaikbdaaaGreat
open Go Go.RowKit
set_option linter.unusedVariables false
set_option linter.unusedSimpArgs false
open Frame (packN packN_length packN_B8 scanN reach)
namespace AF
section
variable {room : Nat} {gs : List (List (List Nat))} {g : List (List Nat)} {A : FS} {L : Log} {b : List Nat}
end
end AF

end Go.Proofs.YticjjdhaikbdaaaGreat

namespace Go.Proofs.YticjjdhaikbdaaaGreat
open Go Go.RowKit
set_option linter.unusedVariables false
set_option linter.unusedSimpArgs false
open Frame (packN packN_length packN_B8 scanN reach)
namespace AF
end AF

end Go.Proofs.YticjjdhaikbdaaaGreat

namespace Go.Proofs.YticjjdhaikbdaaaGreat
open Go Go.RowKit
set_option linter.unusedVariables false
set_option linter.unusedSimpArgs false
open Frame (packN packN_length packN_B8)

namespace AF
variable {L : Log} {A : FS} {b : List Nat}
end AF
section
variable {b : Nat} {A A' : AF.FS} {F : List HProp} {h : Heap} {dir name : ByteArray}
end

end Go.Proofs.YticjjdhaikbdaaaGreat
