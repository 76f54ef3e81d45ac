/- The iterator over frames in the program of seat r2; the records at the beginning of bytes. The log as plain data; its last segment, names, Sync. The log: a new segment, a record more. The log: Append, what is told of it, the search. The log: Read. The log: Read, the walk. The log in a file system with power and room: what it keeps (plain). The log in a file system with power and room: records are put, and read. The log in a file system with power and room: what is read. A log in a new directory; the chapter's example; no log. -/
import Derived.Test.YticjjdhaikbdaaaGreatDoorSnPlA
import Derived.Test.YticjjdhaikbdaaaGreatDoorSnTe

namespace Go.Proofs.YticjjdhaikbdaaaGreatDoor
open Go Go.RowKit
set_option linter.unusedVariables false
set_option linter.unusedSimpArgs false
open Crc (Run More)
open Frame (be4 val4 packN firstN refAt scanN reach be4_B8 val4_lt val4_take packN_length packN_B8)

/-- The records with which bytes begin. -/
def goodN (x : List Nat) : List (List Nat) := (scanN x).takeWhile fun y => decide (y.length ≤ 1024)
end Go.Proofs.YticjjdhaikbdaaaGreatDoor

namespace Go.Proofs.YticjjdhaikbdaaaGreatDoor
open Go Go.RowKit
set_option linter.unusedVariables false
set_option linter.unusedSimpArgs false
open Frame (packN)

theorem ofN_size {x : List Nat} (h8 : B8 x) : (ofN x).size = x.length := by rw [← sb_length, sb_ofN h8]
namespace AF
/-- A segment's name. -/
def sgN (n : Nat) : ByteArray := ⟨#[115, 46]⟩ ++ ofN (Hex.digs 16 n)
structure Part where
  base : Nat
  count : Nat
  size : Nat
structure Log where
  dir : ByteArray
  size : Nat
  parts : List Part
  fin : Nat
  dur : Nat
def Log.sync (L : Log) (A : FS) : FS × Nat := match L.parts.getLast? with
  | none => (A, 0)
  | some p => A.sync L.dir (sgN p.base)
def Log.synced (L : Log) (e : Nat) : Log := if e = 0 then { L with dur := L.fin } else L
/-- A new segment. -/
def Log.roll (L : Log) (A : FS) : FS × Log × Nat :=
  let r1 := L.sync A
  if r1.2 ≠ 0 then (r1.1, L, r1.2) else
  let r2 := r1.1.create L.dir (sgN L.fin)
  if r2.2 ≠ 0 then (r2.1, { L with dur := L.fin }, r2.2) else
  let r3 := r2.1.syncDir L.dir
  if r3.2 ≠ 0 then (r3.1, { L with dur := L.fin }, r3.2) else
  (r3.1, { L with dur := L.fin, parts := L.parts ++ [⟨L.fin, 0, 0⟩] }, 0)
/-- A record behind the last segment. -/
def Log.put (L : Log) (A : FS) (b : List Nat) : FS × Log × Except Nat Nat := match L.parts.getLast? with
  | none => (A, L, .error 0)
  | some p =>
    let r := A.append L.dir (sgN p.base) (packN b)
    if r.2 ≠ 0 then (r.1, L, .error r.2) else (r.1, { L with parts := L.parts.dropLast ++ [⟨p.base, p.count + 1, p.size + (8 + b.length)⟩], fin := L.fin + 1 }, .ok L.fin)
def Log.full (L : Log) : Bool := match L.parts.getLast? with
  | none => true
  | some p => decide (L.size ≤ p.size)
def Log.append (L : Log) (A : FS) (b : List Nat) : FS × Log × Except Nat Nat :=
  if 1024 < b.length then (A, L, .error 100) else
  if L.full then
    let r := L.roll A
    if r.2.2 ≠ 0 then (r.1, r.2.1, .error r.2.2) else r.2.1.put r.1 b
  else L.put A b
structure Log.Small (k : Nat) (L : Log) : Prop where
  few : k ≤ 100000
  size : L.size ≤ 16777216
  dir : L.dir.size < 4611686018427387904
  many : L.parts.length ≤ k
  fin : L.fin ≤ k * 16777216
  each : ∀ p ∈ L.parts, p.base ≤ k * 16777216 ∧ p.count ≤ k * 16777216 ∧ p.size ≤ k * 16777216
theorem sgN_size (n : Nat) : (sgN n).size = 18 := by
  unfold sgN
  rw [ByteArray.size_append, ofN_size (Hex.digs_B8 16 n), Hex.digs_length]
  rfl
end AF

def partsC (ps : List AF.Part) : List Value := ps.flatMap fun p => [.int .i64 (p.base : Int), .int .i64 (p.count : Int), .int .i64 (p.size : Int)]
theorem partsC_append (a b : List AF.Part) : partsC (a ++ b) = partsC a ++ partsC b := by simp [partsC]
theorem partsC_cons (p : AF.Part) (b : List AF.Part) : partsC (p :: b) = .int .i64 (p.base : Int) :: .int .i64 (p.count : Int) :: .int .i64 (p.size : Int) :: partsC b := rfl
theorem partsC_length (ps : List AF.Part) : (partsC ps).length = ps.length * 3 := by
  induction ps with
  | nil => rfl
  | cons p ps ih => rw [partsC_cons, List.length_cons, List.length_cons, List.length_cons, ih, List.length_cons]; omega
theorem partsC_get : ∀ {ps : List AF.Part} {i : Nat} {p : AF.Part}, ps[i]? = some p → (partsC ps)[i * 3]? = some (.int .i64 (p.base : Int)) ∧ (partsC ps)[i * 3 + 1]? = some (.int .i64 (p.count : Int)) ∧ (partsC ps)[i * 3 + 2]? = some (.int .i64 (p.size : Int))
  | [], i, p, h => by cases h
  | q :: ps, 0, p, h => by
    cases h
    exact ⟨rfl, rfl, rfl⟩
  | q :: ps, i + 1, p, h => by
    have ih := partsC_get (ps := ps) (i := i) (p := p) h
    rw [show (i + 1) * 3 = i * 3 + 3 by omega, partsC_cons]
    exact ih
theorem partsC_last (a : List AF.Part) (p : AF.Part) : (partsC (a ++ [p])).set (a.length * 3 + 1) (.int .i64 ((p.count + 1 : Nat) : Int)) = partsC (a ++ [⟨p.base, p.count + 1, p.size⟩]) := by
  rw [partsC_append, partsC_append, List.set_append_right _ _ (by rw [partsC_length]; omega), partsC_length, show a.length * 3 + 1 - a.length * 3 = 1 by omega]
  rfl
theorem partsC_last2 (a : List AF.Part) (p : AF.Part) (n : Nat) : (partsC (a ++ [p])).set (a.length * 3 + 2) (.int .i64 ((n : Nat) : Int)) = partsC (a ++ [⟨p.base, p.count, n⟩]) := by
  rw [partsC_append, partsC_append, List.set_append_right _ _ (by rw [partsC_length]; omega), partsC_length, show a.length * 3 + 2 - a.length * 3 = 2 by omega]
  rfl
def logC (fb : Nat) (L : AF.Log) (a : Option Addr) (c : Nat) : Array Value := #[ptrV fb, .string L.dir, .int .i64 (L.size : Int), .slice a L.parts.length c, .int .i64 (L.fin : Int), .int .i64 (L.dur : Int)]
def logP (lb fb : Nat) (L : AF.Log) : HProp := exi fun q : Option Addr × Nat => Many [pt lb (.cells (logC fb L q.1 q.2) 152 (0, 0)), ownS 158 3 q.1 L.parts.length q.2 (partsC L.parts)]
section
variable {lb fb : Nat} {L : AF.Log} {A : AF.FS} {F : List HProp} {h : Heap} {k : Nat}
theorem logP_open (H : sat (logP lb fb L :: F) h) : ∃ (a : Option Addr) (c : Nat), sat (pt lb (.cells (logC fb L a c) 152 (0, 0)) :: ownS 158 3 a L.parts.length c (partsC L.parts) :: F) h := by
  obtain ⟨⟨a, c⟩, H2⟩ := sat_exi.1 H
  exact ⟨a, c, H2.open⟩
theorem logP_shut {a : Option Addr} {c : Nat} (H : sat (pt lb (.cells (logC fb L a c) 152 (0, 0)) :: ownS 158 3 a L.parts.length c (partsC L.parts) :: F) h) : sat (logP lb fb L :: F) h :=
  sat_exi.2 ⟨(a, c), sat.shut (m := [pt lb (.cells (logC fb L a c) 152 (0, 0)), ownS 158 3 a L.parts.length c (partsC L.parts)]) H⟩
theorem F89_spec {n : Nat} (hn : n < 9223372036854775808) (H : sat F h) : CallsH Tryz.prog 89 [.int .i64 (n : Int)] h fun v h' => v = .string (AF.sgN n) ∧ sat F h' := by
  apply F89b_ok
  unfold F89b
  refine (F132_spec H).mono ?_
  rintro v h1 ⟨rfl, H1⟩
  rw [DS_string, natOf_nat (by omega)]
  refine ⟨?_, rfl, H1⟩
  rw [ofN_size (Hex.digs_B8 16 n), Hex.digs_length]
  decide
/-- Where the last segment stands. -/
def lastA (a : Option Addr) (n : Nat) : Option Addr := if n = 0 then none else a.map fun b => b.add ((n - 1) * 3)
theorem F86_spec {a : Option Addr} {c : Nat} (hs : L.parts.length < 4611686018427387904) (H : sat (pt lb (.cells (logC fb L a c) 152 (0, 0)) :: ownS 158 3 a L.parts.length c (partsC L.parts) :: F) h) :
    CallsH Tryz.prog 86 [ptrV lb] h fun v h' => v = .pointer (lastA a L.parts.length) ∧ h' = h := by
  apply F86b_ok
  unfold F86b
  simp only [NN'_some']
  refine LdC (v := .slice a L.parts.length c) H rfl ?_
  rw [DSl_slice]
  by_cases h0 : L.parts.length = 0
  · rw [h0, show ((((0 : Nat) : Int)) == 0) = true from rfl, cond_true]
    exact ⟨rfl, by trivial⟩
  · rw [show (((L.parts.length : Nat) : Int) == 0) = false by rw [beq_eq_false_iff_ne]; omega, cond_false]
    refine LdC (v := .slice a L.parts.length c) H rfl ?_
    rw [DSl_slice]
    refine LdC (v := .slice a L.parts.length c) H rfl ?_
    rw [DSl_slice]
    have w : IntKind.wrap .i64 ((L.parts.length : Int) - 1) = ((L.parts.length - 1 : Nat) : Int) := by rw [IntWalk.i64_in _ (by omega)]; omega
    rw [w]
    obtain ⟨b, hb, _⟩ := (ownS_read (H.mv 1)).nilOr (i := 0) (v := (partsC L.parts)[0]'(by rw [partsC_length]; omega)) (List.getElem?_eq_getElem _)
    refine ⟨b, hb, by omega, by omega, ?_, by trivial⟩
    unfold lastA
    rw [if_neg h0, hb, Int.toNat_natCast]
    rfl
theorem last_split {ps : List AF.Part} {p : AF.Part} (h : ps.getLast? = some p) : ps = ps.dropLast ++ [p] := by
  obtain ⟨ys, rfl⟩ := List.getLast?_eq_some_iff.1 h
  rw [List.dropLast_concat]
/-- The last segment's cells. -/
theorem lastCells {a : Option Addr} {c : Nat} {p : AF.Part} (hp : L.parts.getLast? = some p) (H : sat (ownS 158 3 a L.parts.length c (partsC L.parts) :: F) h) :
    ∃ b, a = some b ∧ lastA a L.parts.length = some (b.add (L.parts.dropLast.length * 3)) ∧ cellAt h ((b.add (L.parts.dropLast.length * 3)).add 0) = some (.int .i64 (p.base : Int)) ∧
      cellAt h ((b.add (L.parts.dropLast.length * 3)).add 1) = some (.int .i64 (p.count : Int)) ∧ cellAt h ((b.add (L.parts.dropLast.length * 3)).add 2) = some (.int .i64 (p.size : Int)) := by
  have hs := last_split hp
  have hl : L.parts.length = L.parts.dropLast.length + 1 := by
    have := congrArg List.length hs
    simpa using this
  have hg : L.parts[L.parts.dropLast.length]? = some p := by
    rw [List.getLast?_eq_getElem?] at hp
    rw [← hp, hl]
    rfl
  obtain ⟨h0, h1, h2⟩ := partsC_get hg
  have hr := ownS_read H
  obtain ⟨b, hb, c0⟩ := hr.nilOr h0
  obtain ⟨b1, hb1, c1⟩ := hr.nilOr h1
  obtain ⟨b2, hb2, c2⟩ := hr.nilOr h2
  rw [hb] at hb1 hb2
  cases hb1
  cases hb2
  refine ⟨b, hb, ?_, ?_, ?_, ?_⟩
  · unfold lastA
    rw [if_neg (by omega), hb, hl]
    rfl
  · rw [addr_add_add, Nat.add_zero]; exact c0
  · rw [addr_add_add]; exact c1
  · rw [addr_add_add]; exact c2
theorem F39_spec (W : A.WF) (hs : A.steps < 1099511627776) (S : L.Small k) (H : sat (logP lb fb L :: fsP fb A :: F) h) :
    CallsH Tryz.prog 39 [ptrV lb] h fun v h' => v = .int .i64 ((L.sync A).2 : Int) ∧ sat (logP lb fb (L.synced (L.sync A).2) :: fsP fb (L.sync A).1 :: F) h' := by
  apply F39b_ok
  unfold F39b
  rw [show (some (⟨lb, 0, none⟩ : Addr)).isNone = false from rfl, cond_false]
  obtain ⟨a, c, H1⟩ := logP_open H
  have hfew := S.few
  have hmany := S.many
  refine (F86_spec (by omega) H1).mono ?_
  rintro v h0 ⟨rfl, rfl⟩
  rw [DP_pointer]
  simp only [NN'_some']
  have setD : ∀ h', sat (pt lb (.cells (logC fb L a c) 152 (0, 0)) :: ownS 158 3 a L.parts.length c (partsC L.parts) :: fsP fb (L.sync A).1 :: F) h' → (L.sync A).2 = 0 →
      Ld h' ((⟨lb, 0, none⟩ : Addr).add 4) fun v6 => DI .i64 v6 fun x7 => StC h' (((⟨lb, 0, none⟩ : Addr).add 5).add 0) (.int .i64 x7) fun h_6 =>
        (Value.int .i64 0 = .int .i64 ((L.sync A).2 : Int) ∧ sat (logP lb fb (L.synced (L.sync A).2) :: fsP fb (L.sync A).1 :: F) h_6) := by
    intro h' H' e0
    refine LdC (v := .int .i64 (L.fin : Int)) H' rfl ?_
    rw [DI_int, addr_add0]
    refine StCC (c' := logC fb { L with dur := L.fin } a c) H' (by show 5 < 6; decide) rfl fun h2 H2 => ?_
    rw [e0]
    refine ⟨rfl, ?_⟩
    rw [AF.Log.synced, if_pos rfl]
    exact logP_shut H2
  cases hp : L.parts.getLast? with
  | none =>
    have h00 : L.parts = [] := by simpa using hp
    have e1 : lastA a L.parts.length = none := by rw [h00]; rfl
    rw [e1, show (!((none : Option Addr)).isNone) = false from rfl, cond_false]
    have es : L.sync A = (A, 0) := by unfold AF.Log.sync; rw [hp]
    have := setD h0 (by rw [es]; exact H1) (by rw [es])
    exact this
  | some p =>
    have es : L.sync A = A.sync L.dir (AF.sgN p.base) := by unfold AF.Log.sync; rw [hp]
    obtain ⟨b, hb, hla, c0, c1, c2⟩ := lastCells hp (H1.mv 1)
    rw [hla, show (!((some (b.add (L.parts.dropLast.length * 3)))).isNone) = true from rfl, cond_true]
    refine LdC (v := ptrV fb) H1 rfl ?_
    show DP (.pointer (some ⟨fb, 0, none⟩)) _
    rw [DP_pointer]
    refine LdC (v := .string L.dir) H1 rfl ?_
    rw [DS_string, NN'_some']
    refine ⟨_, c0, ?_⟩
    show DI .i64 (.int .i64 (p.base : Int)) _
    rw [DI_int]
    have hpb := S.each p (List.mem_of_getLast? hp)
    refine (F89_spec (by omega) H1).mono ?_
    rintro v h2 ⟨rfl, H2⟩
    rw [DS_string]
    refine ⟨rfl, rfl, rfl, LdC (v := ptrV fb) H2 rfl ?_, rfl, rfl, rfl, LdC (v := .string L.dir) H2 rfl (by rw [DS_string]; rfl), ?_⟩
    · show DP (.pointer (some ⟨fb, 0, none⟩)) _
      rw [DP_pointer]
      rfl
    refine (F52_spec W hs S.dir (by rw [AF.sgN_size]; decide) (H2.mv 2)).mono ?_
    rintro v h3 ⟨rfl, H3⟩
    rw [DI_int, ← es]
    rw [← es] at H3
    by_cases he : (L.sync A).2 = 0
    · rw [he, show (((0 : Nat) : Int) != 0) = false from rfl, cond_false]
      have := setD h3 ((H3.mv 1).mv 2 |>.ordT 3 [1, 0, 2]) he
      rw [he] at this
      exact this
    · rw [err_bne he, cond_true]
      refine ⟨rfl, ?_⟩
      rw [AF.Log.synced, if_neg he]
      exact logP_shut (H3.ordT 3 [1, 2, 0])
end

end Go.Proofs.YticjjdhaikbdaaaGreatDoor

namespace Go.Proofs.YticjjdhaikbdaaaGreatDoor
open Go Go.RowKit
set_option linter.unusedVariables false
set_option linter.unusedSimpArgs false
set_option maxRecDepth 4000
open Frame (packN packN_length packN_B8)

theorem u132 : Tryz.prog.underlying 150 = some (.slice 158) := by kernel_rfl
theorem src132 : srcTy Tryz.prog 150 = true := by kernel_rfl
theorem inf141 : infoSz Tryz.prog 158 3 24 = true := by kernel_rfl

namespace AF
variable {L : Log} {A : FS} {k : Nat}
theorem Log.Small.grow {k' : Nat} (S : L.Small k) (hk : k ≤ k') (hk' : k' ≤ 100000) : L.Small k' := by
  have hm : k * 16777216 ≤ k' * 16777216 := Nat.mul_le_mul_right _ hk
  exact ⟨hk', S.size, S.dir, Nat.le_trans S.many hk, Nat.le_trans S.fin hm, fun p hp => ⟨Nat.le_trans (S.each p hp).1 hm, Nat.le_trans (S.each p hp).2.1 hm, Nat.le_trans (S.each p hp).2.2 hm⟩⟩
theorem Log.sync_wf (W : A.WF) : (L.sync A).1.WF := by
  unfold Log.sync
  split
  · exact W
  · exact W.sync _ _
theorem Log.sync_steps : (L.sync A).1.steps ≤ A.steps + 1 := by
  unfold Log.sync
  split
  · exact Nat.le_succ _
  · exact AF.sync_steps _ _
theorem Log.roll1 (h : (L.sync A).2 ≠ 0) : L.roll A = ((L.sync A).1, L, (L.sync A).2) := by
  unfold Log.roll
  simp only [h, if_true, ne_eq, not_false_eq_true]
theorem Log.roll2 (h : (L.sync A).2 = 0) (h2 : ((L.sync A).1.create L.dir (sgN L.fin)).2 ≠ 0) : L.roll A = (((L.sync A).1.create L.dir (sgN L.fin)).1, { L with dur := L.fin }, ((L.sync A).1.create L.dir (sgN L.fin)).2) := by
  unfold Log.roll
  simp only [h, h2, if_true, if_false, ne_eq, not_false_eq_true, not_true]
theorem Log.roll3 (h : (L.sync A).2 = 0) (h2 : ((L.sync A).1.create L.dir (sgN L.fin)).2 = 0) (h3 : (((L.sync A).1.create L.dir (sgN L.fin)).1.syncDir L.dir).2 ≠ 0) :
    L.roll A = ((((L.sync A).1.create L.dir (sgN L.fin)).1.syncDir L.dir).1, { L with dur := L.fin }, (((L.sync A).1.create L.dir (sgN L.fin)).1.syncDir L.dir).2) := by
  unfold Log.roll
  simp only [h, h2, h3, if_true, if_false, ne_eq, not_false_eq_true, not_true]
theorem Log.roll4 (h : (L.sync A).2 = 0) (h2 : ((L.sync A).1.create L.dir (sgN L.fin)).2 = 0) (h3 : (((L.sync A).1.create L.dir (sgN L.fin)).1.syncDir L.dir).2 = 0) :
    L.roll A = ((((L.sync A).1.create L.dir (sgN L.fin)).1.syncDir L.dir).1, { L with dur := L.fin, parts := L.parts ++ [⟨L.fin, 0, 0⟩] }, 0) := by
  unfold Log.roll
  simp only [h, h2, h3, if_false, ne_eq, not_true]
theorem Log.roll_keeps (W : A.WF) (S : L.Small k) (hk : k < 100000) : (L.roll A).1.WF ∧ (L.roll A).1.steps ≤ A.steps + 3 ∧ (L.roll A).2.1.Small (k + 1) := by
  have W1 := Log.sync_wf (L := L) W
  have s1 := Log.sync_steps (L := L) (A := A)
  have W2 := W1.create L.dir (sgN L.fin)
  have s2 := AF.create_steps (A := (L.sync A).1) L.dir (sgN L.fin)
  have W3 := W2.syncDir L.dir
  have s3 := AF.syncDir_steps (A := ((L.sync A).1.create L.dir (sgN L.fin)).1) L.dir
  have hm := S.many
  have hf := S.fin
  have S1 : L.Small (k + 1) := S.grow (Nat.le_succ k) (by omega)
  have S2 : Log.Small (k + 1) { L with dur := L.fin } := ⟨S1.few, S1.size, S1.dir, S1.many, S1.fin, S1.each⟩
  by_cases h1 : (L.sync A).2 = 0
  · by_cases h2 : ((L.sync A).1.create L.dir (sgN L.fin)).2 = 0
    · by_cases h3 : (((L.sync A).1.create L.dir (sgN L.fin)).1.syncDir L.dir).2 = 0
      · rw [Log.roll4 h1 h2 h3]
        refine ⟨W3, by dsimp only; omega, by omega, S.size, S.dir, ?_, S1.fin, ?_⟩
        · show (L.parts ++ [_]).length ≤ _
          rw [List.length_append, List.length_singleton]
          omega
        · intro p hp
          rcases List.mem_append.1 hp with hp | hp
          · exact S1.each p hp
          · rw [List.mem_singleton] at hp
            subst hp
            exact ⟨S1.fin, Nat.zero_le _, Nat.zero_le _⟩
      · rw [Log.roll3 h1 h2 h3]
        exact ⟨W3, by dsimp only; omega, S2⟩
    · rw [Log.roll2 h1 h2]
      exact ⟨W2, by dsimp only; omega, S2⟩
  · rw [Log.roll1 h1]
    exact ⟨W1, by dsimp only; omega, S1⟩
theorem Log.put_keeps (W : A.WF) (S : L.Small k) (hk : k < 100000) {b : List Nat} (h8 : B8 b) (hl : b.length ≤ 1024) : (L.put A b).1.WF ∧ (L.put A b).1.steps ≤ A.steps + 1 ∧ (L.put A b).2.1.Small (k + 1) := by
  have hm := S.many
  have hf := S.fin
  have S1 : L.Small (k + 1) := S.grow (Nat.le_succ k) (by omega)
  have hk1 : ∀ n : Nat, n * 16777216 + 16777216 = (n + 1) * 16777216 := fun n => by omega
  replace hk1 := hk1 k
  unfold Log.put
  split
  · exact ⟨W, Nat.le_succ _, S1⟩
  · rename_i p hp
    have W1 := W.append L.dir (sgN p.base) (packN_B8 h8)
    have s1 := AF.append_steps (A := A) L.dir (sgN p.base) (packN b)
    have hpm := List.mem_of_getLast? hp
    have hpe := S.each p hpm
    have hlen : 1 ≤ L.parts.length := List.length_pos_of_mem hpm
    simp only
    split
    · exact ⟨W1, s1, S1⟩
    · refine ⟨W1, s1, by omega, S.size, S.dir, ?_, ?_, ?_⟩
      · show (L.parts.dropLast ++ [_]).length ≤ _
        rw [List.length_append, List.length_singleton, List.length_dropLast]
        omega
      · show L.fin + 1 ≤ _
        rw [← hk1]
        omega
      · intro q hq
        rcases List.mem_append.1 hq with hq | hq
        · exact S1.each q (List.dropLast_subset _ hq)
        · rw [List.mem_singleton] at hq
          subst hq
          show p.base ≤ _ ∧ p.count + 1 ≤ _ ∧ p.size + (8 + b.length) ≤ _
          rw [← hk1]
          exact ⟨Nat.le_trans hpe.1 (Nat.le_add_right _ _), Nat.add_le_add hpe.2.1 (by decide), Nat.add_le_add hpe.2.2 (by omega)⟩
end AF

section
variable {lb fb : Nat} {L : AF.Log} {A : AF.FS} {F : List HProp} {h : Heap} {k : Nat}
theorem LdPtr {h : Heap} {F : List HProp} {b i : Nat} {c : Array Value} {e : TypeId} {fr : Nat × Nat} {x : Nat} {K : Option Addr → Prop} (H : sat (pt b (.cells c e fr) :: F) h) (hv : c[i]? = some (ptrV x)) (hK : K (some ⟨x, 0, none⟩)) :
    Ld h ((Addr.mk b 0 none).add i) fun v => DP v K := LdC (v := ptrV x) H hv ⟨_, rfl, hK⟩
theorem F87_spec (W : A.WF) (hs : A.steps + 3 < 1099511627776) (S : L.Small k) (hk : k < 100000) (H : sat (logP lb fb L :: fsP fb A :: F) h) :
    CallsH Tryz.prog 87 [ptrV lb] h fun v h' => v = .int .i64 ((L.roll A).2.2 : Int) ∧ sat (logP lb fb (L.roll A).2.1 :: fsP fb (L.roll A).1 :: F) h' := by
  apply F87b_ok
  unfold F87b
  refine (F39_spec W (by omega) S H).mono ?_
  rintro v h0 ⟨rfl, H0⟩
  rw [DI_int]
  have W1 := AF.Log.sync_wf (L := L) W
  have s1 := AF.Log.sync_steps (L := L) (A := A)
  have hm := S.many
  have hf := S.fin
  by_cases e1 : (L.sync A).2 = 0
  · rw [e1, AF.Log.synced, if_pos rfl] at H0
    rw [e1, show (((0 : Nat) : Int) != 0) = false from rfl, cond_false]
    simp only [NN'_some']
    obtain ⟨a, c, H1⟩ := logP_open H0
    refine LdPtr H1 rfl ?_
    refine LdStr H1 rfl ?_
    refine LdInt (x := (L.fin : Int)) H1 rfl ?_
    refine (F89_spec (by omega) H1).mono ?_
    rintro v h2 ⟨rfl, H2⟩
    rw [DS_string]
    refine ⟨rfl, rfl, rfl, LdPtr H2 rfl rfl, rfl, rfl, rfl, LdStr H2 rfl rfl, ?_⟩
    refine (F50_spec W1 (by omega) S.dir (by rw [AF.sgN_size]; decide) (H2.mv 2)).mono ?_
    rintro v h3 ⟨rfl, H3⟩
    rw [DI_int]
    have W2 := W1.create L.dir (AF.sgN L.fin)
    have s2 := AF.create_steps (A := (L.sync A).1) L.dir (AF.sgN L.fin)
    by_cases e2 : ((L.sync A).1.create L.dir (AF.sgN L.fin)).2 = 0
    · rw [e2, show (((0 : Nat) : Int) != 0) = false from rfl, cond_false]
      have H4 := H3.ordT 3 [1, 2, 0]
      refine LdPtr H4 rfl ?_
      refine LdStr H4 rfl ?_
      refine (F53_spec W2 (by omega) S.dir H3).mono ?_
      rintro v h4 ⟨rfl, H5⟩
      rw [DI_int]
      by_cases e3 : (((L.sync A).1.create L.dir (AF.sgN L.fin)).1.syncDir L.dir).2 = 0
      · rw [e3, show (((0 : Nat) : Int) != 0) = false from rfl, cond_false, AF.Log.roll4 e1 e2 e3]
        have H6 := H5.ordT 3 [1, 2, 0]
        refine LdSl (a := a) (l := L.parts.length) (m := c) H6 rfl ?_
        refine LdInt (x := (L.fin : Int)) H6 rfl ?_
        refine Al_sat H6 fun b0 h5 H7 => ?_
        refine ⟨rfl, rfl, rfl, rfl, LdSl (a := a) (l := L.parts.length) (m := c) (H7.mv 1) rfl rfl, ?_⟩
        have hr : RdC h5 (some ⟨b0, 0, none⟩) (partsC [⟨L.fin, 0, 0⟩]) := RdCf H7 rfl
        refine appendN u132 src132 inf141 (H7.mv 2) (n := 1) (srcOf_slice hr rfl) (by intro u hu; simp [partsC] at hu; rcases hu with rfl | rfl <;> rfl) (by omega) fun a' c' h6 _ H8 => ?_
        rw [DSl_slice]
        refine ⟨rfl, ?_⟩
        have H9 := H8.ordT 4 [2, 0, 3]
        rw [addr_add0]
        refine StCC (c' := logC fb { L with dur := L.fin, parts := L.parts ++ [⟨L.fin, 0, 0⟩] } a' c') H9 (by show 3 < 6; decide) (by simp only [logC, List.length_append, List.length_singleton]; rfl) fun h7 H10 => ?_
        refine ⟨rfl, logP_shut (a := a') (c := c') ?_⟩
        rw [← partsC_append] at H10
        rw [show ({ L with dur := L.fin, parts := L.parts ++ [⟨L.fin, 0, 0⟩] } : AF.Log).parts = L.parts ++ [⟨L.fin, 0, 0⟩] from rfl, List.length_append, List.length_singleton]
        exact H10
      · rw [err_bne e3, cond_true, AF.Log.roll3 e1 e2 e3]
        exact ⟨rfl, logP_shut (H5.ordT 3 [1, 2, 0])⟩
    · rw [err_bne e2, cond_true, AF.Log.roll2 e1 e2]
      exact ⟨rfl, logP_shut (H3.ordT 3 [1, 2, 0])⟩
  · rw [AF.Log.synced, if_neg e1] at H0
    rw [err_bne e1, cond_true, AF.Log.roll1 e1]
    exact ⟨rfl, H0⟩
theorem put_tail {ba : Option Addr} {bl bc : Nat} {bs : List Nat} {Q : Value → Heap → Prop} (W : A.WF) (hs : A.steps < 1099511627776) (S : L.Small k) (hp0 : L.parts ≠ [])
    (hr : ∀ h', sat F h' → RdC h' ba (bs.map nv)) (h8 : B8 bs) (hl : bs.length = bl) (hlb : bl ≤ 1024) (H : sat (logP lb fb L :: fsP fb A :: F) h)
    (hQ : ∀ h', sat (logP lb fb (L.put A bs).2.1 :: fsP fb (L.put A bs).1 :: F) h' → Q (cleanV (L.put A bs).2.2) h') :
    CallsH Tryz.prog 88 [.slice ba bl bc] h fun r2 h_2 =>
    ∃ (x0a : Option Addr), ∃ (x0l : Nat), ∃ (x0c : Nat), ∃ (x1 : Int), r2 = .tuple #[.slice x0a x0l x0c, .int .i64 x1] ∧
    (bif (x1 : Int) != 0 then
      Q (.tuple #[.int .i64 0, .int .i64 x1]) h_2
    else
      CallsH Tryz.prog 86 [.pointer (some ⟨lb, 0, none⟩)] h_2 fun r3 h_3 =>
      DP r3 fun p1 =>
      NN' (some (⟨lb, 0, none⟩ : Addr)) fun a0 =>
      Ld h_3 (a0.add 0) fun v0 => DP v0 fun x2 =>
      NN' (some (⟨lb, 0, none⟩ : Addr)) fun a1 =>
      Ld h_3 (a1.add 1) fun v1 => DS v1 fun x3 =>
      NN' p1 fun a2 =>
      Ld h_3 (a2.add 0) fun v2 => DI .i64 v2 fun x4 =>
      CallsH Tryz.prog 89 [.int .i64 x4] h_3 fun r4 h_4 =>
      DS r4 fun x5 =>
      (SameV (some (.pointer (some ⟨lb, 0, none⟩))) (.pointer (some ⟨lb, 0, none⟩))) ∧
      (NN' (some (⟨lb, 0, none⟩ : Addr)) fun a3 =>
      SameV (some (.pointer (some a0))) (.pointer (some a3))) ∧
      (SameV (some (.pointer (some (a0.add 0)))) (.pointer (some (a0.add 0)))) ∧
      (Ld h_4 (a0.add 0) fun v3 => DP v3 fun x6 =>
      SameV (some (.pointer x2)) (.pointer x6)) ∧
      (SameV (some (.pointer (some ⟨lb, 0, none⟩))) (.pointer (some ⟨lb, 0, none⟩))) ∧
      (NN' (some (⟨lb, 0, none⟩ : Addr)) fun a4 =>
      SameV (some (.pointer (some a1))) (.pointer (some a4))) ∧
      (SameV (some (.pointer (some (a1.add 1)))) (.pointer (some (a1.add 1)))) ∧
      (Ld h_4 (a1.add 1) fun v4 => DS v4 fun x7 =>
      SameV (some (.string x3)) (.string x7)) ∧
      (SameV (some (.slice x0a x0l x0c)) (.slice x0a x0l x0c)) ∧
      CallsH Tryz.prog 51 [.pointer x2, .string x3, .string x5, .slice x0a x0l x0c] h_4 fun r5 h_5 =>
      DI .i64 r5 fun e1 =>
      (bif (e1 : Int) != 0 then
        Q (.tuple #[.int .i64 0, .int .i64 e1]) h_5
      else
        NN' p1 fun a5 =>
        Ld h_5 (a5.add 1) fun v5 => DI .i64 v5 fun x8 =>
        NN' p1 fun a6 =>
        StC h_5 ((a6.add 1).add 0) (.int .i64 (IntKind.wrap .i64 (x8 + 1))) fun h_7 =>
        NN' p1 fun a7 =>
        Ld h_7 (a7.add 2) fun v6 => DI .i64 v6 fun x9 =>
        NN' p1 fun a8 =>
        StC h_7 ((a8.add 2).add 0) (.int .i64 (IntKind.wrap .i64 (x9 + (x0l : Int)))) fun h_9 =>
        NN' (some (⟨lb, 0, none⟩ : Addr)) fun a9 =>
        Ld h_9 (a9.add 4) fun v7 => DI .i64 v7 fun x10 =>
        NN' (some (⟨lb, 0, none⟩ : Addr)) fun a10 =>
        StC h_9 ((a10.add 4).add 0) (.int .i64 (IntKind.wrap .i64 (x10 + 1))) fun h_11 =>
        NN' (some (⟨lb, 0, none⟩ : Addr)) fun a11 =>
        Ld h_11 (a11.add 4) fun v8 => DI .i64 v8 fun x11 =>
        Q (.tuple #[.int .i64 (IntKind.wrap .i64 (x11 - 1)), .int .i64 0]) h_11)) := by
  obtain ⟨p, hp⟩ : ∃ p, L.parts.getLast? = some p := by
    cases hg : L.parts.getLast? with
    | none => exact absurd (by simpa using hg) hp0
    | some p => exact ⟨p, rfl⟩
  have hpb := S.each p (List.mem_of_getLast? hp)
  have hfew := S.few
  have hmany := S.many
  have hfin := S.fin
  refine (F88_spec H (fun h' hh => hr h' hh.drop.drop) h8 hl (by omega)).mono ?_
  rintro v h2 ⟨pb, pc, rfl, H2⟩
  refine ⟨some pb, 8 + bl, pc, 0, rfl, ?_⟩
  rw [show ((0 : Int) != 0) = false from rfl, cond_false]
  obtain ⟨a, c, H3⟩ := logP_open (H2.mv 1)
  refine (F86_spec (by omega) H3).mono ?_
  rintro v h3 ⟨rfl, rfl⟩
  rw [DP_pointer]
  simp only [NN'_some']
  refine LdPtr H3 rfl ?_
  refine LdStr H3 rfl ?_
  obtain ⟨b, hb, hla, c0, c1, c2⟩ := lastCells hp (H3.mv 1)
  rw [hla, NN'_some']
  refine ⟨_, c0, _, rfl, ?_⟩
  refine (F89_spec (by omega) H3).mono ?_
  rintro v h4 ⟨rfl, H4⟩
  rw [DS_string]
  refine ⟨rfl, rfl, rfl, LdPtr H4 rfl rfl, rfl, rfl, rfl, LdStr H4 rfl rfl, rfl, ?_⟩
  -- pt lb, ownS parts, own pack, fsP, F
  refine (F51_spec (bs := packN bs) W hs S.dir (by rw [AF.sgN_size]; decide) (F := pt lb (.cells (logC fb L a c) 152 (0, 0)) :: ownS 158 3 a L.parts.length c (partsC L.parts) :: ownS 5 1 (some pb) (8 + bl) pc ((packN bs).map nv) :: F) (fun h' hh => ownS_read (hh.mv 2)) (by rw [packN_length, hl]) (by omega) (H4.mv 3)).mono ?_
  rintro v h5 ⟨rfl, H5⟩
  rw [DI_int]
  have H6 := H5.ordT 4 [1, 2, 0]
  by_cases he : (A.append L.dir (AF.sgN p.base) (packN bs)).2 = 0
  · rw [he, show (((0 : Nat) : Int) != 0) = false from rfl, cond_false]
    have ep : L.put A bs = ((A.append L.dir (AF.sgN p.base) (packN bs)).1, { L with parts := L.parts.dropLast ++ [⟨p.base, p.count + 1, p.size + (8 + bs.length)⟩], fin := L.fin + 1 }, .ok L.fin) := by
      unfold AF.Log.put
      rw [hp]
      simp only [he, if_false, ne_eq, not_true]
    rw [ep] at hQ
    subst hb
    have hsp := last_split hp
    have hlen : L.parts.length = L.parts.dropLast.length + 1 := by
      have := congrArg List.length hsp
      simpa using this
    generalize hd : L.parts.dropLast = ps at hsp hlen hQ hla c0 c1 c2
    obtain ⟨b', hb', hla', d0, d1, d2⟩ := lastCells hp (H6.mv 1)
    cases hb'
    rw [hd] at d0 d1 d2
    simp only [NN'_some']
    refine ⟨_, d1, _, rfl, ?_⟩
    have w1 : IntKind.wrap .i64 ((p.count : Int) + 1) = ((p.count + 1 : Nat) : Int) := wrap64_succ (by omega)
    have w2 : IntKind.wrap .i64 ((p.size : Int) + ((8 + bl : Nat) : Int)) = ((p.size + (8 + bs.length) : Nat) : Int) := by rw [IntWalk.i64_in _ (by omega), hl]; omega
    have w3 : IntKind.wrap .i64 ((L.fin : Int) + 1) = ((L.fin + 1 : Nat) : Int) := wrap64_succ (by omega)
    have w4 : IntKind.wrap .i64 (((L.fin + 1 : Nat) : Int) - 1) = (L.fin : Int) := by rw [IntWalk.i64_in _ (by omega)]; omega
    show StC h5 (((b.add (ps.length * 3)).add 1).add 0) (.int .i64 (IntKind.wrap .i64 ((p.count : Int) + 1))) _
    rw [w1, addr_add0, addr_add_add]
    have H7 := H6.mv 1
    rw [hsp] at H7
    have hsz : ∀ q : AF.Part, (partsC (ps ++ [q])).length = ps.length * 3 + 3 := fun q => by rw [partsC_length, List.length_append, List.length_singleton]; omega
    refine ownS_set H7 (j := ps.length * 3 + 1) (by rw [hsz]; omega) fun h6 H8 => ?_
    rw [partsC_last] at H8
    have g2 : cellAt h6 ((b.add (ps.length * 3)).add 2) = some (.int .i64 (p.size : Int)) := by
      rw [addr_add_add]
      exact (ownS_read H8) _ _ (partsC_get (ps := ps ++ [⟨p.base, p.count + 1, p.size⟩]) (i := ps.length) (p := ⟨p.base, p.count + 1, p.size⟩) (by simp)).2.2
    refine ⟨_, g2, _, rfl, ?_⟩
    show StC h6 (((b.add (ps.length * 3)).add 2).add 0) (.int .i64 (IntKind.wrap .i64 ((p.size : Int) + ((8 + bl : Nat) : Int)))) _
    rw [w2, addr_add0, addr_add_add]
    refine ownS_set H8 (j := ps.length * 3 + 2) (by rw [hsz]; omega) fun h7 H9 => ?_
    rw [show (⟨p.base, p.count + 1, p.size⟩ : AF.Part) = ⟨p.base, p.count + 1, p.size⟩ from rfl, partsC_last2] at H9
    have H10 := H9.mv 1
    refine LdInt (x := (L.fin : Int)) H10 rfl ?_
    rw [w3, addr_add0]
    refine StCC (c' := logC fb { L with parts := ps ++ [⟨p.base, p.count + 1, p.size + (8 + bs.length)⟩], fin := L.fin + 1 } (some b) c) H10 (by show 4 < 6; decide) (by
      have ec : (ps ++ [(⟨p.base, p.count + 1, p.size + (8 + bs.length)⟩ : AF.Part)]).length = L.parts.length := by rw [hlen]; simp
      show _ = #[ptrV fb, .string L.dir, .int .i64 (L.size : Int), .slice (some b) (ps ++ [(⟨p.base, p.count + 1, p.size + (8 + bs.length)⟩ : AF.Part)]).length c, .int .i64 ((L.fin + 1 : Nat) : Int), .int .i64 (L.dur : Int)]
      rw [ec]
      rfl) fun h8' H11 => ?_
    refine LdInt (x := ((L.fin + 1 : Nat) : Int)) H11 rfl ?_
    rw [w4]
    refine hQ _ (logP_shut (a := some b) (c := c) ?_)
    rw [show (ps ++ [p]).length = (ps ++ [(⟨p.base, p.count + 1, p.size + (8 + bs.length)⟩ : AF.Part)]).length by simp] at H11
    exact H11
  · rw [err_bne he, cond_true]
    have ep : L.put A bs = ((A.append L.dir (AF.sgN p.base) (packN bs)).1, L, .error (A.append L.dir (AF.sgN p.base) (packN bs)).2) := by
      unfold AF.Log.put
      rw [hp]
      simp only [he, if_true, ne_eq, not_false_eq_true]
    rw [ep] at hQ
    exact hQ _ (logP_shut H6)
end

end Go.Proofs.YticjjdhaikbdaaaGreatDoor

namespace Go.Proofs.YticjjdhaikbdaaaGreatDoor
open Go Go.RowKit
set_option linter.unusedVariables false
set_option linter.unusedSimpArgs false
open Frame (packN packN_length packN_B8)

namespace AF
variable {L : Log} {A : FS} {k : Nat} {b : List Nat}
theorem Log.append_roll (hl : ¬ 1024 < b.length) (hf : L.full = true) (he : (L.roll A).2.2 ≠ 0) : L.append A b = ((L.roll A).1, (L.roll A).2.1, .error (L.roll A).2.2) := by
  unfold Log.append
  simp only [hl, hf, he, if_true, if_false, ne_eq, not_false_eq_true]
theorem Log.append_on (hl : ¬ 1024 < b.length) (hf : L.full = true) (he : (L.roll A).2.2 = 0) : L.append A b = (L.roll A).2.1.put (L.roll A).1 b := by
  unfold Log.append
  simp only [hl, hf, he, if_true, if_false, ne_eq, not_true]
theorem Log.append_put (hl : ¬ 1024 < b.length) (hf : L.full = false) : L.append A b = L.put A b := by
  unfold Log.append
  simp only [hl, hf, if_false, Bool.false_eq_true]
theorem Log.roll_parts (he : (L.roll A).2.2 = 0) : (L.roll A).2.1.parts ≠ [] := by
  by_cases h1 : (L.sync A).2 = 0
  · by_cases h2 : ((L.sync A).1.create L.dir (sgN L.fin)).2 = 0
    · by_cases h3 : (((L.sync A).1.create L.dir (sgN L.fin)).1.syncDir L.dir).2 = 0
      · rw [Log.roll4 h1 h2 h3]
        simp
      · rw [Log.roll3 h1 h2 h3] at he
        exact absurd he h3
    · rw [Log.roll2 h1 h2] at he
      exact absurd he h2
  · rw [Log.roll1 h1] at he
    exact absurd he h1
/-- Ends rise, and the last is not behind the log's end. -/
structure Log.Up (L : Log) : Prop where
  ends : ∀ p ∈ L.parts, p.base + p.count ≤ L.fin
  rise : L.parts.Pairwise fun p q => p.base + p.count ≤ q.base + q.count
theorem Log.append_keeps (W : A.WF) (S : L.Small k) (hk : k + 1 < 100000) (h8 : B8 b) : (L.append A b).1.WF ∧ (L.append A b).1.steps ≤ A.steps + 4 ∧ (L.append A b).2.1.Small (k + 2) := by
  have R := Log.roll_keeps (L := L) (A := A) W S (by omega)
  unfold Log.append
  split
  · exact ⟨W, by dsimp only; omega, S.grow (by omega) (by omega)⟩
  · rename_i hl
    split
    · simp only
      split
      · exact ⟨R.1, by dsimp only; omega, R.2.2.grow (by omega) (by omega)⟩
      · have P := Log.put_keeps (A := (L.roll A).1) R.1 R.2.2 (by omega) h8 (by omega)
        exact ⟨P.1, by omega, P.2.2⟩
    · have P := Log.put_keeps (A := A) W S (by omega) h8 (by omega)
      exact ⟨P.1, by omega, P.2.2.grow (by omega) (by omega)⟩
end AF

section
variable {lb fb : Nat} {L : AF.Log} {A : AF.FS} {F : List HProp} {h : Heap} {k : Nat}
theorem F38_spec {ba : Option Addr} {bl bc : Nat} {bs : List Nat} (W : A.WF) (hs : A.steps + 4 < 1099511627776) (S : L.Small k) (hk : k + 1 < 100000)
    (hr : ∀ h', sat F h' → RdC h' ba (bs.map nv)) (h8 : B8 bs) (hl : bs.length = bl) (H : sat (logP lb fb L :: fsP fb A :: F) h) :
    CallsH Tryz.prog 38 [ptrV lb, .slice ba bl bc] h fun v h' => v = cleanV (L.append A bs).2.2 ∧ sat (logP lb fb (L.append A bs).2.1 :: fsP fb (L.append A bs).1 :: F) h' := by
  apply F38b_ok
  unfold F38b
  rw [show (some (⟨lb, 0, none⟩ : Addr)).isNone = false from rfl, cond_false]
  by_cases hbig : 1024 < bl
  · rw [decide_eq_true (show ((bl : Int) > 1024) by omega), cond_true]
    have e : L.append A bs = (A, L, .error 100) := by
      unfold AF.Log.append
      rw [if_pos (by omega)]
    rw [e]
    exact ⟨rfl, H⟩
  · rw [decide_eq_false (show ¬ ((bl : Int) > 1024) by omega), cond_false]
    obtain ⟨a, c, H1⟩ := logP_open H
    have hfew := S.few
    have hmany := S.many
    have nl : ¬ 1024 < bs.length := by omega
    refine (F86_spec (by omega) H1).mono ?_
    rintro v h0 ⟨rfl, rfl⟩
    rw [DP_pointer]
    have R := AF.Log.roll_keeps (L := L) (A := A) W S (by omega)
    have rolled : ∀ (hf : L.full = true) (e0 : (L.roll A).2.2 = 0), ∀ h', sat (logP lb fb (L.roll A).2.1 :: fsP fb (L.roll A).1 :: F) h' → _ := fun hf e0 h' H' =>
      put_tail (h := h') (Q := fun v h' => v = cleanV (L.append A bs).2.2 ∧ sat (logP lb fb (L.append A bs).2.1 :: fsP fb (L.append A bs).1 :: F) h') (bc := bc) R.1 (by omega) R.2.2 (AF.Log.roll_parts e0) hr h8 hl (by omega) H' (fun h2 H2 => by
        rw [AF.Log.append_on nl hf e0]
        exact ⟨rfl, H2⟩)
    cases hp : L.parts.getLast? with
    | none =>
      have h00 : L.parts = [] := by simpa using hp
      have hf : L.full = true := by unfold AF.Log.full; rw [hp]
      have e1 : lastA a L.parts.length = none := by rw [h00]; rfl
      rw [e1, show ((none : Option Addr)).isNone = true from rfl, cond_true]
      refine (F87_spec W (by omega) S (by omega) H).mono ?_
      rintro v h2 ⟨rfl, H2⟩
      rw [DI_int]
      by_cases e0 : (L.roll A).2.2 = 0
      · rw [e0, show (((0 : Nat) : Int) != 0) = false from rfl, cond_false]
        exact rolled hf e0 h2 H2
      · rw [err_bne e0, cond_true, AF.Log.append_roll nl hf e0]
        exact ⟨rfl, H2⟩
    | some p =>
      obtain ⟨b, hb, hla, c0, c1, c2⟩ := lastCells hp (H1.mv 1)
      rw [hla, show ((some (b.add (L.parts.dropLast.length * 3)))).isNone = false from rfl, cond_false]
      simp only [NN'_some']
      refine ⟨_, c2, _, rfl, ?_⟩
      refine LdInt (x := (L.size : Int)) H1 rfl ?_
      by_cases hsz : L.size ≤ p.size
      · have hf : L.full = true := by unfold AF.Log.full; rw [hp]; exact decide_eq_true hsz
        rw [decide_eq_true (show ((p.size : Int) ≥ (L.size : Int)) by omega), cond_true]
        refine (F87_spec W (by omega) S (by omega) H).mono ?_
        rintro v h2 ⟨rfl, H2⟩
        rw [DI_int]
        by_cases e0 : (L.roll A).2.2 = 0
        · rw [e0, show (((0 : Nat) : Int) != 0) = false from rfl, cond_false]
          exact rolled hf e0 h2 H2
        · rw [err_bne e0, cond_true, AF.Log.append_roll nl hf e0]
          exact ⟨rfl, H2⟩
      · have hf : L.full = false := by unfold AF.Log.full; rw [hp]; exact decide_eq_false hsz
        rw [decide_eq_false (show ¬ ((p.size : Int) ≥ (L.size : Int)) by omega), cond_false]
        exact put_tail (Q := fun v h' => v = cleanV (L.append A bs).2.2 ∧ sat (logP lb fb (L.append A bs).2.1 :: fsP fb (L.append A bs).1 :: F) h') (bc := bc) W (by omega) S (by intro e; rw [e] at hp; cases hp) hr h8 hl (by omega) H (fun h2 H2 => by
          rw [AF.Log.append_put nl hf]
          exact ⟨rfl, H2⟩)
theorem F43_spec (H : sat (logP lb fb L :: F) h) : CallsH Tryz.prog 43 [ptrV lb] h fun v h' => v = .int .i64 (L.dur : Int) ∧ h' = h := by
  apply F43b_ok
  unfold F43b
  rw [show (some (⟨lb, 0, none⟩ : Addr)).isNone = false from rfl, cond_false]
  obtain ⟨a, c, H1⟩ := logP_open H
  simp only [NN'_some']
  exact LdInt (x := (L.dur : Int)) H1 rfl ⟨rfl, by trivial⟩
end

end Go.Proofs.YticjjdhaikbdaaaGreatDoor

namespace Go.Proofs.YticjjdhaikbdaaaGreatDoor
open Go Go.RowKit
set_option linter.unusedVariables false
set_option linter.unusedSimpArgs false
open Frame (packN packN_length packN_B8)

namespace AF
def Log.readGo (A : FS) (dir : ByteArray) (lo hi : Nat) : List Part → List (List Nat) → Except Nat (List (List Nat))
  | [], out => .ok out
  | p :: ps, out => if hi ≤ p.base ∨ lo = hi then .ok out else if p.count = 0 then Log.readGo A dir lo hi ps out else
    match A.read dir (sgN p.base) with
    | .error e => .error e
    | .ok bs => if (goodN bs).length < p.count then .error 70 else Log.readGo A dir lo hi ps (out ++ ((goodN bs).take (min (hi - p.base) p.count)).drop (lo - p.base))
/-- From where on it is read. -/
def Log.from_ (L : Log) (lo : Nat) : Nat := L.parts.findIdx fun p => decide (lo < p.base + p.count)
def Log.read (L : Log) (A : FS) (lo hi : Int) : Except Nat (List (List Nat)) :=
  if lo < 0 ∨ hi < lo ∨ (L.fin : Int) < hi then .error 101 else Log.readGo A L.dir lo.toNat hi.toNat (L.parts.drop (L.from_ lo.toNat)) []
end AF

section
variable {lb fb : Nat} {L : AF.Log} {A : AF.FS} {F : List HProp} {h : Heap} {k : Nat}
end

end Go.Proofs.YticjjdhaikbdaaaGreatDoor

namespace Go.Proofs.YticjjdhaikbdaaaGreatDoor
open Go Go.RowKit
set_option linter.unusedVariables false
set_option linter.unusedSimpArgs false
open Frame (packN packN_length packN_B8 reach)

section
variable {lb fb : Nat} {L : AF.Log} {A : AF.FS} {F : List HProp} {h : Heap} {k : Nat}
end

end Go.Proofs.YticjjdhaikbdaaaGreatDoor

namespace Go.Proofs.YticjjdhaikbdaaaGreatDoor
open Go Go.RowKit
set_option linter.unusedVariables false
set_option linter.unusedSimpArgs false
open Frame (packN packN_length packN_B8 scanN reach)
open Hex (digs hexd)

theorem hexd_right {x : Nat} (h : x < 16) : (decide (97 ≤ hexd x) && decide (hexd x ≤ 122) || (decide (48 ≤ hexd x) && decide (hexd x ≤ 57)) || decide (hexd x = 46)) = true := by
  have : ∀ x : Fin 16, (decide (97 ≤ hexd x.val) && decide (hexd x.val ≤ 122) || (decide (48 ≤ hexd x.val) && decide (hexd x.val ≤ 57)) || decide (hexd x.val = 46)) = true := by decide
  exact this ⟨x, h⟩
theorem digs_mem : ∀ (k m c : Nat), c ∈ digs k m → ∃ x, x < 16 ∧ c = hexd x
  | 0, m, c, h => by cases h
  | k + 1, m, c, h => by
    rw [digs] at h
    rcases List.mem_cons.1 h with rfl | h
    · exact ⟨_, Nat.mod_lt _ (by decide), rfl⟩
    · exact digs_mem k m c h
namespace AF
theorem sgN_right (n : Nat) : right (sgN n) = true := by
  unfold right
  rw [sgN_size]
  have : (sgN n).data.toList.all (fun c => (decide (97 ≤ c.toNat) && decide (c.toNat ≤ 122)) || (decide (48 ≤ c.toNat) && decide (c.toNat ≤ 57)) || decide (c.toNat = 46)) = true := by
    rw [List.all_eq_true]
    intro c hc
    have e : sb (sgN n) = [115, 46] ++ digs 16 n := by
      unfold sgN
      rw [sb_append, sb_ofN (Hex.digs_B8 16 n)]
      rfl
    have hm : c.toNat ∈ sb (sgN n) := List.mem_map.2 ⟨c, hc, rfl⟩
    rw [e] at hm
    rcases List.mem_append.1 hm with h | h
    · have : c.toNat = 115 ∨ c.toNat = 46 := by simpa using h
      rcases this with h | h <;> rw [h] <;> decide
    · obtain ⟨x, hx, hc⟩ := digs_mem 16 n _ h
      rw [hc]
      exact hexd_right hx
  rw [this]
  rfl
def pN : ByteArray := ⟨#[112]⟩
def body (g : List (List Nat)) : List Nat := (g.map packN).flatten
def partsOf : Nat → List (List (List Nat)) → List Part
  | _, [] => []
  | b, g :: gs => ⟨b, g.length, (body g).length⟩ :: partsOf (b + g.length) gs
def nowOf : Nat → Nat → List (List (List Nat)) → Names
  | _, _, [] => []
  | b, i, g :: gs => (sgN b, i) :: nowOf (b + g.length) (i + 1) gs
theorem nowOf_idx : ∀ (b i : Nat) (gs : List (List (List Nat))), (nowOf b i gs).map (·.2) = List.range' i gs.length
  | b, i, [] => rfl
  | b, i, x :: gs => by rw [nowOf, List.map_cons, nowOf_idx, List.length_cons, List.range'_succ]
theorem nowOf_mem : ∀ (b i j : Nat) (gs : List (List (List Nat))), j < gs.length → (sgN (b + (gs.take j).flatten.length), i + j) ∈ nowOf b i gs
  | b, i, j, [], h => by simp at h
  | b, i, 0, x :: gs, h => by simp [nowOf]
  | b, i, j + 1, x :: gs, h => by
    have := nowOf_mem (b + x.length) (i + 1) j gs (by simpa using h)
    rw [nowOf, List.take_succ_cons, List.flatten_cons, List.length_append, ← Nat.add_assoc, Nat.add_comm j 1, ← Nat.add_assoc]
    exact List.mem_cons_of_mem _ this
structure SegInv (room : Nat) (gs : List (List (List Nat))) (A : FS) (L : Log) : Prop where
  wf : A.WF
  off : A.off = false
  fuse : A.fuse = none
  room : A.room = room
  dir : ∃ base pend, A.dirs = [⟨pN, nowOf 0 0 gs, base, pend⟩]
  files : A.files.map (·.b) = gs.map body
  ldir : L.dir = pN
  parts : L.parts = partsOf 0 gs
  fin : L.fin = gs.flatten.length
  size : 1 ≤ L.size
section
variable {room : Nat} {gs : List (List (List Nat))} {g : List (List Nat)} {A : FS} {L : Log} {b : List Nat}
theorem SegInv.ready (I : SegInv room gs A L) {ss : List ByteArray} (hs : ∀ s ∈ ss, right s = true) : A.ready pN ss = .ok 0 := by
  obtain ⟨base, pend, hd⟩ := I.dir
  exact ready_of (d := ⟨pN, nowOf 0 0 gs, base, pend⟩) I.wf I.off (i := 0) (by rw [hd]; rfl) hs
theorem SegInv.now (I : SegInv room gs A L) : (A.D 0).now = nowOf 0 0 gs := by
  obtain ⟨base, pend, hd⟩ := I.dir
  unfold FS.D
  rw [hd]
  rfl
theorem SegInv.ok (I : SegInv room gs A L) : Ok A.files.length (nowOf 0 0 gs) := by
  obtain ⟨base, pend, hd⟩ := I.dir
  exact (I.wf.each ⟨pN, nowOf 0 0 gs, base, pend⟩ (by rw [hd]; simp)).ok
theorem SegInv.of (I : SegInv room gs A L) {j : Nat} (hj : j < gs.length) : of (A.D 0).now (sgN (gs.take j).flatten.length) = some j := by
  rw [I.now]
  have := nowOf_mem 0 0 j gs hj
  rw [Nat.zero_add, Nat.zero_add] at this
  exact mem_of I.ok.up.nodup this
theorem SegInv.entry (I : SegInv room gs A L) {j : Nat} (hj : j < gs.length) : A.entry pN (sgN (gs.take j).flatten.length) = .ok (0, j) := by
  unfold FS.entry
  rw [I.ready (by intro s hs; rw [List.mem_singleton] at hs; rw [hs]; exact sgN_right _)]
  simp only [I.of hj]
theorem SegInv.file (I : SegInv room gs A L) {j : Nat} {g : List (List Nat)} (hj : gs[j]? = some g) : (A.X j).b = body g := by
  have := congrArg (fun l => l[j]?) I.files
  simp only [List.getElem?_map, hj] at this
  unfold FS.X
  rw [List.getD_eq_getElem?_getD]
  cases hf : A.files[j]? with
  | none => rw [hf] at this; cases this
  | some x => rw [hf] at this; simpa using this
theorem SegInv.read (I : SegInv room gs A L) {j : Nat} {g : List (List Nat)} (hj : gs[j]? = some g) : A.read pN (sgN (gs.take j).flatten.length) = .ok (body g) := by
  unfold FS.read
  rw [I.entry (List.getElem?_eq_some_iff.1 hj).1]
  simp only [I.file hj]
theorem SegInv.used (I : SegInv room gs A L) : A.used = (gs.map fun g => (body g).length).sum := by
  obtain ⟨base, pend, hd⟩ := I.dir
  unfold FS.used FS.idx
  rw [hd, List.flatMap_cons, List.flatMap_nil, List.append_nil]
  dsimp only
  rw [nowOf_idx]
  congr 1
  apply List.ext_getElem?
  intro j
  rw [List.getElem?_map, List.getElem?_map]
  by_cases hj : j < gs.length
  · rw [List.getElem?_range' hj]
    obtain ⟨g, hg⟩ : ∃ g, gs[j]? = some g := ⟨_, List.getElem?_eq_getElem hj⟩
    rw [hg, Option.map_some, Option.map_some, Nat.zero_add, Nat.one_mul, I.file hg]
  · rw [List.getElem?_eq_none (by rw [List.length_range']; omega), List.getElem?_eq_none (by omega)]
    rfl
end
end AF

end Go.Proofs.YticjjdhaikbdaaaGreatDoor

namespace Go.Proofs.YticjjdhaikbdaaaGreatDoor
open Go Go.RowKit
set_option linter.unusedVariables false
set_option linter.unusedSimpArgs false
open Frame (packN packN_length packN_B8 scanN reach)
namespace AF
section
variable {room : Nat} {gs : List (List (List Nat))} {g : List (List Nat)} {A : FS} {L : Log} {b : List Nat}
end
end AF

end Go.Proofs.YticjjdhaikbdaaaGreatDoor

namespace Go.Proofs.YticjjdhaikbdaaaGreatDoor
open Go Go.RowKit
set_option linter.unusedVariables false
set_option linter.unusedSimpArgs false
open Frame (packN packN_length packN_B8 scanN reach)
namespace AF
end AF

end Go.Proofs.YticjjdhaikbdaaaGreatDoor

namespace Go.Proofs.YticjjdhaikbdaaaGreatDoor
open Go Go.RowKit
set_option linter.unusedVariables false
set_option linter.unusedSimpArgs false
open Frame (packN packN_length packN_B8)

namespace AF
variable {L : Log} {A : FS} {b : List Nat}
theorem Log.small0 {dir : ByteArray} {size : Nat} (hd : dir.size < 4611686018427387904) (hs : size ≤ 16777216) : Log.Small 0 ⟨dir, size, [], 0, 0⟩ :=
  ⟨by decide, hs, hd, Nat.le_refl _, Nat.le_refl _, fun p hp => by cases hp⟩
end AF
section
variable {b : Nat} {A A' : AF.FS} {F : List HProp} {h : Heap} {dir name : ByteArray}
theorem F84_nil {a : Option Addr} {c : Nat} : CallsH Tryz.prog 84 [.slice a 0 c] h fun v h' => v = .slice none 0 0 ∧ h' = h := by
  apply F84b_ok
  unfold F84b
  refine ⟨fun st hh => st = (⟨none, 0, 0⟩, 0) ∧ hh = h, fun _ _ => 0, ⟨rfl, rfl⟩, ?_⟩
  rintro st h1 ⟨rfl, rfl⟩
  exact ⟨rfl, rfl⟩
theorem F83_nil {p : Option Addr} {a : Option Addr} {c : Nat} : CallsH Tryz.prog 83 [.pointer p, .slice a 0 c] h fun v h' => v = .int .i64 0 ∧ h' = h := by
  apply F83b_ok
  unfold F83b
  refine ⟨fun st hh => st = 0 ∧ hh = h, fun _ _ => 0, ⟨rfl, rfl⟩, ?_⟩
  rintro st h1 ⟨rfl, rfl⟩
  exact ⟨rfl, rfl⟩
theorem F35_fresh {size : Nat} (h1 : 1 ≤ size) (h2 : size ≤ 16777216) (W : A.WF) (hs : A.steps + 20000 < 1099511627776) (hd : dir.size < 4611686018427387904) (hp : A.prep dir = (A', .ok [])) (H : sat (fsP b A :: F) h) :
    CallsH Tryz.prog 35 [ptrV b, .string dir, .int .i64 (size : Int)] h fun v h' => ∃ lb, v = .tuple #[ptrV lb, .int .i64 0] ∧ A'.WF ∧ A'.steps ≤ A.steps + 5001 ∧ sat (logP lb b ⟨dir, size, [], 0, 0⟩ :: fsP b A' :: F) h' := by
  apply F35b_ok
  unfold F35b
  rw [decide_eq_false (show ¬ ((size : Int) < 1) by omega), cond_false, decide_eq_false (show ¬ ((size : Int) > 16777216) by omega), cond_false]
  refine (F82_spec W hs hd H).mono ?_
  rintro v h3 ⟨W1, s1, hr⟩
  rw [hp] at W1 s1 hr
  rcases hr with ⟨ks, a, c, hk, _, _, rfl, H3⟩ | ⟨e, hk, _⟩
  · cases hk
    refine ⟨a, 0, c, 0, rfl, ?_⟩
    rw [show ((0 : Int) != 0) = false from rfl, cond_false]
    refine Al_sat H3.drop fun lb h4 H4 => ?_
    refine F84_nil.mono ?_
    rintro v h5 ⟨rfl, rfl⟩
    rw [DSl_slice]
    refine F83_nil.mono ?_
    rintro v h6 ⟨rfl, rfl⟩
    rw [DI_int, show ((0 : Int) != 0) = false from rfl, cond_false]
    have H5 : sat (logP lb b ⟨dir, size, [], 0, 0⟩ :: fsP b A' :: F) h6 := logP_shut (a := none) (c := 0) ((ownS_nil 158 3 H4).mv 1)
    refine (F39_spec (k := 0) W1 (by dsimp only at s1 ⊢; omega) (AF.Log.small0 hd h2) H5).mono ?_
    rintro v h7 ⟨rfl, H7⟩
    have e0 : (AF.Log.sync ⟨dir, size, [], 0, 0⟩ A') = (A', 0) := rfl
    rw [e0] at H7 ⊢
    rw [DI_int, show (((0 : Nat) : Int) != 0) = false from rfl, cond_false]
    refine ⟨lb, rfl, W1, s1, ?_⟩
    rw [AF.Log.synced, if_pos rfl] at H7
    exact H7
  · cases hk
theorem n49 {size : Int} (H : sat F h) : CallsH Tryz.prog 35 [.pointer none, .string dir, .int .i64 size] h fun v h' => v = .tuple #[.pointer none, .int .i64 (if size < 1 ∨ 16777216 < size then 2 else 1)] ∧ sat F h' := by
  apply F35b_ok
  unfold F35b
  by_cases h1 : size < 1
  · rw [decide_eq_true h1, cond_true, if_pos (.inl h1)]
    exact ⟨rfl, H⟩
  · rw [decide_eq_false h1, cond_false]
    by_cases h2 : 16777216 < size
    · rw [decide_eq_true (show size > 16777216 from h2), cond_true, if_pos (.inr h2)]
      exact ⟨rfl, H⟩
    · rw [decide_eq_false (show ¬ size > 16777216 from h2), cond_false, if_neg (by omega)]
      refine (n42 H).mono ?_
      rintro v h3 ⟨rfl, H3⟩
      refine ⟨none, 0, 0, 1, rfl, ?_⟩
      exact ⟨rfl, H3⟩
end

end Go.Proofs.YticjjdhaikbdaaaGreatDoor
