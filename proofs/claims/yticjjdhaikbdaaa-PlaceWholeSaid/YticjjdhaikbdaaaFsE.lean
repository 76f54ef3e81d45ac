/- Calls whose outcome is known; the chapter's example. A rename over another file: wholly or not at all; what is safe stays. FsRenames, FsSafe: the walks. Slices of whole numbers that came in. No file system: what it answers. Structs and slices of structs that came in, read: the acts of a file system. Slices of acts that came in; how heavy they are. -/
import Derived.Test.YticjjdhaikbdaaaFsD
import Derived.Test.YticjjdhaikbdaaaFsB
import Derived.Deep.Slices
import Derived.ChangeSlices
import Derived.ChangeArms
import Derived.WideShapes
import Derived.ProofKit
import Derived.OpenShut
import Derived.ChangeOld

namespace Go.Proofs.Yticjjdhaikbdaaa
open Go Go.RowKit Go.MapKept
set_option linter.unusedVariables false
set_option linter.unusedSimpArgs false

abbrev dN : ByteArray := ⟨#[100]⟩
abbrev aN : ByteArray := ⟨#[97]⟩
abbrev tN : ByteArray := ⟨#[116]⟩
abbrev bN : ByteArray := ⟨#[98]⟩
theorem new_wf {room : Nat} (hr : room ≤ 1073741824) : AF.FS.WF ⟨room, 0, none, false, [], []⟩ :=
  ⟨hr, List.Pairwise.nil, by simp, List.Pairwise.nil, by simp, by simp, by simp⟩
theorem RdCf {F : List HProp} {h : Heap} {b0 : Nat} {e : TypeId} {fr : Nat × Nat} {cs : Array Value} {xs : List Value} (H : sat (pt b0 (.cells cs e fr) :: F) h) (hx : cs.toList = xs) : RdC h (some ⟨b0, 0, none⟩) xs := by
  intro j u hv
  rw [cell_of_pt H.get, ← hv, ← hx, Array.getElem?_toList]
section
variable {b : Nat} {A A' : AF.FS} {e : Nat} {F : List HProp} {h : Heap} {dir name : ByteArray}
abbrev Done (b : Nat) (A' : AF.FS) (e : Nat) (F : List HProp) : Value → Heap → Prop := fun v h' => v = .int .i64 (e : Int) ∧ A'.WF ∧ sat (fsP b A' :: F) h'
theorem c16 (he : A.mkdir dir = (A', e)) (W : A.WF) (hs : A.steps < 1099511627776) (hd : dir.size < 4611686018427387904) (H : sat (fsP b A :: F) h) : CallsH Try.prog 16 [ptrV b, .string dir] h (Done b A' e F) := by
  have W2 := W.mkdir dir
  refine (F16_spec W hs hd H).mono ?_
  rintro v h' ⟨rfl, H2⟩
  rw [he] at W2 H2 ⊢
  exact ⟨rfl, W2, H2⟩
theorem c17 (he : A.create dir name = (A', e)) (W : A.WF) (hs : A.steps < 1099511627776) (hd : dir.size < 4611686018427387904) (hn : name.size < 4611686018427387904) (H : sat (fsP b A :: F) h) : CallsH Try.prog 17 [ptrV b, .string dir, .string name] h (Done b A' e F) := by
  have W2 := W.create dir name
  refine (F17_spec W hs hd hn H).mono ?_
  rintro v h' ⟨rfl, H2⟩
  rw [he] at W2 H2 ⊢
  exact ⟨rfl, W2, H2⟩
theorem c18 {ba : Option Addr} {bl bc : Nat} {bs : List Nat} (he : A.append dir name bs = (A', e)) (W : A.WF) (hs : A.steps < 1099511627776) (hd : dir.size < 4611686018427387904) (hn : name.size < 4611686018427387904)
    (hr : ∀ h', sat F h' → RdC h' ba (bs.map nv)) (h8 : B8 bs) (hl : bs.length = bl) (hlb : bl < 4611686018427387904) (H : sat (fsP b A :: F) h) : CallsH Try.prog 18 [ptrV b, .string dir, .string name, .slice ba bl bc] h (Done b A' e F) := by
  have W2 := W.append dir name h8
  refine (F18_spec W hs hd hn hr hl hlb H).mono ?_
  rintro v h' ⟨rfl, H2⟩
  rw [he] at W2 H2 ⊢
  exact ⟨rfl, W2, H2⟩
theorem c19 (he : A.sync dir name = (A', e)) (W : A.WF) (hs : A.steps < 1099511627776) (hd : dir.size < 4611686018427387904) (hn : name.size < 4611686018427387904) (H : sat (fsP b A :: F) h) : CallsH Try.prog 19 [ptrV b, .string dir, .string name] h (Done b A' e F) := by
  have W2 := W.sync dir name
  refine (F19_spec W hs hd hn H).mono ?_
  rintro v h' ⟨rfl, H2⟩
  rw [he] at W2 H2 ⊢
  exact ⟨rfl, W2, H2⟩
theorem c20 (he : A.syncDir dir = (A', e)) (W : A.WF) (hs : A.steps < 1099511627776) (hd : dir.size < 4611686018427387904) (H : sat (fsP b A :: F) h) : CallsH Try.prog 20 [ptrV b, .string dir] h (Done b A' e F) := by
  have W2 := W.syncDir dir
  refine (F20_spec W hs hd H).mono ?_
  rintro v h' ⟨rfl, H2⟩
  rw [he] at W2 H2 ⊢
  exact ⟨rfl, W2, H2⟩
theorem c21 {n : Int} (he : A.setFuse n = (A', e)) (W : A.WF) (hn : n ≤ 9223372036854775807) (H : sat (fsP b A :: F) h) : CallsH Try.prog 21 [ptrV b, .int .i64 n] h (Done b A' e F) := by
  have W2 := W.setFuse hn
  refine (F21_spec H).mono ?_
  rintro v h' ⟨rfl, H2⟩
  rw [he] at W2 H2 ⊢
  exact ⟨rfl, W2, H2⟩
theorem c22 {k : ByteArray} (he : A.rename dir name k = (A', e)) (W : A.WF) (hs : A.steps < 1099511627776) (hd : dir.size < 4611686018427387904) (hn : name.size < 4611686018427387904) (hk : k.size < 4611686018427387904) (H : sat (fsP b A :: F) h) : CallsH Try.prog 22 [ptrV b, .string dir, .string name, .string k] h (Done b A' e F) := by
  have W2 := W.rename dir name k
  refine (F22_spec W hs hd hn hk H).mono ?_
  rintro v h' ⟨rfl, H2⟩
  rw [he] at W2 H2 ⊢
  exact ⟨rfl, W2, H2⟩
/-- Bytes of a text, appended. -/
theorem cText {s : ByteArray} {K : Value → Heap → Prop} (H : sat F h) (hz : s.size ≤ maxLen) (hK : ∀ a c h', sat (ownS 5 1 a s.size c ((sb s).map nv) :: F) h' → K (.slice a s.size c) h') : RunH Try.prog (Go.convert 9 31 (.string s)) h K :=
  bytesOfB (by kernel_rfl) u31 (by kernel_rfl) hz H fun b c h' H' => hK _ c h' H'
/-- The example. -/
theorem F14_spec (H : sat F h) : CallsH Try.prog 14 [] h fun v h' => v = .bool true ∧ sat F h' := by
  apply F14_ok
  unfold F14
  refine (F15_spec (room := 100) H (by omega)).mono ?_
  rintro v h1 ⟨b, rfl, H1⟩
  refine ⟨some ⟨b, 0, none⟩, 0, rfl, ?_⟩
  rw [show ((0 : Int) != 0) = false from rfl, cond_false, show (some (⟨b, 0, none⟩ : Addr)).isNone = false from rfl, cond_false]
  refine (c16 (A' := ⟨100, 1, none, false, [], [⟨dN, [], [], []⟩]⟩) (e := 0) rfl (new_wf (by omega)) (by decide) (by decide) H1).mono ?_
  rintro v h2 ⟨rfl, W2, H2⟩
  rw [DI_int, show (((0 : Nat) : Int) != 0) = false from rfl, cond_false]
  refine (c17 (A' := ⟨100, 2, none, false, [⟨[], 0⟩], [⟨dN, [(aN, 0)], [], [.create aN 0]⟩]⟩) (e := 0) rfl W2 (by decide) (by decide) (by decide) H2).mono ?_
  rintro v h3 ⟨rfl, W3, H3⟩
  rw [DI_int, show (((0 : Nat) : Int) != 0) = false from rfl, cond_false]
  refine Al_sat H3 fun b0 h4 H4 => ?_
  refine convBytes_sat u31 (by kernel_rfl) H4 fun h5 H5 => ?_
  rw [DSl_slice]
  have H6 := H5.mv 1
  refine (c18 (bs := [120, 121]) (A' := ⟨100, 3, none, false, [⟨[120, 121], 0⟩], [⟨dN, [(aN, 0)], [], [.create aN 0]⟩]⟩) (e := 0) rfl W3 (by decide) (by decide) (by decide) (fun h' hh => RdCf hh rfl) (fun n hn => by simp at hn; omega) rfl (by decide) H6).mono ?_
  rintro v h6 ⟨rfl, W6, H7⟩
  rw [DI_int, show (((0 : Nat) : Int) != 0) = false from rfl, cond_false]
  refine (c20 (A' := ⟨100, 4, none, false, [⟨[120, 121], 0⟩], [⟨dN, [(aN, 0)], [(aN, 0)], []⟩]⟩) (e := 0) rfl W6 (by decide) (by decide) H7).mono ?_
  rintro v h7 ⟨rfl, W7, H8⟩
  rw [DI_int, show (((0 : Nat) : Int) != 0) = false from rfl, cond_false]
  refine Al_sat H8 fun b1 h8 H9 => ?_
  have H10 := H9.mv 1
  refine (F24_spec (ps := [0, 1]) W7 ⟨rfl, Nat.le_refl _, fun h' hh => RdCf hh rfl⟩ (by decide) H10).mono ?_
  rintro v h9 ⟨rfl, H11⟩
  rw [DI_int]
  have W8 := W7.crash [0, 1]
  refine (F25_spec W8 (dir := dN) (name := aN) (by decide) (by decide) H11).mono ?_
  have er : (AF.FS.crash ⟨100, 4, none, false, [⟨[120, 121], 0⟩], [⟨dN, [(aN, 0)], [(aN, 0)], []⟩]⟩ [0, 1]).read dN aN = .ok [120] := by kernel_rfl
  rintro v h10 (⟨bs, a, c, hr, hb8, _, rfl, H12⟩ | ⟨e, hr, _⟩)
  · rw [er] at hr
    cases hr
    refine ⟨a, 1, c, 0, rfl, ?_⟩
    rw [show ((0 : Int) == 0) = true from rfl, cond_true]
    refine ⟨ofN [120], bytesIn_of (ownS_read H12) rfl hb8, ?_⟩
    rw [show strEq (ofN [120]) ⟨#[120]⟩ = true from by rw [strEq_eq, sb_ofN hb8]; rfl, cond_true]
    refine (F23_spec (H12.mv 1)).mono ?_
    rintro v h11 ⟨rfl, rfl⟩
    rw [DI_int]
    exact ⟨rfl, (H12.rest 4)⟩
  · rw [er] at hr
    cases hr
end

end Go.Proofs.Yticjjdhaikbdaaa

namespace Go.Proofs.Yticjjdhaikbdaaa
open Go Go.RowKit Go.MapKept
set_option linter.unusedVariables false
set_option linter.unusedSimpArgs false

namespace AF
theorem append_do {f : FS} {dir name : ByteArray} {b : List Nat} {i x : Nat} (he : f.entry dir name = .ok (i, x)) (hl : (f.X x).b.length + b.length ≤ 16777216) (hr : f.used + b.length ≤ f.room) :
    f.append dir name b = f.step fun g => g.setFile x fun y => { y with b := y.b ++ b } := by
  unfold FS.append
  rw [he]
  simp only [if_neg (Nat.not_lt.2 hl), if_neg (Nat.not_lt.2 hr)]
def S5 (e : List Nat) (fu : Option Nat) : FS := ⟨1048576, 5, fu, false, [⟨e, e.length⟩], [⟨dN, [(aN, 0)], [(aN, 0)], []⟩]⟩
/-- The state before the crash, by how many steps the fuse let through. -/
def R11 (e n : List Nat) : Nat → FS
  | 0 => ⟨1048576, 5, some 0, true, [⟨e, e.length⟩], [⟨dN, [(aN, 0)], [(aN, 0)], []⟩]⟩
  | 1 => ⟨1048576, 6, some 0, true, [⟨e, e.length⟩, ⟨[], 0⟩], [⟨dN, [(aN, 0), (tN, 1)], [(aN, 0)], [.create tN 1]⟩]⟩
  | 2 => ⟨1048576, 7, some 0, true, [⟨e, e.length⟩, ⟨n, 0⟩], [⟨dN, [(aN, 0), (tN, 1)], [(aN, 0)], [.create tN 1]⟩]⟩
  | 3 => ⟨1048576, 8, some 0, true, [⟨e, e.length⟩, ⟨n, n.length⟩], [⟨dN, [(aN, 0), (tN, 1)], [(aN, 0)], [.create tN 1]⟩]⟩
  | 4 => ⟨1048576, 9, some 0, true, [⟨e, e.length⟩, ⟨n, n.length⟩], [⟨dN, [(aN, 1)], [(aN, 0)], [.create tN 1, .rename tN aN]⟩]⟩
  | m + 5 => ⟨1048576, 10, some m, false, [⟨e, e.length⟩, ⟨n, n.length⟩], [⟨dN, [(aN, 1)], [(aN, 1)], []⟩]⟩
/-- How it comes to that. -/
theorem to5 (e : List Nat) (hl : e.length ≤ 4000) : ∃ A4 : FS, FS.append ⟨1048576, 2, none, false, [⟨[], 0⟩], [⟨dN, [(aN, 0)], [], [.create aN 0]⟩]⟩ dN aN e = (A4, 0) ∧ A4.steps = 3 ∧ ∃ A5, A4.sync dN aN = (A5, 0) ∧ A5.steps = 4 ∧ A5.syncDir dN = (S5 e none, 0) := by
  rw [append_do (i := 0) (x := 0) rfl (by show 0 + e.length ≤ 16777216; omega) (by show 0 + e.length ≤ 1048576; omega)]
  exact ⟨_, rfl, rfl, _, rfl, rfl, rfl⟩
theorem used2 (e : List Nat) (x : Nat) : (e.length + (x + 0)) = e.length + x := rfl
/-- The steps behind the fuse. -/
theorem toR (e n : List Nat) (hl : e.length + n.length ≤ 4000) (m : Nat) (hm : m < 7) : ∃ (A7 A8 A9 : FS) (e7 e8 e9 : Nat), (S5 e (some m)).create dN tN = (A7, e7) ∧ A7.append dN tN n = (A8, e8) ∧ A8.sync dN tN = (A9, e9) ∧ A7.steps ≤ 10 ∧ A8.steps ≤ 10 ∧ A9.steps ≤ 10 ∧
    ((e9 ≠ 0 ∧ ∃ e11, A9.syncDir dN = (R11 e n m, e11)) ∨ (e9 = 0 ∧ ∃ A10 e10 e11, A9.rename dN tN aN = (A10, e10) ∧ A10.steps ≤ 10 ∧ A10.syncDir dN = (R11 e n m, e11))) := by
  have ap : ∀ k, FS.append ⟨1048576, 6, some (k + 1), false, [⟨e, e.length⟩, ⟨[], 0⟩], [⟨dN, [(aN, 0), (tN, 1)], [(aN, 0)], [.create tN 1]⟩]⟩ dN tN n = (⟨1048576, 7, some k, false, [⟨e, e.length⟩, ⟨n, 0⟩], [⟨dN, [(aN, 0), (tN, 1)], [(aN, 0)], [.create tN 1]⟩]⟩, 0) := fun k => by
    rw [append_do (i := 0) (x := 1) rfl (by show 0 + n.length ≤ 16777216; omega) (by show e.length + (0 + 0) + n.length ≤ 1048576; omega)]
    rfl
  have ap0 : FS.append ⟨1048576, 6, some 0, false, [⟨e, e.length⟩, ⟨[], 0⟩], [⟨dN, [(aN, 0), (tN, 1)], [(aN, 0)], [.create tN 1]⟩]⟩ dN tN n = (⟨1048576, 6, some 0, true, [⟨e, e.length⟩, ⟨[], 0⟩], [⟨dN, [(aN, 0), (tN, 1)], [(aN, 0)], [.create tN 1]⟩]⟩, 60) := by
    rw [append_do (i := 0) (x := 1) rfl (by show 0 + n.length ≤ 16777216; omega) (by show e.length + (0 + 0) + n.length ≤ 1048576; omega)]
    rfl
  match m, hm with
  | 0, _ => exact ⟨_, _, _, _, _, _, rfl, rfl, rfl, Nat.le_of_ble_eq_true rfl, Nat.le_of_ble_eq_true rfl, Nat.le_of_ble_eq_true rfl, .inl ⟨by decide, _, rfl⟩⟩
  | 1, _ => exact ⟨_, _, _, _, _, _, rfl, ap0, rfl, Nat.le_of_ble_eq_true rfl, Nat.le_of_ble_eq_true rfl, Nat.le_of_ble_eq_true rfl, .inl ⟨by decide, _, rfl⟩⟩
  | 2, _ => exact ⟨_, _, _, _, _, _, rfl, ap 0, rfl, Nat.le_of_ble_eq_true rfl, Nat.le_of_ble_eq_true rfl, Nat.le_of_ble_eq_true rfl, .inl ⟨by decide, _, rfl⟩⟩
  | 3, _ => exact ⟨_, _, _, _, _, _, rfl, ap 1, rfl, Nat.le_of_ble_eq_true rfl, Nat.le_of_ble_eq_true rfl, Nat.le_of_ble_eq_true rfl, .inr ⟨rfl, _, _, _, rfl, Nat.le_of_ble_eq_true rfl, rfl⟩⟩
  | 4, _ => exact ⟨_, _, _, _, _, _, rfl, ap 2, rfl, Nat.le_of_ble_eq_true rfl, Nat.le_of_ble_eq_true rfl, Nat.le_of_ble_eq_true rfl, .inr ⟨rfl, _, _, _, rfl, Nat.le_of_ble_eq_true rfl, rfl⟩⟩
  | 5, _ => exact ⟨_, _, _, _, _, _, rfl, ap 3, rfl, Nat.le_of_ble_eq_true rfl, Nat.le_of_ble_eq_true rfl, Nat.le_of_ble_eq_true rfl, .inr ⟨rfl, _, _, _, rfl, Nat.le_of_ble_eq_true rfl, rfl⟩⟩
  | 6, _ => exact ⟨_, _, _, _, _, _, rfl, ap 4, rfl, Nat.le_of_ble_eq_true rfl, Nat.le_of_ble_eq_true rfl, Nat.le_of_ble_eq_true rfl, .inr ⟨rfl, _, _, _, rfl, Nat.le_of_ble_eq_true rfl, rfl⟩⟩
theorem take_all {e : List Nat} {m : Nat} (h1 : e.length ≤ m) (h2 : m ≤ e.length) : e.take m = e := List.take_of_length_le h1
/-- The law, plain. -/
theorem renames {e n : List Nat} {m : Nat} (hm : m < 7) (W : (R11 e n m).WF) (ps : List Int) : ∃ bs, ((R11 e n m).crash ps).read dN aN = .ok bs ∧ (bs = e ∨ bs = n) ∧ (R11 e n m).steps ≤ 10 ∧ ((R11 e n m).steps < 10 ∨ bs = n) := by
  have go : ∀ (d : Dir) (h0 : (R11 e n m).dirs[0]? = some d) (hd : d.name = dN) (hp : ∀ k, k ≤ d.pend.length → ∃ (x : Nat) (y : File), of (play d.base (d.pend.take k)) aN = some x ∧ (R11 e n m).files[x]? = some y ∧ y.safe = y.b.length ∧ (y.b = e ∨ y.b = n) ∧ ((R11 e n m).steps < 10 ∨ y.b = n)) (hs : (R11 e n m).steps ≤ 10),
      ∃ bs, ((R11 e n m).crash ps).read dN aN = .ok bs ∧ (bs = e ∨ bs = n) ∧ (R11 e n m).steps ≤ 10 ∧ ((R11 e n m).steps < 10 ∨ bs = n) := by
    intro d h0 hd hp hs
    obtain ⟨k, hk, _, hr⟩ := crash_read W ps h0
    obtain ⟨x, y, hx, hy, hsafe, hb, ht⟩ := hp k hk
    obtain ⟨j, h1, h2, hrd⟩ := hr aN x y hx hy
    rw [hd, take_all (by omega) h2] at hrd
    exact ⟨y.b, hrd, hb, hs, ht⟩
  match m, hm with
  | 0, _ => exact go _ rfl rfl (fun k hk => by match k, hk with | 0, _ => exact ⟨0, _, rfl, rfl, rfl, .inl rfl, .inl (Nat.le_of_ble_eq_true rfl)⟩) (Nat.le_of_ble_eq_true rfl)
  | 1, _ => exact go _ rfl rfl (fun k hk => by match k, hk with | 0, _ => exact ⟨0, _, rfl, rfl, rfl, .inl rfl, .inl (Nat.le_of_ble_eq_true rfl)⟩ | 1, _ => exact ⟨0, _, rfl, rfl, rfl, .inl rfl, .inl (Nat.le_of_ble_eq_true rfl)⟩) (Nat.le_of_ble_eq_true rfl)
  | 2, _ => exact go _ rfl rfl (fun k hk => by match k, hk with | 0, _ => exact ⟨0, _, rfl, rfl, rfl, .inl rfl, .inl (Nat.le_of_ble_eq_true rfl)⟩ | 1, _ => exact ⟨0, _, rfl, rfl, rfl, .inl rfl, .inl (Nat.le_of_ble_eq_true rfl)⟩) (Nat.le_of_ble_eq_true rfl)
  | 3, _ => exact go _ rfl rfl (fun k hk => by match k, hk with | 0, _ => exact ⟨0, _, rfl, rfl, rfl, .inl rfl, .inl (Nat.le_of_ble_eq_true rfl)⟩ | 1, _ => exact ⟨0, _, rfl, rfl, rfl, .inl rfl, .inl (Nat.le_of_ble_eq_true rfl)⟩) (Nat.le_of_ble_eq_true rfl)
  | 4, _ => exact go _ rfl rfl (fun k hk => by match k, hk with | 0, _ => exact ⟨0, _, rfl, rfl, rfl, .inl rfl, .inl (Nat.le_of_ble_eq_true rfl)⟩ | 1, _ => exact ⟨0, _, rfl, rfl, rfl, .inl rfl, .inl (Nat.le_of_ble_eq_true rfl)⟩ | 2, _ => exact ⟨1, _, rfl, rfl, rfl, .inr rfl, .inl (Nat.le_of_ble_eq_true rfl)⟩) (Nat.le_of_ble_eq_true rfl)
  | 5, _ => exact go _ rfl rfl (fun k hk => by match k, hk with | 0, _ => exact ⟨1, _, rfl, rfl, rfl, .inr rfl, .inr rfl⟩) (Nat.le_of_ble_eq_true rfl)
  | 6, _ => exact go _ rfl rfl (fun k hk => by match k, hk with | 0, _ => exact ⟨1, _, rfl, rfl, rfl, .inr rfl, .inr rfl⟩) (Nat.le_of_ble_eq_true rfl)
end AF

end Go.Proofs.Yticjjdhaikbdaaa

namespace Go.Proofs.Yticjjdhaikbdaaa
open Go Go.RowKit Go.MapKept
set_option linter.unusedVariables false
set_option linter.unusedSimpArgs false

theorem pks_old {h : Heap} {pa : Option Addr} {pl pc : Nat} {ps : List Int} (hr : RdC h pa (ps.map iv)) (hl : ps.length = pl) (hc : pl ≤ pc) : Pks [old h] ps pa pl pc := ⟨hl, hc, fun h' hh => hr.old hh⟩
theorem fuse_mod {m k : Nat} (hk : 0 < k) (hk2 : k < 100) : IntKind.wrap .i64 (Int.tmod (m : Int) (k : Int)) = ((m % k : Nat) : Int) := by
  have := Nat.mod_lt m hk
  rw [tmod_nat, wrap64_nat (by omega)]
theorem set_fuse {A : AF.FS} {m : Nat} : A.setFuse (m : Int) = ({ A with fuse := some m }, 0) := by
  unfold AF.FS.setFuse
  rw [if_neg (by omega)]
  rfl
theorem strEq_of {s : ByteArray} {ns : List Nat} (h8 : B8 ns) : strEq (ofN ns) s = decide (ns = sb s) := by rw [strEq_eq, sb_ofN h8]
theorem FsRenames_law (e n : ByteArray) (pa : Option Addr) (pl pc m : Nat) (ps : List Int) (h : Heap) (hez : e.size ≤ 140737488355328) (hnz : n.size ≤ 140737488355328) (hr : RdC h pa (ps.map iv)) (hl : ps.length = pl) (hc : pl ≤ pc) :
    CallsH Try.prog 3 [.string e, .string n, .slice pa pl pc, .int .u8 (m : Int)] h (Good h) := by
  apply F3_ok
  unfold F3
  refine (F14_spec (sat_old h)).mono ?_
  rintro v h0 ⟨rfl, H0⟩
  rw [DB_bool, Bool.not_true, cond_false]
  have hm1 : 140737488355328 ≤ maxLen := by decide
  rw [← Int.natCast_add, wrap64_nat (by omega)]
  by_cases hbig : e.size + n.size > 4000
  · rw [decide_eq_true (show (((e.size + n.size : Nat) : Int) > 4000) by omega), cond_true]
    exact good_of H0
  rw [decide_eq_false (show ¬ (((e.size + n.size : Nat) : Int) > 4000) by omega), cond_false]
  by_cases hpl : pl > 100
  · rw [decide_eq_true (show ((pl : Int) > 100) by omega), cond_true]
    exact good_of H0
  rw [decide_eq_false (show ¬ ((pl : Int) > 100) by omega), cond_false]
  cases hne : strEq e n with
  | true => exact good_of H0
  | false =>
  rw [cond_false]
  have la := sb_length e
  have lb := sb_length n
  refine (F15_spec (room := 1048576) H0 (by omega)).mono ?_
  rintro v h1 ⟨b, rfl, H1⟩
  refine ⟨some ⟨b, 0, none⟩, 0, rfl, ?_⟩
  refine (c16 (A' := ⟨1048576, 1, none, false, [], [⟨dN, [], [], []⟩]⟩) (e := 0) rfl (new_wf (by omega)) (by decide) (by decide) H1).mono ?_
  rintro v h2 ⟨rfl, W2, H2⟩
  rw [DI_int]
  refine (c17 (A' := ⟨1048576, 2, none, false, [⟨[], 0⟩], [⟨dN, [(aN, 0)], [], [.create aN 0]⟩]⟩) (e := 0) rfl W2 (Nat.le_of_ble_eq_true rfl) (by decide) (by decide) H2).mono ?_
  rintro v h3 ⟨rfl, W3, H3⟩
  rw [DI_int]
  refine cText H3 (by omega) fun ea ec h4 H4 => ?_
  rw [DSl_slice]
  obtain ⟨A4, e4, s4, A5, e5, s5, e6⟩ := AF.to5 (sb e) (by omega)
  refine (c18 e4 W3 (Nat.le_of_ble_eq_true rfl) (by decide) (by decide) (fun h' hh => ownS_read hh) (sb_B8 _) (by omega) (by omega) (H4.mv 1)).mono ?_
  rintro v h5 ⟨rfl, W5, H5⟩
  rw [DI_int]
  refine (c19 e5 W5 (by omega) (by decide) (by decide) ((H5.mv 1).drop)).mono ?_
  rintro v h6 ⟨rfl, W6, H6⟩
  rw [DI_int]
  refine (c20 e6 W6 (by omega) (by decide) H6).mono ?_
  rintro v h7 ⟨rfl, W7, H7⟩
  rw [DI_int]
  refine ⟨by omega, ?_⟩
  rw [show (7 : Int) = ((7 : Nat) : Int) from rfl, fuse_mod (by omega) (by omega)]
  have hmq := Nat.mod_lt m (show 0 < 7 by omega)
  generalize m % 7 = k at hmq
  refine (c21 (set_fuse (m := k)) W7 (by omega) H7).mono ?_
  rintro v h8 ⟨rfl, W8, H8⟩
  rw [DI_int]
  obtain ⟨A7, A8, A9, e7, e8, e9, x7, x8, x9, s7, s8, s9, hend⟩ := AF.toR (sb e) (sb n) (by omega) k hmq
  refine (c17 x7 W8 (Nat.le_of_ble_eq_true rfl) (by decide) (by decide) H8).mono ?_
  rintro v h9 ⟨rfl, W9, H9⟩
  rw [DI_int]
  refine cText H9 (by omega) fun na nc h10 H10 => ?_
  rw [DSl_slice]
  refine (c18 x8 W9 (by omega) (by decide) (by decide) (fun h' hh => ownS_read hh) (sb_B8 _) (by omega) (by omega) (H10.mv 1)).mono ?_
  rintro v h11 ⟨rfl, W11, H11⟩
  rw [DI_int]
  refine (c19 x9 W11 (by omega) (by decide) (by decide) ((H11.mv 1).drop)).mono ?_
  rintro v h12 ⟨rfl, W12, H12⟩
  rw [DI_int]
  have tail : ∀ h14, (AF.R11 (sb e) (sb n) k).WF → sat (fsP b (AF.R11 (sb e) (sb n) k) :: [old h]) h14 →
      CallsH Try.prog 23 [.pointer (some ⟨b, 0, none⟩)] h14 fun r15 h_15 =>
            DI .i64 r15 fun was0 =>
            CallsH Try.prog 24 [.pointer (some ⟨b, 0, none⟩), .slice pa pl pc] h_15 fun r16 h_16 =>
            DI .i64 r16 fun x16 =>
            CallsH Try.prog 25 [.pointer (some ⟨b, 0, none⟩), .string ⟨#[100]⟩, .string ⟨#[97]⟩] h_16 fun r17 h_17 =>
            ∃ (x17a : Option Addr), ∃ (x17l : Nat), ∃ (x17c : Nat), ∃ (x18 : Int), r17 = .tuple #[.slice x17a x17l x17c, .int .i64 x18] ∧
            (bif (x18 : Int) != 0 then
              Good h (.bool false) h_17
            else
              ∃ bs0 : ByteArray, BytesIn h_17 x17a x17l bs0 ∧
              (bif !strEq bs0 e then
                ∃ bs1 : ByteArray, BytesIn h_17 x17a x17l bs1 ∧
                (bif !strEq bs1 n then
                  Good h (.bool false) h_17
                else
                  (bif decide ((was0 : Int) < 10) then
                    Good h (.bool true) h_17
                  else
                    ∃ bs2 : ByteArray, BytesIn h_17 x17a x17l bs2 ∧
                    Good h (.bool (strEq bs2 n)) h_17))
              else
                (bif decide ((was0 : Int) < 10) then
                  Good h (.bool true) h_17
                else
                  ∃ bs3 : ByteArray, BytesIn h_17 x17a x17l bs3 ∧
                  Good h (.bool (strEq bs3 n)) h_17))) := by
    intro h14 W14 H14
    obtain ⟨bs, hrd, hbs, hst, hten⟩ := AF.renames hmq W14 ps
    refine (F23_spec H14).mono ?_
    rintro v h15 ⟨rfl, rfl⟩
    rw [DI_int]
    refine (F24_spec W14 (pks_old hr hl hc) (by omega) H14).mono ?_
    rintro v h16 ⟨rfl, H16⟩
    rw [DI_int]
    refine (F25_spec (W14.crash ps) (dir := dN) (name := aN) (by decide) (by decide) H16).mono ?_
    rintro v h17 (⟨bs', a, c, hr', hb8, _, rfl, H17⟩ | ⟨e', hr', _⟩)
    · rw [hrd] at hr'
      cases hr'
      have hB := bytesIn_of (ownS_read H17) rfl hb8
      have hgood := good_of (H17.ord [2])
      refine ⟨a, bs.length, c, 0, rfl, ?_⟩
      rw [show ((0 : Int) != 0) = false from rfl, cond_false]
      refine ⟨ofN bs, hB, ?_⟩
      have tn : ¬ (AF.R11 (sb e) (sb n) k).steps < 10 → strEq (ofN bs) n = true := fun hn => by
        rcases hten with h1 | h1
        · exact absurd h1 hn
        · rw [strEq_of hb8, h1]
          simp
      cases hq : strEq (ofN bs) e with
      | true =>
        rw [Bool.not_true, cond_false]
        by_cases ht : (AF.R11 (sb e) (sb n) k).steps < 10
        · rw [decide_eq_true (by omega), cond_true]
          exact hgood
        · rw [decide_eq_false (by omega), cond_false]
          exact ⟨ofN bs, hB, by rw [tn ht]; exact hgood⟩
      | false =>
        rw [Bool.not_false, cond_true]
        refine ⟨ofN bs, hB, ?_⟩
        have h2 : bs = sb n := by
          rcases hbs with h1 | h1
          · rw [strEq_of hb8, h1] at hq
            simp at hq
          · exact h1
        rw [show strEq (ofN bs) n = true from by rw [strEq_of hb8, h2]; simp, Bool.not_true, cond_false]
        by_cases ht : (AF.R11 (sb e) (sb n) k).steps < 10
        · rw [decide_eq_true (by omega), cond_true]
          exact hgood
        · rw [decide_eq_false (by omega), cond_false]
          exact ⟨ofN bs, hB, by rw [tn ht]; exact hgood⟩
    · rw [hrd] at hr'
      cases hr'
  rcases hend with ⟨h9, e11, x11⟩ | ⟨h9, A10, e10, e11, x10, s10, x11⟩
  · rw [err_beq h9, cond_false]
    refine (c20 x11 W12 (by omega) (by decide) H12).mono ?_
    rintro v h14 ⟨rfl, W14, H14⟩
    rw [DI_int]
    exact tail h14 W14 H14
  · rw [h9, show (((0 : Nat) : Int) == 0) = true from rfl, cond_true]
    refine (c22 x10 W12 (by omega) (by decide) (by decide) (by decide) H12).mono ?_
    rintro v h13 ⟨rfl, W13, H13⟩
    rw [DI_int]
    refine (c20 x11 W13 (by omega) (by decide) H13).mono ?_
    rintro v h14 ⟨rfl, W14, H14⟩
    rw [DI_int]
    exact tail h14 W14 H14

/-! ### what is safe stays -/
namespace AF
/-- The state before the crash, by how many steps the fuse let through. -/
def Q9 (e n : List Nat) : Nat → FS
  | 0 => ⟨1048576, 5, some 0, true, [⟨e, e.length⟩], [⟨dN, [(aN, 0)], [(aN, 0)], []⟩]⟩
  | 1 => ⟨1048576, 6, some 0, true, [⟨e ++ n, e.length⟩], [⟨dN, [(aN, 0)], [(aN, 0)], []⟩]⟩
  | 2 => ⟨1048576, 7, some 0, true, [⟨e ++ n, e.length⟩], [⟨dN, [(bN, 0)], [(aN, 0)], [.rename aN bN]⟩]⟩
  | m + 3 => ⟨1048576, 8, some m, false, [⟨e ++ n, e.length⟩, ⟨[], 0⟩], [⟨dN, [(aN, 1), (bN, 0)], [(aN, 0)], [.rename aN bN, .create aN 1]⟩]⟩
theorem toQ (e n : List Nat) (hl : e.length + n.length ≤ 4000) (m : Nat) (hm : m < 4) : ∃ (A7 A8 : FS) (e7 e8 e9 : Nat), (S5 e (some m)).append dN aN n = (A7, e7) ∧ A7.rename dN aN bN = (A8, e8) ∧ A8.create dN aN = (Q9 e n m, e9) ∧ A7.steps ≤ 10 ∧ A8.steps ≤ 10 := by
  have ap : ∀ k, (S5 e (some (k + 1))).append dN aN n = (⟨1048576, 6, some k, false, [⟨e ++ n, e.length⟩], [⟨dN, [(aN, 0)], [(aN, 0)], []⟩]⟩, 0) := fun k => by
    rw [append_do (i := 0) (x := 0) rfl (by show e.length + n.length ≤ 16777216; omega) (by show e.length + 0 + n.length ≤ 1048576; omega)]
    rfl
  have ap0 : (S5 e (some 0)).append dN aN n = (⟨1048576, 5, some 0, true, [⟨e, e.length⟩], [⟨dN, [(aN, 0)], [(aN, 0)], []⟩]⟩, 60) := by
    rw [append_do (i := 0) (x := 0) rfl (by show e.length + n.length ≤ 16777216; omega) (by show e.length + 0 + n.length ≤ 1048576; omega)]
    rfl
  match m, hm with
  | 0, _ => exact ⟨_, _, _, _, _, ap0, rfl, rfl, Nat.le_of_ble_eq_true rfl, Nat.le_of_ble_eq_true rfl⟩
  | 1, _ => exact ⟨_, _, _, _, _, ap 0, rfl, rfl, Nat.le_of_ble_eq_true rfl, Nat.le_of_ble_eq_true rfl⟩
  | 2, _ => exact ⟨_, _, _, _, _, ap 1, rfl, rfl, Nat.le_of_ble_eq_true rfl, Nat.le_of_ble_eq_true rfl⟩
  | 3, _ => exact ⟨_, _, _, _, _, ap 2, rfl, rfl, Nat.le_of_ble_eq_true rfl, Nat.le_of_ble_eq_true rfl⟩
theorem safes_go {e n : List Nat} {f : FS} (W : f.WF) (ps : List Int) (d : Dir) (h0 : f.dirs[0]? = some d) (hd : d.name = dN) (hp : ∀ k, k ≤ d.pend.length → ∃ (l : Names) (kn : ByteArray) (x : Nat) (y : File), play d.base (d.pend.take k) = l ∧ 1 ≤ l.length ∧ l.length ≤ 2 ∧ (l.map (·.1))[l.length - 1]? = some kn ∧ of l kn = some x ∧
      f.files[x]? = some y ∧ e.length ≤ y.safe ∧ ∃ j, y.b = (e ++ n).take j) (hs : f.steps ≤ 10) :
      ∃ (ks : List ByteArray) (k : ByteArray) (bs : List Nat), (f.crash ps).list dN = .ok ks ∧ 1 ≤ ks.length ∧ ks.length ≤ 2 ∧ ks[ks.length - 1]? = some k ∧
        (f.crash ps).read dN k = .ok bs ∧ e.length ≤ bs.length ∧ bs.length ≤ (e ++ n).length ∧ bs = (e ++ n).take bs.length ∧ f.steps ≤ 10 := by
    obtain ⟨k, hk, hli, hr⟩ := crash_read W ps h0
    obtain ⟨l, kn, x, y, rfl, h1, h2, h3, hx, hy, hsafe, j, hb⟩ := hp k hk
    obtain ⟨i, i1, i2, hrd⟩ := hr kn x y hx hy
    rw [hd] at hrd hli
    have hlen : (y.b.take i).length = i := by rw [List.length_take]; omega
    refine ⟨_, kn, y.b.take i, hli, by rw [List.length_map]; exact h1, by rw [List.length_map]; exact h2, by rw [List.length_map]; exact h3, hrd, by omega, ?_, ?_, hs⟩
    · rw [hlen]
      rw [hb, List.length_take] at i2
      omega
    · rw [hlen, hb, List.take_take]
      congr 1
      rw [hb, List.length_take] at i2
      omega
theorem safes {e n : List Nat} {m : Nat} (hm : m < 4) (W : (Q9 e n m).WF) (ps : List Int) : ∃ (ks : List ByteArray) (k : ByteArray) (bs : List Nat), ((Q9 e n m).crash ps).list dN = .ok ks ∧ 1 ≤ ks.length ∧ ks.length ≤ 2 ∧ ks[ks.length - 1]? = some k ∧
    ((Q9 e n m).crash ps).read dN k = .ok bs ∧ e.length ≤ bs.length ∧ bs.length ≤ (e ++ n).length ∧ bs = (e ++ n).take bs.length ∧ (Q9 e n m).steps ≤ 10 := by
  have al : ∃ j, e = (e ++ n).take j := ⟨e.length, by simp⟩
  have al2 : ∃ j, e ++ n = (e ++ n).take j := ⟨(e ++ n).length, by rw [List.take_length]⟩
  match m, hm with
  | 0, _ => exact safes_go W ps _ rfl rfl (fun k hk => by match k, hk with | 0, _ => exact ⟨[(aN, 0)], aN, 0, _, rfl, by decide, by decide, rfl, rfl, rfl, Nat.le_refl _, al⟩) (Nat.le_of_ble_eq_true rfl)
  | 1, _ => exact safes_go W ps _ rfl rfl (fun k hk => by match k, hk with | 0, _ => exact ⟨[(aN, 0)], aN, 0, _, rfl, by decide, by decide, rfl, rfl, rfl, Nat.le_refl _, al2⟩) (Nat.le_of_ble_eq_true rfl)
  | 2, _ => exact safes_go W ps _ rfl rfl (fun k hk => by match k, hk with | 0, _ => exact ⟨[(aN, 0)], aN, 0, _, rfl, by decide, by decide, rfl, rfl, rfl, Nat.le_refl _, al2⟩ | 1, _ => exact ⟨[(bN, 0)], bN, 0, _, rfl, by decide, by decide, rfl, rfl, rfl, Nat.le_refl _, al2⟩) (Nat.le_of_ble_eq_true rfl)
  | 3, _ => exact safes_go W ps _ rfl rfl (fun k hk => by match k, hk with | 0, _ => exact ⟨[(aN, 0)], aN, 0, _, rfl, by decide, by decide, rfl, rfl, rfl, Nat.le_refl _, al2⟩ | 1, _ => exact ⟨[(bN, 0)], bN, 0, _, rfl, by decide, by decide, rfl, rfl, rfl, Nat.le_refl _, al2⟩ | 2, _ => exact ⟨[(aN, 1), (bN, 0)], bN, 0, _, rfl, by decide, by decide, rfl, rfl, rfl, Nat.le_refl _, al2⟩) (Nat.le_of_ble_eq_true rfl)
end AF
theorem right_size {s : ByteArray} (h : AF.right s = true) : s.size ≤ 32 := by
  unfold AF.right at h
  simp only [Bool.and_eq_true, decide_eq_true_eq] at h
  exact h.1.2
theorem FsSafe_law (e n : ByteArray) (pa : Option Addr) (pl pc m : Nat) (ps : List Int) (h : Heap) (hez : e.size ≤ 140737488355328) (hnz : n.size ≤ 140737488355328) (hr : RdC h pa (ps.map iv)) (hl : ps.length = pl) (hc : pl ≤ pc) :
    CallsH Try.prog 5 [.string e, .string n, .slice pa pl pc, .int .u8 (m : Int)] h (Good h) := by
  apply F5_ok
  unfold F5
  refine (F14_spec (sat_old h)).mono ?_
  rintro v h0 ⟨rfl, H0⟩
  rw [DB_bool, Bool.not_true, cond_false]
  have hm1 : 140737488355328 ≤ maxLen := by decide
  rw [← Int.natCast_add, wrap64_nat (by omega)]
  by_cases hbig : e.size + n.size > 4000
  · rw [decide_eq_true (show (((e.size + n.size : Nat) : Int) > 4000) by omega), cond_true]
    exact good_of H0
  rw [decide_eq_false (show ¬ (((e.size + n.size : Nat) : Int) > 4000) by omega), cond_false]
  by_cases hpl : pl > 100
  · rw [decide_eq_true (show ((pl : Int) > 100) by omega), cond_true]
    exact good_of H0
  rw [decide_eq_false (show ¬ ((pl : Int) > 100) by omega), cond_false]
  have la := sb_length e
  have lb := sb_length n
  refine (F15_spec (room := 1048576) H0 (by omega)).mono ?_
  rintro v h1 ⟨b, rfl, H1⟩
  refine ⟨some ⟨b, 0, none⟩, 0, rfl, ?_⟩
  refine (c16 (A' := ⟨1048576, 1, none, false, [], [⟨dN, [], [], []⟩]⟩) (e := 0) rfl (new_wf (by omega)) (by decide) (by decide) H1).mono ?_
  rintro v h2 ⟨rfl, W2, H2⟩
  rw [DI_int]
  refine (c17 (A' := ⟨1048576, 2, none, false, [⟨[], 0⟩], [⟨dN, [(aN, 0)], [], [.create aN 0]⟩]⟩) (e := 0) rfl W2 (Nat.le_of_ble_eq_true rfl) (by decide) (by decide) H2).mono ?_
  rintro v h3 ⟨rfl, W3, H3⟩
  rw [DI_int]
  refine cText H3 (by omega) fun ea ec h4 H4 => ?_
  rw [DSl_slice]
  obtain ⟨A4, e4, s4, A5, e5, s5, e6⟩ := AF.to5 (sb e) (by omega)
  refine (c18 e4 W3 (Nat.le_of_ble_eq_true rfl) (by decide) (by decide) (fun h' hh => ownS_read hh) (sb_B8 _) (by omega) (by omega) (H4.mv 1)).mono ?_
  rintro v h5 ⟨rfl, W5, H5⟩
  rw [DI_int]
  refine (c19 e5 W5 (by omega) (by decide) (by decide) ((H5.mv 1).drop)).mono ?_
  rintro v h6 ⟨rfl, W6, H6⟩
  rw [DI_int]
  refine (c20 e6 W6 (by omega) (by decide) H6).mono ?_
  rintro v h7 ⟨rfl, W7, H7⟩
  rw [DI_int]
  refine ⟨by omega, ?_⟩
  rw [show (4 : Int) = ((4 : Nat) : Int) from rfl, fuse_mod (by omega) (by omega)]
  have hmq := Nat.mod_lt m (show 0 < 4 by omega)
  generalize m % 4 = k at hmq
  refine (c21 (set_fuse (m := k)) W7 (by omega) H7).mono ?_
  rintro v h8 ⟨rfl, W8, H8⟩
  rw [DI_int]
  obtain ⟨A7, A8, e7, e8, e9, x7, x8, x9, s7, s8⟩ := AF.toQ (sb e) (sb n) (by omega) k hmq
  refine cText H8 (by omega) fun na nc h9 H9 => ?_
  rw [DSl_slice]
  refine (c18 x7 W8 (Nat.le_of_ble_eq_true rfl) (by decide) (by decide) (fun h' hh => ownS_read hh) (sb_B8 _) (by omega) (by omega) (H9.mv 1)).mono ?_
  rintro v h10 ⟨rfl, W10, H10⟩
  rw [DI_int]
  refine (c22 x8 W10 (by omega) (by decide) (by decide) (by decide) ((H10.mv 1).drop)).mono ?_
  rintro v h11 ⟨rfl, W11, H11⟩
  rw [DI_int]
  refine (c17 x9 W11 (by omega) (by decide) (by decide) H11).mono ?_
  rintro v h12 ⟨rfl, W12, H12⟩
  rw [DI_int]
  obtain ⟨ks, kn, bs, hli, hk1, hk2, hkn, hrd, hb1, hb2, hb3, hst⟩ := AF.safes hmq W12 ps
  refine (F24_spec W12 (pks_old hr hl hc) (by omega) H12).mono ?_
  rintro v h13 ⟨rfl, H13⟩
  rw [DI_int, show ((0 : Int) != 0) = false from rfl, cond_false]
  have W13 := W12.crash ps
  refine (F30_spec W13 (dir := dN) (by decide) H13).mono ?_
  rintro v h14 (⟨ks', a, c, hl', hright, _, rfl, H14⟩ | ⟨e', hl', _⟩)
  · rw [hli] at hl'
    cases hl'
    refine ⟨a, ks.length, c, 0, rfl, ?_⟩
    rw [show ((0 : Int) != 0) = false from rfl, cond_false, decide_eq_false (by omega), cond_false, decide_eq_false (by omega), cond_false]
    have w1 : IntKind.wrap .i64 ((ks.length : Int) - 1) = ((ks.length - 1 : Nat) : Int) := by
      rw [IntWalk.i64_in _ (by omega)]
      omega
    rw [w1]
    refine IdxA_nat (v := .string kn) (ownS_read H14) (by rw [List.length_map]) (by rw [List.getElem?_map, hkn]; rfl) fun ba hba hc2 => ⟨_, hc2, ?_⟩
    show DS (.string kn) _
    rw [DS_string]
    have hkr := right_size (hright kn (List.mem_of_getElem? hkn))
    refine (F25_spec W13 (dir := dN) (name := kn) (by decide) (by omega) (H14.mv 1)).mono ?_
    rintro v h15 (⟨bs', a2, c2, hr', hb8, _, rfl, H15⟩ | ⟨e', hr', _⟩)
    · rw [hrd] at hr'
      cases hr'
      refine ⟨a2, bs.length, c2, 0, rfl, by omega, ?_⟩
      have lab : (e ++ n).size = (sb e ++ sb n).length := by rw [← sb_append, sb_length]
      rw [show ((0 : Int) == 0) = true from rfl, cond_true, decide_eq_true (by omega), cond_true, decide_eq_true (by omega), cond_true]
      refine ⟨ofN bs, bytesIn_of (ownS_read H15) rfl hb8, by omega, by omega, by omega, ?_⟩
      have hse : strEq (ofN bs) ((e ++ n).extract (0 : Int).toNat ((bs.length : Int)).toNat) = true := by
        rw [strEq_of hb8, sb_extract, sb_append]
        simp only [Int.toNat_zero, Int.toNat_natCast, List.drop_zero, Nat.sub_zero]
        exact decide_eq_true hb3
      show bif strEq (ofN bs) ((e ++ n).extract (0 : Int).toNat ((bs.length : Int)).toNat) then _ else _
      rw [hse, cond_true]
      refine ⟨.bool true, (F32_spec (H15.mv 1)).mono ?_, ?_⟩
      · rintro v h16 ⟨rfl, rfl⟩
        exact ⟨rfl, rfl⟩
      · rw [DB_bool]
        exact good_of (H15.ord [3])
    · rw [hrd] at hr'
      cases hr'
  · rw [hli] at hl'
    cases hl'

end Go.Proofs.Yticjjdhaikbdaaa

namespace Go.Proofs.Yticjjdhaikbdaaa
open Go Go.RowKit
set_option linter.unusedVariables false

theorem row_readI {w : World} {a : Option Addr} {len cap : Nat} {zs : List Int}
    (H : (a = none ∧ len = 0 ∧ cap = 0 ∧ zs = []) ∨ ∃ x, a = some x ∧ len ≤ cap ∧ cap ≤ maxLen ∧ zs.length = cap ∧ (∀ i, i < zs.length → w.cell? (x.add i) = some (.int .i64 (zs.getD i 0))) ∧ ∀ n ∈ zs, (Lit.int .i64 n).wf = true) :
    ∃ cs : List Int, RdC w.heap a (cs.map iv) ∧ cs.length = len ∧ len ≤ cap := by
  rcases H with ⟨rfl, rfl, rfl, rfl⟩ | ⟨x, rfl, hl, hc, hz, hcell, hwf⟩
  · exact ⟨[], rfl, rfl, Nat.zero_le _⟩
  · refine ⟨zs.take len, ?_, by rw [List.length_take]; omega, hl⟩
    intro j v hv
    rw [List.getElem?_map, List.getElem?_take] at hv
    split at hv
    · rename_i hj
      cases hzj : zs[j]? with
      | none => rw [hzj] at hv; cases hv
      | some z =>
        rw [hzj] at hv
        simp only [Option.map_some, Option.some.injEq] at hv
        subst hv
        have hc2 := hcell j (by omega)
        rw [cell_world, List.getD_eq_getElem?_getD, hzj] at hc2
        exact hc2
    · cases hv

end Go.Proofs.Yticjjdhaikbdaaa

namespace Go.Proofs.Yticjjdhaikbdaaa
open Go Go.RowKit
set_option linter.unusedVariables false
set_option linter.unusedSimpArgs false

section
variable {h : Heap} {F : List HProp} {dir name k : ByteArray} {a : Option Addr} {l c : Nat} {n t : Int}
abbrev Nil1 (F : List HProp) : Value → Heap → Prop := fun v h' => v = .int .i64 1 ∧ sat F h'
theorem n16 (H : sat F h) : CallsH Try.prog 16 [.pointer none, .string dir] h (Nil1 F) := by
  apply F16_ok
  unfold F16
  refine F56_nil.mono ?_
  rintro v h1 ⟨rfl, rfl⟩
  exact ⟨none, 1, rfl, rfl, H⟩
theorem n17 (H : sat F h) : CallsH Try.prog 17 [.pointer none, .string dir, .string name] h (Nil1 F) := by
  apply F17_ok
  unfold F17
  refine Al_sat H fun b0 h1 H1 => ?_
  refine LdV (v := .string name) H1.get rfl ?_
  rw [DS_string]
  refine Al_sat H1 fun b1 h2 H2 => ?_
  refine F56_nil.mono ?_
  rintro v h3 ⟨rfl, rfl⟩
  exact ⟨none, 1, rfl, rfl, H2.drop.drop⟩
theorem n18 (H : sat F h) : CallsH Try.prog 18 [.pointer none, .string dir, .string name, .slice a l c] h (Nil1 F) := by
  apply F18_ok
  unfold F18
  refine (F60_nil H).mono ?_
  rintro v h1 ⟨rfl, H1⟩
  exact ⟨none, none, 1, rfl, rfl, H1⟩
theorem n19 (H : sat F h) : CallsH Try.prog 19 [.pointer none, .string dir, .string name] h (Nil1 F) := by
  apply F19_ok
  unfold F19
  refine (F60_nil H).mono ?_
  rintro v h1 ⟨rfl, H1⟩
  exact ⟨none, none, 1, rfl, rfl, H1⟩
theorem n20 (H : sat F h) : CallsH Try.prog 20 [.pointer none, .string dir] h (Nil1 F) := by
  apply F20_ok
  unfold F20
  refine F56_nil.mono ?_
  rintro v h1 ⟨rfl, rfl⟩
  exact ⟨none, 1, rfl, rfl, H⟩
theorem n22 (H : sat F h) : CallsH Try.prog 22 [.pointer none, .string dir, .string name, .string k] h (Nil1 F) := by
  apply F22_ok
  unfold F22
  refine Al_sat H fun b0 h1 H1 => Al_sat H1 fun b1 h2 H2 => ?_
  refine LdV (v := .string name) (H2.mv 1).get rfl ?_
  rw [DS_string]
  refine LdV (v := .string k) H2.get rfl ?_
  rw [DS_string]
  refine Al_sat H2 fun b2 h3 H3 => ?_
  refine F56_nil.mono ?_
  rintro v h4 ⟨rfl, rfl⟩
  exact ⟨none, 1, rfl, rfl, H3.drop.drop.drop⟩
theorem n29 (H : sat F h) : CallsH Try.prog 29 [.pointer none, .string dir, .string name] h (Nil1 F) := by
  apply F29_ok
  unfold F29
  refine Al_sat H fun b0 h1 H1 => ?_
  refine LdV (v := .string name) H1.get rfl ?_
  rw [DS_string]
  refine (F60_nil H1).mono ?_
  rintro v h2 ⟨rfl, H2⟩
  exact ⟨none, none, 1, rfl, rfl, H2.drop⟩
theorem n69 (H : sat F h) : CallsH Try.prog 69 [.pointer none, .int .i64 n] h (Nil1 F) := by
  apply F69_ok
  exact ⟨rfl, H⟩
theorem n21 (H : sat F h) : CallsH Try.prog 21 [.pointer none, .int .i64 n] h (Nil1 F) := by
  apply F21_ok
  exact ⟨rfl, H⟩
theorem n24 (H : sat F h) : CallsH Try.prog 24 [.pointer none, .slice a l c] h (Nil1 F) := by
  apply F24_ok
  unfold F24
  refine Al_sat H fun b0 h1 H1 => ?_
  exact ⟨rfl, H1.drop⟩
theorem n70 (H : sat F h) : CallsH Try.prog 70 [.pointer none, .string dir, .string name, .int .i64 n, .int .u8 t] h (Nil1 F) := by
  apply F70_ok
  exact ⟨rfl, H⟩
theorem n71 (H : sat F h) : CallsH Try.prog 71 [.pointer none, .string dir, .string name, .slice a l c] h (Nil1 F) := by
  apply F71_ok
  exact ⟨rfl, H⟩
theorem n25 (H : sat F h) : CallsH Try.prog 25 [.pointer none, .string dir, .string name] h fun v h' => v = .tuple #[.slice none 0 0, .int .i64 1] ∧ sat F h' := by
  apply F25_ok
  unfold F25
  refine (F60_nil H).mono ?_
  rintro v h1 ⟨rfl, H1⟩
  exact ⟨none, none, 1, rfl, rfl, H1⟩
theorem n30 (H : sat F h) : CallsH Try.prog 30 [.pointer none, .string dir] h fun v h' => v = .tuple #[.slice none 0 0, .int .i64 1] ∧ sat F h' := by
  apply F30_ok
  unfold F30
  refine F56_nil.mono ?_
  rintro v h1 ⟨rfl, rfl⟩
  exact ⟨none, 1, rfl, rfl, H⟩
theorem n37 (H : sat F h) : CallsH Try.prog 37 [.pointer none] h fun v h' => v = .slice none 0 0 ∧ sat F h' := by
  apply F37_ok
  exact ⟨rfl, H⟩
theorem n31 (H : sat F h) : CallsH Try.prog 31 [.pointer none] h fun v h' => v = .int .i64 0 ∧ sat F h' := by
  apply F31_ok
  exact ⟨rfl, H⟩
theorem n23 (H : sat F h) : CallsH Try.prog 23 [.pointer none] h fun v h' => v = .int .i64 0 ∧ sat F h' := by
  apply F23_ok
  exact ⟨rfl, H⟩
theorem n32 (H : sat F h) : CallsH Try.prog 32 [.pointer none] h fun v h' => v = .bool false ∧ sat F h' := by
  apply F32_ok
  exact ⟨rfl, H⟩
end
/-- The cells of an act. -/
abbrev actC (a0 : Int) (a1 a2 a3 : ByteArray) (a4 a5 : Int) (a : Option Addr) (l c : Nat) : Array Value := #[.int .i64 a0, .string a1, .string a2, .string a3, .int .i64 a4, .int .u8 a5, .slice a l c]
theorem Do_nil {h : Heap} {F : List HProp} {a0 : Int} {a1 a2 a3 : ByteArray} {a4 a5 : Int} {a : Option Addr} {l c : Nat} (hk : 0 ≤ a0 ∧ a0 ≤ 11) (hz : a3.size ≤ maxLen) (H : sat F h) :
    CallsH Try.prog 34 [.pointer none, .agg (actC a0 a1 a2 a3 a4 a5 a l c)] h (Nil1 F) := by
  apply F34_ok
  unfold F34
  refine Al_sat H fun b0 h1 H1 => ?_
  have go : ∀ {k : FuncId} {args : List Value} {F' : List HProp} {h' : Heap}, CallsH Try.prog k args h' (Nil1 F') → (∀ h'', sat F' h'' → sat F h'') → CallsH Try.prog k args h' fun r h'' => DI .i64 r fun x => Nil1 F (Value.int .i64 x) h'' := by
    intro k args F' h' hc hd
    refine hc.mono ?_
    rintro v h'' ⟨rfl, H2⟩
    rw [DI_int]
    exact ⟨rfl, hd _ H2⟩
  have d1 : ∀ h'', sat (pt b0 (.cells (actC a0 a1 a2 a3 a4 a5 a l c) 45 (0, 0)) :: F) h'' → sat F h'' := fun h'' hh => hh.drop
  refine LdC (i := 0) (v := .int .i64 a0) H1 rfl ?_
  rw [DI_int]
  by_cases h0 : a0 = 0
  · subst h0
    rw [show ((0 : Int) == 0) = true from rfl, cond_true]
    refine LdC (i := 1) (v := .string a1) H1 rfl ?_
    rw [DS_string]
    exact go (n16 H1) d1
  rw [show (a0 == 0) = false by rw [beq_eq_false_iff_ne]; exact h0, cond_false]
  by_cases h0 : a0 = 1
  · subst h0
    rw [show ((1 : Int) == 1) = true from rfl, cond_true]
    refine LdC (i := 1) (v := .string a1) H1 rfl ?_
    rw [DS_string]
    refine LdC (i := 2) (v := .string a2) H1 rfl ?_
    rw [DS_string]
    exact go (n17 H1) d1
  rw [show (a0 == 1) = false by rw [beq_eq_false_iff_ne]; exact h0, cond_false]
  by_cases h0 : a0 = 2
  · subst h0
    rw [show ((2 : Int) == 2) = true from rfl, cond_true]
    refine LdC (i := 3) (v := .string a3) H1 rfl ?_
    rw [DS_string]
    refine cText H1 hz fun xa xc h2 H2 => ?_
    rw [DSl_slice]
    refine LdC (i := 1) (v := .string a1) (H2.mv 1) rfl ?_
    rw [DS_string]
    refine LdC (i := 2) (v := .string a2) (H2.mv 1) rfl ?_
    rw [DS_string]
    refine (n18 H2).mono ?_
    rintro v h3 ⟨rfl, H3⟩
    rw [DI_int]
    have hlen := ownS_len H3
    refine ⟨fun st hh => ∃ i : Nat, st = (i : Int) ∧ i ≤ a3.size ∧ ∃ xs : List Nat, sat (ownS 5 1 xa a3.size xc (xs.map nv) :: pt b0 (.cells (actC 2 a1 a2 a3 a4 a5 a l c) 45 (0, 0)) :: F) hh, fun st _ => ((a3.size : Int) - st).toNat, ⟨0, rfl, Nat.zero_le _, _, H3⟩, ?_⟩
    rintro st h4 ⟨i, rfl, hi, xs, H4⟩
    have hxl : xs.length = a3.size := by have := (ownS_len H4).1; simpa using this
    by_cases hlt : i < a3.size
    · rw [decide_eq_true (show ((i : Int) < (a3.size : Int)) by omega), cond_true]
      obtain ⟨x, hx⟩ : ∃ x, xs[i]? = some x := ⟨_, List.getElem?_eq_getElem (by omega)⟩
      have hrd := ownS_read H4
      have hxv : (xs.map nv)[i]? = some (nv x) := by rw [List.getElem?_map, hx]; rfl
      refine IdxA_nat hrd (by rw [List.length_map]; exact hxl) hxv fun ba hba hc => ⟨_, hc, ?_⟩
      show DI .u8 (.int .u8 (x : Int)) _
      rw [DI_int]
      refine IdxA_nat hrd (by rw [List.length_map]; exact hxl) hxv fun ba2 hba2 hc2 => ?_
      obtain ⟨y, hy⟩ : ∃ y : Nat, bitsI .xor .u8 (x : Int) 255 = (y : Int) := by
        refine ⟨(bitsI .xor .u8 (x : Int) 255).toNat, ?_⟩
        have : (0 : Int) ≤ bitsI .xor .u8 (x : Int) 255 := by
          show (0 : Int) ≤ IntKind.u8.wrap _
          rw [IntKind.wrap_u8]
          omega
        omega
      rw [hy, addr_add0]
      subst hba2
      refine ownS_set (j := i) (v := nv y) H4 (by rw [List.length_map]; omega) fun h5 H5 => ?_
      rw [wrap64_succ (by have : maxLen = 9223372036854775807 := by decide
                          omega)]
      rw [← List.map_set] at H5
      refine ⟨⟨i + 1, rfl, by omega, _, H5⟩, ?_⟩
      show ((a3.size : Int) - ((i + 1 : Nat) : Int)).toNat < ((a3.size : Int) - (i : Int)).toNat
      omega
    · rw [decide_eq_false (by omega), cond_false]
      exact ⟨rfl, H4.drop.drop⟩
  rw [show (a0 == 2) = false by rw [beq_eq_false_iff_ne]; exact h0, cond_false]
  by_cases h0 : a0 = 3
  · subst h0
    rw [show ((3 : Int) == 3) = true from rfl, cond_true]
    refine LdC (i := 1) (v := .string a1) H1 rfl ?_
    rw [DS_string]
    refine LdC (i := 2) (v := .string a2) H1 rfl ?_
    rw [DS_string]
    exact go (n19 H1) d1
  rw [show (a0 == 3) = false by rw [beq_eq_false_iff_ne]; exact h0, cond_false]
  by_cases h0 : a0 = 4
  · subst h0
    rw [show ((4 : Int) == 4) = true from rfl, cond_true]
    refine LdC (i := 1) (v := .string a1) H1 rfl ?_
    rw [DS_string]
    exact go (n20 H1) d1
  rw [show (a0 == 4) = false by rw [beq_eq_false_iff_ne]; exact h0, cond_false]
  by_cases h0 : a0 = 5
  · subst h0
    rw [show ((5 : Int) == 5) = true from rfl, cond_true]
    refine LdC (i := 1) (v := .string a1) H1 rfl ?_
    rw [DS_string]
    refine LdC (i := 2) (v := .string a2) H1 rfl ?_
    rw [DS_string]
    refine LdC (i := 3) (v := .string a3) H1 rfl ?_
    rw [DS_string]
    exact go (n22 H1) d1
  rw [show (a0 == 5) = false by rw [beq_eq_false_iff_ne]; exact h0, cond_false]
  by_cases h0 : a0 = 6
  · subst h0
    rw [show ((6 : Int) == 6) = true from rfl, cond_true]
    refine LdC (i := 1) (v := .string a1) H1 rfl ?_
    rw [DS_string]
    refine LdC (i := 2) (v := .string a2) H1 rfl ?_
    rw [DS_string]
    exact go (n29 H1) d1
  rw [show (a0 == 6) = false by rw [beq_eq_false_iff_ne]; exact h0, cond_false]
  by_cases h0 : a0 = 7
  · subst h0
    rw [show ((7 : Int) == 7) = true from rfl, cond_true]
    refine LdC (i := 4) (v := .int .i64 a4) H1 rfl ?_
    rw [DI_int]
    exact go (n69 H1) d1
  rw [show (a0 == 7) = false by rw [beq_eq_false_iff_ne]; exact h0, cond_false]
  by_cases h0 : a0 = 8
  · subst h0
    rw [show ((8 : Int) == 8) = true from rfl, cond_true]
    refine LdC (i := 4) (v := .int .i64 a4) H1 rfl ?_
    rw [DI_int]
    exact go (n21 H1) d1
  rw [show (a0 == 8) = false by rw [beq_eq_false_iff_ne]; exact h0, cond_false]
  by_cases h0 : a0 = 9
  · subst h0
    rw [show ((9 : Int) == 9) = true from rfl, cond_true]
    refine LdC (i := 6) (v := .slice a l c) H1 rfl ?_
    rw [DSl_slice]
    exact go (n24 H1) d1
  rw [show (a0 == 9) = false by rw [beq_eq_false_iff_ne]; exact h0, cond_false]
  by_cases h0 : a0 = 10
  · subst h0
    rw [show ((10 : Int) == 10) = true from rfl, cond_true]
    refine LdC (i := 1) (v := .string a1) H1 rfl ?_
    rw [DS_string]
    refine LdC (i := 2) (v := .string a2) H1 rfl ?_
    rw [DS_string]
    refine LdC (i := 4) (v := .int .i64 a4) H1 rfl ?_
    rw [DI_int]
    refine LdC (i := 5) (v := .int .u8 a5) H1 rfl ?_
    rw [DI_int]
    exact go (n70 H1) d1
  rw [show (a0 == 10) = false by rw [beq_eq_false_iff_ne]; exact h0, cond_false]
  have h11 : a0 = 11 := by omega
  subst h11
  rw [show ((11 : Int) == 11) = true from rfl, cond_true]
  refine LdC (i := 1) (v := .string a1) H1 rfl ?_
  rw [DS_string]
  refine LdC (i := 2) (v := .string a2) H1 rfl ?_
  rw [DS_string]
  refine LdC (i := 3) (v := .string a3) H1 rfl ?_
  rw [DS_string]
  refine cText H1 hz fun xa xc h2 H2 => ?_
  rw [DSl_slice]
  exact go (n71 H2) fun h'' hh => hh.drop.drop
theorem FsNil_law {a0 : Int} {a1 a2 a3 : ByteArray} {a4 a5 : Int} {a : Option Addr} {l c : Nat} (h : Heap) (hz : a3.size ≤ maxLen) : CallsH Try.prog 7 [.agg (actC a0 a1 a2 a3 a4 a5 a l c)] h (Good h) := by
  apply F7_ok
  unfold F7
  refine Al_sat (sat_old h) fun b0 h1 H1 => ?_
  refine (F14_spec H1).mono ?_
  rintro v h2 ⟨rfl, H2⟩
  rw [DB_bool, Bool.not_true, cond_false]
  refine LdC (i := 6) (v := .slice a l c) H2 rfl ?_
  rw [DSl_slice]
  by_cases hp : l > 1000
  · rw [decide_eq_true (show ((l : Int) > 1000) by omega), cond_true]
    exact good_of H2.drop
  rw [decide_eq_false (show ¬ ((l : Int) > 1000) by omega), cond_false]
  refine LdC (i := 1) (v := .string a1) H2 rfl ?_
  rw [DS_string]
  refine LdC (i := 2) (v := .string a2) H2 rfl ?_
  rw [DS_string]
  refine (n25 H2).mono ?_
  rintro v h3 ⟨rfl, H3⟩
  refine ⟨none, 0, 0, 1, rfl, ?_⟩
  refine LdC (i := 1) (v := .string a1) H3 rfl ?_
  rw [DS_string]
  refine (n30 H3).mono ?_
  rintro v h4 ⟨rfl, H4⟩
  refine ⟨none, 0, 0, 1, rfl, ?_⟩
  refine LdC (i := 0) (v := .int .i64 a0) H4 rfl ?_
  rw [DI_int]
  have tail : ∀ h4, sat (pt b0 (.cells (actC a0 a1 a2 a3 a4 a5 a l c) 45 (0, 0)) :: [old h]) h4 →
      (bif ((1 : Int) : Int) == 1 then
          (bif ((1 : Int) : Int) == 1 then
            CallsH Try.prog 37 [.pointer none] h4 fun r13 h_13 =>
            DSl r13 fun x27a x27l x27c =>
            (bif ((x27l : Int) : Int) == 0 then
              CallsH Try.prog 31 [.pointer none] h_13 fun r14 h_14 =>
              DI .i64 r14 fun x28 =>
              (bif (x28 : Int) == 0 then
                CallsH Try.prog 23 [.pointer none] h_14 fun r15 h_15 =>
                DI .i64 r15 fun x29 =>
                (bif (x29 : Int) == 0 then
                  CallsH Try.prog 32 [.pointer none] h_15 fun r16 h_16 =>
                  DB r16 fun x30 =>
                  Good h (.bool (!x30)) h_16
                else
                  Good h (.bool false) h_15)
              else
                Good h (.bool false) h_14)
            else
              Good h (.bool false) h_13)
          else
            Good h (.bool false) h4)
        else
          Good h (.bool false) h4) := by
    intro h4 H4
    rw [show ((1 : Int) == 1) = true from rfl, cond_true, cond_true]
    refine (n37 H4).mono ?_
    rintro v h5 ⟨rfl, H5⟩
    rw [DSl_slice, show ((((0 : Nat) : Int)) == 0) = true from rfl, cond_true]
    refine (n31 H5).mono ?_
    rintro v h6 ⟨rfl, H6⟩
    rw [DI_int, show ((0 : Int) == 0) = true from rfl, cond_true]
    refine (n23 H6).mono ?_
    rintro v h7 ⟨rfl, H7⟩
    rw [DI_int, show ((0 : Int) == 0) = true from rfl, cond_true]
    refine (n32 H7).mono ?_
    rintro v h8 ⟨rfl, H8⟩
    rw [DB_bool]
    exact good_of H8.drop
  by_cases hlo : 0 ≤ a0
  · rw [decide_eq_true (show a0 ≥ 0 from hlo), cond_true]
    refine LdC (i := 0) (v := .int .i64 a0) H4 rfl ?_
    rw [DI_int]
    by_cases hhi : a0 ≤ 11
    · rw [decide_eq_true hhi, Bool.not_true, cond_false]
      refine LdC (i := 0) H4 rfl (LdC (i := 1) H4 rfl (LdC (i := 2) H4 rfl (LdC (i := 3) H4 rfl (LdC (i := 4) H4 rfl (LdC (i := 5) H4 rfl (LdC (i := 6) H4 rfl ?_))))))
      refine ⟨a0, a1, a2, a3, a4, a5, a, l, c, rfl, ?_⟩
      refine (Do_nil ⟨hlo, hhi⟩ hz H4).mono ?_
      rintro v h5 ⟨rfl, H5⟩
      rw [DI_int, show ((1 : Int) == 1) = true from rfl, cond_true]
      exact tail h5 H5
    · rw [decide_eq_false hhi, Bool.not_false, cond_true]
      exact tail h4 H4
  · rw [decide_eq_false (show ¬ (a0 ≥ 0) from hlo), cond_false]
    exact tail h4 H4

end Go.Proofs.Yticjjdhaikbdaaa

namespace Go.Proofs.Yticjjdhaikbdaaa
open Go Go.RowKit Go.ChangeShapes Go.WideShapes Go.ChangeAt
set_option linter.unusedVariables false
set_option linter.unusedSimpArgs false

def fldIs (P : Program) (fs : Array Field) (i : Nat) (d : TypeDesc → Bool) : Bool :=
  match fs[i]? with
  | some f => (f.offset == i && P.cellsOf f.type == 1) && match P.underlying f.type with
    | some u => d u
    | none => false
  | none => false
def isI64 : TypeDesc → Bool
  | .int .i64 => true
  | _ => false
def isU8 : TypeDesc → Bool
  | .int .u8 => true
  | _ => false
def isStr : TypeDesc → Bool
  | .string => true
  | _ => false
def isInts (P : Program) : TypeDesc → Bool
  | .slice e => (match P.underlying e with
    | some u => isI64 u
    | none => false) && P.cellsOf e == 1
  | _ => false
def actTy (P : Program) (t : TypeId) : Bool :=
  match P.underlying t with
  | some (.struct fs) => (fs.size == 7 && P.cellsOf t == 7) && (fldIs P fs 0 isI64 && (fldIs P fs 1 isStr && (fldIs P fs 2 isStr && (fldIs P fs 3 isStr && (fldIs P fs 4 isI64 && (fldIs P fs 5 isU8 && fldIs P fs 6 (isInts P)))))))
  | _ => false
section
variable {H : Type} {enc : TypeId × Value → H} {P : Program} {w : World} {base : Nat} {spare : Nat → Bool} {held : Bool}
theorem isI64_eq {u : TypeDesc} (h : isI64 u = true) : u = .int .i64 := by
  unfold isI64 at h
  split at h
  · rfl
  · cases h
theorem isU8_eq {u : TypeDesc} (h : isU8 u = true) : u = .int .u8 := by
  unfold isU8 at h
  split at h
  · rfl
  · cases h
theorem isStr_eq {u : TypeDesc} (h : isStr u = true) : u = .string := by
  unfold isStr at h
  split at h
  · rfl
  · cases h
theorem fld_read {fs : Array Field} {i n : Nat} {d : TypeDesc → Bool} {cs : List Value} {xs : List (DataW H × List MemPlace)} (hf : fldIs P fs i d = true) (hl : i < cs.length) (hx : i < xs.length)
    (hr : ∀ (i : Nat) (f : Field), fs[i]? = some f → DataW.trod enc P w base spare held n f.type ((cs.drop f.offset).take (P.cellsOf f.type)) = xs[i]?) :
    ∃ (t : TypeId) (u : TypeDesc) (y : DataW H × List MemPlace), P.underlying t = some u ∧ d u = true ∧ DataW.trod enc P w base spare held n t [cs[i]] = some y := by
  unfold fldIs at hf
  cases hi : fs[i]? with
  | none => rw [hi] at hf; cases hf
  | some f =>
    rw [hi] at hf
    simp only [Bool.and_eq_true, beq_iff_eq] at hf
    obtain ⟨⟨ho, hc⟩, hu⟩ := hf
    cases hu2 : P.underlying f.type with
    | none => rw [hu2] at hu; cases hu
    | some u =>
      rw [hu2] at hu
      have := hr i f hi
      rw [ho, hc, List.drop_eq_getElem_cons hl, List.getElem?_eq_getElem hx, List.take_succ_cons, List.take_zero] at this
      exact ⟨f.type, u, xs[i], hu2, hu, this⟩
/-- Whole numbers in a slice, read. -/
theorem ints_read {t e : TypeId} {n : Nat} {v : Value} {y : DataW H × List MemPlace} (ht : P.underlying t = some (.slice e)) (he : P.underlying e = some (.int .i64)) (hc : P.cellsOf e = 1) (h : DataW.trod enc P w base spare held n t [v] = some y) :
    ∃ (a : Option Addr) (l c : Nat) (ps : List Int), v = .slice a l c ∧ RdC w.heap a (ps.map iv) ∧ ps.length = l ∧ l ≤ c ∧ c ≤ maxLen := by
  rcases open_ints ht he hc h with ⟨hcs, _⟩ | ⟨a, len, cap, zs, hcs, _, hl, hm, hz, _, hcell, _⟩
  · simp only [List.cons.injEq, and_true] at hcs
    exact ⟨none, 0, 0, [], hcs, rfl, rfl, Nat.le_refl _, Nat.zero_le _⟩
  · simp only [List.cons.injEq, and_true] at hcs
    have hzl : len ≤ zs.length := by
      rw [hz]
      split <;> omega
    refine ⟨some a, len, cap, zs.take len, hcs, ?_, by rw [List.length_take]; omega, hl, hm⟩
    intro j v hv
    rw [List.getElem?_map, List.getElem?_take] at hv
    split at hv
    · rename_i hj
      have h2 := hcell j (by omega)
      rw [List.getElem?_eq_getElem (by omega)] at hv
      simp only [Option.map_some, Option.some.injEq] at hv
      rw [cell_world, List.getD_eq_getElem?_getD, List.getElem?_eq_getElem (by omega)] at h2
      rw [h2, ← hv]
      rfl
    · cases hv
/-- An act, as the cells have it. -/
structure ActV where
  k : Int
  dir : ByteArray
  name : ByteArray
  b : ByteArray
  n : Int
  turn : Int
  pa : Option Addr
  pl : Nat
  pc : Nat
def ActV.cells (x : ActV) : List Value := [.int .i64 x.k, .string x.dir, .string x.name, .string x.b, .int .i64 x.n, .int .u8 x.turn, .slice x.pa x.pl x.pc]
/-- What is known of one that came in. -/
structure ActOk (h : Heap) (x : ActV) : Prop where
  k : -9223372036854775808 ≤ x.k ∧ x.k ≤ 9223372036854775807
  n : -9223372036854775808 ≤ x.n ∧ x.n ≤ 9223372036854775807
  turn : 0 ≤ x.turn ∧ x.turn < 256
  dir : x.dir.size ≤ maxLen
  name : x.name.size ≤ maxLen
  b : x.b.size ≤ maxLen
  picks : ∃ ps : List Int, RdC h x.pa (ps.map iv) ∧ ps.length = x.pl ∧ x.pl ≤ x.pc ∧ x.pc ≤ maxLen
theorem act_read {t : TypeId} {fuel : Nat} {cs : List Value} {x : DataW H × List MemPlace} (hA : actTy P t = true) (h : DataW.trod enc P w base spare held fuel t cs = some x) : ∃ v : ActV, cs = v.cells ∧ ActOk w.heap v := by
  unfold actTy at hA
  cases hu : P.underlying t with
  | none => rw [hu] at hA; cases hA
  | some u =>
    rw [hu] at hA
    cases u with
    | struct fs =>
      simp only [Bool.and_eq_true, beq_iff_eq] at hA
      obtain ⟨⟨hsz, hC⟩, f0, f1, f2, f3, f4, f5, f6⟩ := hA
      obtain ⟨xs, n, _, _, hlen, hxl, hr⟩ := DataW.trod_struct hu h
      rw [hC] at hlen
      rw [hsz] at hxl
      obtain ⟨t0, u0, y0, e0, d0, r0⟩ := fld_read f0 (by omega) (by omega) hr
      obtain ⟨t1, u1, y1, e1, d1, r1⟩ := fld_read f1 (by omega) (by omega) hr
      obtain ⟨t2, u2, y2, e2, d2, r2⟩ := fld_read f2 (by omega) (by omega) hr
      obtain ⟨t3, u3, y3, e3, d3, r3⟩ := fld_read f3 (by omega) (by omega) hr
      obtain ⟨t4, u4, y4, e4, d4, r4⟩ := fld_read f4 (by omega) (by omega) hr
      obtain ⟨t5, u5, y5, e5, d5, r5⟩ := fld_read f5 (by omega) (by omega) hr
      obtain ⟨t6, u6, y6, e6, d6, r6⟩ := fld_read f6 (by omega) (by omega) hr
      rw [isI64_eq d0] at e0
      rw [isStr_eq d1] at e1
      rw [isStr_eq d2] at e2
      rw [isStr_eq d3] at e3
      rw [isI64_eq d4] at e4
      rw [isU8_eq d5] at e5
      obtain ⟨z0, c0, _, w0⟩ := DataW.trod_int e0 r0
      obtain ⟨s1, c1, _, w1⟩ := DataW.trod_string e1 r1
      obtain ⟨s2, c2, _, w2⟩ := DataW.trod_string e2 r2
      obtain ⟨s3, c3, _, w3⟩ := DataW.trod_string e3 r3
      obtain ⟨z4, c4, _, w4⟩ := DataW.trod_int e4 r4
      obtain ⟨z5, c5, _, w5⟩ := DataW.trod_int e5 r5
      have c6 : ∃ (a : Option Addr) (l c : Nat) (ps : List Int), cs[6] = .slice a l c ∧ RdC w.heap a (ps.map iv) ∧ ps.length = l ∧ l ≤ c ∧ c ≤ maxLen := by
        unfold isInts at d6
        split at d6
        · rename_i e
          simp only [Bool.and_eq_true, beq_iff_eq] at d6
          obtain ⟨d7, hc7⟩ := d6
          cases he : P.underlying e with
          | none => rw [he] at d7; cases d7
          | some u7 =>
            rw [he] at d7
            rw [isI64_eq d7] at he
            exact ints_read e6 he hc7 r6
        · cases d6
      obtain ⟨a, l, c, ps, c6, hrd, hpl, hlc, hcm⟩ := c6
      simp only [List.cons.injEq, and_true] at c0 c1 c2 c3 c4 c5
      refine ⟨⟨z0, s1, s2, s3, z4, z5, a, l, c⟩, ?_, ?_⟩
      · apply List.ext_getElem
        · exact hlen
        · intro i h1 h2
          have : i = 0 ∨ i = 1 ∨ i = 2 ∨ i = 3 ∨ i = 4 ∨ i = 5 ∨ i = 6 := by omega
          rcases this with rfl | rfl | rfl | rfl | rfl | rfl | rfl
          · exact c0
          · exact c1
          · exact c2
          · exact c3
          · exact c4
          · exact c5
          · exact c6
      · simp only [Lit.wf, Bool.and_eq_true, decide_eq_true_eq] at w0 w4 w5
        exact ⟨⟨w0.1, w0.2⟩, ⟨w4.1, w4.2⟩, ⟨w5.1, by have := w5.2; exact Int.lt_of_le_of_lt this (by decide)⟩, w1, w2, w3, ps, hrd, hpl, hlc, hcm⟩
    | _ => cases hA
/-- An act by value. -/
theorem act_open {r : Reach} {b0 : Nat} {t : TypeId} {v : Value} {d : DataW H} {p : List MemPlace} (hA : actTy P t = true) (hv : Value.okWide P w r b0 t v) (h : DataW.Trod enc P w base spare held t v d p) :
    ∃ x : ActV, v = .agg x.cells.toArray ∧ ActOk w.heap x := by
  obtain ⟨fuel, hf⟩ := h
  have hs : ∃ fs, P.underlying t = some (.struct fs) := by
    unfold actTy at hA
    split at hA
    · exact ⟨_, by assumption⟩
    · cases hA
  obtain ⟨fs, hs⟩ := hs
  obtain ⟨cs, rfl, hsz⟩ := okWide_struct hs hv
  obtain ⟨x, hx, ho⟩ := act_read hA hf
  refine ⟨x, ?_, ho⟩
  have : cs.toList = x.cells := hx
  rw [← this]
end

end Go.Proofs.Yticjjdhaikbdaaa

namespace Go.Proofs.Yticjjdhaikbdaaa
open Go Go.RowKit Go.ChangeShapes Go.WideShapes Go.ChangeAt
set_option linter.unusedVariables false
set_option linter.unusedSimpArgs false

/-- Acts that can be read from address a on. -/
def ActsIn (h : Heap) (a : Option Addr) (acts : List ActV) : Prop :=
  ∀ (i : Nat) (x : ActV), acts[i]? = some x → ActOk h x ∧ ∃ b, a = some b ∧ ∀ (j : Nat) (v : Value), x.cells[j]? = some v → cellAt h (b.add (i * 7 + j)) = some v
theorem choose_list {α : Type} {P : Nat → α → Prop} : ∀ (n : Nat), (∀ i, i < n → ∃ x, P i x) → ∃ xs : List α, xs.length = n ∧ ∀ (i : Nat) (x : α), xs[i]? = some x → P i x
  | 0, _ => ⟨[], rfl, fun i x h => by simp at h⟩
  | n + 1, h => by
    obtain ⟨xs, hl, hx⟩ := choose_list n fun i hi => h i (by omega)
    obtain ⟨y, hy⟩ := h n (by omega)
    refine ⟨xs ++ [y], by simp [hl], fun i x hi => ?_⟩
    rw [List.getElem?_append] at hi
    split at hi
    · exact hx i x hi
    · rename_i hlt
      have : i = n := by
        have := (List.getElem?_eq_some_iff.1 hi).1
        simp at this
        omega
      subst this
      simp [hl] at hi
      rw [← hi]
      exact hy
theorem actTy_cells {P : Program} {t : TypeId} (h : actTy P t = true) : P.cellsOf t = 7 := by
  unfold actTy at h
  split at h
  · simp only [Bool.and_eq_true, beq_iff_eq] at h
    exact h.1.2
  · cases h
theorem acts_open {H : Type} {enc : TypeId × Value → H} {P : Program} {w : World} {base : Nat} {spare : Nat → Bool} {held : Bool} {r : Reach} {b0 : Nat} {t e : TypeId} {v : Value} {d : DataW H} {p : List MemPlace}
    (ht : P.underlying t = some (.slice e)) (hA : actTy P e = true) (hv : Value.okWide P w r b0 t v) (h : DataW.Trod enc P w base spare held t v d p) :
    ∃ (a : Option Addr) (l c : Nat) (acts : List ActV), v = .slice a l c ∧ acts.length = l ∧ l ≤ c ∧ c ≤ maxLen ∧ ActsIn w.heap a acts := by
  obtain ⟨a, l, c, rfl⟩ := okWide_slice ht hv
  obtain ⟨fuel, hf⟩ := h
  rcases Go.Deep.open_slice ht hf with ⟨hcs, _⟩ | ⟨a', len, cap, m, n, D, Pl, hcs, hb, hl, hm, hmm, _, hel⟩
  · simp [Value.cells] at hcs
    obtain ⟨rfl, rfl, rfl⟩ := hcs
    exact ⟨none, 0, 0, [], rfl, rfl, Nat.le_refl _, Nat.zero_le _, fun i x hx => by simp at hx⟩
  · simp [Value.cells] at hcs
    obtain ⟨rfl, rfl, rfl⟩ := hcs
    have hC := actTy_cells hA
    rw [hC] at hel
    have hlm : l ≤ m := by
      rw [hmm]
      split <;> omega
    obtain ⟨acts, hal, hac⟩ := choose_list (P := fun i (x : ActV) => ActOk w.heap x ∧ ∀ (j : Nat) (v : Value), x.cells[j]? = some v → cellAt w.heap (a'.add (i * 7 + j)) = some v) l fun i hi => by
      obtain ⟨cs', hc1, hc2⟩ := hel i (by omega)
      obtain ⟨x, hx, hok⟩ := act_read hA hc2
      refine ⟨x, hok, fun j v hj => ?_⟩
      obtain ⟨_, _, hcell⟩ := World.cells?_some hc1
      have hj7 : j < 7 := by
        have := (List.getElem?_eq_some_iff.1 hj).1
        simpa [ActV.cells] using this
      have := hcell j hj7
      rw [hx, hj, cell_world, addr_add_add] at this
      exact this
    refine ⟨some a', l, c, acts, rfl, hal, hl, hm, fun i x hi => ?_⟩
    obtain ⟨h1, h2⟩ := hac i x hi
    exact ⟨h1, a', rfl, h2⟩
theorem ActsIn.at {h : Heap} {a : Option Addr} {acts : List ActV} {l i : Nat} {x : ActV} {K : Addr → Prop} (H : ActsIn h a acts) (hl : acts.length = l) (hi : acts[i]? = some x)
    (hK : ∀ b, a = some b → (∀ (j : Nat) (v : Value), x.cells[j]? = some v → cellAt h ((b.add (i * 7)).add j) = some v) → K (b.add (i * 7))) : IdxA a l (i : Int) 7 K := by
  obtain ⟨_, b, hb, hc⟩ := H i x hi
  have := (List.getElem?_eq_some_iff.1 hi).1
  refine ⟨b, hb, by omega, by omega, ?_⟩
  rw [Int.toNat_natCast]
  exact hK b hb fun j v hj => by rw [addr_add_add]; exact hc j v hj
theorem ActsIn.old {h h' : Heap} {F : List HProp} {a : Option Addr} {acts : List ActV} (H : ActsIn h a acts) (hs : sat (old h :: F) h') : ActsIn h' a acts := by
  intro i x hi
  obtain ⟨h1, b, hb, hc⟩ := H i x hi
  obtain ⟨ps, hr, h2, h3⟩ := h1.picks
  exact ⟨⟨h1.k, h1.n, h1.turn, h1.dir, h1.name, h1.b, ps, hr.old hs, h2, h3⟩, b, hb, fun j v hj => hs.oldCell (hc j v hj)⟩
/-- What is not heavy. -/
structure Light (x : ActV) : Prop where
  b : x.b.size ≤ 20000
  dir : x.dir.size ≤ 100
  name : x.name.size ≤ 100
  picks : x.pl ≤ 20000
theorem F26_spec {h : Heap} {a : Option Addr} {l c : Nat} {acts : List ActV} (H : ActsIn h a acts) (hl : acts.length = l) (hm : l ≤ maxLen) :
    CallsH Try.prog 26 [.slice a l c] h fun v h' => h' = h ∧ ∃ z, v = .bool z ∧ (z = false → l ≤ 20000 ∧ ∀ x ∈ acts, Light x) := by
  apply F26_ok
  unfold F26
  refine ⟨fun st hh => hh = h ∧ ∃ (n i : Nat), st = ((n : Int), (i : Int)) ∧ i ≤ l ∧ i ≤ n ∧ n ≤ 20000 ∧ ∀ (j : Nat) (x : ActV), j < i → acts[j]? = some x → Light x, fun st _ => ((l : Int) - st.2).toNat, ⟨rfl, 0, 0, rfl, Nat.zero_le _, Nat.zero_le _, Nat.zero_le _, fun j x hj => by omega⟩, ?_⟩
  rintro st h1 ⟨rfl, n, i, rfl, hi, hin, hn, hlight⟩
  by_cases hlt : i < l
  · rw [decide_eq_true (show ((i : Int) < (l : Int)) by omega), cond_true]
    obtain ⟨x, hx⟩ : ∃ x, acts[i]? = some x := ⟨_, List.getElem?_eq_getElem (by omega)⟩
    have ok := (H i x hx).1
    obtain ⟨ps, _, _, hpl, hpm⟩ := ok.picks
    refine H.at hl hx fun b hb hc => ⟨_, hc 3 _ rfl, ?_⟩
    show DS (.string x.b) _
    rw [DS_string]
    refine H.at hl hx fun b hb hc => ⟨_, hc 6 _ rfl, ?_⟩
    show DSl (.slice x.pa x.pl x.pc) _
    rw [DSl_slice]
    have m1 : (if (20000 : Int) < (x.b.size : Int) then 20000 else (x.b.size : Int)) = ((min x.b.size 20000 : Nat) : Int) := by split <;> omega
    have m2 : (if (20000 : Int) < (x.pl : Int) then 20000 else (x.pl : Int)) = ((min x.pl 20000 : Nat) : Int) := by split <;> omega
    have m3 : IntKind.wrap .i64 (IntKind.wrap .i64 (IntKind.wrap .i64 ((n : Int) + 1) + ((min x.b.size 20000 : Nat) : Int)) + ((min x.pl 20000 : Nat) : Int)) = ((n + 1 + min x.b.size 20000 + min x.pl 20000 : Nat) : Int) := by
      rw [wrap64_succ (by omega), ← Int.natCast_add, wrap64_nat (by omega), ← Int.natCast_add, wrap64_nat (by omega)]
    simp only [m1, m2, m3]
    by_cases hbig : n + 1 + min x.b.size 20000 + min x.pl 20000 > 20000
    · rw [decide_eq_true (by omega), cond_true]
      exact ⟨by trivial, true, rfl, fun e => by cases e⟩
    rw [decide_eq_false (by omega), cond_false]
    refine H.at hl hx fun b hb hc => ⟨_, hc 1 _ rfl, ?_⟩
    show DS (.string x.dir) _
    rw [DS_string]
    by_cases hd : x.dir.size > 100
    · rw [decide_eq_true (by omega), cond_true]
      exact ⟨by trivial, true, rfl, fun e => by cases e⟩
    rw [decide_eq_false (by omega), cond_false]
    refine H.at hl hx fun b hb hc => ⟨_, hc 2 _ rfl, ?_⟩
    show DS (.string x.name) _
    rw [DS_string]
    by_cases hnm : x.name.size > 100
    · rw [decide_eq_true (by omega), cond_true]
      exact ⟨by trivial, true, rfl, fun e => by cases e⟩
    rw [decide_eq_false (by omega), cond_false]
    refine ⟨⟨by trivial, n + 1 + min x.b.size 20000 + min x.pl 20000, i + 1, ?_, by omega, by omega, by omega, fun j y hj hy => ?_⟩, ?_⟩
    · rw [wrap64_succ (by have : maxLen = 9223372036854775807 := by decide
                          omega)]
    · by_cases hji : j = i
      · subst hji
        rw [hx] at hy
        cases hy
        exact ⟨by omega, by omega, by omega, by omega⟩
      · exact hlight j y (by omega) hy
    · have hml : maxLen = 9223372036854775807 := by decide
      show ((l : Int) - IntKind.wrap .i64 ((i : Int) + 1)).toNat < ((l : Int) - (i : Int)).toNat
      rw [wrap64_succ (by omega)]
      omega
  · rw [decide_eq_false (by omega), cond_false]
    have ei : i = l := by omega
    refine ⟨by trivial, false, rfl, fun _ => ⟨by omega, fun x hx => ?_⟩⟩
    obtain ⟨j, hj⟩ := List.getElem?_of_mem hx
    exact hlight j x (by have := (List.getElem?_eq_some_iff.1 hj).1; omega) hj

end Go.Proofs.Yticjjdhaikbdaaa
