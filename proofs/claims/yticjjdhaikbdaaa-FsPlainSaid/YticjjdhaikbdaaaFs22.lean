/- Calls whose outcome is known; the chapter's example. -/
import Derived.Test.YticjjdhaikbdaaaFs20
import Derived.Test.YticjjdhaikbdaaaFs21
namespace Go.Proofs.Yticjjdhaikbdaaa
open Go Go.RowKit Go.MapKept
set_option linter.unusedVariables false
set_option linter.unusedSimpArgs false

abbrev dN : ByteArray := ⟨#[100]⟩
abbrev aN : ByteArray := ⟨#[97]⟩
abbrev tN : ByteArray := ⟨#[116]⟩
abbrev bN : ByteArray := ⟨#[98]⟩
theorem new_wf {room : Nat} (hr : room ≤ 1073741824) : AF.FS.WF ⟨room, 0, none, false, [], []⟩ :=
  ⟨hr, List.Pairwise.nil, by simp, List.Pairwise.nil, by simp, by simp, by simp⟩
theorem RdCf {F : List HProp} {h : Heap} {b0 : Nat} {e : TypeId} {fr : Nat × Nat} {cs : Array Value} {xs : List Value} (H : sat (pt b0 (.cells cs e fr) :: F) h) (hx : cs.toList = xs) : RdC h (some ⟨b0, 0, none⟩) xs := by
  intro j u hv
  rw [cell_of_pt H.get, ← hv, ← hx, Array.getElem?_toList]
section
variable {b : Nat} {A A' : AF.FS} {e : Nat} {F : List HProp} {h : Heap} {dir name : ByteArray}
abbrev Done (b : Nat) (A' : AF.FS) (e : Nat) (F : List HProp) : Value → Heap → Prop := fun v h' => v = .int .i64 (e : Int) ∧ A'.WF ∧ sat (fsP b A' :: F) h'
theorem c16 (he : A.mkdir dir = (A', e)) (W : A.WF) (hs : A.steps < 1099511627776) (hd : dir.size < 4611686018427387904) (H : sat (fsP b A :: F) h) : CallsH Try.prog 16 [ptrV b, .string dir] h (Done b A' e F) := by
  have W2 := W.mkdir dir
  refine (F16_spec W hs hd H).mono ?_
  rintro v h' ⟨rfl, H2⟩
  rw [he] at W2 H2 ⊢
  exact ⟨rfl, W2, H2⟩
theorem c17 (he : A.create dir name = (A', e)) (W : A.WF) (hs : A.steps < 1099511627776) (hd : dir.size < 4611686018427387904) (hn : name.size < 4611686018427387904) (H : sat (fsP b A :: F) h) : CallsH Try.prog 17 [ptrV b, .string dir, .string name] h (Done b A' e F) := by
  have W2 := W.create dir name
  refine (F17_spec W hs hd hn H).mono ?_
  rintro v h' ⟨rfl, H2⟩
  rw [he] at W2 H2 ⊢
  exact ⟨rfl, W2, H2⟩
theorem c18 {ba : Option Addr} {bl bc : Nat} {bs : List Nat} (he : A.append dir name bs = (A', e)) (W : A.WF) (hs : A.steps < 1099511627776) (hd : dir.size < 4611686018427387904) (hn : name.size < 4611686018427387904)
    (hr : ∀ h', sat F h' → RdC h' ba (bs.map nv)) (h8 : B8 bs) (hl : bs.length = bl) (hlb : bl < 4611686018427387904) (H : sat (fsP b A :: F) h) : CallsH Try.prog 18 [ptrV b, .string dir, .string name, .slice ba bl bc] h (Done b A' e F) := by
  have W2 := W.append dir name h8
  refine (F18_spec W hs hd hn hr hl hlb H).mono ?_
  rintro v h' ⟨rfl, H2⟩
  rw [he] at W2 H2 ⊢
  exact ⟨rfl, W2, H2⟩
theorem c19 (he : A.sync dir name = (A', e)) (W : A.WF) (hs : A.steps < 1099511627776) (hd : dir.size < 4611686018427387904) (hn : name.size < 4611686018427387904) (H : sat (fsP b A :: F) h) : CallsH Try.prog 19 [ptrV b, .string dir, .string name] h (Done b A' e F) := by
  have W2 := W.sync dir name
  refine (F19_spec W hs hd hn H).mono ?_
  rintro v h' ⟨rfl, H2⟩
  rw [he] at W2 H2 ⊢
  exact ⟨rfl, W2, H2⟩
theorem c20 (he : A.syncDir dir = (A', e)) (W : A.WF) (hs : A.steps < 1099511627776) (hd : dir.size < 4611686018427387904) (H : sat (fsP b A :: F) h) : CallsH Try.prog 20 [ptrV b, .string dir] h (Done b A' e F) := by
  have W2 := W.syncDir dir
  refine (F20_spec W hs hd H).mono ?_
  rintro v h' ⟨rfl, H2⟩
  rw [he] at W2 H2 ⊢
  exact ⟨rfl, W2, H2⟩
theorem c21 {n : Int} (he : A.setFuse n = (A', e)) (W : A.WF) (hn : n ≤ 9223372036854775807) (H : sat (fsP b A :: F) h) : CallsH Try.prog 21 [ptrV b, .int .i64 n] h (Done b A' e F) := by
  have W2 := W.setFuse hn
  refine (F21_spec H).mono ?_
  rintro v h' ⟨rfl, H2⟩
  rw [he] at W2 H2 ⊢
  exact ⟨rfl, W2, H2⟩
theorem c22 {k : ByteArray} (he : A.rename dir name k = (A', e)) (W : A.WF) (hs : A.steps < 1099511627776) (hd : dir.size < 4611686018427387904) (hn : name.size < 4611686018427387904) (hk : k.size < 4611686018427387904) (H : sat (fsP b A :: F) h) : CallsH Try.prog 22 [ptrV b, .string dir, .string name, .string k] h (Done b A' e F) := by
  have W2 := W.rename dir name k
  refine (F22_spec W hs hd hn hk H).mono ?_
  rintro v h' ⟨rfl, H2⟩
  rw [he] at W2 H2 ⊢
  exact ⟨rfl, W2, H2⟩
/-- Bytes of a text, appended. -/
theorem cText {s : ByteArray} {K : Value → Heap → Prop} (H : sat F h) (hz : s.size ≤ maxLen) (hK : ∀ a c h', sat (ownS 5 1 a s.size c ((sb s).map nv) :: F) h' → K (.slice a s.size c) h') : RunH Try.prog (Go.convert 9 31 (.string s)) h K :=
  bytesOfB (by kernel_rfl) u31 (by kernel_rfl) hz H fun b c h' H' => hK _ c h' H'
/-- The example. -/
theorem F14_spec (H : sat F h) : CallsH Try.prog 14 [] h fun v h' => v = .bool true ∧ sat F h' := by
  apply F14_ok
  unfold F14
  refine (F15_spec (room := 100) H (by omega)).mono ?_
  rintro v h1 ⟨b, rfl, H1⟩
  refine ⟨some ⟨b, 0, none⟩, 0, rfl, ?_⟩
  rw [show ((0 : Int) != 0) = false from rfl, cond_false, show (some (⟨b, 0, none⟩ : Addr)).isNone = false from rfl, cond_false]
  refine (c16 (A' := ⟨100, 1, none, false, [], [⟨dN, [], [], []⟩]⟩) (e := 0) rfl (new_wf (by omega)) (by decide) (by decide) H1).mono ?_
  rintro v h2 ⟨rfl, W2, H2⟩
  rw [DI_int, show (((0 : Nat) : Int) != 0) = false from rfl, cond_false]
  refine (c17 (A' := ⟨100, 2, none, false, [⟨[], 0⟩], [⟨dN, [(aN, 0)], [], [.create aN 0]⟩]⟩) (e := 0) rfl W2 (by decide) (by decide) (by decide) H2).mono ?_
  rintro v h3 ⟨rfl, W3, H3⟩
  rw [DI_int, show (((0 : Nat) : Int) != 0) = false from rfl, cond_false]
  refine Al_sat H3 fun b0 h4 H4 => ?_
  refine convBytes_sat u31 (by kernel_rfl) H4 fun h5 H5 => ?_
  rw [DSl_slice]
  have H6 := H5.mv 1
  refine (c18 (bs := [120, 121]) (A' := ⟨100, 3, none, false, [⟨[120, 121], 0⟩], [⟨dN, [(aN, 0)], [], [.create aN 0]⟩]⟩) (e := 0) rfl W3 (by decide) (by decide) (by decide) (fun h' hh => RdCf hh rfl) (fun n hn => by simp at hn; omega) rfl (by decide) H6).mono ?_
  rintro v h6 ⟨rfl, W6, H7⟩
  rw [DI_int, show (((0 : Nat) : Int) != 0) = false from rfl, cond_false]
  refine (c20 (A' := ⟨100, 4, none, false, [⟨[120, 121], 0⟩], [⟨dN, [(aN, 0)], [(aN, 0)], []⟩]⟩) (e := 0) rfl W6 (by decide) (by decide) H7).mono ?_
  rintro v h7 ⟨rfl, W7, H8⟩
  rw [DI_int, show (((0 : Nat) : Int) != 0) = false from rfl, cond_false]
  refine Al_sat H8 fun b1 h8 H9 => ?_
  have H10 := H9.mv 1
  refine (F24_spec (ps := [0, 1]) W7 ⟨rfl, Nat.le_refl _, fun h' hh => RdCf hh rfl⟩ (by decide) H10).mono ?_
  rintro v h9 ⟨rfl, H11⟩
  rw [DI_int]
  have W8 := W7.crash [0, 1]
  refine (F25_spec W8 (dir := dN) (name := aN) (by decide) (by decide) H11).mono ?_
  have er : (AF.FS.crash ⟨100, 4, none, false, [⟨[120, 121], 0⟩], [⟨dN, [(aN, 0)], [(aN, 0)], []⟩]⟩ [0, 1]).read dN aN = .ok [120] := by kernel_rfl
  rintro v h10 (⟨bs, a, c, hr, hb8, _, rfl, H12⟩ | ⟨e, hr, _⟩)
  · rw [er] at hr
    cases hr
    refine ⟨a, 1, c, 0, rfl, ?_⟩
    rw [show ((0 : Int) == 0) = true from rfl, cond_true]
    refine ⟨ofN [120], bytesIn_of (ownS_read H12) rfl hb8, ?_⟩
    rw [show strEq (ofN [120]) ⟨#[120]⟩ = true from by rw [strEq_eq, sb_ofN hb8]; rfl, cond_true]
    refine (F23_spec (H12.mv 1)).mono ?_
    rintro v h11 ⟨rfl, rfl⟩
    rw [DI_int]
    exact ⟨rfl, (H12.rest 4)⟩
  · rw [er] at hr
    cases hr
end

end Go.Proofs.Yticjjdhaikbdaaa
