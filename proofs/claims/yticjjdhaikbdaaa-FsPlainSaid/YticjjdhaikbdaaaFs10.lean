/- Directories found by their names. -/
import Derived.Test.YticjjdhaikbdaaaFs9
namespace Go.Proofs.Yticjjdhaikbdaaa
open Go Go.RowKit Go.MapKept
set_option linter.unusedVariables false
set_option linter.unusedSimpArgs false

def foundV (m : List (ByteArray × Value)) (dir : ByteArray) (ss : List ByteArray) : Value :=
  if AF.right dir && ss.all AF.right then match lkM m dir with
    | some v => .tuple #[v, .int .i64 0]
    | none => .tuple #[.pointer none, .int .i64 61]
  else .tuple #[.pointer none, .int .i64 65]
theorem F107_spec {b md : Nat} {room used steps fuse : Int} {off : Bool} {m : List (ByteArray × Value)} {dir : ByteArray} {a : Option Addr} {l c : Nat} {ss : List ByteArray} {h : Heap} {F : List HProp}
    (H : sat (rawFS b room used steps fuse off md :: ownM strKeys md m :: F) h) (hp : ∀ k v, lkM m k = some v → ∃ fb, v = ptrV fb) (hr : RdC h a (ss.map Value.string)) (hl : ss.length = l) (hlb : l < 1000)
    (hd : dir.size < 4611686018427387904) (hss : ∀ s ∈ ss, s.size < 4611686018427387904) :
    CallsH Try.prog 107 [.pointer (some ⟨b, 0, none⟩), .string dir, .slice a l c] h fun v h' => v = foundV m dir ss ∧ h' = h := by
  apply F107_ok
  unfold F107
  refine (F133_spec hd).mono ?_
  rintro v h1 ⟨rfl, rfl⟩
  rw [DB_bool]
  cases hrd : AF.right dir with
  | false => exact ⟨by unfold foundV; rw [hrd]; rfl, rfl⟩
  | true =>
    rw [Bool.not_true, cond_false]
    refine ⟨fun st h2 => h2 = h1 ∧ ∃ i : Nat, st = (i : Int) ∧ i ≤ l ∧ (ss.take i).all AF.right = true, fun st _ => ((l : Int) - st).toNat, ⟨rfl, 0, rfl, Nat.zero_le _, by simp⟩, ?_⟩
    rintro st h2 ⟨rfl, i, rfl, hi, hg⟩
    by_cases hlt : i < l
    · rw [decide_eq_true (show ((i : Int) < (l : Int)) by omega), cond_true]
      obtain ⟨s, hs⟩ : ∃ s, ss[i]? = some s := ⟨_, List.getElem?_eq_getElem (by omega)⟩
      refine IdxA_nat (v := .string s) hr (by rw [List.length_map]; exact hl) (by rw [List.getElem?_map, hs]; rfl) fun b hb hc => ⟨_, hc, ?_⟩
      show DS (.string s) _
      rw [DS_string]
      refine (F133_spec (hss s (List.mem_of_getElem? hs))).mono ?_
      rintro v h3 ⟨rfl, rfl⟩
      rw [DB_bool]
      cases hrs : AF.right s with
      | false =>
        refine ⟨?_, rfl⟩
        have : ss.all AF.right = false := by
          rw [List.all_eq_false]
          exact ⟨s, List.mem_of_getElem? hs, by rw [hrs]; simp⟩
        unfold foundV
        rw [hrd, this]
        rfl
      | true =>
        rw [Bool.not_true, cond_false, wrap64_succ (by omega)]
        refine ⟨⟨rfl, i + 1, rfl, by omega, ?_⟩, by show ((l : Int) - ((i + 1 : Nat) : Int)).toNat < ((l : Int) - (i : Int)).toNat; omega⟩
        rw [List.take_add_one, hs, List.all_append, hg]
        simp [hrs]
    · have e : i = l := by omega
      subst e
      rw [decide_eq_false (by omega), cond_false]
      rw [List.take_of_length_le (by omega)] at hg
      simp only [NN'_some']
      refine LdC (v := .map (some md)) H rfl ?_
      rw [DM_map]
      obtain ⟨es, clock, hm, hes⟩ := mapEs_ownM (H.mv 1)
      obtain ⟨f, hf, hlk, _⟩ := hm.find dir
      refine ⟨es, hes, f, hf, ?_⟩
      rw [hlk]
      cases hk : lkM m dir with
      | none =>
        show DP (.pointer none) _
        rw [DP_pointer]
        exact ⟨by unfold foundV; rw [hrd, hg, hk]; rfl, by trivial⟩
      | some v =>
        obtain ⟨fb, rfl⟩ := hp dir v hk
        show DP (.pointer (some ⟨fb, 0, none⟩)) _
        rw [DP_pointer]
        exact ⟨by unfold foundV; rw [hrd, hg, hk]; rfl, by trivial⟩

theorem F56_nil {dir : ByteArray} {a : Option Addr} {l c : Nat} {h : Heap} : CallsH Try.prog 56 [.pointer none, .string dir, .slice a l c] h fun v h' => v = .tuple #[.pointer none, .int .i64 1] ∧ h' = h := by
  apply F56_ok
  unfold F56
  exact ⟨rfl, rfl⟩
def readyV (off : Bool) (m : List (ByteArray × Value)) (dir : ByteArray) (ss : List ByteArray) : Value := if off then .tuple #[.pointer none, .int .i64 60] else foundV m dir ss
theorem foundV_form {m : List (ByteArray × Value)} (hp : ∀ k v, lkM m k = some v → ∃ fb, v = ptrV fb) (dir : ByteArray) (ss : List ByteArray) : ∃ (p : Option Addr) (e : Int), foundV m dir ss = .tuple #[.pointer p, .int .i64 e] := by
  unfold foundV
  split
  · cases hk : lkM m dir with
    | none => exact ⟨none, 61, rfl⟩
    | some v =>
      obtain ⟨fb, rfl⟩ := hp dir v hk
      exact ⟨some ⟨fb, 0, none⟩, 0, rfl⟩
  · exact ⟨none, 65, rfl⟩
theorem F56_spec {b md : Nat} {room used steps fuse : Int} {off : Bool} {m : List (ByteArray × Value)} {dir : ByteArray} {a : Option Addr} {l c : Nat} {ss : List ByteArray} {h : Heap} {F : List HProp}
    (H : sat (rawFS b room used steps fuse off md :: ownM strKeys md m :: F) h) (hp : ∀ k v, lkM m k = some v → ∃ fb, v = ptrV fb) (hr : RdC h a (ss.map Value.string)) (hl : ss.length = l) (hlb : l < 1000)
    (hd : dir.size < 4611686018427387904) (hss : ∀ s ∈ ss, s.size < 4611686018427387904) :
    CallsH Try.prog 56 [.pointer (some ⟨b, 0, none⟩), .string dir, .slice a l c] h fun v h' => v = readyV off m dir ss ∧ h' = h := by
  apply F56_ok
  unfold F56
  simp only [Option.isNone_some, cond_false, NN'_some']
  refine LdC (v := .bool off) H rfl ?_
  rw [DB_bool]
  cases off with
  | true => exact ⟨rfl, by trivial⟩
  | false =>
    rw [cond_false]
    refine (F107_spec H hp hr hl hlb hd hss).mono ?_
    rintro v h1 ⟨rfl, rfl⟩
    obtain ⟨p, e, hf⟩ := foundV_form hp dir ss
    exact ⟨p, e, hf, by rw [← hf]; rfl, by trivial⟩

end Go.Proofs.Yticjjdhaikbdaaa
