/- Put, Get and Last of a log. -/
import Derived.Test.YticjjdhaikbdaaaGreatMkMt3
import Derived.Test.YticjjdhaikbdaaaGreatMkPlA
namespace Go.Proofs.YticjjdhaikbdaaaGreat
open Go Go.RowKit Go.MapKept
set_option linter.unusedVariables false
set_option linter.unusedSimpArgs false
open AF (Meta copyT topT nmI)
open Hex (digs)

theorem size_nmI (c : Nat) (n : Int) : (nmI c n).size = 18 := AF.Fnm.nm_size _ _
section
variable {F : List HProp} {h : Heap} {b fsb : Nat} {M : Meta} {A : AF.FS}
/-- What a call of a log comes to. -/
def Came (b fsb : Nat) (A : AF.FS) (k : Nat) (r : AF.FS × Meta × Nat) (F : List HProp) (v : Value) (h' : Heap) : Prop :=
  v = .int .i64 (r.2.2 : Int) ∧ r.1.WF ∧ r.1.steps ≤ A.steps + k ∧ sat (logM b fsb r.2.1 :: fsP fsb r.1 :: F) h'
theorem F29_spec {id : Int} {ba : Option Addr} {bl bc : Nat} {bs : List Nat} (W : A.WF) (hs : A.steps + 10 < 1099511627776) (hd : M.dir.size < 4611686018427387904) (h8M : ∀ x, M.get id = some x → B8 x)
    (hr : ∀ h', sat F h' → RdC h' ba (bs.map nv)) (h8 : B8 bs) (hl : bs.length = bl) (hlb : bl ≤ 140737488355328) (H : sat (logM b fsb M :: fsP fsb A :: F) h) :
    CallsH Tryz.prog 29 [ptrV b, .int .i64 id, .slice ba bl bc] h (Came b fsb A 6 (M.put A id bs) F) := by
  apply F29_ok
  unfold F29
  rw [show (some (⟨b, 0, none⟩ : Addr)).isNone = false from rfl, cond_false]
  by_cases h0 : id < 0
  · rw [decide_eq_true h0, cond_true]
    have e : M.put A id bs = (A, M, 2) := by unfold AF.Meta.put; rw [if_pos (.inl h0)]
    rw [e]
    exact ⟨rfl, W, Nat.le_add_right _ _, H⟩
  rw [decide_eq_false h0, cond_false]
  by_cases h1 : id > 1099511627776
  · rw [decide_eq_true h1, cond_true]
    have e : M.put A id bs = (A, M, 2) := by unfold AF.Meta.put; rw [if_pos (.inr h1)]
    rw [e]
    exact ⟨rfl, W, Nat.le_add_right _ _, H⟩
  rw [decide_eq_false h1, cond_false]
  have e0 : ¬ (id < 0 ∨ 1099511627776 < id) := by omega
  refine (F92_spec (id := id) H).mono ?_
  rintro v h1 ⟨rfl, ⟨hg, rfl⟩ | ⟨x, a, c, hg, rfl, hR⟩⟩
  · refine ⟨none, 0, 0, false, rfl, ?_⟩
    rw [cond_false, NN'_some]
    obtain ⟨s, f, m, H2⟩ := logM_open H
    refine LdPt (x := fsb) H2 rfl ?_
    rw [NN'_some]
    refine LdStr (x := M.dir) H2 rfl ?_
    refine (F44_spec (n := id) H2).mono ?_
    rintro v h2 ⟨rfl, H3⟩
    rw [DS_string]
    refine ⟨rfl, rfl, rfl, LdPt (x := fsb) H3 rfl rfl, rfl, rfl, rfl, LdStr (x := M.dir) H3 rfl rfl, rfl, ?_, ?_⟩
    · have := size_nmI 98 id
      rw [show (nmI 98 id).size = ((⟨#[98, 46]⟩ : ByteArray) ++ ofN (digs 16 (natOf id))).size from rfl, ByteArray.size_append] at this
      omega
    have H4 : sat (fsP fsb A :: pt b (.cells (logC5 fsb M.dir s f m) 133 (0, 0)) :: tabM Bs s M.S :: tabM Bb f M.Fo :: tabM Bs m M.D :: F) h2 := H3.mv 4
    have hr4 : ∀ h', sat (pt b (.cells (logC5 fsb M.dir s f m) 133 (0, 0)) :: tabM Bs s M.S :: tabM Bb f M.Fo :: tabM Bs m M.D :: F) h' → RdC h' ba (bs.map nv) := fun h' hh => hr h' (hh.rest 4)
    refine (F13_spec (bs := bs) (name := nmI 98 id) W hs hd (by rw [size_nmI]; decide) hr4 h8 hl (by omega) H4).mono ?_
    rintro v h3 ⟨rfl, W3, hs3, H5⟩
    rw [DI_int]
    by_cases he : (A.put M.dir (nmI 98 id) bs).2 = 0
    · have e : M.put A id bs = ((A.put M.dir (nmI 98 id) bs).1, { M with S := setT id bs M.S }, 0) := by
        unfold AF.Meta.put
        rw [if_neg e0, hg]
        simp only []
        rw [if_pos he]
      rw [e, he]
      rw [show (((0 : Nat) : Int) != 0) = false from rfl, cond_false, NN'_some]
      have H6 := H5.mv 1
      refine LdMp (x := s) H6 rfl ?_
      refine (F94_spec H6 (hr _ (H6.rest 5)) hl hlb).mono ?_
      rintro v h4 ⟨a', c', rfl, H7⟩
      rw [DSl_slice]
      -- own, b, fs, s, f, m, F
      refine ⟨rfl, rfl, rfl, LdMp (x := s) (H7.mv 1) rfl rfl, rfl, ?_⟩
      have H8 := roP_mono (S := Bs bs (.slice a' bl c')) (fun h hR => ⟨a', c', by rw [hl], hR⟩) (roP_own H7)
      refine tab_set (kt := 2) (et := 40) (x := bs) (by kernel_rfl) (by kernel_rfl) (H8.ordT 6 [3, 0, 1, 2, 4, 5]) fun h5 H9 => ?_
      -- s, b, fs, f, m, F
      refine ⟨rfl, W3, hs3, ?_⟩
      exact logM_shut (M := { M with S := setT id bs M.S }) (H9.ordT 5 [1, 0, 3, 4, 2])
    · have e : M.put A id bs = ((A.put M.dir (nmI 98 id) bs).1, M, (A.put M.dir (nmI 98 id) bs).2) := by
        unfold AF.Meta.put
        rw [if_neg e0, hg]
        simp only []
        rw [if_neg he]
      rw [e]
      rw [err_bne he, cond_true]
      exact ⟨rfl, W3, hs3, logM_shut (H5.ordT 5 [1, 2, 3, 4, 0])⟩
  · refine ⟨a, x.length, c, true, rfl, ?_⟩
    rw [cond_true]
    refine (F93_spec (xs := x) (ys := bs) (h8M x hg) h8 hR (hr _ (H.rest 2)) hl).mono ?_
    rintro v h2 ⟨rfl, rfl⟩
    rw [DB_bool]
    have e : M.put A id bs = (A, M, if x = bs then 0 else 90) := by
      unfold AF.Meta.put
      rw [if_neg e0, hg]
    rw [e]
    by_cases hx : x = bs
    · rw [decide_eq_true hx, Bool.not_true, cond_false, if_pos hx]
      exact ⟨rfl, W, Nat.le_add_right _ _, H⟩
    · rw [decide_eq_false hx, Bool.not_false, cond_true, if_neg hx]
      exact ⟨rfl, W, Nat.le_add_right _ _, H⟩
theorem F33_spec {id : Int} (hm : ∀ x, M.get id = some x → x.length ≤ 140737488355328) (H : sat (logM b fsb M :: F) h) :
    CallsH Tryz.prog 33 [ptrV b, .int .i64 id] h fun v h' => (M.get id = none ∧ v = .tuple #[.slice none 0 0, .int .i64 91] ∧ sat (logM b fsb M :: F) h') ∨
      ∃ x a c, M.get id = some x ∧ v = .tuple #[.slice a x.length c, .int .i64 0] ∧ sat (ownS 5 1 a x.length c (x.map nv) :: logM b fsb M :: F) h' := by
  apply F33_ok
  unfold F33
  rw [show (some (⟨b, 0, none⟩ : Addr)).isNone = false from rfl, cond_false]
  refine (F92_spec (id := id) H).mono ?_
  rintro v h1 ⟨rfl, ⟨hg, rfl⟩ | ⟨x, a, c, hg, rfl, hR⟩⟩
  · refine ⟨none, 0, 0, false, rfl, ?_⟩
    rw [Bool.not_false, cond_true]
    exact .inl ⟨hg, rfl, H⟩
  · refine ⟨a, x.length, c, true, rfl, ?_⟩
    rw [Bool.not_true, cond_false]
    refine (F94_spec H hR rfl (hm x hg)).mono ?_
    rintro v h2 ⟨a', c', rfl, H2⟩
    rw [DSl_slice]
    exact .inr ⟨x, a', c', hg, rfl, H2⟩
end

end Go.Proofs.YticjjdhaikbdaaaGreat
