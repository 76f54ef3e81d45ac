/- Logs in file systems that are on: calls and what they keep; the chapter's example; MetaOnce. -/
import Derived.Test.YticjjdhaikbdaaaGreatMkMtG
namespace Go.Proofs.YticjjdhaikbdaaaGreat
open Go Go.RowKit Go.MapKept
set_option linter.unusedVariables false
set_option linter.unusedSimpArgs false
open AF (Meta copyT topT nmI Ent IdOk MInv Live Has Upd Dirc)
open Hex (digs)

section
variable {F : List HProp} {h : Heap} {b fsb : Nat} {M : Meta} {A : AF.FS} {T : Dirc}
theorem AF.MInv.getB (I : MInv A M T) {k : Int} {x : List Nat} (h : M.get k = some x) : B8 x ∧ x.length ≤ 5000 := by
  rw [← I.getE] at h
  exact (I.okE _ (getT_mem h)).2
theorem live_put {id : Int} {ba : Option Addr} {bl bc : Nat} {bs : List Nat} (I : MInv A M T) (hs : A.steps + 10 < 1099511627776) (hd : M.dir.size < 4611686018427387904) (hid : IdOk id) (hg : M.get id = none) (hu : A.used + (8 + bs.length) ≤ A.room) (hf : M.S.length < 4000)
    (hr : ∀ h', sat F h' → RdC h' ba (bs.map nv)) (h8 : B8 bs) (hl : bs.length = bl) (hlb : bl ≤ 5000) (H : sat (logM b fsb M :: fsP fsb A :: F) h) :
    CallsH Tryz.prog 29 [ptrV b, .int .i64 id, .slice ba bl bc] h fun v h' => ∃ A' T', v = .int .i64 0 ∧ MInv A' { M with S := setT id bs M.S } T' ∧ Upd 0 (8 + bs.length) 5 A A' M.dir T' ∧ sat (logM b fsb { M with S := setT id bs M.S } :: fsP fsb A' :: F) h' := by
  obtain ⟨A', T', e, I', u⟩ := I.put hid hg h8 (by omega) hu hf
  refine (F29_spec (id := id) I.live.wf hs hd (fun x hx => (I.getB hx).1) hr h8 hl (by omega) H).mono ?_
  rintro v h' ⟨rfl, _, _, H'⟩
  rw [e] at H' ⊢
  exact ⟨A', T', rfl, I', u, H'⟩
theorem live_again {id : Int} {ba : Option Addr} {bl bc : Nat} {bs x : List Nat} (I : MInv A M T) (hs : A.steps + 10 < 1099511627776) (hd : M.dir.size < 4611686018427387904) (hid : IdOk id) (hg : M.get id = some x)
    (hr : ∀ h', sat F h' → RdC h' ba (bs.map nv)) (h8 : B8 bs) (hl : bs.length = bl) (hlb : bl ≤ 5000) (H : sat (logM b fsb M :: fsP fsb A :: F) h) :
    CallsH Tryz.prog 29 [ptrV b, .int .i64 id, .slice ba bl bc] h fun v h' => v = .int .i64 (if x = bs then 0 else 90) ∧ sat (logM b fsb M :: fsP fsb A :: F) h' := by
  refine (F29_spec (id := id) I.live.wf hs hd (fun x hx => (I.getB hx).1) hr h8 hl (by omega) H).mono ?_
  rintro v h' ⟨rfl, _, _, H'⟩
  have e : M.put A id bs = (A, M, if x = bs then 0 else 90) := by
    unfold AF.Meta.put
    rw [if_neg (by have := hid.1; have := hid.2; omega), hg]
  rw [e] at H' ⊢
  refine ⟨?_, H'⟩
  split <;> rfl
theorem live_fold {upto : Int} {w : Nat} (I : MInv A M T) (hs : A.steps + M.S.length + M.Fo.length + 30 < 1099511627776) (hd : M.dir.size < 4611686018427387904) (hw : AF.wt M.entries ≤ w) (hw2 : w ≤ 10000000) (hu : A.used + (13 + w) ≤ A.room) (hf : M.S.length < 4000)
    (H : sat (logM b fsb M :: fsP fsb A :: F) h) : CallsH Tryz.prog 31 [ptrV b, .int .i64 upto] h fun v h' => ∃ A' M' T' e, v = .int .i64 ((e : Nat) : Int) ∧ (e = 0 ∨ e = 91) ∧ (e = 91 → ∀ p ∈ M.entries, ¬ p.1 ≤ upto) ∧ MInv A' M' T' ∧ M'.dir = M.dir ∧ M'.entries = M.entries ∧ M'.S.length ≤ M.S.length ∧ Upd 0 (13 + w) (M.S.length + 8) A A' M.dir T' ∧
      sat (logM b fsb M' :: fsP fsb A' :: F) h' := by
  obtain ⟨A', M', T', e, hf', he, hne, I', hdir, hent, hSl, u⟩ := I.folds upto hw hw2 hu hf
  have hle := AF.len_wt M.entries
  refine (F31_spec (upto := upto) I.live.wf hs hd (fun p hp => ⟨(I.okE p hp).1.1, (I.okE p hp).2.1, by have := (I.okE p hp).2.2; omega⟩) (by omega) (fun m => ?_) H).mono ?_
  · have h1 : AF.wt (upTo M.entries m) ≤ AF.wt M.entries := AF.wt_filter _ _
    have h2 := AF.len_wt (upTo M.entries m)
    have := AF.pairsE_wt (E := upTo M.entries m) (fun p hp => (I.okE p (List.mem_filter.1 hp).1).2.2) (by omega)
    omega
  · rintro v h' ⟨rfl, _, _, H'⟩
    rw [hf'] at H' ⊢
    exact ⟨A', M', T', e, rfl, he, hne, I', hdir, hent, hSl, u, H'⟩
/-- A log on a directory that isn't there yet. -/
theorem live_open {dir : ByteArray} (L : Live A) (hs : A.steps + 20000 < 1099511627776) (hr : AF.right dir = true) (ha : A.at dir = none) (hf : A.dirs.length < 64) (H : sat (fsP fsb A :: F) h) :
    CallsH Tryz.prog 28 [ptrV fsb, .string dir] h fun v h' => ∃ b B, v = .tuple #[ptrV b, .int .i64 0] ∧ Upd 1 0 1 A B dir [] ∧ MInv B ⟨dir, [], [], []⟩ [] ∧ sat (logM b fsb ⟨dir, [], [], []⟩ :: fsP fsb B :: F) h' := by
  obtain ⟨u, e⟩ := AF.prep_new L hr ha hf
  have hz : dir.size ≤ 32 := by
    unfold AF.right at hr
    simp only [Bool.and_eq_true, decide_eq_true_eq] at hr
    exact hr.1.2
  refine (F28_spec (B := (A.prep dir).1) (ks := []) (S0 := []) (S := []) (D := []) (Fo := []) L.wf hs (by omega) (Prod.ext rfl e) rfl rfl (.inl ⟨by decide, rfl⟩) H).mono ?_
  rintro v h' ⟨b, rfl, _, _, H'⟩
  exact ⟨b, _, rfl, u, MInv.new u.live u.here, H'⟩
theorem live_get {id : Int} {x : List Nat} (I : MInv A M T) (hg : M.get id = some x) (H : sat (logM b fsb M :: F) h) :
    CallsH Tryz.prog 33 [ptrV b, .int .i64 id] h fun v h' => ∃ a c, v = .tuple #[.slice a x.length c, .int .i64 0] ∧ sat (ownS 5 1 a x.length c (x.map nv) :: logM b fsb M :: F) h' := by
  refine (F33_spec (id := id) (fun y hy => by have := (I.getB hy).2; omega) H).mono ?_
  rintro v h' (⟨h0, _⟩ | ⟨y, a, c, hy, rfl, H'⟩)
  · rw [hg] at h0; cases h0
  · rw [hg] at hy
    cases hy
    exact ⟨a, c, rfl, H'⟩
end

end Go.Proofs.YticjjdhaikbdaaaGreat
