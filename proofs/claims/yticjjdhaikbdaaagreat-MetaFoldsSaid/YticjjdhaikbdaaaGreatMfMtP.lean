/- Two logs of one file system; MetaFolds. -/
import Derived.Test.YticjjdhaikbdaaaGreatMfMtK
import Derived.Test.YticjjdhaikbdaaaGreatMfMtO
namespace Go.Proofs.YticjjdhaikbdaaaGreat
open Go Go.RowKit Go.MapKept
set_option linter.unusedVariables false
set_option linter.unusedSimpArgs false
open AF (Meta copyT topT nmI Ent IdOk MInv Live Has Upd Dirc)
open Hex (digs)

namespace AF
theorem MInv.other {A A' : FS} {M : Meta} {T T' : Dirc} {n k s : Nat} {dir : ByteArray} (I : MInv A M T) (u : Upd n k s A A' dir T') (h : M.dir ≠ dir) : MInv A' M T :=
  { I with live := u.live, has := u.els _ _ h I.has }
theorem get_put {M : Meta} {id : Int} {bs : List Nat} (hg : M.get id = none) (k : Int) : ({ M with S := setT id bs M.S } : Meta).get k = if k = id then some bs else M.get k := by
  unfold Meta.get at hg ⊢
  cases hd : getT M.D id with
  | some b => rw [hd] at hg; cases hg
  | none =>
    by_cases h : k = id
    · subst h
      rw [if_pos rfl]
      simp only [hd]
      exact getT_set_self _ _ _
    · rw [if_neg h]
      simp only [getT_set_ne _ (Ne.symm h)]
theorem MInv.get_eq {A A' : FS} {M M' : Meta} {T T' : Dirc} (I : MInv A M T) (I' : MInv A' M' T') (h : M'.entries = M.entries) (k : Int) : M'.get k = M.get k := by
  rw [← I.getE, ← I'.getE, h]
theorem MInv.ent_eq {A A' : FS} {M M' : Meta} {T T' : Dirc} (I : MInv A M T) (I' : MInv A' M' T') (h : ∀ k, M'.get k = M.get k) : M'.entries = M.entries :=
  tab_ext2 I'.upE I.upE fun k => by rw [I'.getE, I.getE, h]
theorem wt_two : ∀ {E : Ent}, (∀ p ∈ E, p.2.length = 2) → wt E ≤ 32 * E.length
  | [], _ => Nat.le_refl _
  | p :: E, h => by
    have := wt_two fun q hq => h q (List.mem_cons_of_mem _ hq)
    have hp := h p (List.mem_cons_self ..)
    unfold wt at this ⊢
    rw [List.map_cons, List.sum_cons, List.length_cons]
    omega
end AF
section
variable {F : List HProp} {h : Heap} {b fsb : Nat} {M : Meta} {A : AF.FS} {T : Dirc}
/-- A log that is there opens as it was. -/
theorem live_reopen (I : MInv A M T) (hs : A.steps + 20000 < 1099511627776) (hd : M.dir.size < 4611686018427387904) (H : sat (fsP fsb A :: F) h) :
    CallsH Tryz.prog 28 [ptrV fsb, .string M.dir] h fun v h' => ∃ b', v = .tuple #[ptrV b', .int .i64 0] ∧ sat (logM b' fsb M :: fsP fsb A :: F) h' := by
  have e : (M.S.map fun p : Int × List Nat => (p.1, ([] : List Nat))).map (·.1) = M.S.map (·.1) := by rw [List.map_map]; rfl
  refine (F28_spec (B := A) (ks := T.map (·.1)) (S0 := M.S.map fun p => (p.1, [])) (S := M.S) (D := M.D) (Fo := M.Fo) I.live.wf hs hd I.prep I.scan (by rw [e]; exact I.reads) ?_ H).mono ?_
  · rcases I.fold with ⟨e1, e2⟩ | ⟨h1, e1⟩
    · exact .inl ⟨by rw [e1]; decide, e2⟩
    · have ht := I.topFo
      refine .inr ⟨unfold_ok, ht, I.upD, h1, fun p hp => ⟨(I.okD p hp).1, (I.okD p hp).2.1⟩, Nat.le_trans I.lenD (by decide), ?_⟩
      rw [← ht]
      exact I.getF (by rw [ht]; exact h1)
  · rintro v h' ⟨b', rfl, _, _, H'⟩
    exact ⟨b', rfl, H'⟩
/-- The two bytes of a number, put: for the first time or again. -/
theorem live_put2 {n : Nat} {ba : Option Addr} {bc : Nat} (hn : n < 256) (I : MInv A M T) (hv : ∀ x, M.get (n : Int) = some x → x = [n, n]) (hs : A.steps + 10 < 1099511627776) (hd : M.dir.size < 4611686018427387904) (hu : A.used + 10 ≤ A.room) (hf : M.S.length < 4000)
    (hr : ∀ h', sat F h' → RdC h' ba ([n, n].map nv)) (H : sat (logM b fsb M :: fsP fsb A :: F) h) :
    CallsH Tryz.prog 29 [ptrV b, .int .i64 (n : Int), .slice ba 2 bc] h fun v h' => ∃ A' M' T', v = .int .i64 0 ∧ MInv A' M' T' ∧ M'.dir = M.dir ∧ (∀ k, M'.get k = if k = (n : Int) then some [n, n] else M.get k) ∧ M'.S.length ≤ M.S.length + 1 ∧ Upd 0 10 5 A A' M.dir T' ∧ sat (logM b fsb M' :: fsP fsb A' :: F) h' := by
  have h8 : B8 [n, n] := fun x hx => by simp at hx; omega
  cases hg : M.get (n : Int) with
  | none =>
    refine (live_put (id := (n : Int)) (bs := [n, n]) I hs hd ⟨by omega, by omega⟩ hg hu hf hr h8 rfl (show 2 ≤ 5000 by decide) H).mono ?_
    rintro v h' ⟨A', T', rfl, I', u, H'⟩
    exact ⟨A', _, T', rfl, I', rfl, AF.get_put hg, (AF.setT_length _ _ _).1, u, H'⟩
  | some x =>
    have hx := hv x hg
    refine (live_again (id := (n : Int)) (bs := [n, n]) I hs hd ⟨by omega, by omega⟩ hg hr h8 rfl (show 2 ≤ 5000 by decide) H).mono ?_
    rintro v h' ⟨rfl, H'⟩
    refine ⟨A, M, T, by rw [if_pos hx], I, rfl, fun k => ?_, Nat.le_succ _, (AF.Upd.refl I.live I.has).weak (Nat.le_refl _) (by decide) (by decide), H'⟩
    split
    · rename_i hk
      rw [hk, hg, hx]
    · rfl
end
def dA : ByteArray := ⟨#[97]⟩
def dB : ByteArray := ⟨#[98]⟩
structure FoldsI (s u t : Nat) (A : AF.FS) (Ma Mb : Meta) (Ta Tb : Dirc) : Prop where
  ia : MInv A Ma Ta
  ib : MInv A Mb Tb
  da : Ma.dir = dA
  db : Mb.dir = dB
  same : ∀ k, Ma.get k = Mb.get k
  vals : ∀ k x, Mb.get k = some x → ∃ n : Nat, n < 32 ∧ k = (n : Int) ∧ x = [n, n]
  sa : Ma.S.length ≤ s
  sb : Mb.S.length ≤ s
  room : A.room = 16777216
  used : A.used ≤ u
  steps : A.steps ≤ t
theorem FoldsI.wt {s u t : Nat} {A : AF.FS} {Ma Mb : Meta} {Ta Tb : Dirc} (J : FoldsI s u t A Ma Mb Ta Tb) : AF.wt Ma.entries ≤ 1024 := by
  have hv : ∀ p ∈ Ma.entries, ∃ n : Nat, n < 32 ∧ p.1 = (n : Int) ∧ p.2 = [n, n] := fun p hp => by
    have h1 := mem_getT (k := p.1) (x := p.2) J.ia.upE hp
    rw [J.ia.getE, J.same] at h1
    exact J.vals _ _ h1
  have h1 := AF.wt_two (E := Ma.entries) fun p hp => by
    obtain ⟨n, _, _, e⟩ := hv p hp
    rw [e]; rfl
  have h2 := AF.nodup_len (l := Ma.entries.map (·.1)) (m := (List.range 32).map fun n : Nat => (n : Int)) J.ia.upE.nodup fun k hk => by
    obtain ⟨p, hp, rfl⟩ := List.mem_map.1 hk
    obtain ⟨n, hn, e, _⟩ := hv p hp
    exact List.mem_map.2 ⟨n, List.mem_range.2 hn, e.symm⟩
  rw [List.length_map, List.length_map, List.length_range] at h2
  omega
theorem FoldsI.ent {s u t : Nat} {A : AF.FS} {Ma Mb : Meta} {Ta Tb : Dirc} (J : FoldsI s u t A Ma Mb Ta Tb) : Ma.entries = Mb.entries := AF.MInv.ent_eq J.ib J.ia J.same
end Go.Proofs.YticjjdhaikbdaaaGreat
