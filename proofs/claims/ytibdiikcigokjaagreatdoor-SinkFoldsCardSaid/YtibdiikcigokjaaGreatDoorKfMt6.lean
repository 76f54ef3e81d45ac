/- A log that is opened anew has what it had (plain). -/
import Derived.Test.YtibdiikcigokjaaGreatDoorKfMcX
import Derived.Test.YtibdiikcigokjaaGreatDoorKfPh1
namespace Go.Proofs.YtibdiikcigokjaaGreatDoor
open Go Go.RowKit
set_option linter.unusedVariables false
set_option linter.unusedSimpArgs false
namespace AF
open Frame (packN)
open Hex (digs)
/-- A file's sign and number. -/
def kindN (s : ByteArray) : Option (Nat × Int) :=
  if s.size = 18 ∧ (sb s)[1]? = some 46 ∧ ((sb s)[0]? = some 98 ∨ (sb s)[0]? = some 102) then (Hex.unhex ((sb s).drop 2)).map (fun n : Nat => ((sb s).getD 0 0, (n : Int))) else none
def scanK (r : Ent × List (Int × Unit)) (s : ByteArray) : Ent × List (Int × Unit) :=
  match kindN s with
  | some (c, n) => if c = 98 then (setT n [] r.1, r.2) else (r.1, setT n () r.2)
  | none => r
def scanNames (l : List ByteArray) : Ent × List (Int × Unit) := l.foldl scanK ([], [])
def readS (A : FS) (dir : ByteArray) : List Int → Ent → Except Nat Ent
  | [], T => .ok T
  | n :: l, T => match A.get dir (nmI 98 n) with
    | .error e => .error e
    | .ok b => readS A dir l (setT n b T)
section
variable {A : FS} {M : Meta} {T : Dirc}
theorem map_up {T : Ent} (h : UpT T) : UpT (T.map fun p => (p.1, ([] : List Nat))) := List.pairwise_map.2 h
theorem MInv.getS (I : MInv A M T) {p : Int × List Nat} (hp : p ∈ M.S) : A.get M.dir (nmI 98 p.1) = .ok p.2 :=
  get_ok I.live I.has (mem_getN (has_up I.live I.has) ((I.files _ _).2 (.inl ⟨p, hp, rfl, rfl⟩))) (I.okS p hp).2.1 (by have := (I.okS p hp).2.2; omega)
theorem readS_all (A : FS) (dir : ByteArray) {S : Ent} (hu : UpT S) (hg : ∀ p ∈ S, A.get dir (nmI 98 p.1) = .ok p.2) : ∀ (l : List Int) (U : Ent), UpT U → (∀ n ∈ l, n ∈ S.map (·.1)) →
    ∃ V, readS A dir l U = .ok V ∧ UpT V ∧ ∀ k, getT V k = if k ∈ l then getT S k else getT U k
  | [], U, hU, _ => ⟨U, rfl, hU, fun k => by simp⟩
  | n :: l, U, hU, hl => by
    obtain ⟨p, hp, rfl⟩ := List.mem_map.1 (hl n (List.mem_cons_self ..))
    unfold readS
    rw [hg p hp]
    simp only []
    obtain ⟨V, e, hV, hk⟩ := readS_all A dir hu hg l (setT p.1 p.2 U) (setT_up hU) fun m hm => hl m (List.mem_cons_of_mem _ hm)
    refine ⟨V, e, hV, fun k => ?_⟩
    rw [hk]
    by_cases h : k ∈ l
    · simp [h]
    · by_cases h2 : k = p.1
      · subst h2
        simp only [h, if_false, List.mem_cons, true_or, if_true]
        rw [getT_set_self, mem_getT hu (show (p.1, p.2) ∈ S from hp)]
      · simp only [h, h2, if_false, List.mem_cons, or_self]
        rw [getT_set_ne _ (Ne.symm h2)]
theorem MInv.reads (I : MInv A M T) : readS A M.dir (M.S.map (·.1)) (M.S.map fun p => (p.1, [])) = .ok M.S := by
  obtain ⟨V, e, hV, hk⟩ := readS_all A M.dir I.upS (fun p hp => I.getS hp) (M.S.map (·.1)) (M.S.map fun p => (p.1, [])) (map_up I.upS) fun n hn => hn
  rw [e]
  congr 1
  refine tab_ext2 hV I.upS fun k => ?_
  rw [hk]
  by_cases h : k ∈ M.S.map (·.1)
  · rw [if_pos h]
  · rw [if_neg h]
    have h1 : getT M.S k = none := getT_none.2 fun p hp e => h (List.mem_map.2 ⟨p, hp, e⟩)
    rw [h1, getT_none]
    intro q hq e
    obtain ⟨p, hp, rfl⟩ := List.mem_map.1 hq
    exact h (List.mem_map.2 ⟨p, hp, e⟩)
theorem MInv.prep (I : MInv A M T) : A.prep M.dir = (A, .ok (T.map (·.1))) :=
  prep_old I.live I.has fun p hp => by
    obtain ⟨c, n, e, hc⟩ := I.names hp
    rw [e]
    exact Fnm.nm_tmp hc n
end
/-- What a log is that opens on nothing. -/
theorem MInv.new {A : FS} {dir : ByteArray} (L : Live A) (H : Has A dir []) : MInv A ⟨dir, [], [], []⟩ [] :=
  ⟨L, H, List.Pairwise.nil, List.Pairwise.nil, by simp, by simp, by unfold pairsE pairsB; rw [List.map_nil, List.length_append, List.length_nil, numB_small (by decide)]; decide, .inl ⟨rfl, rfl⟩, by simp⟩
end AF

end Go.Proofs.YtibdiikcigokjaaGreatDoor
