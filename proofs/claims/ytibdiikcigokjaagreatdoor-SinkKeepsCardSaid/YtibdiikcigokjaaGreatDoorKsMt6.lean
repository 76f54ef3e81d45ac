/- A log that is opened anew has what it had (plain). -/
import Derived.Test.YtibdiikcigokjaaGreatDoorKsMcX
import Derived.Test.YtibdiikcigokjaaGreatDoorKsPh1
namespace Go.Proofs.YtibdiikcigokjaaGreatDoor
open Go Go.RowKit
set_option linter.unusedVariables false
set_option linter.unusedSimpArgs false
namespace AF
open Frame (packN)
open Hex (digs)
def kindN (s : ByteArray) : Option (Nat × Int) :=
 if s.size = 18 ∧ (sb s)[1]? = some 46 ∧ ((sb s)[0]? = some 98 ∨ (sb s)[0]? = some 102) then (Hex.unhex ((sb s).drop 2)).map (fun n : Nat => ((sb s).getD 0 0, (n : Int))) else none
def scanK (r : Ent × List (Int × Unit)) (s : ByteArray) : Ent × List (Int × Unit) :=
 match kindN s with
 | some (c, n) => if c = 98 then (setT n [] r.1, r.2) else (r.1, setT n () r.2)
 | none => r
def scanNames (l : List ByteArray) : Ent × List (Int × Unit) := l.foldl scanK ([], [])
def readS (A : FS) (dir : ByteArray) : List Int → Ent → Except Nat Ent
 | [], T => .ok T
 | n :: l, T => match A.get dir (nmI 98 n) with
   | .error e => .error e
   | .ok b => readS A dir l (setT n b T)
theorem kindN_nm {c : Nat} (hc : c = 98 ∨ c = 102) {n : Int} (hn : IdOk n) : kindN (nmI c n) = some (c, n) := by
 have h1 : c < 256 := by omega
 unfold kindN nmI
 rw [natOf_id hn.1 hn.2, Fnm.nm_sb h1, Fnm.nm_size]
 have h0 := hn.1
 have h2 := hn.2
 rw [if_pos ⟨rfl, rfl, by rcases hc with rfl | rfl <;> simp⟩]
 show (Hex.unhex (digs 16 n.toNat)).map _ = _
 rw [Hex.unhex_digs (by omega), if_pos (by omega)]
 simp only [Option.map_some, List.getD_cons_zero]
 congr 2
 omega
theorem scan_inv : ∀ (l : List ByteArray) (r : Ent × List (Int × Unit)), UpT r.1 → UpT r.2 → (∀ p ∈ r.1, p.2 = []) →
  UpT (l.foldl scanK r).1 ∧ UpT (l.foldl scanK r).2 ∧ (∀ p ∈ (l.foldl scanK r).1, p.2 = []) ∧ (∀ n, n ∈ (l.foldl scanK r).1.map (·.1) ↔ n ∈ r.1.map (·.1) ∨ ∃ s ∈ l, kindN s = some (98, n)) ∧
   (∀ n, n ∈ (l.foldl scanK r).2.map (·.1) ↔ n ∈ r.2.map (·.1) ∨ ∃ s ∈ l, ∃ c, c ≠ 98 ∧ kindN s = some (c, n))
 | [], r, h1, h2, h3 => ⟨h1, h2, h3, fun n => by simp, fun n => by simp⟩
 | s :: l, r, h1, h2, h3 => by
   rw [List.foldl_cons]
   cases hk : kindN s with
   | none =>
     have eK : scanK r s = r := by unfold scanK; rw [hk]
     rw [eK];obtain ⟨a1, a2, a3, a4, a5⟩ := scan_inv l r h1 h2 h3;refine ⟨a1, a2, a3, fun n => ?_, fun n => ?_⟩
     · rw [a4];simp [hk]
     · rw [a5];simp [hk]
   | some q =>
     obtain ⟨c, m⟩ := q;by_cases hc : c = 98
     · subst hc;have eK : scanK r s = (setT m [] r.1, r.2) := by unfold scanK; rw [hk]; exact if_pos rfl
       rw [eK];obtain ⟨a1, a2, a3, a4, a5⟩ := scan_inv l (setT m [] r.1, r.2) (setT_up h1) h2 fun p hp => by
        rcases (mem_setT h1).1 hp with rfl | ⟨_, hp⟩
        · rfl
        · exact h3 p hp
       refine ⟨a1, a2, a3, fun n => ?_, fun n => ?_⟩
       · refine (a4 n).trans ?_;constructor
         · rintro (h | ⟨t, ht, e⟩)
           · obtain ⟨p, hp, rfl⟩ := List.mem_map.1 h
             rcases (mem_setT h1).1 hp with rfl | ⟨_, hp⟩
             · exact .inr ⟨s, List.mem_cons_self .., hk⟩
             · exact .inl (List.mem_map.2 ⟨p, hp, rfl⟩)
           · exact .inr ⟨t, List.mem_cons_of_mem _ ht, e⟩
         · rintro (h | ⟨t, ht, e⟩)
           · obtain ⟨p, hp, rfl⟩ := List.mem_map.1 h;by_cases e : p.1 = m
             · exact .inl (List.mem_map.2 ⟨_, (mem_setT h1).2 (.inl rfl), e.symm⟩)
             · exact .inl (List.mem_map.2 ⟨p, (mem_setT h1).2 (.inr ⟨e, hp⟩), rfl⟩)
           · rcases List.mem_cons.1 ht with rfl | ht
             · rw [hk] at e;cases e;exact .inl (List.mem_map.2 ⟨_, (mem_setT h1).2 (.inl rfl), rfl⟩)
             · exact .inr ⟨t, ht, e⟩
       · refine (a5 n).trans ?_;constructor
         · rintro (h | ⟨t, ht, e⟩)
           · exact .inl h
           · exact .inr ⟨t, List.mem_cons_of_mem _ ht, e⟩
         · rintro (h | ⟨t, ht, c, hc, e⟩)
           · exact .inl h
           · rcases List.mem_cons.1 ht with rfl | ht
             · rw [hk] at e;cases e;exact absurd rfl hc
             · exact .inr ⟨t, ht, c, hc, e⟩
     · have eK : scanK r s = (r.1, setT m () r.2) := by unfold scanK; rw [hk]; exact if_neg hc
       rw [eK];obtain ⟨a1, a2, a3, a4, a5⟩ := scan_inv l (r.1, setT m () r.2) h1 (setT_up h2) h3;refine ⟨a1, a2, a3, fun n => ?_, fun n => ?_⟩
       · refine (a4 n).trans ?_;constructor
         · rintro (h | ⟨t, ht, e⟩)
           · exact .inl h
           · exact .inr ⟨t, List.mem_cons_of_mem _ ht, e⟩
         · rintro (h | ⟨t, ht, e⟩)
           · exact .inl h
           · rcases List.mem_cons.1 ht with rfl | ht
             · rw [hk] at e;cases e;exact absurd rfl hc
             · exact .inr ⟨t, ht, e⟩
       · refine (a5 n).trans ?_;constructor
         · rintro (h | ⟨t, ht, e⟩)
           · obtain ⟨p, hp, rfl⟩ := List.mem_map.1 h
             rcases (mem_setT h2).1 hp with rfl | ⟨_, hp⟩
             · exact .inr ⟨s, List.mem_cons_self .., c, hc, hk⟩
             · exact .inl (List.mem_map.2 ⟨p, hp, rfl⟩)
           · exact .inr ⟨t, List.mem_cons_of_mem _ ht, e⟩
         · rintro (h | ⟨t, ht, d, hd, e⟩)
           · obtain ⟨p, hp, rfl⟩ := List.mem_map.1 h;by_cases e : p.1 = m
             · exact .inl (List.mem_map.2 ⟨_, (mem_setT h2).2 (.inl rfl), e.symm⟩)
             · exact .inl (List.mem_map.2 ⟨p, (mem_setT h2).2 (.inr ⟨e, hp⟩), rfl⟩)
           · rcases List.mem_cons.1 ht with rfl | ht
             · rw [hk] at e;cases e;exact .inl (List.mem_map.2 ⟨_, (mem_setT h2).2 (.inl rfl), rfl⟩)
             · exact .inr ⟨t, ht, d, hd, e⟩
section
variable {A : FS} {M : Meta} {T : Dirc}
theorem map_up {T : Ent} (h : UpT T) : UpT (T.map fun p => (p.1, ([] : List Nat))) := List.pairwise_map.2 h
theorem readS_all (A : FS) (dir : ByteArray) {S : Ent} (hu : UpT S) (hg : ∀ p ∈ S, A.get dir (nmI 98 p.1) = .ok p.2) : ∀ (l : List Int) (U : Ent), UpT U → (∀ n ∈ l, n ∈ S.map (·.1)) →
  ∃ V, readS A dir l U = .ok V ∧ UpT V ∧ ∀ k, getT V k = if k ∈ l then getT S k else getT U k
 | [], U, hU, _ => ⟨U, rfl, hU, fun k => by simp⟩
 | n :: l, U, hU, hl => by
   obtain ⟨p, hp, rfl⟩ := List.mem_map.1 (hl n (List.mem_cons_self ..));unfold readS;rw [hg p hp];simp only [];obtain ⟨V, e, hV, hk⟩ := readS_all A dir hu hg l (setT p.1 p.2 U) (setT_up hU) fun m hm => hl m (List.mem_cons_of_mem _ hm);refine ⟨V, e, hV, fun k => ?_⟩;rw [hk];by_cases h : k ∈ l
   · simp [h]
   · by_cases h2 : k = p.1
     · subst h2;simp only [h, if_false, List.mem_cons, true_or, if_true];rw [getT_set_self, mem_getT hu (show (p.1, p.2) ∈ S from hp)]
     · simp only [h, h2, if_false, List.mem_cons, or_self];rw [getT_set_ne _ (Ne.symm h2)]
end
theorem MInv.new {A : FS} {dir : ByteArray} (L : Live A) (H : Has A dir []) : MInv A ⟨dir, [], [], []⟩ [] :=
 ⟨L, H, List.Pairwise.nil, List.Pairwise.nil, by simp, by simp, by unfold pairsE pairsB; rw [List.map_nil, List.length_append, List.length_nil, numB_small (by decide)]; decide, .inl ⟨rfl, rfl⟩, by simp⟩
end AF
end Go.Proofs.YtibdiikcigokjaaGreatDoor
