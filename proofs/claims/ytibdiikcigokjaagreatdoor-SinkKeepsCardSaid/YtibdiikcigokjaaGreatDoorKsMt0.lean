/- A log of entries by numbers, plain: what the calls do to the file system and to the log. -/
import Derived.Test.YtibdiikcigokjaaGreatDoorKsLv2
import Derived.Test.YtibdiikcigokjaaGreatDoorKsMt1
namespace Go.Proofs.YtibdiikcigokjaaGreatDoor
open Go Go.RowKit
set_option linter.unusedVariables false
set_option linter.unusedSimpArgs false
def numB (n : Nat) : List Nat := if h : n < 128 then [n] else (n % 128 + 128) :: numB (n / 128)
termination_by n
decreasing_by exact Nat.div_lt_self (by omega) (by decide)
def wordB (s : List Nat) : List Nat := numB s.length ++ s
def pairB (p : List Nat × List Nat) : List Nat := wordB p.1 ++ wordB p.2
def pairsB (l : List (List Nat × List Nat)) : List Nat := numB l.length ++ l.flatMap pairB
theorem numB_small {n : Nat} (h : n < 128) : numB n = [n] := by rw [numB, dif_pos h]
theorem numB_big {n : Nat} (h : ¬ n < 128) : numB n = (n % 128 + 128) :: numB (n / 128) := by rw [numB, dif_neg h]
theorem numB_B8 : ∀ n : Nat, B8 (numB n) := by
 intro n
 induction n using Nat.strongRecOn with
 | ind n ih =>
   by_cases h : n < 128
   · rw [numB_small h];intro x hx;simp at hx;omega
   · rw [numB_big h];intro x hx
     rcases List.mem_cons.1 hx with rfl | hx
     · omega
     · exact ih _ (Nat.div_lt_self (by omega) (by decide)) x hx
theorem numB_length : ∀ (k n : Nat), n < 128 ^ (k + 1) → (numB n).length ≤ k + 1
 | 0, n, h => by rw [numB_small (by omega)]; exact Nat.le_refl _
 | k + 1, n, h => by
   by_cases h1 : n < 128
   · rw [numB_small h1]; simp
   · rw [numB_big h1, List.length_cons];have := numB_length k (n / 128) (by rw [Nat.div_lt_iff_lt_mul (by decide)]; rw [Nat.pow_succ] at h; exact h);omega
theorem app_B8 {a b : List Nat} (ha : B8 a) (hb : B8 b) : B8 (a ++ b) := fun x hx => (List.mem_append.1 hx).elim (ha x) (hb x)
theorem wordB_B8 {s : List Nat} (h : B8 s) : B8 (wordB s) := app_B8 (numB_B8 _) h
theorem pairsB_B8 {l : List (List Nat × List Nat)} (h : ∀ p ∈ l, B8 p.1 ∧ B8 p.2) : B8 (pairsB l) := by
 refine app_B8 (numB_B8 _) fun x hx => ?_
 obtain ⟨p, hp, hx⟩ := List.mem_flatMap.1 hx
 exact app_B8 (wordB_B8 (h p hp).1) (wordB_B8 (h p hp).2) x hx
namespace AF
open Hex (digs)
open Fnm (nm)
abbrev Ent := List (Int × List Nat)
structure Meta where
 dir : ByteArray
 S : Ent
 Fo : List (Int × Unit)
 D : Ent
def hexN (n : Int) : ByteArray := ofN (digs 16 (natOf n))
def nmI (c : Nat) (n : Int) : ByteArray := nm c (natOf n)
def copyT {α : Type} (T : List (Int × α)) (D : List (Int × α)) : List (Int × α) := D.foldl (fun T p => setT p.1 p.2 T) T
def topT {α : Type} (T : List (Int × α)) : Int := (T.map (·.1)).foldl max (-1)
def Meta.entries (M : Meta) : Ent := copyT M.S M.D
def Meta.get (M : Meta) (id : Int) : Option (List Nat) := match getT M.D id with
 | some b => some b
 | none => getT M.S id
def Meta.put (M : Meta) (A : FS) (id : Int) (b : List Nat) : FS × Meta × Nat :=
 if id < 0 ∨ 1099511627776 < id then (A, M, 2) else match M.get id with
 | some was => (A, M, if was = b then 0 else 90)
 | none => if (A.put M.dir (nmI 98 id) b).2 = 0 then ((A.put M.dir (nmI 98 id) b).1, { M with S := setT id b M.S }, 0) else ((A.put M.dir (nmI 98 id) b).1, M, (A.put M.dir (nmI 98 id) b).2)
def goG {α : Type} (dir : ByteArray) (c : Nat) (p : Int → Bool) : List Int → FS → List (Int × α) → Bool → FS × List (Int × α) × Bool × Nat
 | [], A, T, s => (A, T, s, 0)
 | n :: l, A, T, s => if p n then (if (A.remove dir (nmI c n)).2 = 0 then goG dir c p l (A.remove dir (nmI c n)).1 (delT n T) true else ((A.remove dir (nmI c n)).1, T, s, (A.remove dir (nmI c n)).2)) else goG dir c p l A T s
def Meta.remove (M : Meta) (A : FS) (p : Nat → Int → Bool) : FS × Meta × Nat :=
 let r := goG M.dir 98 (p 98) (M.S.map (·.1)) A M.S false
 if r.2.2.2 ≠ 0 then (r.1, { M with S := r.2.1 }, r.2.2.2) else
 let q := goG M.dir 102 (p 102) (M.Fo.map (·.1)) r.1 M.Fo r.2.2.1
 if q.2.2.2 ≠ 0 then (q.1, { M with S := r.2.1, Fo := q.2.1 }, q.2.2.2) else
 if q.2.2.1 = true then ((q.1.syncDir M.dir).1, { M with S := r.2.1, Fo := q.2.1 }, (q.1.syncDir M.dir).2) else (q.1, { M with S := r.2.1, Fo := q.2.1 }, 0)
def pairsE (l : Ent) : List Nat := pairsB (l.map fun p => (sb (hexN p.1), p.2))
def Meta.fold (M : Meta) (A : FS) (upto : Int) : FS × Meta × Nat :=
 let m := max upto (topT M.Fo)
 let some := M.entries.filter fun p => decide (p.1 ≤ m)
 let last := topT some
 if last < 0 then (A, M, 91) else
 if topT M.Fo = last ∧ M.Fo.length = 1 ∧ ∀ p ∈ M.S, last < p.1 then (A, M, 0) else
 if 16777216 < (pairsE some).length then (A, M, 42) else
 if (A.put M.dir (nmI 102 last) (pairsE some)).2 ≠ 0 then ((A.put M.dir (nmI 102 last) (pairsE some)).1, M, (A.put M.dir (nmI 102 last) (pairsE some)).2) else
 Meta.remove { M with Fo := setT last () M.Fo, D := M.entries.filter fun p => decide (p.1 ≤ last) } (A.put M.dir (nmI 102 last) (pairsE some)).1
  fun c n => if c = 98 then decide (n ≤ last) else decide (n ≠ last)
end AF
end Go.Proofs.YtibdiikcigokjaaGreatDoor
