/- Two logs of one file system; MetaFolds. -/
import Derived.Test.YticjjdhaikbdaaaGreatMkMtK
import Derived.Test.YticjjdhaikbdaaaGreatMkMlX
import Derived.Deep.Slices
import Derived.ChangeSlices
import Derived.ChangeArms
import Derived.WideShapes
import Derived.ProofKit
import Derived.OpenShut
import Derived.ChangeOld
namespace Go.Proofs.YticjjdhaikbdaaaGreat
open Go Go.RowKit Go.MapKept
set_option linter.unusedVariables false
set_option linter.unusedSimpArgs false
open AF (Meta copyT topT nmI Ent IdOk MInv Live Has Upd Dirc)
open Hex (digs)

namespace AF
theorem MInv.other {A A' : FS} {M : Meta} {T T' : Dirc} {n k s : Nat} {dir : ByteArray} (I : MInv A M T) (u : Upd n k s A A' dir T') (h : M.dir ≠ dir) : MInv A' M T :=
  { I with live := u.live, has := u.els _ _ h I.has }
theorem MInv.get_eq {A A' : FS} {M M' : Meta} {T T' : Dirc} (I : MInv A M T) (I' : MInv A' M' T') (h : M'.entries = M.entries) (k : Int) : M'.get k = M.get k := by
  rw [← I.getE, ← I'.getE, h]
theorem MInv.ent_eq {A A' : FS} {M M' : Meta} {T T' : Dirc} (I : MInv A M T) (I' : MInv A' M' T') (h : ∀ k, M'.get k = M.get k) : M'.entries = M.entries :=
  tab_ext2 I'.upE I.upE fun k => by rw [I'.getE, I.getE, h]
theorem wt_two : ∀ {E : Ent}, (∀ p ∈ E, p.2.length = 2) → wt E ≤ 32 * E.length
  | [], _ => Nat.le_refl _
  | p :: E, h => by
    have := wt_two fun q hq => h q (List.mem_cons_of_mem _ hq)
    have hp := h p (List.mem_cons_self ..)
    unfold wt at this ⊢
    rw [List.map_cons, List.sum_cons, List.length_cons]
    omega
end AF
section
variable {F : List HProp} {h : Heap} {b fsb : Nat} {M : Meta} {A : AF.FS} {T : Dirc}
end
def dA : ByteArray := ⟨#[97]⟩
def dB : ByteArray := ⟨#[98]⟩
structure FoldsI (s u t : Nat) (A : AF.FS) (Ma Mb : Meta) (Ta Tb : Dirc) : Prop where
  ia : MInv A Ma Ta
  ib : MInv A Mb Tb
  da : Ma.dir = dA
  db : Mb.dir = dB
  same : ∀ k, Ma.get k = Mb.get k
  vals : ∀ k x, Mb.get k = some x → ∃ n : Nat, n < 32 ∧ k = (n : Int) ∧ x = [n, n]
  sa : Ma.S.length ≤ s
  sb : Mb.S.length ≤ s
  room : A.room = 16777216
  used : A.used ≤ u
  steps : A.steps ≤ t
theorem FoldsI.wt {s u t : Nat} {A : AF.FS} {Ma Mb : Meta} {Ta Tb : Dirc} (J : FoldsI s u t A Ma Mb Ta Tb) : AF.wt Ma.entries ≤ 1024 := by
  have hv : ∀ p ∈ Ma.entries, ∃ n : Nat, n < 32 ∧ p.1 = (n : Int) ∧ p.2 = [n, n] := fun p hp => by
    have h1 := mem_getT (k := p.1) (x := p.2) J.ia.upE hp
    rw [J.ia.getE, J.same] at h1
    exact J.vals _ _ h1
  have h1 := AF.wt_two (E := Ma.entries) fun p hp => by
    obtain ⟨n, _, _, e⟩ := hv p hp
    rw [e]; rfl
  have h2 := AF.nodup_len (l := Ma.entries.map (·.1)) (m := (List.range 32).map fun n : Nat => (n : Int)) J.ia.upE.nodup fun k hk => by
    obtain ⟨p, hp, rfl⟩ := List.mem_map.1 hk
    obtain ⟨n, hn, e, _⟩ := hv p hp
    exact List.mem_map.2 ⟨n, List.mem_range.2 hn, e.symm⟩
  rw [List.length_map, List.length_map, List.length_range] at h2
  omega
theorem FoldsI.ent {s u t : Nat} {A : AF.FS} {Ma Mb : Meta} {Ta Tb : Dirc} (J : FoldsI s u t A Ma Mb Ta Tb) : Ma.entries = Mb.entries := AF.MInv.ent_eq J.ib J.ia J.same
end Go.Proofs.YticjjdhaikbdaaaGreat

/- MetaFolds. -/
namespace Go.Proofs.YticjjdhaikbdaaaGreat
open Go Go.RowKit Go.MapKept
set_option linter.unusedVariables false
set_option linter.unusedSimpArgs false
open AF (Meta copyT topT nmI Ent IdOk MInv Live Has Upd Dirc)
open Hex (digs)

theorem dAB : dA ≠ dB := by decide
section
variable {s u t n : Nat} {A A' : AF.FS} {Ma Mb M' : Meta} {Ta Tb T' : Dirc}
theorem FoldsI.start {A : AF.FS} {Ta Tb : Dirc} (Ia : MInv A ⟨dA, [], [], []⟩ Ta) (Ib : MInv A ⟨dB, [], [], []⟩ Tb) (hr : A.room = 16777216) (hu : A.used ≤ u) (hs : A.steps ≤ t) : FoldsI 0 u t A ⟨dA, [], [], []⟩ ⟨dB, [], [], []⟩ Ta Tb :=
  ⟨Ia, Ib, rfl, rfl, fun k => rfl, (fun k x h => by cases h), Nat.le_refl _, Nat.le_refl _, hr, hu, hs⟩
theorem FoldsI.fold {k m : Nat} (J : FoldsI s u t A Ma Mb Ta Tb) (I' : MInv A' M' T') (hd : M'.dir = Ma.dir) (he : M'.entries = Ma.entries) (hl : M'.S.length ≤ Ma.S.length) (up : Upd 0 k m A A' Ma.dir T') : FoldsI s (u + k) (t + m) A' M' Mb T' Tb :=
  ⟨I', J.ib.other up (by rw [J.da, J.db]; exact Ne.symm dAB), by rw [hd, J.da], J.db, fun k => by rw [J.ia.get_eq I' he, J.same], J.vals, Nat.le_trans hl J.sa, J.sb, by rw [up.room, J.room], Nat.le_trans up.used (Nat.add_le_add_right J.used _), Nat.le_trans up.steps (Nat.add_le_add_right J.steps _)⟩
theorem FoldsI.weak {s2 u2 t2 : Nat} (J : FoldsI s u t A Ma Mb Ta Tb) (h1 : s ≤ s2) (h2 : u ≤ u2) (h3 : t ≤ t2) : FoldsI s2 u2 t2 A Ma Mb Ta Tb :=
  ⟨J.ia, J.ib, J.da, J.db, J.same, J.vals, Nat.le_trans J.sa h1, Nat.le_trans J.sb h1, J.room, Nat.le_trans J.used h2, Nat.le_trans J.steps h3⟩
end
end Go.Proofs.YticjjdhaikbdaaaGreat

/- Whole numbers that came in (seat Z). -/
namespace Go.Proofs.YticjjdhaikbdaaaGreat
open Go Go.RowKit Go.ChangeShapes Go.WideShapes Go.ChangeAt
set_option linter.unusedVariables false
set_option linter.unusedSimpArgs false

section
variable {H : Type} {enc : TypeId × Value → H} {P : Program} {w : World} {base : Nat} {spare : Nat → Bool} {held : Bool}
theorem nums_open {k : IntKind} {r : Reach} {b0 : Nat} {t e : TypeId} {v : Value} {d : DataW H} {p : List MemPlace}
    (ht : P.underlying t = some (.slice e)) (he : P.underlying e = some (.int k)) (hc : P.cellsOf e = 1) (hv : Value.okWide P w r b0 t v) (h : DataW.Trod enc P w base spare held t v d p) :
    ∃ (a : Option Addr) (l c : Nat) (zs : List Int), v = .slice a l c ∧ zs.length = l ∧ RdC w.heap a (zs.map (Value.int k)) ∧ ∀ z ∈ zs, (Lit.int k z).wf = true := by
  obtain ⟨a, l, c, rfl⟩ := okWide_slice ht hv
  obtain ⟨fuel, hf⟩ := h
  rcases open_ints ht he hc hf with ⟨hcs, _⟩ | ⟨a', len, cap, zs, hcs, _, hl, hm, hz, _, hcell, hwf⟩
  · simp [Value.cells] at hcs
    obtain ⟨rfl, rfl, rfl⟩ := hcs
    exact ⟨none, 0, 0, [], rfl, rfl, rfl, fun z hz => by cases hz⟩
  · simp [Value.cells] at hcs
    obtain ⟨rfl, rfl, rfl⟩ := hcs
    have hzl : l ≤ zs.length := by
      rw [hz]
      split <;> omega
    refine ⟨some a', l, c, zs.take l, rfl, by rw [List.length_take]; omega, ?_, fun z hz => hwf z (List.mem_of_mem_take hz)⟩
    intro j v hv
    rw [List.getElem?_map, List.getElem?_take] at hv
    split at hv
    · rename_i hj
      have h2 := hcell j (by omega)
      rw [List.getElem?_eq_getElem (by omega)] at hv
      simp only [Option.map_some, Option.some.injEq] at hv
      rw [cell_world, List.getD_eq_getElem?_getD, List.getElem?_eq_getElem (by omega)] at h2
      rw [h2, ← hv]
      rfl
    · cases hv
theorem nums_openC {k : IntKind} {r : Reach} {b0 : Nat} {t e : TypeId} {v : Value} {d : DataW H} {p : List MemPlace}
    (ht : P.underlying t = some (.slice e)) (he : P.underlying e = some (.int k)) (hc : P.cellsOf e = 1) (hv : Value.okWide P w r b0 t v) (h : DataW.Trod enc P w base spare held t v d p) :
    ∃ (a : Option Addr) (l c : Nat) (zs : List Int), v = .slice a l c ∧ zs.length = l ∧ RdC w.heap a (zs.map (Value.int k)) ∧ l ≤ c := by
  obtain ⟨a, l, c, rfl⟩ := okWide_slice ht hv
  obtain ⟨fuel, hf⟩ := h
  rcases open_ints ht he hc hf with ⟨hcs, _⟩ | ⟨a', len, cap, zs, hcs, _, hl, hm, hz, _, hcell, hwf⟩
  · simp [Value.cells] at hcs
    obtain ⟨rfl, rfl, rfl⟩ := hcs
    exact ⟨none, 0, 0, [], rfl, rfl, rfl, Nat.le_refl _⟩
  · simp [Value.cells] at hcs
    obtain ⟨rfl, rfl, rfl⟩ := hcs
    have hzl : l ≤ zs.length := by
      rw [hz]
      split <;> omega
    refine ⟨some a', l, c, zs.take l, rfl, by rw [List.length_take]; omega, ?_, hl⟩
    intro j v hv
    rw [List.getElem?_map, List.getElem?_take] at hv
    split at hv
    · rename_i hj
      have h2 := hcell j (by omega)
      rw [List.getElem?_eq_getElem (by omega)] at hv
      simp only [Option.map_some, Option.some.injEq] at hv
      rw [cell_world, List.getD_eq_getElem?_getD, List.getElem?_eq_getElem (by omega)] at h2
      rw [h2, ← hv]
      rfl
    · cases hv
end

theorem nats_of : ∀ {zs : List Int}, (∀ z ∈ zs, (Lit.int .u8 z).wf = true) → ∃ cs : List Nat, zs.map (Value.int .u8) = cs.map nv ∧ cs.length = zs.length
  | [], _ => ⟨[], rfl, rfl⟩
  | z :: zs, h => by
    obtain ⟨cs, e, l⟩ := nats_of fun y hy => h y (List.mem_cons_of_mem _ hy)
    obtain ⟨n, rfl, _⟩ := wf_nat8 (h z (List.mem_cons_self ..))
    exact ⟨n :: cs, by rw [List.map_cons, List.map_cons, e]; rfl, by rw [List.length_cons, List.length_cons, l]⟩
end Go.Proofs.YticjjdhaikbdaaaGreat
