/- Tables or none; what changed, as the program finds it (seat T). -/
import Derived.Test.YtfpdejkcjijmmaaQiTb4
namespace Go.Proofs.Ytfpdejkcjijmmaa.TS
open Go Go.RowKit
open Tb (T get set del Up Has)
open AF (ltB strLt_irrefl strLt_trans strLt_total)
set_option linter.unusedVariables false
set_option linter.unusedSimpArgs false

/-- A table, or none. -/
def tabZ (p : Option Addr) (l : T VT) : HProp := fun r => (p = none ∧ l = [] ∧ emp r) ∨ ∃ b, p = some ⟨b, 0, none⟩ ∧ tabP b l r
section
variable {p : Option Addr} {l : T VT} {F : List HProp} {h : Heap}
theorem tabZ_cases (H : sat (tabZ p l :: F) h) : (p = none ∧ l = [] ∧ sat F h) ∨ ∃ b, p = some ⟨b, 0, none⟩ ∧ sat (tabP b l :: F) h := by
  obtain ⟨r, ⟨r1, r2, hd, rfl, h1, h2⟩, hs⟩ := H
  rcases h1 with ⟨hp, hl, he⟩ | ⟨b, hp, ht⟩
  · exact .inl ⟨hp, hl, r2, h2, fun b x hx => hs b x (union_right hd hx)⟩
  · exact .inr ⟨b, hp, _, ⟨r1, r2, hd, rfl, ht, h2⟩, hs⟩
theorem tabZ_some {b : Nat} (H : sat (tabP b l :: F) h) : sat (tabZ (some ⟨b, 0, none⟩) l :: F) h := H.imp fun r hr => .inr ⟨b, rfl, hr⟩
theorem tabZ_some' {b : Nat} (H : sat (tabZ (some ⟨b, 0, none⟩) l :: F) h) : sat (tabP b l :: F) h := by
  rcases tabZ_cases H with ⟨h1, _⟩ | ⟨b', h1, H1⟩
  · cases h1
  · cases h1
    exact H1
theorem tabZ_up (H : sat (tabZ p l :: F) h) : Up l := by
  rcases tabZ_cases H with ⟨_, rfl, _⟩ | ⟨b, _, H1⟩
  · exact Up.nil
  · obtain ⟨q, hq, _⟩ := tab_open H1
    exact hq.has.2
end
/-- Changes in a cell of their own. -/
def chS (b : Nat) (xs : List Ch) : HProp := exi fun q : Option Addr × Nat × Nat => Many [pur (xs.length = q.2.1), pt b (.cells #[.slice q.1 q.2.1 q.2.2] 48 (0, 0)), ownS 54 3 q.1 q.2.1 q.2.2 (xs.flatMap chC)]
section
variable {b : Nat} {xs : List Ch} {F : List HProp} {h : Heap}
theorem ch_open (H : sat (chS b xs :: F) h) : ∃ a n c, xs.length = n ∧ sat (pt b (.cells #[.slice a n c] 48 (0, 0)) :: ownS 54 3 a n c (xs.flatMap chC) :: F) h := by
  obtain ⟨q, H1⟩ := sat_exi.1 H
  obtain ⟨h1, H2⟩ := sat_pur.1 H1.open
  exact ⟨q.1, q.2.1, q.2.2, h1, H2⟩
theorem ch_shut {a : Option Addr} {n c : Nat} (hn : xs.length = n) (H : sat (pt b (.cells #[.slice a n c] 48 (0, 0)) :: ownS 54 3 a n c (xs.flatMap chC) :: F) h) : sat (chS b xs :: F) h :=
  sat_exi.2 ⟨(a, n, c), sat.shut (m := [pur (xs.length = n), pt b (.cells #[.slice a n c] 48 (0, 0)), ownS 54 3 a n c (xs.flatMap chC)]) (sat_pur.2 ⟨hn, H⟩)⟩
theorem ch_push {x : Ch} {K : Heap → Prop} (hb : xs.length < 2199023255552) (H : sat (chS b xs :: F) h) (hK : ∀ h', sat (chS b (xs ++ [x]) :: F) h' → K h') :
    Ld h (Addr.mk b 0 none) fun v => DSl v fun a l c => Al h (.cells #[.string x.1, ve x.2.1, .bool x.2.2] 54) fun b4 h6 =>
      RunH Try.prog (Builtin.append_ #[48, 48] 48 #[.slice a l c, .slice (some (Addr.mk b4 0 none)) 1 1]) h6 fun r h7 => DSl r fun a l c => StC h7 ((Addr.mk b 0 none).add 0) (.slice a l c) K := by
  obtain ⟨a, n, c, hn, H1⟩ := ch_open H
  refine LdV (v := .slice a n c) H1.get rfl ?_
  rw [DSl_slice]
  refine pushEl (f := chC) (sz := 3) (by_ := chB) (x := x) (by kernel_rfl) (by kernel_rfl) (by kernel_rfl) (fun _ => rfl) (fun v hv => ?_) rfl hn (by simp only [chB]; omega) (H1.mv 1) fun a' c' h' H2 => ?_
  · simp only [List.mem_cons, List.not_mem_nil, or_false] at hv
    rcases hv with rfl | rfl | rfl <;> rfl
  · refine StCC (b := b) (i := 0) (H2.mv 1) (show (0 : Nat) < 1 by decide) rfl fun h4 H4 => hK h4 ?_
    exact ch_shut (by rw [List.length_append, hn]; rfl) H4
end
theorem raw1_step {a b : T VT} {i : Nat} {p : ByteArray × VT} (hp : b[i]? = some p) : raw1 a (b.take (i + 1)) = raw1 a (b.take i) ++ if get a p.1 = some p.2 then [] else [(p.1, p.2, false)] := by
  unfold raw1
  rw [List.take_add_one, hp]
  by_cases e : get a p.1 = some p.2
  · simp [e]
  · simp [e]
theorem raw2_step {a b : T VT} {i : Nat} {p : ByteArray × VT} (hp : a[i]? = some p) : raw2 (a.take (i + 1)) b = raw2 (a.take i) b ++ if (get b p.1).isNone = true then [(p.1, vz, true)] else [] := by
  unfold raw2
  rw [List.take_add_one, hp]
  cases e : get b p.1 with
  | none => simp [e]
  | some v => simp [e]
theorem raw1_len (a b : T VT) (i : Nat) : (raw1 a (b.take i)).length ≤ b.length := by
  unfold raw1
  rw [List.length_map]
  exact Nat.le_trans (List.length_filter_le _ _) (by rw [List.length_take]; omega)
theorem raw2_len (a b : T VT) (i : Nat) : (raw2 (a.take i) b).length ≤ a.length := by
  unfold raw2
  rw [List.length_map]
  exact Nat.le_trans (List.length_filter_le _ _) (by rw [List.length_take]; omega)
theorem vne (x y : VT) : (!strEq x y) = !decide (x = y) := by rw [strEq_dec]
end Go.Proofs.Ytfpdejkcjijmmaa.TS
