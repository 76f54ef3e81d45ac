/- The chapter's example (seat T). -/
import Derived.Test.YtfpdejkcjijmmaaQiTb6I
namespace Go.Proofs.Ytfpdejkcjijmmaa.TI
open Go Go.RowKit
open Tb (T get set del Up Has)
open AF (ltB strLt_irrefl strLt_trans strLt_total)
set_option linter.unusedVariables false
set_option linter.unusedSimpArgs false

abbrev kA : ByteArray := ⟨#[97]⟩
abbrev kB : ByteArray := ⟨#[98]⟩
theorem get_cons {V : Type} (p : ByteArray × V) (l : T V) (k : ByteArray) : get (p :: l) k = if p.1 = k then some p.2 else get l k := by
  unfold Tb.get
  rw [List.find?_cons]
  by_cases e : p.1 = k
  · simp [e]
  · simp [e]
theorem exA : ofL [(kA, 1), (kB, 2)] = [(kA, 1), (kB, 2)] := by decide
theorem exB : ofL [(kB, 3)] = [(kB, 3)] := by decide
theorem exD : Diffs [(kA, 1), (kB, 2)] [(kB, 3)] [(kA, 0, true), (kB, 3, false)] := by
  refine ⟨?_, fun k => ?_⟩
  · refine List.pairwise_cons.2 ⟨fun q hq => ?_, List.pairwise_singleton _ _⟩
    rw [List.mem_singleton] at hq
    subst hq
    decide
  · unfold dget
    rw [get_cons, get_cons, get_cons, get_cons, get_cons]
    by_cases ea : kA = k
    · have eb : ¬ kB = k := by rw [← ea]; decide
      simp [ea, eb, Tb.get]
    · by_cases eb : kB = k
      · simp [ea, eb]
      · simp [ea, eb, Tb.get]
theorem Diffs.uniq {a b : T VT} {d e : List Ch} (D : Diffs a b d) (E : Diffs a b e) : d = e := Tb.Up.ext D.up E.up fun k => by rw [D.at_, E.at_]
theorem F8_spec {h : Heap} {F : List HProp} (H : sat F h) : CallsH Try.prog 8 [] h fun v h' => v = .bool true ∧ sat F h' := by
  apply F8_ok
  unfold F8
  refine Al_sat H fun b0 h1 H1 => ?_
  refine (F33_spec (es := [(kA, 1), (kB, 2)]) (fun h' H' => RdCf H' rfl) rfl (by decide) H1).mono ?_
  rintro v h2 ⟨a, rfl, H2⟩
  show DP (.pointer (some ⟨a, 0, none⟩)) _
  rw [DP_pointer]
  refine Al_sat H2 fun b1 h3 H3 => ?_
  refine (F33_spec (es := [(kB, 3)]) (fun h' H' => RdCf H' rfl) rfl (by decide) H3).mono ?_
  rintro v h4 ⟨b, rfl, H4⟩
  show DP (.pointer (some ⟨b, 0, none⟩)) _
  rw [DP_pointer]
  rw [exA, exB] at *
  -- tabB, b1, tabA, b0, F
  have H5 := tabZ_some ((tabZ_some H4).mv 2)
  refine (F34_spec (by decide) (by decide) (H5.mv 0)).mono ?_
  rintro v h5 ⟨sa, n, c, d, rfl, hn, D, H6⟩
  rw [DSl_slice]
  have ed := D.uniq exD
  subst ed
  have hn2 : n = 2 := hn.symm
  subst hn2
  rw [show (((2 : Nat) : Int) == 2) = true from rfl, cond_true]
  have hr : RdC h5 sa (([(kA, 0, true), (kB, 3, false)] : List Ch).flatMap chC) := ownS_read H6
  refine IdxC (i := 0) (f := chC) (fun _ => rfl) (by decide) hr rfl rfl fun _ _ hc => ⟨_, hc 0 _ rfl, ?_⟩
  show DS (.string kA) _
  rw [DS_string, show strEq kA ⟨#[97]⟩ = true from by rw [strEq_dec]; decide, cond_true]
  refine IdxC (i := 0) (f := chC) (fun _ => rfl) (by decide) hr rfl rfl fun _ _ hc => ⟨_, hc 2 _ rfl, ?_⟩
  show DB (.bool true) _
  rw [DB_bool, cond_true]
  refine IdxC (i := 1) (f := chC) (fun _ => rfl) (by decide) hr rfl rfl fun _ _ hc => ⟨_, hc 0 _ rfl, ?_⟩
  show DS (.string kB) _
  rw [DS_string, show strEq kB ⟨#[98]⟩ = true from by rw [strEq_dec]; decide, cond_true]
  refine IdxC (i := 1) (f := chC) (fun _ => rfl) (by decide) hr rfl rfl fun _ _ hc => ⟨_, hc 1 _ rfl, ?_⟩
  show DI .i64 (.int .i64 3) _
  rw [DI_int, show ((3 : Int) == 3) = true from rfl, cond_true]
  refine IdxC (i := 1) (f := chC) (fun _ => rfl) (by decide) hr rfl rfl fun _ _ hc => ⟨_, hc 2 _ rfl, ?_⟩
  show DB (.bool false) _
  rw [DB_bool]
  exact ⟨rfl, H6.drop.drop.drop.drop.drop⟩

end Go.Proofs.Ytfpdejkcjijmmaa.TI
