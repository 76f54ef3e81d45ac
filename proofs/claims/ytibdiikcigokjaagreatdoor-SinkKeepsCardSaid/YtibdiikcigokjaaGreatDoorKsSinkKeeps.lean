/- Wherever the power goes within adds and folds of a sink, and whatever the crash keeps, what was added is there as it was, perhaps the new batch, wholly, and no data file of another one: SinkKeeps hands back true. -/
import Derived.Test.YtibdiikcigokjaaGreatDoorRows
import Derived.WalkKit
import Derived.ProofKit
import Derived.OpenShut
import Derived.ShutString
import Derived.ChangeOld
import Derived.Below
import Derived.Handed
import Derived.LaidLaws
import Derived.LaidHandle
import Derived.LaidMore
import Derived.Lay
import Derived.SevenTiedAt
import Derived.Test.YtibdiikcigokjaaGreatDoorCards
import Derived.Test.YtibdiikcigokjaaGreatDoorTie
import Derived.SizedLaws
import Derived.Test.YtibdiikcigokjaaGreatDoorKsVgX
namespace Go.Proofs.YtibdiikcigokjaaGreatDoor.sinkKeeps
open Go.ChangeShapes Go.WideShapes Go.ChangeAt Go.RowKit
set_option linter.unusedVariables false
theorem own : ownKnob Tryz.prog.godebug = none := by kernel_rfl
theorem laidOut : laidOutB Tryz.prog = true := by kernel_rfl
theorem door_met (os : Os) (args : Array Value) : laidMetH Tryz.prog Rows.sinkKeepsRow.laid ((World.laidAll Tryz.prog os Rows.sinkKeepsRow.laid).forCall (fun _ _ => 0) ⟨#[], args, []⟩).memory :=
 laidMetH_plain (by kernel_rfl) (laidMet_laidAll args (by kernel_rfl) (by kernel_rfl))
set_option maxRecDepth 100000 in
theorem lifted (os : Os) (started : os.Started) (H : Type) (enc : TypeId × Value → H) :
  ReturnsInHanded {} Tryz.checked os 5 .any (fun w args => (Rows.sinkKeepsSpec.pre enc Tryz.prog Tryz.f5 [] false w args ∧ laidMetH Tryz.prog Rows.sinkKeepsRow.laid w) ∧ sizedMet enc Tryz.prog Tryz.f5 (OpenSpec.ofChange Rows.sinkKeepsSpec) false w args) (Rows.sinkKeepsSpec.post enc Tryz.prog Tryz.f5 false true false false) := by
 refine handed_listed_shaped (C := Tryz.checked) (X := fun w _ => laidMetH Tryz.prog Rows.sinkKeepsRow.laid w) (fun _ _ _ hh h => h.of_heap hh) own started (by kernel_rfl) Tryz.func5
  (ChangeSpec.witness_shaped (enc := enc) (C := Tryz.checked) (os := os) (X := fun w _ => laidMetH Tryz.prog Rows.sinkKeepsRow.laid w) false (World.laidAll Tryz.prog os Rows.sinkKeepsRow.laid) #[.slice none 0 0, .int .u8 0, .int .u16 0, .int .u8 0, .slice none 0 0] 8 (World.laidAll_os _ _ _) (World.shaped_of_ZipB (by kernel_rfl) (by kernel_rfl)) (by kernel_rfl) (by kernel_rfl) (by kernel_rfl) (door_met os _)) ?_
 intro W base args ds gs before hval0 hW hcnd hsz hlaid hshape
 have hval : ∀ (j : Nat) t v, Tryz.f5.params[j]? = some t → args[j]? = some v → Value.okWide Tryz.prog W .any base t v := hval0
 have hW' := hW
 obtain ⟨p, q, hA0, hV, rfl, hfz, hnd⟩ := hW
 have hA : DataW.TrodAll enc Tryz.prog W 0 (fun _ => true) true Tryz.f5.params.toList args.toList ds p := hA0
 rw [Tryz.params5] at hA hval
 obtain ⟨v0, vs0, d0, ds0, p0, q0, hargs, rfl, rfl, t0, r0⟩ := trodAll_cons hA
 obtain ⟨v1, vs1, d1, ds1, p1, q1, rfl, rfl, rfl, t1, r1⟩ := trodAll_cons r0
 obtain ⟨v2, vs2, d2, ds2, p2, q2, rfl, rfl, rfl, t2, r2⟩ := trodAll_cons r1
 obtain ⟨v3, vs3, d3, ds3, p3, q3, rfl, rfl, rfl, t3, r3⟩ := trodAll_cons r2
 obtain ⟨v4, vs4, d4, ds4, p4, q4, rfl, rfl, rfl, t4, r4⟩ := trodAll_cons r3
 obtain ⟨rfl, rfl, rfl⟩ := trodAll_nil r4
 obtain rfl : args = #[v0, v1, v2, v3, v4] := by cases args; simp_all
 obtain ⟨rfl, rfl⟩ := trodVars_none hV
 have lt0 : ∀ x ∈ p0, x.block < W.heap.size := by obtain ⟨m, hm⟩ := t0; exact DataW.trod_lt m _ _ _ hm
 have o0 := hval 0 37 v0 rfl rfl
 have lt1 : ∀ x ∈ p1, x.block < W.heap.size := by obtain ⟨m, hm⟩ := t1; exact DataW.trod_lt m _ _ _ hm
 have o1 := hval 1 5 v1 rfl rfl
 have lt2 : ∀ x ∈ p2, x.block < W.heap.size := by obtain ⟨m, hm⟩ := t2; exact DataW.trod_lt m _ _ _ hm
 have o2 := hval 2 38 v2 rfl rfl
 have lt3 : ∀ x ∈ p3, x.block < W.heap.size := by obtain ⟨m, hm⟩ := t3; exact DataW.trod_lt m _ _ _ hm
 have o3 := hval 3 5 v3 rfl rfl
 have lt4 : ∀ x ∈ p4, x.block < W.heap.size := by obtain ⟨m, hm⟩ := t4; exact DataW.trod_lt m _ _ _ hm
 have o4 := hval 4 51 v4 rfl rfl
 clear hA0 hval0
 have done : Calls Tryz.prog 5 #[v0, v1, v2, v3, v4] W fun e W' => e = .returned (.bool true) ∧ Below W.heap.size W W' := by
  obtain ⟨a, l, c, bss, us, rfl, R⟩ := rowss_open Tryz.underlying37 Tryz.underlying24 Tryz.underlying81 (by kernel_rfl) (by kernel_rfl) (by kernel_rfl) (by kernel_rfl) o0 t0;obtain ⟨s1, rfl, _, _, w1⟩ := open_int Tryz.underlying5 o1 t1;obtain ⟨s2, rfl, _, _, w2⟩ := open_int Tryz.underlying38 o2 t2;obtain ⟨s3, rfl, _, _, w3⟩ := open_int Tryz.underlying5 o3 t3;obtain ⟨b, k, e, ps, rfl, hk, hz, hc2⟩ := nums_openC Tryz.underlying51 Tryz.underlying3 (by kernel_rfl) o4 t4;obtain ⟨m1, rfl, hm1⟩ := wf_nat8 w1;obtain ⟨m3, rfl, hm3⟩ := wf_nat8 w3;obtain ⟨m, hm⟩ := maxLen_there hshape;exact law_of (SinkKeeps_law hm R hm1 hm3 hz hk hc2)
 refine done.mono fun e W' ⟨he, bel⟩ => ?_
 subst he
 exact ⟨_, rfl, _, _, _, [], _, [], hW', trodAll_mk1 (shut_bool Tryz.underlying4 _), (trodAll_cons_mk (Below.trod laidOut (by kernel_rfl) (of_decide_eq_true (by kernel_rfl)) t0 bel lt0) (trodAll_cons_mk (Below.trod laidOut (by kernel_rfl) (of_decide_eq_true (by kernel_rfl)) t1 bel lt1) (trodAll_cons_mk (Below.trod laidOut (by kernel_rfl) (of_decide_eq_true (by kernel_rfl)) t2 bel lt2) (trodAll_cons_mk (Below.trod laidOut (by kernel_rfl) (of_decide_eq_true (by kernel_rfl)) t3 bel lt3) (trodAll_cons_mk (Below.trod laidOut (by kernel_rfl) (of_decide_eq_true (by kernel_rfl)) t4 bel lt4) trodAll_mk0))))), rfl, bel.frame _, fun h => by cases h⟩
theorem over : Rows.sinkKeepsRow.holds Tryz.pinned (OpenSpec.ofChange Rows.sinkKeepsSpec) :=
 OpenClaim.holds_of_wide 5 Tryz.f5 rfl rfl rfl rfl rfl rfl rfl ⟨rfl, rfl, rfl, rfl, rfl⟩ rfl rfl rfl rfl rfl (by kernel_rfl) Tryz.func5 (by kernel_rfl)
  (of_decide_eq_true (by kernel_rfl)) (by unfold Func.isWrapper; first | (rw [if_pos (by decide +kernel)]; kernel_rfl) | (rw [if_neg (by decide +kernel)]; exact ⟨rfl, rfl⟩))
  (fun os started H enc _ => lifted os started H enc)
theorem proved : Rows.SinkKeepsCardSaid :=
 Claim7.holds_tied_plain_at .later [] [.data, .pinned] true (true, "f3436322d36b7540879d22533ab8189433e123248d5299c33e85c30fd5955c7f") true over (fun _ h => by cases h) (by kernel_rfl) (fun _ h => by cases h) sinkKeeps_row_tie rfl ⟨rfl, rfl⟩ (by kernel_rfl) rfl
  (fun f fn hf hfn => by
   obtain rfl : f = 5 := Option.some.inj ((show Tryz.prog.funcNamed Rows.sinkKeepsRow.func = some 5 by kernel_rfl).symm.trans hf) |>.symm
   obtain rfl : fn = Tryz.f5 := (Option.some.inj (Tryz.func5.symm.trans hfn)).symm;exact ⟨by kernel_rfl, fun j t ht => by
    have hall : (Tryz.f5.params.toList.all fun t => !Tryz.prog.wantsStandIn t) = true := by kernel_rfl
    have := List.all_eq_true.1 hall t (Array.mem_toList_iff.2 (Array.mem_of_getElem? ht));exact (by simpa using this : Tryz.prog.wantsStandIn t = false)⟩)
  (by kernel_rfl)
#print axioms proved
end Go.Proofs.YtibdiikcigokjaaGreatDoor.sinkKeeps
