/- What the two ways to sum bytes compute, in the program: the document's answer and the package's. -/
import Derived.Test.YtpblcdgglbhdoaaFw11
import Derived.Test.YtpblcdgglbhdoaaCr1
import Derived.Test.YtpblcdgglbhdoaaT1
namespace Go.Proofs.Ytpblcdgglbhdoaa
open Go Go.RowKit
set_option linter.unusedVariables false
set_option linter.unusedSimpArgs false
open Crc (T Tn Run More)

theorem nb_lt (bs : List UInt8) : ∀ b ∈ nb bs, b < 256 := fun b h => by
  obtain ⟨u, _, rfl⟩ := List.mem_map.1 h
  exact u.toNat_lt
theorem nb_append (a b : List UInt8) : nb (a ++ b) = nb a ++ nb b := List.map_append
theorem bv_nv (bs : List UInt8) : bs.map bv = (nb bs).map nv := by rw [nb, List.map_map]; rfl
theorem Run_takeN (c : Nat) (ns : List Nat) (i u : Nat) (hi : ns[i]? = some u) : Run c (ns.take (i + 1)) = Tn 8 (Run c (ns.take i) ^^^ u) := by
  have : ns.take (i + 1) = ns.take i ++ [u] := by
    rw [List.take_add_one, hi]
    rfl
  rw [this, Crc.Run_append]
  rfl
theorem Run_take (c : Nat) (bs : List UInt8) (i : Nat) (u : UInt8) (hi : bs[i]? = some u) : Run c (nb (bs.take (i + 1))) = Tn 8 (Run c (nb (bs.take i)) ^^^ u.toNat) := by
  have hlt := (List.getElem?_eq_some_iff.1 hi).1
  have : bs.take (i + 1) = bs.take i ++ [u] := by
    rw [List.take_add_one, hi]
    rfl
  rw [this, nb_append, Crc.Run_append]
  rfl
theorem Tn_succ : ∀ (j c : Nat), Tn (j + 1) c = T (Tn j c)
  | 0, c => rfl
  | j + 1, c => by
    show Tn (j + 1) (T c) = T (Tn j (T c))
    exact Tn_succ j (T c)
theorem step32 {c : Nat} (h : c < 4294967296) :
    bitsI .xor .u32 (shrI .u32 (c : Int) 1) (bitsI .and .u32 2197175160 (IntKind.wrap .u32 (0 - bitsI .and .u32 (c : Int) 1))) = ((T c : Nat) : Int) := by
  have e1 : bitsI .and .u32 (c : Int) 1 = ((c % 2 : Nat) : Int) := by
    have := and32 h (b := 1) (by decide)
    rw [Nat.and_one_is_mod] at this
    exact this
  have e2 : shrI .u32 (c : Int) 1 = ((c / 2 : Nat) : Int) := shrI_nat .u32 c 1 (by decide)
  have hd : c / 2 < 4294967296 := by omega
  rw [e1, e2]
  unfold Crc.T
  by_cases ho : c % 2 = 1
  · rw [ho, if_pos rfl]
    have e3 : IntKind.wrap .u32 (0 - ((1 : Nat) : Int)) = ((4294967295 : Nat) : Int) := by decide
    have e4 : bitsI .and .u32 2197175160 ((4294967295 : Nat) : Int) = ((Crc.poly : Nat) : Int) := by decide
    rw [e3, e4]
    exact xor32 hd (by decide)
  · have h0 : c % 2 = 0 := by omega
    rw [h0, if_neg (by decide)]
    have e3 : IntKind.wrap .u32 (0 - ((0 : Nat) : Int)) = ((0 : Nat) : Int) := by decide
    have e4 : bitsI .and .u32 2197175160 ((0 : Nat) : Int) = ((0 : Nat) : Int) := by decide
    rw [e3, e4]
    exact xor32 hd (by decide)
theorem byte_xor {c : Nat} (h : c < 4294967296) (u : UInt8) : bitsI .xor .u32 (c : Int) (IntKind.wrap .u32 (u.toNat : Int)) = ((c ^^^ u.toNat : Nat) : Int) := by
  have hu := u.toNat_lt
  rw [IntWalk.u32_in _ (by omega)]
  exact xor32 h (by omega)
theorem byte_xorN {c u : Nat} (h : c < 4294967296) (hu : u < 256) : bitsI .xor .u32 (c : Int) (IntKind.wrap .u32 (u : Int)) = ((c ^^^ u : Nat) : Int) := by
  rw [IntWalk.u32_in _ (by omega)]
  exact xor32 h (by omega)
theorem bt_at {b : ByteArray} {i : Nat} {u : UInt8} (hi : b.data.toList[i]? = some u) : bt b (i : Int) = (u.toNat : Int) := by
  unfold bt
  rw [Int.toNat_natCast, hi]
  rfl
theorem bits_loop {c : Nat} (hc : c < 4294967296) {h : Heap} {K : Int → Prop} (hK : K ((Tn 8 c : Nat) : Int)) :
    LoopH (fun (again1 : Int × Int → Heap → Prop) (s1 : Int × Int) h_1 =>
        (bif decide ((s1.2 : Int) < 8) then
          0 ≤ (1 : Int) ∧
          again1 (bitsI .xor .u32 (shrI .u32 s1.1 1) (bitsI .and .u32 2197175160 (IntKind.wrap .u32 (0 - (bitsI .and .u32 s1.1 1)))), IntKind.wrap .i64 (s1.2 + 1)) h_1
        else
          h_1 = h ∧ K s1.1)) ((c : Int), 0) h := by
  refine LoopH.count 8 (fun j => (((Tn j c : Nat) : Int), (j : Int))) (fun s => (8 - s.2).toNat) (fun i hi => by simp) ?_ ?_
  · intro i again hi ha
    rw [decide_eq_true (show ((i : Int) < 8) by omega)]
    refine ⟨by decide, ?_⟩
    rw [step32 (Crc.Tn_lt i hc), wrap64_succ (by omega), ← Tn_succ]
    exact ha
  · intro again
    exact ⟨rfl, hK⟩
theorem LoopH.mono {S : Type} {F G : (S → Heap → Prop) → S → Heap → Prop} {s : S} {h : Heap} (H : LoopH F s h) (hfg : ∀ again s h, F again s h → G again s h) : LoopH G s h :=
  let ⟨I, μ, h0, hs⟩ := H
  ⟨I, μ, h0, fun s h hi => hfg _ _ _ (hs s h hi)⟩

theorem F17_spec {sum : Nat} (hs : sum < 4294967296) {b : ByteArray} (hb : b.size < 9223372036854775807) {h : Heap} :
    CallsH Try.prog 17 [.int .u32 sum, .string b] h fun v h' => v = .int .u32 (More sum (nb b.data.toList) : Nat) ∧ h' = h := by
  apply F17_ok
  unfold F17
  have hx : bitsI .xor .u32 4294967295 (sum : Int) = ((4294967295 ^^^ sum : Nat) : Int) := xor32 (by decide) hs
  have hlt : ∀ i, Run (4294967295 ^^^ sum) (nb (b.data.toList.take i)) < 4294967296 := fun i => Crc.Run_lt _ (Crc.xor_lt (by decide) hs) (nb_lt _)
  have hsz : b.data.toList.length = b.size := rfl
  rw [hx]
  refine LoopH.count b.size (fun i => (((Run (4294967295 ^^^ sum) (nb (b.data.toList.take i)) : Nat) : Int), (i : Int))) (fun s => ((b.size : Int) - s.2).toNat) (fun i hi => by simp) ?_ ?_
  · intro i again hi ha
    rw [decide_eq_true (show ((i : Int) < (b.size : Int)) by omega)]
    refine ⟨by show (0:Int) ≤ (i:Int); omega, by show ((i : Int) < (b.size : Int)); omega, ?_⟩
    obtain ⟨u, hu⟩ : ∃ u, b.data.toList[i]? = some u := ⟨_, List.getElem?_eq_getElem (by rw [hsz]; exact hi)⟩
    simp only [bt_at hu, byte_xor (hlt i) u]
    have hK : again (((Tn 8 (Run (4294967295 ^^^ sum) (nb (b.data.toList.take i)) ^^^ u.toNat) : Nat) : Int), IntKind.wrap .i64 ((i : Int) + 1)) h := by
      rw [wrap64_succ (by omega), ← Run_take _ _ _ _ hu]
      exact ha
    refine (bits_loop (K := fun c => again (c, IntKind.wrap .i64 ((i : Int) + 1)) h) (Crc.xor_lt (hlt i) (by have := u.toNat_lt; omega)) hK).mono ?_
    intro ag s1 h1 H
    cases hd : decide (s1.2 < 8) with
    | true => rw [hd] at H; exact H
    | false => rw [hd] at H; obtain ⟨rfl, H⟩ := H; exact H
  · intro again
    rw [decide_eq_false (show ¬ ((b.size : Int) < (b.size : Int)) by omega)]
    refine ⟨?_, rfl⟩
    show Value.int .u32 (bitsI .xor .u32 4294967295 _) = _
    rw [show (4294967295 : Int) = ((4294967295 : Nat) : Int) from rfl, xor32 (by decide) (hlt _)]
    rw [List.take_of_length_le (Nat.le_of_eq hsz)]
    rfl

theorem F18_spec {sum : Nat} (hs : sum < 4294967296) {ns : List Nat} {a : Option Addr} {l c : Nat} {h : Heap} (hr : RdC h a (ns.map nv)) (hns : ∀ n ∈ ns, n < 256) (hl : ns.length = l) (hb : l < 9223372036854775807) :
    CallsH Try.prog 18 [.int .u32 sum, .slice a l c] h fun v h' => v = .int .u32 (More sum ns : Nat) ∧ h' = h := by
  apply F18_ok
  unfold F18
  have hx : bitsI .xor .u32 4294967295 (sum : Int) = ((4294967295 ^^^ sum : Nat) : Int) := xor32 (by decide) hs
  have hlt : ∀ i, Run (4294967295 ^^^ sum) (ns.take i) < 4294967296 := fun i => Crc.Run_lt _ (Crc.xor_lt (by decide) hs) fun n hn => hns n (List.mem_of_mem_take hn)
  rw [hx]
  refine LoopH.count l (fun i => (((Run (4294967295 ^^^ sum) (ns.take i) : Nat) : Int), (i : Int))) (fun s => ((l : Int) - s.2).toNat) (fun i hi => by simp) ?_ ?_
  · intro i again hi ha
    rw [decide_eq_true (show ((i : Int) < (l : Int)) by omega)]
    obtain ⟨u, hu⟩ : ∃ u, ns[i]? = some u := ⟨_, List.getElem?_eq_getElem (by omega)⟩
    have hu8 : u < 256 := hns u (List.mem_of_getElem? hu)
    cases a with
    | none =>
      have : ns.map nv = [] := hr
      rw [List.map_eq_nil_iff] at this
      subst this
      simp at hu
    | some a =>
      refine ⟨a, rfl, by show (0:Int) ≤ (i:Int); omega, by show (i : Int) < (l : Int); omega, nv u, hr _ _ ?_, ?_⟩
      · show (ns.map nv)[((i : Int)).toNat * 1]? = _
        rw [Int.toNat_natCast, Nat.mul_one, List.getElem?_map, hu]
        rfl
      · show DI .u8 (.int .u8 (u : Int)) _
        rw [DI_int]
        simp only [byte_xorN (hlt i) hu8]
        have hK : again (((Tn 8 (Run (4294967295 ^^^ sum) (ns.take i) ^^^ u) : Nat) : Int), IntKind.wrap .i64 ((i : Int) + 1)) h := by
          rw [wrap64_succ (by omega), ← Run_takeN _ _ _ _ hu]
          exact ha
        refine (bits_loop (K := fun c => again (c, IntKind.wrap .i64 ((i : Int) + 1)) h) (Crc.xor_lt (hlt i) (by omega)) hK).mono ?_
        intro ag s1 h1 H
        cases hd : decide (s1.2 < 8) with
        | true => rw [hd] at H; exact H
        | false => rw [hd] at H; obtain ⟨rfl, H⟩ := H; exact H
  · intro again
    rw [decide_eq_false (show ¬ ((l : Int) < (l : Int)) by omega)]
    refine ⟨?_, rfl⟩
    show Value.int .u32 (bitsI .xor .u32 4294967295 _) = _
    rw [show (4294967295 : Int) = ((4294967295 : Nat) : Int) from rfl, xor32 (by decide) (hlt _)]
    rw [List.take_of_length_le (Nat.le_of_eq hl)]
    rfl
theorem F15_spec {b : ByteArray} (hb : b.size < 9223372036854775807) {h : Heap} : CallsH Try.prog 15 [.string b] h fun v h' => v = .int .u32 (More 0 (nb b.data.toList) : Nat) ∧ h' = h := by
  apply F15_ok
  unfold F15
  refine (F17_spec (sum := 0) (by decide) hb).mono ?_
  rintro v h' ⟨rfl, rfl⟩
  simp
theorem F16_spec {ns : List Nat} {a : Option Addr} {l c : Nat} {h : Heap} (hr : RdC h a (ns.map nv)) (hns : ∀ n ∈ ns, n < 256) (hl : ns.length = l) (hb : l < 9223372036854775807) :
    CallsH Try.prog 16 [.slice a l c] h fun v h' => v = .int .u32 (More 0 ns : Nat) ∧ h' = h := by
  apply F16_ok
  unfold F16
  refine (F18_spec (sum := 0) (by decide) hr hns hl hb).mono ?_
  rintro v h' ⟨rfl, rfl⟩
  simp
theorem F13_spec {h : Heap} : CallsH Try.prog 13 [] h fun v h' => v = .bool true ∧ h' = h := by
  apply F13_ok
  unfold F13
  refine (F15_spec (by decide)).mono ?_
  rintro v h' ⟨rfl, rfl⟩
  rw [DI_int]
  exact ⟨congrArg Value.bool (by decide +kernel), rfl⟩
theorem step64 {c : Nat} (h : c < 4294967296) :
    (bif ((Int.tmod (c : Int) 2) : Int) == 1 then bitsI .xor .u64 (IntKind.wrap .u64 (Int.tdiv (c : Int) 2)) 2197175160 else IntKind.wrap .u64 (Int.tdiv (c : Int) 2)) = ((T c : Nat) : Int) := by
  have e1 : Int.tmod (c : Int) 2 = ((c % 2 : Nat) : Int) := tmod_nat c 2
  have e2 : Int.tdiv (c : Int) 2 = ((c / 2 : Nat) : Int) := tdiv_nat c 2
  rw [e1, e2, IntWalk.u64_in _ (by omega)]
  unfold Crc.T
  by_cases ho : c % 2 = 1
  · rw [ho, if_pos rfl]
    exact xor64 (a := c / 2) (b := 2197175160) (by omega) (by decide)
  · have h0 : c % 2 = 0 := by omega
    rw [h0, if_neg (by decide), Nat.xor_zero]
    rfl
theorem F14_spec {b : ByteArray} (hb : b.size < 9223372036854775807) {h : Heap} : CallsH Try.prog 14 [.string b] h fun v h' => v = .int .u32 (More 0 (nb b.data.toList) : Nat) ∧ h' = h := by
  apply F14_ok
  unfold F14
  have hlt : ∀ i, Run 4294967295 (nb (b.data.toList.take i)) < 4294967296 := fun i => Crc.Run_lt _ (by decide) (nb_lt _)
  have hsz : b.data.toList.length = b.size := rfl
  refine LoopH.count b.size (fun i => (((Run 4294967295 (nb (b.data.toList.take i)) : Nat) : Int), (i : Int))) (fun s => ((b.size : Int) - s.2).toNat) (fun i hi => by simp) ?_ ?_
  · intro i again hi ha
    rw [decide_eq_true (show ((i : Int) < (b.size : Int)) by omega)]
    refine ⟨by show (0:Int) ≤ (i:Int); omega, by show ((i : Int) < (b.size : Int)); omega, ?_⟩
    obtain ⟨u, hu⟩ : ∃ u, b.data.toList[i]? = some u := ⟨_, List.getElem?_eq_getElem (by rw [hsz]; exact hi)⟩
    have hu8 := u.toNat_lt
    have hli := hlt i
    have e0 : bitsI .xor .u64 ((Run 4294967295 (nb (b.data.toList.take i)) : Nat) : Int) (IntKind.wrap .u64 (u.toNat : Int)) = ((Run 4294967295 (nb (b.data.toList.take i)) ^^^ u.toNat : Nat) : Int) := by
      rw [IntWalk.u64_in _ (by omega)]
      exact xor64 (by omega) (by omega)
    simp only [bt_at hu, e0]
    have hc := Crc.xor_lt (hlt i) (b := u.toNat) (by omega)
    rw [Run_take _ _ _ _ hu] at ha
    generalize (Run 4294967295 (nb (b.data.toList.take i)) ^^^ u.toNat) = c at ha hc ⊢
    refine LoopH.count 8 (fun j => (((Tn j c : Nat) : Int), (j : Int))) (fun s => (8 - s.2).toNat) (fun i hi => by simp) ?_ ?_
    · intro j ag hj hag
      rw [decide_eq_true (show ((j : Int) < 8) by omega)]
      refine ⟨by decide, by decide, ?_⟩
      have hst := step64 (Crc.Tn_lt j hc)
      rw [Tn_succ, ← hst] at hag
      rw [wrap64_succ (by omega)]
      cases hd : ((Int.tmod ((Tn j c : Nat) : Int) 2) : Int) == 1 with
      | true => rw [hd] at hag; exact hag
      | false => rw [hd] at hag; exact hag
    · intro ag
      show again (_, _) _
      rw [wrap64_succ (by omega)]
      exact ha
  · intro again
    rw [decide_eq_false (show ¬ ((b.size : Int) < (b.size : Int)) by omega)]
    refine ⟨?_, rfl⟩
    show Value.int .u32 (IntKind.wrap .u32 (bitsI .xor .u64 _ 4294967295)) = _
    rw [List.take_of_length_le (Nat.le_of_eq hsz)]
    have hl := Crc.Run_lt (nb b.data.toList) (c := 4294967295) (by decide) (nb_lt _)
    rw [show (4294967295 : Int) = ((4294967295 : Nat) : Int) from rfl, xor64 (by omega) (by decide), IntWalk.u32_in _ (by have := Crc.xor_lt hl (b := 4294967295) (by decide); omega), Nat.xor_comm]
    rfl

end Go.Proofs.Ytpblcdgglbhdoaa
