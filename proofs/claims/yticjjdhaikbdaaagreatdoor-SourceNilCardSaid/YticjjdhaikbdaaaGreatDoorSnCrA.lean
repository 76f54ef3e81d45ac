/- The sum of bytes as plain arithmetic: bits shifted through the polynomial; linear, and no turned word goes unseen. Frames as plain lists of bytes: a frame is told back, what is cut off or turned is none. Sums and frames, in the program of seat r2. -/
import Derived.Test.YticjjdhaikbdaaaGreatDoorSnFwB
import Derived.Test.YticjjdhaikbdaaaGreatDoorSnTb
import Derived.Test.YticjjdhaikbdaaaGreatDoorSnTc

namespace Go.Proofs.YticjjdhaikbdaaaGreatDoor
namespace Crc
set_option linter.unusedVariables false
set_option linter.unusedSimpArgs false

def poly : Nat := 2197175160
def T (c : Nat) : Nat := (c / 2) ^^^ (if c % 2 = 1 then poly else 0)
def Tn : Nat → Nat → Nat
  | 0, c => c
  | n + 1, c => Tn n (T c)
def Run (c : Nat) (bs : List Nat) : Nat := bs.foldl (fun c b => Tn 8 (c ^^^ b)) c
def More (sum : Nat) (bs : List Nat) : Nat := 4294967295 ^^^ Run (4294967295 ^^^ sum) bs

theorem T_lt {c : Nat} (h : c < 4294967296) : T c < 4294967296 := by
  unfold T
  have h1 : c / 2 < 2 ^ 32 := by omega
  have h2 : (if c % 2 = 1 then poly else 0) < 2 ^ 32 := by split <;> decide
  exact Nat.xor_lt_two_pow h1 h2
theorem Tn_lt : ∀ (n : Nat) {c : Nat}, c < 4294967296 → Tn n c < 4294967296
  | 0, _, h => h
  | n + 1, _, h => Tn_lt n (T_lt h)
theorem xor_lt {a b : Nat} (ha : a < 4294967296) (hb : b < 4294967296) : a ^^^ b < 4294967296 := Nat.xor_lt_two_pow (n := 32) ha hb
theorem Run_lt : ∀ (bs : List Nat) {c : Nat}, c < 4294967296 → (∀ b ∈ bs, b < 256) → Run c bs < 4294967296
  | [], _, h, _ => h
  | b :: bs, c, h, hb => Run_lt bs (c := Tn 8 (c ^^^ b)) (Tn_lt 8 (xor_lt h (by have := hb b (by simp); omega))) fun x hx => hb x (by simp [hx])
theorem More_lt {bs : List Nat} {c : Nat} (h : c < 4294967296) (hb : ∀ b ∈ bs, b < 256) : More c bs < 4294967296 :=
  xor_lt (by decide) (Run_lt bs (xor_lt (by decide) h) hb)
theorem Run_append (c : Nat) (a b : List Nat) : Run c (a ++ b) = Run (Run c a) b := List.foldl_append ..
theorem xor_xor (a b : Nat) : a ^^^ (a ^^^ b) = b := by rw [← Nat.xor_assoc, Nat.xor_self, Nat.zero_xor]
theorem More_append (c : Nat) (a b : List Nat) : More c (a ++ b) = More (More c a) b := by
  unfold More
  rw [xor_xor, Run_append]
/-- Bytes of one number, the lowest first. -/
def bytes : Nat → Nat → List Nat
  | 0, _ => []
  | n + 1, w => w % 256 :: bytes n (w / 256)
end Crc
end Go.Proofs.YticjjdhaikbdaaaGreatDoor

namespace Go.Proofs.YticjjdhaikbdaaaGreatDoor
theorem B8.append {a b : List Nat} (ha : B8 a) (hb : B8 b) : B8 (a ++ b) := fun n h => (List.mem_append.1 h).elim (ha n) (hb n)
theorem B8.take {a : List Nat} (ha : B8 a) (k : Nat) : B8 (a.take k) := fun n h => ha n (List.mem_of_mem_take h)
theorem B8.drop {a : List Nat} (ha : B8 a) (k : Nat) : B8 (a.drop k) := fun n h => ha n (List.mem_of_mem_drop h)
theorem B8.getD {l : List Nat} (h : B8 l) (i : Nat) : l.getD i 0 < 256 := by
  rw [List.getD_eq_getElem?_getD]
  cases he : l[i]? with
  | none => decide
  | some x => exact h x (List.mem_of_getElem? he)
namespace Frame
open Crc (Run More)
set_option linter.unusedVariables false
set_option linter.unusedSimpArgs false

def be4 (n : Nat) : List Nat := [n / 16777216 % 256, n / 65536 % 256, n / 256 % 256, n % 256]
def val4 (l : List Nat) : Nat := l.getD 0 0 * 16777216 + l.getD 1 0 * 65536 + l.getD 2 0 * 256 + l.getD 3 0
theorem be4_B8 (n : Nat) : B8 (be4 n) := by
  intro x hx
  simp only [be4, List.mem_cons, List.mem_nil_iff, or_false] at hx
  rcases hx with rfl | rfl | rfl | rfl <;> exact Nat.mod_lt _ (by decide)
theorem val4_lt {l : List Nat} (h : B8 l) : val4 l < 4294967296 := by
  have := h.getD 0; have := h.getD 1; have := h.getD 2; have := h.getD 3
  unfold val4
  omega
theorem val4_take {l : List Nat} {k : Nat} (hk : 4 ≤ k) : val4 (l.take k) = val4 l := by
  unfold val4
  simp only [List.getD_eq_getElem?_getD, List.getElem?_take]
  rw [if_pos (by omega), if_pos (by omega), if_pos (by omega), if_pos (by omega)]

def packN (x : List Nat) : List Nat := be4 x.length ++ be4 (More 0 (be4 x.length ++ x)) ++ x
theorem packN_length (x : List Nat) : (packN x).length = 8 + x.length := by simp [packN, be4]; omega
theorem packN_B8 {x : List Nat} (h : B8 x) : B8 (packN x) := ((be4_B8 _).append (be4_B8 _)).append h
def firstN (bs : List Nat) : Option (List Nat) :=
  if bs.length < 8 then none
  else if val4 bs > 16777208 then none
  else if val4 bs > bs.length - 8 then none
  else if val4 (bs.drop 4) = More (More 0 (bs.take 4)) ((bs.drop 8).take (val4 bs)) then some ((bs.drop 8).take (val4 bs)) else none
/-- The document's answer for the frame at the beginning. -/
def refAt (bs : List Nat) : List Nat × Bool :=
  if bs.length < 8 then ([], false)
  else if val4 bs > bs.length - 8 then ([], false)
  else ((bs.drop 8).take (val4 bs), decide (val4 bs ≤ 16777208) && decide (packN ((bs.drop 8).take (val4 bs)) = bs.take (8 + val4 bs)))
def scanF : Nat → List Nat → List (List Nat)
  | 0, _ => []
  | k + 1, bs => match firstN bs with
    | none => []
    | some x => x :: scanF k (bs.drop (8 + x.length))
def scanN (bs : List Nat) : List (List Nat) := scanF (bs.length + 1) bs
def reach (l : List (List Nat)) : Nat := (l.map fun x => 8 + x.length).sum
end Frame
end Go.Proofs.YticjjdhaikbdaaaGreatDoor

namespace Go.Proofs.YticjjdhaikbdaaaGreatDoor
open Go Go.RowKit
set_option linter.unusedVariables false
set_option linter.unusedSimpArgs false
open Crc (T Tn Run More)

theorem Run_takeN (c : Nat) (ns : List Nat) (i u : Nat) (hi : ns[i]? = some u) : Run c (ns.take (i + 1)) = Tn 8 (Run c (ns.take i) ^^^ u) := by
  have : ns.take (i + 1) = ns.take i ++ [u] := by
    rw [List.take_add_one, hi]
    rfl
  rw [this, Crc.Run_append]
  rfl
theorem Tn_succ : ∀ (j c : Nat), Tn (j + 1) c = T (Tn j c)
  | 0, c => rfl
  | j + 1, c => by
    show Tn (j + 1) (T c) = T (Tn j (T c))
    exact Tn_succ j (T c)
theorem step32 {c : Nat} (h : c < 4294967296) :
    bitsI .xor .u32 (shrI .u32 (c : Int) 1) (bitsI .and .u32 2197175160 (IntKind.wrap .u32 (0 - bitsI .and .u32 (c : Int) 1))) = ((T c : Nat) : Int) := by
  have e1 : bitsI .and .u32 (c : Int) 1 = ((c % 2 : Nat) : Int) := by
    have := and32 h (b := 1) (by decide)
    rw [Nat.and_one_is_mod] at this
    exact this
  have e2 : shrI .u32 (c : Int) 1 = ((c / 2 : Nat) : Int) := shrI_nat .u32 c 1 (by decide)
  have hd : c / 2 < 4294967296 := by omega
  rw [e1, e2]
  unfold Crc.T
  by_cases ho : c % 2 = 1
  · rw [ho, if_pos rfl]
    have e3 : IntKind.wrap .u32 (0 - ((1 : Nat) : Int)) = ((4294967295 : Nat) : Int) := by decide
    have e4 : bitsI .and .u32 2197175160 ((4294967295 : Nat) : Int) = ((Crc.poly : Nat) : Int) := by decide
    rw [e3, e4]
    exact xor32 hd (by decide)
  · have h0 : c % 2 = 0 := by omega
    rw [h0, if_neg (by decide)]
    have e3 : IntKind.wrap .u32 (0 - ((0 : Nat) : Int)) = ((0 : Nat) : Int) := by decide
    have e4 : bitsI .and .u32 2197175160 ((0 : Nat) : Int) = ((0 : Nat) : Int) := by decide
    rw [e3, e4]
    exact xor32 hd (by decide)
theorem byte_xorN {c u : Nat} (h : c < 4294967296) (hu : u < 256) : bitsI .xor .u32 (c : Int) (IntKind.wrap .u32 (u : Int)) = ((c ^^^ u : Nat) : Int) := by
  rw [IntWalk.u32_in _ (by omega)]
  exact xor32 h (by omega)
theorem bits_loop {c : Nat} (hc : c < 4294967296) {h : Heap} {K : Int → Prop} (hK : K ((Tn 8 c : Nat) : Int)) :
    LoopH (fun (again1 : Int × Int → Heap → Prop) (s1 : Int × Int) h_1 =>
        (bif decide ((s1.2 : Int) < 8) then
          0 ≤ (1 : Int) ∧
          again1 (bitsI .xor .u32 (shrI .u32 s1.1 1) (bitsI .and .u32 2197175160 (IntKind.wrap .u32 (0 - (bitsI .and .u32 s1.1 1)))), IntKind.wrap .i64 (s1.2 + 1)) h_1
        else
          h_1 = h ∧ K s1.1)) ((c : Int), 0) h := by
  refine LoopH.count 8 (fun j => (((Tn j c : Nat) : Int), (j : Int))) (fun s => (8 - s.2).toNat) (fun i hi => by simp) ?_ ?_
  · intro i again hi ha
    rw [decide_eq_true (show ((i : Int) < 8) by omega)]
    refine ⟨by decide, ?_⟩
    rw [step32 (Crc.Tn_lt i hc), wrap64_succ (by omega), ← Tn_succ]
    exact ha
  · intro again
    exact ⟨rfl, hK⟩
theorem LoopH.mono {S : Type} {F G : (S → Heap → Prop) → S → Heap → Prop} {s : S} {h : Heap} (H : LoopH F s h) (hfg : ∀ again s h, F again s h → G again s h) : LoopH G s h :=
  let ⟨I, μ, h0, hs⟩ := H
  ⟨I, μ, h0, fun s h hi => hfg _ _ _ (hs s h hi)⟩

theorem F130_spec {sum : Nat} (hs : sum < 4294967296) {ns : List Nat} {a : Option Addr} {l c : Nat} {h : Heap} (hr : RdC h a (ns.map nv)) (hns : ∀ n ∈ ns, n < 256) (hl : ns.length = l) (hb : l < 9223372036854775807) :
    CallsH Tryz.prog 130 [.int .u32 sum, .slice a l c] h fun v h' => v = .int .u32 (More sum ns : Nat) ∧ h' = h := by
  apply F130_ok
  unfold F130
  have hx : bitsI .xor .u32 4294967295 (sum : Int) = ((4294967295 ^^^ sum : Nat) : Int) := xor32 (by decide) hs
  have hlt : ∀ i, Run (4294967295 ^^^ sum) (ns.take i) < 4294967296 := fun i => Crc.Run_lt _ (Crc.xor_lt (by decide) hs) fun n hn => hns n (List.mem_of_mem_take hn)
  rw [hx]
  refine LoopH.count l (fun i => (((Run (4294967295 ^^^ sum) (ns.take i) : Nat) : Int), (i : Int))) (fun s => ((l : Int) - s.2).toNat) (fun i hi => by simp) ?_ ?_
  · intro i again hi ha
    rw [decide_eq_true (show ((i : Int) < (l : Int)) by omega)]
    obtain ⟨u, hu⟩ : ∃ u, ns[i]? = some u := ⟨_, List.getElem?_eq_getElem (by omega)⟩
    have hu8 : u < 256 := hns u (List.mem_of_getElem? hu)
    cases a with
    | none =>
      have : ns.map nv = [] := hr
      rw [List.map_eq_nil_iff] at this
      subst this
      simp at hu
    | some a =>
      refine ⟨a, rfl, by show (0:Int) ≤ (i:Int); omega, by show (i : Int) < (l : Int); omega, nv u, hr _ _ ?_, ?_⟩
      · show (ns.map nv)[((i : Int)).toNat * 1]? = _
        rw [Int.toNat_natCast, Nat.mul_one, List.getElem?_map, hu]
        rfl
      · show DI .u8 (.int .u8 (u : Int)) _
        rw [DI_int]
        simp only [byte_xorN (hlt i) hu8]
        have hK : again (((Tn 8 (Run (4294967295 ^^^ sum) (ns.take i) ^^^ u) : Nat) : Int), IntKind.wrap .i64 ((i : Int) + 1)) h := by
          rw [wrap64_succ (by omega), ← Run_takeN _ _ _ _ hu]
          exact ha
        refine (bits_loop (K := fun c => again (c, IntKind.wrap .i64 ((i : Int) + 1)) h) (Crc.xor_lt (hlt i) (by omega)) hK).mono ?_
        intro ag s1 h1 H
        cases hd : decide (s1.2 < 8) with
        | true => rw [hd] at H; exact H
        | false => rw [hd] at H; obtain ⟨rfl, H⟩ := H; exact H
  · intro again
    rw [decide_eq_false (show ¬ ((l : Int) < (l : Int)) by omega)]
    refine ⟨?_, rfl⟩
    show Value.int .u32 (bitsI .xor .u32 4294967295 _) = _
    rw [show (4294967295 : Int) = ((4294967295 : Nat) : Int) from rfl, xor32 (by decide) (hlt _)]
    rw [List.take_of_length_le (Nat.le_of_eq hl)]
    rfl
theorem F131_spec {ns : List Nat} {a : Option Addr} {l c : Nat} {h : Heap} (hr : RdC h a (ns.map nv)) (hns : ∀ n ∈ ns, n < 256) (hl : ns.length = l) (hb : l < 9223372036854775807) :
    CallsH Tryz.prog 131 [.slice a l c] h fun v h' => v = .int .u32 (More 0 ns : Nat) ∧ h' = h := by
  apply F131_ok
  unfold F131
  refine (F130_spec (sum := 0) (by decide) hr hns hl hb).mono ?_
  rintro v h' ⟨rfl, rfl⟩
  simp
end Go.Proofs.YticjjdhaikbdaaaGreatDoor

namespace Go.Proofs.YticjjdhaikbdaaaGreatDoor
open Go Go.RowKit
set_option linter.unusedVariables false
set_option linter.unusedSimpArgs false
open Crc (Run More)
open Frame (be4 val4 packN firstN refAt scanN reach be4_B8 val4_lt val4_take packN_length packN_B8)

theorem More_B {x : List Nat} (hx : B8 x) {c : Nat} (hc : c < 4294967296) : More c x < 4294967296 := Crc.More_lt hc hx
theorem t26 : Tryz.prog.underlying 30 = some (.slice 5) := by kernel_rfl
theorem t9 : Tryz.prog.underlying 9 = some .string := by kernel_rfl
theorem t5 : Tryz.prog.underlying 5 = some (.int .u8) := by kernel_rfl
theorem s26 : srcTy Tryz.prog 30 = true := by kernel_rfl
theorem i5 : infoOk Tryz.prog 5 1 = true := by kernel_rfl
theorem F129_spec {n : Nat} (hn : n < 4294967296) {h : Heap} {F : List HProp} (hF : sat F h) :
    CallsH Tryz.prog 129 [.int .u32 (n : Int)] h fun v h' => ∃ b, v = .slice (some ⟨b, 0, none⟩) 4 4 ∧ sat (ownS 5 1 (some ⟨b, 0, none⟩) 4 4 ((be4 n).map nv) :: F) h' := by
  apply F129_ok
  unfold F129
  refine ⟨by decide, by decide, by decide, Al_sat hF fun b h' H => ⟨b, rfl, ownS_mk H (nofz_zero _) (by decide) (by unfold maxLen; decide) rfl ?_⟩⟩
  rw [show (24 : Int) = ((24 : Nat) : Int) from rfl, show (16 : Int) = ((16 : Nat) : Int) from rfl, show (8 : Int) = ((8 : Nat) : Int) from rfl,
    shrI_nat .u32 n 24 (by decide), shrI_nat .u32 n 16 (by decide), shrI_nat .u32 n 8 (by decide), u8_of_nat, u8_of_nat, u8_of_nat, u8_of_nat]
  rfl
theorem F88_spec {x : List Nat} {a : Option Addr} {l c : Nat} {h : Heap} {F : List HProp} (hF : sat F h) (hR : ∀ h', sat F h' → RdC h' a (x.map nv)) (h8 : B8 x) (hl : x.length = l) (hm : l ≤ 16777208) :
    CallsH Tryz.prog 88 [.slice a l c] h fun v h' => ∃ b c', v = .tuple #[.slice (some b) (8 + l) c', .int .i64 0] ∧ sat (ownS 5 1 (some b) (8 + l) c' ((packN x).map nv) :: F) h' := by
  apply F88_ok
  unfold F88
  rw [decide_eq_false (show ¬ ((l : Int) > 16777208) by omega), cond_false, IntWalk.u32_in (l : Int) (by omega)]
  refine (F129_spec (by omega) hF).mono ?_
  rintro v h1 ⟨b1, rfl, H1⟩
  rw [DSl_slice]
  refine (F131_spec (l := 4) (ownS_read H1) (be4_B8 l) rfl (by decide)).mono ?_
  rintro v h2 ⟨rfl, rfl⟩
  rw [DI_int]
  have hM1 : More 0 (be4 l) < 4294967296 := More_B (be4_B8 l) (by decide)
  refine (F130_spec hM1 (hR _ H1.drop) h8 hl (by omega)).mono ?_
  rintro v h3 ⟨rfl, rfl⟩
  rw [DI_int, ← Crc.More_append]
  have hM2 : More 0 (be4 l ++ x) < 4294967296 := More_B ((be4_B8 l).append h8) (by decide)
  refine (F129_spec hM2 H1).mono ?_
  rintro v h4 ⟨b2, rfl, H4⟩
  rw [DSl_slice]
  refine appB t26 s26 i5 (H4.mv 1) (srcB (ownS_read H4) rfl) (by decide) fun a5 c5 h5 _ H5 => ?_
  rw [DSl_slice]
  refine appB t26 s26 i5 H5 (srcB (hR _ H5.drop.drop) hl) (by omega) fun a6 c6 h6 h60 H6 => ?_
  rw [DSl_slice]
  cases a6 with
  | none => have := h60 rfl; omega
  | some b =>
    refine ⟨b, c6, rfl, ?_⟩
    have := (H6.mv 1).drop
    subst hl
    exact this
end Go.Proofs.YticjjdhaikbdaaaGreatDoor
