/- The sum of bytes as plain arithmetic: bits shifted through the polynomial; linear, and no turned word goes unseen. Frames as plain lists of bytes: a frame is told back, what is cut off or turned is none. Sums and frames, in the program of seat r2. -/
import Derived.Test.YtibdiikcigokjaaGreatDoorKsFwB
import Derived.Test.YtibdiikcigokjaaGreatDoorKsTb
import Derived.Test.YtibdiikcigokjaaGreatDoorKsTc
namespace Go.Proofs.YtibdiikcigokjaaGreatDoor
namespace Crc
set_option linter.unusedVariables false
set_option linter.unusedSimpArgs false
def poly : Nat := 2197175160
def T (c : Nat) : Nat := (c / 2) ^^^ (if c % 2 = 1 then poly else 0)
def Tn : Nat → Nat → Nat
 | 0, c => c
 | n + 1, c => Tn n (T c)
def Run (c : Nat) (bs : List Nat) : Nat := bs.foldl (fun c b => Tn 8 (c ^^^ b)) c
def More (sum : Nat) (bs : List Nat) : Nat := 4294967295 ^^^ Run (4294967295 ^^^ sum) bs
theorem T_lt {c : Nat} (h : c < 4294967296) : T c < 4294967296 := by
 unfold T
 have h1 : c / 2 < 2 ^ 32 := by omega
 have h2 : (if c % 2 = 1 then poly else 0) < 2 ^ 32 := by split <;> decide
 exact Nat.xor_lt_two_pow h1 h2
theorem Tn_lt : ∀ (n : Nat) {c : Nat}, c < 4294967296 → Tn n c < 4294967296
 | 0, _, h => h
 | n + 1, _, h => Tn_lt n (T_lt h)
theorem xor_lt {a b : Nat} (ha : a < 4294967296) (hb : b < 4294967296) : a ^^^ b < 4294967296 := Nat.xor_lt_two_pow (n := 32) ha hb
theorem Run_lt : ∀ (bs : List Nat) {c : Nat}, c < 4294967296 → (∀ b ∈ bs, b < 256) → Run c bs < 4294967296
 | [], _, h, _ => h
 | b :: bs, c, h, hb => Run_lt bs (c := Tn 8 (c ^^^ b)) (Tn_lt 8 (xor_lt h (by have := hb b (by simp); omega))) fun x hx => hb x (by simp [hx])
theorem More_lt {bs : List Nat} {c : Nat} (h : c < 4294967296) (hb : ∀ b ∈ bs, b < 256) : More c bs < 4294967296 :=
 xor_lt (by decide) (Run_lt bs (xor_lt (by decide) h) hb)
theorem Run_append (c : Nat) (a b : List Nat) : Run c (a ++ b) = Run (Run c a) b := List.foldl_append ..
theorem xor_xor (a b : Nat) : a ^^^ (a ^^^ b) = b := by rw [← Nat.xor_assoc, Nat.xor_self, Nat.zero_xor]
theorem More_append (c : Nat) (a b : List Nat) : More c (a ++ b) = More (More c a) b := by
 unfold More
 rw [xor_xor, Run_append]
end Crc
theorem B8.append {a b : List Nat} (ha : B8 a) (hb : B8 b) : B8 (a ++ b) := fun n h => (List.mem_append.1 h).elim (ha n) (hb n)
theorem B8.take {a : List Nat} (ha : B8 a) (k : Nat) : B8 (a.take k) := fun n h => ha n (List.mem_of_mem_take h)
theorem B8.drop {a : List Nat} (ha : B8 a) (k : Nat) : B8 (a.drop k) := fun n h => ha n (List.mem_of_mem_drop h)
namespace Frame
open Crc (Run More)
set_option linter.unusedVariables false
set_option linter.unusedSimpArgs false
def be4 (n : Nat) : List Nat := [n / 16777216 % 256, n / 65536 % 256, n / 256 % 256, n % 256]
def val4 (l : List Nat) : Nat := l.getD 0 0 * 16777216 + l.getD 1 0 * 65536 + l.getD 2 0 * 256 + l.getD 3 0
theorem be4_B8 (n : Nat) : B8 (be4 n) := by
 intro x hx
 simp only [be4, List.mem_cons, List.mem_nil_iff, or_false] at hx
 rcases hx with rfl | rfl | rfl | rfl <;> exact Nat.mod_lt _ (by decide)
theorem val4_be4 {n : Nat} (h : n < 4294967296) (rest : List Nat) : val4 (be4 n ++ rest) = n := by
 simp [val4, be4]
 omega
theorem be4_val4 {l : List Nat} (h : B8 l) (hl : 4 ≤ l.length) : be4 (val4 l) = l.take 4 := by
 match l, hl with
 | a :: b :: c :: d :: r, _ =>
   have ha : a < 256 := h a (by simp);have hb : b < 256 := h b (by simp);have hc : c < 256 := h c (by simp);have hd : d < 256 := h d (by simp);simp [be4, val4];omega
def packN (x : List Nat) : List Nat := be4 x.length ++ be4 (More 0 (be4 x.length ++ x)) ++ x
theorem packN_length (x : List Nat) : (packN x).length = 8 + x.length := by simp [packN, be4]; omega
theorem packN_B8 {x : List Nat} (h : B8 x) : B8 (packN x) := ((be4_B8 _).append (be4_B8 _)).append h
def firstN (bs : List Nat) : Option (List Nat) :=
 if bs.length < 8 then none
 else if val4 bs > 16777208 then none
 else if val4 bs > bs.length - 8 then none
 else if val4 (bs.drop 4) = More (More 0 (bs.take 4)) ((bs.drop 8).take (val4 bs)) then some ((bs.drop 8).take (val4 bs)) else none
theorem firstN_pack {x : List Nat} (hx : B8 x) (hl : x.length ≤ 16777208) (rest : List Nat) : firstN (packN x ++ rest) = some x := by
 have e1 : packN x ++ rest = be4 x.length ++ (be4 (More 0 (be4 x.length ++ x)) ++ (x ++ rest)) := by simp [packN]
 have hlen : (packN x ++ rest).length = 8 + x.length + rest.length := by rw [List.length_append, packN_length]
 have hv : val4 (packN x ++ rest) = x.length := by rw [e1]; exact val4_be4 (by omega) _
 have hd4 : (packN x ++ rest).drop 4 = be4 (More 0 (be4 x.length ++ x)) ++ (x ++ rest) := by rw [e1]; rfl
 have hd8 : (packN x ++ rest).drop 8 = x ++ rest := by rw [e1]; rfl
 have ht4 : (packN x ++ rest).take 4 = be4 x.length := by rw [e1]; rfl
 have hbody : ((packN x ++ rest).drop 8).take x.length = x := by rw [hd8]; exact List.take_left
 unfold firstN
 rw [hlen, hv, hbody, hd4, ht4, val4_be4 (Crc.More_lt (by decide) ((be4_B8 _).append hx)), ← Crc.More_append, if_neg (by omega), if_neg (by omega), if_neg (by omega), if_pos rfl]
theorem firstN_some {bs x : List Nat} (hb : B8 bs) (h : firstN bs = some x) : bs = packN x ++ bs.drop (8 + x.length) ∧ x.length ≤ 16777208 ∧ 8 + x.length ≤ bs.length ∧ x = (bs.drop 8).take x.length ∧ val4 bs = x.length ∧ B8 x := by
 unfold firstN at h
 split at h
 · cases h
 · split at h
   · cases h
   · split at h
     · cases h
     · split at h
       · rename_i h1 h2 h3 h4;simp only [Option.some.injEq] at h;have hxl : x.length = val4 bs := by
          rw [← h, List.length_take, List.length_drop];omega
         have hx8 : B8 x := by rw [← h]; exact (hb.drop 8).take _
         have e4 : be4 x.length = bs.take 4 := by rw [hxl]; exact be4_val4 hb (by omega)
         have e5 : be4 (More 0 (be4 x.length ++ x)) = (bs.drop 4).take 4 := by
          rw [Crc.More_append, e4, ← h, ← h4];exact be4_val4 (hb.drop 4) (by rw [List.length_drop]; omega)
         refine ⟨?_, by omega, by omega, by rw [hxl]; exact h.symm, hxl.symm, hx8⟩;unfold packN;rw [e5, e4];have hx2 : x = (bs.drop 8).take x.length := by rw [hxl]; exact h.symm
         conv => rhs; rw [List.append_assoc]; rhs; lhs; rw [hx2]
         rw [← List.drop_drop, List.take_append_drop, List.append_assoc];have e6 : bs.drop 8 = (bs.drop 4).drop 4 := by rw [List.drop_drop]
         rw [e6, List.take_append_drop, List.take_append_drop]
       · cases h
end Frame
open Go Go.RowKit
set_option linter.unusedVariables false
set_option linter.unusedSimpArgs false
open Crc (T Tn Run More)
theorem Run_takeN (c : Nat) (ns : List Nat) (i u : Nat) (hi : ns[i]? = some u) : Run c (ns.take (i + 1)) = Tn 8 (Run c (ns.take i) ^^^ u) := by
 have : ns.take (i + 1) = ns.take i ++ [u] := by
  rw [List.take_add_one, hi]
  rfl
 rw [this, Crc.Run_append]
 rfl
theorem Tn_succ : ∀ (j c : Nat), Tn (j + 1) c = T (Tn j c)
 | 0, c => rfl
 | j + 1, c => by
   show Tn (j + 1) (T c) = T (Tn j (T c));exact Tn_succ j (T c)
theorem step32 {c : Nat} (h : c < 4294967296) :
  bitsI .xor .u32 (shrI .u32 (c : Int) 1) (bitsI .and .u32 2197175160 (IntKind.wrap .u32 (0 - bitsI .and .u32 (c : Int) 1))) = ((T c : Nat) : Int) := by
 have e1 : bitsI .and .u32 (c : Int) 1 = ((c % 2 : Nat) : Int) := by
  have := and32 h (b := 1) (by decide);rw [Nat.and_one_is_mod] at this;exact this
 have e2 : shrI .u32 (c : Int) 1 = ((c / 2 : Nat) : Int) := shrI_nat .u32 c 1 (by decide)
 have hd : c / 2 < 4294967296 := by omega
 rw [e1, e2]
 unfold Crc.T
 by_cases ho : c % 2 = 1
 · rw [ho, if_pos rfl];have e3 : IntKind.wrap .u32 (0 - ((1 : Nat) : Int)) = ((4294967295 : Nat) : Int) := by decide
   have e4 : bitsI .and .u32 2197175160 ((4294967295 : Nat) : Int) = ((Crc.poly : Nat) : Int) := by decide
   rw [e3, e4];exact xor32 hd (by decide)
 · have h0 : c % 2 = 0 := by omega
   rw [h0, if_neg (by decide)];have e3 : IntKind.wrap .u32 (0 - ((0 : Nat) : Int)) = ((0 : Nat) : Int) := by decide
   have e4 : bitsI .and .u32 2197175160 ((0 : Nat) : Int) = ((0 : Nat) : Int) := by decide
   rw [e3, e4];exact xor32 hd (by decide)
theorem byte_xorN {c u : Nat} (h : c < 4294967296) (hu : u < 256) : bitsI .xor .u32 (c : Int) (IntKind.wrap .u32 (u : Int)) = ((c ^^^ u : Nat) : Int) := by
 rw [IntWalk.u32_in _ (by omega)]
 exact xor32 h (by omega)
theorem bits_loop {c : Nat} (hc : c < 4294967296) {h : Heap} {K : Int → Prop} (hK : K ((Tn 8 c : Nat) : Int)) :
  LoopH (fun (again1 : Int × Int → Heap → Prop) (s1 : Int × Int) h_1 =>
   (bif decide ((s1.2 : Int) < 8) then
    0 ≤ (1 : Int) ∧
    again1 (bitsI .xor .u32 (shrI .u32 s1.1 1) (bitsI .and .u32 2197175160 (IntKind.wrap .u32 (0 - (bitsI .and .u32 s1.1 1)))), IntKind.wrap .i64 (s1.2 + 1)) h_1
   else
    h_1 = h ∧ K s1.1)) ((c : Int), 0) h := by
 refine LoopH.count 8 (fun j => (((Tn j c : Nat) : Int), (j : Int))) (fun s => (8 - s.2).toNat) (fun i hi => by simp) ?_ ?_
 · intro i again hi ha;rw [decide_eq_true (show ((i : Int) < 8) by omega)];refine ⟨by decide, ?_⟩;rw [step32 (Crc.Tn_lt i hc), wrap64_succ (by omega), ← Tn_succ];exact ha
 · intro again;exact ⟨rfl, hK⟩
theorem LoopH.mono {S : Type} {F G : (S → Heap → Prop) → S → Heap → Prop} {s : S} {h : Heap} (H : LoopH F s h) (hfg : ∀ again s h, F again s h → G again s h) : LoopH G s h :=
 let ⟨I, μ, h0, hs⟩ := H
 ⟨I, μ, h0, fun s h hi => hfg _ _ _ (hs s h hi)⟩
theorem F115_spec {sum : Nat} (hs : sum < 4294967296) {ns : List Nat} {a : Option Addr} {l c : Nat} {h : Heap} (hr : RdC h a (ns.map nv)) (hns : ∀ n ∈ ns, n < 256) (hl : ns.length = l) (hb : l < 9223372036854775807) :
  CallsH Tryz.prog 115 [.int .u32 sum, .slice a l c] h fun v h' => v = .int .u32 (More sum ns : Nat) ∧ h' = h := by
 apply F115_ok.ap
 unfold F115
 have hx : bitsI .xor .u32 4294967295 (sum : Int) = ((4294967295 ^^^ sum : Nat) : Int) := xor32 (by decide) hs
 have hlt : ∀ i, Run (4294967295 ^^^ sum) (ns.take i) < 4294967296 := fun i => Crc.Run_lt _ (Crc.xor_lt (by decide) hs) fun n hn => hns n (List.mem_of_mem_take hn)
 rw [hx]
 refine LoopH.count l (fun i => (((Run (4294967295 ^^^ sum) (ns.take i) : Nat) : Int), (i : Int))) (fun s => ((l : Int) - s.2).toNat) (fun i hi => by simp) ?_ ?_
 · intro i again hi ha;rw [decide_eq_true (show ((i : Int) < (l : Int)) by omega)];obtain ⟨u, hu⟩ : ∃ u, ns[i]? = some u := ⟨_, List.getElem?_eq_getElem (by omega)⟩
   have hu8 : u < 256 := hns u (List.mem_of_getElem? hu)
   cases a with
   | none =>
     have : ns.map nv = [] := hr;rw [List.map_eq_nil_iff] at this;subst this;simp at hu
   | some a =>
     refine ⟨a, rfl, by show (0:Int) ≤ (i:Int); omega, by show (i : Int) < (l : Int); omega, nv u, hr _ _ ?_, ?_⟩
     · show (ns.map nv)[((i : Int)).toNat * 1]? = _;rw [Int.toNat_natCast, Nat.mul_one, List.getElem?_map, hu]
       rfl
     · show DI .u8 (.int .u8 (u : Int)) _;rw [DI_int];simp only [byte_xorN (hlt i) hu8];have hK : again (((Tn 8 (Run (4294967295 ^^^ sum) (ns.take i) ^^^ u) : Nat) : Int), IntKind.wrap .i64 ((i : Int) + 1)) h := by
        rw [wrap64_succ (by omega), ← Run_takeN _ _ _ _ hu];exact ha
       refine (bits_loop (K := fun c => again (c, IntKind.wrap .i64 ((i : Int) + 1)) h) (Crc.xor_lt (hlt i) (by omega)) hK).mono ?_;intro ag s1 h1 H
       cases hd : decide (s1.2 < 8) with
       | true => rw [hd] at H; exact H
       | false => rw [hd] at H; obtain ⟨rfl, H⟩ := H; exact H
 · intro again;rw [decide_eq_false (show ¬ ((l : Int) < (l : Int)) by omega)];refine ⟨?_, rfl⟩;show Value.int .u32 (bitsI .xor .u32 4294967295 _) = _;rw [show (4294967295 : Int) = ((4294967295 : Nat) : Int) from rfl, xor32 (by decide) (hlt _)];rw [List.take_of_length_le (Nat.le_of_eq hl)]
   rfl
theorem F36_spec {ns : List Nat} {a : Option Addr} {l c : Nat} {h : Heap} (hr : RdC h a (ns.map nv)) (hns : ∀ n ∈ ns, n < 256) (hl : ns.length = l) (hb : l < 9223372036854775807) :
  CallsH Tryz.prog 36 [.slice a l c] h fun v h' => v = .int .u32 (More 0 ns : Nat) ∧ h' = h := by
 apply F36_ok.ap
 unfold F36
 refine (F115_spec (sum := 0) (by decide) hr hns hl hb).mono ?_
 rintro v h' ⟨rfl, rfl⟩
 simp
open Crc (Run More)
open Frame (be4 val4 packN firstN be4_B8 packN_length packN_B8)
theorem More_B {x : List Nat} (hx : B8 x) {c : Nat} (hc : c < 4294967296) : More c x < 4294967296 := Crc.More_lt hc hx
theorem t26 : Tryz.prog.underlying 85 = some (.slice 5) := by kernel_rfl
theorem t5 : Tryz.prog.underlying 5 = some (.int .u8) := by kernel_rfl
theorem s26 : srcTy Tryz.prog 85 = true := by kernel_rfl
theorem i5 : infoOk Tryz.prog 5 1 = true := by kernel_rfl
theorem F229_spec {ns : List Nat} {a : Option Addr} {l c : Nat} {h : Heap} (hr : RdC h a (ns.map nv)) (h8 : B8 ns) (hl : ns.length = l) (h4 : 4 ≤ l) :
  CallsH Tryz.prog 229 [.slice a l c] h fun v h' => v = .int .u32 (val4 ns : Nat) ∧ h' = h := by
 apply F229_ok.ap
 unfold F229
 match ns, hl with
 | x0 :: x1 :: x2 :: x3 :: r, hl =>
   have hm : ((x0 :: x1 :: x2 :: x3 :: r).map nv).length = l := by rw [List.length_map]; exact hl
   refine IdxA_nat (i := 0) hr hm (v := nv x0) rfl fun b hb hc => ⟨_, hc, ?_⟩
   show DI .u8 (.int .u8 (x0 : Int)) _;rw [DI_int];refine ⟨by decide, IdxA_nat (i := 1) hr hm (v := nv x1) rfl fun b hb hc => ⟨_, hc, ?_⟩⟩;show DI .u8 (.int .u8 (x1 : Int)) _;rw [DI_int];refine ⟨by decide, IdxA_nat (i := 2) hr hm (v := nv x2) rfl fun b hb hc => ⟨_, hc, ?_⟩⟩;show DI .u8 (.int .u8 (x2 : Int)) _;rw [DI_int];refine ⟨by decide, IdxA_nat (i := 3) hr hm (v := nv x3) rfl fun b hb hc => ⟨_, hc, ?_⟩⟩;show DI .u8 (.int .u8 (x3 : Int)) _;rw [DI_int, be_num (h8 x0 (by simp)) (h8 x1 (by simp)) (h8 x2 (by simp)) (h8 x3 (by simp))];exact ⟨rfl, rfl⟩
 | [], hl => simp at hl; omega
 | [_], hl => simp at hl; omega
 | [_, _], hl => simp at hl; omega
 | [_, _, _], hl => simp at hl; omega
theorem F206_spec {n : Nat} (hn : n < 4294967296) {h : Heap} {F : List HProp} (hF : sat F h) :
  CallsH Tryz.prog 206 [.int .u32 (n : Int)] h fun v h' => ∃ b, v = .slice (some ⟨b, 0, none⟩) 4 4 ∧ sat (ownS 5 1 (some ⟨b, 0, none⟩) 4 4 ((be4 n).map nv) :: F) h' := by
 apply F206_ok.ap
 unfold F206
 refine ⟨by decide, by decide, by decide, Al_sat hF fun b h' H => ⟨b, rfl, ownS_mk H (nofz_zero _) (by decide) (by unfold maxLen; decide) rfl ?_⟩⟩
 rw [show (24 : Int) = ((24 : Nat) : Int) from rfl, show (16 : Int) = ((16 : Nat) : Int) from rfl, show (8 : Int) = ((8 : Nat) : Int) from rfl,
  shrI_nat .u32 n 24 (by decide), shrI_nat .u32 n 16 (by decide), shrI_nat .u32 n 8 (by decide), u8_of_nat, u8_of_nat, u8_of_nat, u8_of_nat]
 rfl
theorem F139_spec {x : List Nat} {a : Option Addr} {l c : Nat} {h : Heap} {F : List HProp} (hF : sat F h) (hR : ∀ h', sat F h' → RdC h' a (x.map nv)) (h8 : B8 x) (hl : x.length = l) (hm : l ≤ 16777208) :
  CallsH Tryz.prog 139 [.slice a l c] h fun v h' => ∃ b c', v = .tuple #[.slice (some b) (8 + l) c', .int .i64 0] ∧ sat (ownS 5 1 (some b) (8 + l) c' ((packN x).map nv) :: F) h' := by
 apply F139_ok.ap
 unfold F139
 rw [decide_eq_false (show ¬ ((l : Int) > 16777208) by omega), cond_false, IntWalk.u32_in (l : Int) (by omega)]
 refine (F206_spec (by omega) hF).mono ?_
 rintro v h1 ⟨b1, rfl, H1⟩
 rw [DSl_slice]
 refine (F36_spec (l := 4) (ownS_read H1) (be4_B8 l) rfl (by decide)).mono ?_
 rintro v h2 ⟨rfl, rfl⟩
 rw [DI_int]
 have hM1 : More 0 (be4 l) < 4294967296 := More_B (be4_B8 l) (by decide)
 refine (F115_spec hM1 (hR _ H1.drop) h8 hl (by omega)).mono ?_
 rintro v h3 ⟨rfl, rfl⟩
 rw [DI_int, ← Crc.More_append]
 have hM2 : More 0 (be4 l ++ x) < 4294967296 := More_B ((be4_B8 l).append h8) (by decide)
 refine (F206_spec hM2 H1).mono ?_
 rintro v h4 ⟨b2, rfl, H4⟩
 rw [DSl_slice]
 refine appB t26 s26 i5 (H4.mv 1) (srcB (ownS_read H4) rfl) (by decide) fun a5 c5 h5 _ H5 => ?_
 rw [DSl_slice]
 refine appB t26 s26 i5 H5 (srcB (hR _ H5.drop.drop) hl) (by omega) fun a6 c6 h6 h60 H6 => ?_
 rw [DSl_slice]
 cases a6 with
 | none => have := h60 rfl; omega
 | some b =>
   refine ⟨b, c6, rfl, ?_⟩;have := (H6.mv 1).drop;subst hl;exact this
def FirstIs (x : List Nat) (h : Heap) (v : Value) : Prop :=
 ∃ sa sl sc, v = .tuple #[.slice sa sl sc, .bool (firstN x).isSome] ∧ ∀ body, firstN x = some body → body.length = sl ∧ RdC h sa (body.map nv) ∧ sl ≤ sc ∧ sc ≤ maxLen
theorem F185_spec {x : List Nat} {a : Option Addr} {l c : Nat} {h : Heap} (hr : RdC h a (x.map nv)) (h8 : B8 x) (hl : x.length = l) (hlc : l ≤ c) (hc : c ≤ maxLen) :
  CallsH Tryz.prog 185 [.slice a l c] h fun v h' => FirstIs x h v ∧ h' = h := by
 apply F185_ok.ap
 unfold F185
 have hcm : c ≤ 9223372036854775807 := hc
 by_cases h1 : l < 8
 · rw [decide_eq_true (show ((l : Int) < 8) by omega), cond_true];have : firstN x = none := by unfold firstN; rw [if_pos (by omega)]
   exact ⟨⟨none, 0, 0, by rw [this]; rfl, fun b hb => by rw [this] at hb; cases hb⟩, rfl⟩
 · rw [decide_eq_false (show ¬ ((l : Int) < 8) by omega), cond_false];refine (F229_spec hr h8 hl (by omega)).mono ?_;rintro v g ⟨rfl, rfl⟩;rw [DI_int];by_cases h2 : val4 x > 16777208
   · rw [decide_eq_true (show (((val4 x : Nat) : Int) > 16777208) by omega), cond_true];have : firstN x = none := by unfold firstN; rw [if_neg (by omega), if_pos h2]
     exact ⟨⟨none, 0, 0, by rw [this]; rfl, fun b hb => by rw [this] at hb; cases hb⟩, rfl⟩
   · rw [decide_eq_false (show ¬ (((val4 x : Nat) : Int) > 16777208) by omega), cond_false];have w1 : IntKind.wrap .i64 ((val4 x : Nat) : Int) = ((val4 x : Nat) : Int) := wrap64_nat (by omega);have w2 : IntKind.wrap .i64 ((l : Int) - 8) = ((l - 8 : Nat) : Int) := by rw [IntWalk.i64_in _ (by omega)]; omega
     have w3 : IntKind.wrap .i64 (8 + ((val4 x : Nat) : Int)) = ((8 + val4 x : Nat) : Int) := by rw [IntWalk.i64_in _ (by omega)]; omega
     rw [w1, w2, w3];by_cases h3 : val4 x > l - 8
     · rw [decide_eq_true (show (((val4 x : Nat) : Int) > ((l - 8 : Nat) : Int)) by omega), cond_true];have : firstN x = none := by unfold firstN; rw [if_neg (by omega), if_neg h2, if_pos (by omega)]
       exact ⟨⟨none, 0, 0, by rw [this]; rfl, fun b hb => by rw [this] at hb; cases hb⟩, rfl⟩
     · rw [decide_eq_false (show ¬ (((val4 x : Nat) : Int) > ((l - 8 : Nat) : Int)) by omega), cond_false];have hbl : ((x.drop 8).take (val4 x)).length = val4 x := by rw [List.length_take, List.length_drop]; omega
       have hb8 : B8 ((x.drop 8).take (val4 x)) := (h8.drop 8).take _;have r1 : RdC g (subA a 8 c 1) (((x.drop 8).take (val4 x)).map nv) := by
        rw [List.map_take, List.map_drop];exact hr.sub 8 (val4 x) c (by omega)
       have r2 : RdC g (subA a 4 c 1) ((x.drop 4).map nv) := by
        have := hr.sub 4 (l - 4) c (by omega);rw [← List.map_drop, ← List.map_take, List.take_of_length_le (by rw [List.length_drop]; omega)] at this;exact this
       have r3 : RdC g (subA a 0 c 1) ((x.take 4).map nv) := by
        have := hr.sub 0 4 c (by omega);rw [List.drop_zero, ← List.map_take] at this;exact this
       refine SlV_nat (lo := 8) (by omega) (by omega) (Nat.le_refl _) (SlV_nat (lo := 4) (by omega) (by omega) (Nat.le_refl _) ?_);refine ⟨_, (F229_spec r2 (h8.drop 4) (by rw [List.length_drop, hl]) (by omega)).mono fun v h' ⟨e1, e2⟩ => ⟨e1, e2⟩, ?_⟩;rw [DI_int];refine SlV_nat (lo := 0) (hi := 4) (by omega) (by omega) (Nat.le_refl _) ?_;refine ⟨_, (F36_spec r3 (h8.take 4) (by rw [List.length_take]; omega) (by omega)).mono fun v h' ⟨e1, e2⟩ => ⟨e1, e2⟩, ?_⟩;rw [DI_int];refine ⟨_, (F115_spec (More_B (h8.take 4) (by decide)) r1 hb8 (by rw [hbl]; omega) (by omega)).mono fun v h' ⟨e1, e2⟩ => ⟨e1, e2⟩, ?_⟩;rw [DI_int, beqN];refine ⟨⟨subA a 8 c 1, 8 + val4 x - 8, c - 8, ?_, ?_⟩, rfl⟩
       · congr 3;unfold firstN;rw [if_neg (by omega), if_neg h2, if_neg (by omega)];by_cases hs : val4 (x.drop 4) = More (More 0 (x.take 4)) ((x.drop 8).take (val4 x))
         · rw [if_pos hs]; simp [hs]
         · rw [if_neg hs]; simp [hs]
       · intro body hb;have : body = (x.drop 8).take (val4 x) := by
          unfold firstN at hb;rw [if_neg (by omega), if_neg h2, if_neg (by omega)] at hb;split at hb
          · simp only [Option.some.injEq] at hb; exact hb.symm
          · cases hb
         subst this;exact ⟨by rw [hbl]; omega, r1, by omega, by omega⟩
theorem F114_spec {x : List Nat} {a : Option Addr} {l c : Nat} {h : Heap} {F : List HProp} (hF : sat F h) (hR : RdC h a (x.map nv)) (h8 : B8 x) (hl : x.length = l) (hlc : l ≤ c) (hc : c ≤ maxLen) (hm : l ≤ 140737488355328) :
  CallsH Tryz.prog 114 [.slice a l c] h fun v h' => ∃ a' l' c' e, v = .tuple #[.slice a' l' c', .int .i64 e] ∧
   ((∃ body, firstN x = some body ∧ body.length + 8 = l ∧ e = 0 ∧ l' = body.length ∧ sat (ownS 5 1 a' l' c' (body.map nv) :: F) h') ∨
    ((∀ body, firstN x = some body → body.length + 8 ≠ l) ∧ e = 52 ∧ l' = 0 ∧ sat (ownS 5 1 a' l' c' (([] : List Nat).map nv) :: F) h')) := by
 apply F114_ok.ap
 unfold F114
 refine (F185_spec hR h8 hl hlc hc).mono ?_
 rintro v h1 ⟨⟨sa, sl, sc, rfl, hb⟩, rfl⟩
 refine ⟨sa, sl, sc, _, rfl, ?_⟩
 have hcm : c ≤ 9223372036854775807 := hc
 cases hf : firstN x with
 | none =>
   simp only [Option.isSome_none, Bool.not_false, cond_true];exact ⟨none, 0, 0, 52, rfl, .inr ⟨fun b hb => (by cases hb), rfl, rfl, ownS_nil 5 1 hF⟩⟩
 | some body =>
   obtain ⟨hbl, hbr, hbc, hbm⟩ := hb body hf;obtain ⟨_, hb2, hb3, _, _, hb8⟩ := Frame.firstN_some h8 hf;simp only [Option.isSome_some, Bool.not_true, cond_false];have w1 : IntKind.wrap .i64 ((sl : Int) + 8) = ((sl + 8 : Nat) : Int) := by rw [IntWalk.i64_in _ (by omega)]; omega
   rw [w1, bneN];by_cases he : sl + 8 = l
   · rw [decide_eq_false (by simpa using he), cond_false];refine appB (xs := []) t26 s26 i5 (ownS_nil 5 1 hF) (srcB hbr hbl) (by omega) fun a' c' h' _ H => ?_;rw [DSl_slice];refine ⟨a', 0 + sl, c', 0, rfl, .inl ⟨body, rfl, by omega, rfl, by omega, H⟩⟩
   · rw [decide_eq_true (by simpa using he), cond_true];exact ⟨none, 0, 0, 52, rfl, .inr ⟨fun b hb => (by simp only [Option.some.injEq] at hb; subst hb; omega), rfl, rfl, ownS_nil 5 1 hF⟩⟩
end Go.Proofs.YtibdiikcigokjaaGreatDoor
