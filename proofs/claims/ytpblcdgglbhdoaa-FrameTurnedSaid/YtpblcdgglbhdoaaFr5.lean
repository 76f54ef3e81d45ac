/- A frame whose bytes are turned is none: the law of turned frames. -/
import Derived.Test.YtpblcdgglbhdoaaFr4
import Derived.Test.YtpblcdgglbhdoaaCr3
namespace Go.Proofs.Ytpblcdgglbhdoaa
open Go Go.RowKit
set_option linter.unusedVariables false
set_option linter.unusedSimpArgs false
open Crc (Run More)
open Frame (be4 val4 packN firstN refAt scanN reach be4_B8 val4_lt val4_take packN_length packN_B8 firstN_refAt scanN_eq firstN_some firstN_pack)

theorem cur_append (P M : List Nat) (f k W : Nat) : cur (P ++ M) (P.length + f) k W = P ++ cur M f k W := by
  unfold cur
  rw [List.take_append, List.take_of_length_le (by omega : P.length ≤ P.length + f), List.drop_append, List.drop_of_length_le (by omega : P.length ≤ P.length + f), List.drop_append, List.drop_of_length_le (by omega : P.length ≤ P.length + f + k)]
  simp [Nat.add_sub_cancel_left, Nat.add_assoc]
theorem cur_left (Q M : List Nat) (f k W : Nat) (h : f + k ≤ Q.length) : cur (Q ++ M) f k W = cur Q f k W ++ M := by
  unfold cur
  rw [List.take_append_of_le_length (by omega), List.drop_append_of_le_length (by omega), List.drop_append_of_le_length (by omega)]
  have hl : (Crc.bytes k W).length ≤ (Q.drop f).length := by rw [Crc.bytes_length, List.length_drop]; omega
  have hz : List.zipWith (· ^^^ ·) (Q.drop f ++ M) (Crc.bytes k W) = List.zipWith (· ^^^ ·) (Q.drop f) (Crc.bytes k W) := by
    have e1 : Q.drop f ++ M = (Q.drop f).take k ++ ((Q.drop f).drop k ++ M) := by rw [← List.append_assoc, List.take_append_drop]
    have e2 : Q.drop f = (Q.drop f).take k ++ (Q.drop f).drop k := (List.take_append_drop ..).symm
    have hk : ((Q.drop f).take k).length = (Crc.bytes k W).length := by rw [List.length_take, List.length_drop, Crc.bytes_length]; omega
    have z1 := List.zipWith_append (f := fun (x y : Nat) => x ^^^ y) (l₁ := (Q.drop f).take k) (l₂ := Crc.bytes k W) (l₁' := (Q.drop f).drop k ++ M) (l₂' := []) hk
    have z2 := List.zipWith_append (f := fun (x y : Nat) => x ^^^ y) (l₁ := (Q.drop f).take k) (l₂ := Crc.bytes k W) (l₁' := (Q.drop f).drop k) (l₂' := []) hk
    rw [List.append_nil] at z1 z2
    rw [e1, z1]
    conv => rhs; rw [e2, z2]
    simp
  rw [hz]
  simp
theorem cur_get2 {N : List Nat} {f k W j n : Nat} (hn : N[f + j]? = some n) (hj : j < k) : (cur N f k W)[f + j]? = some (n ^^^ (W / 256 ^ j % 256)) := by
  have hlt := (List.getElem?_eq_some_iff.1 hn).1
  unfold cur
  rw [List.append_assoc, List.getElem?_append_right (by rw [List.length_take]; omega), List.length_take, Nat.min_eq_left (by omega), Nat.add_sub_cancel_left,
    List.getElem?_append_left (by rw [List.length_zipWith, List.length_drop, Crc.bytes_length]; omega), List.getElem?_zipWith, List.getElem?_drop, hn, Crc.bytes_get _ _ _ hj]
theorem cur_eq {N : List Nat} {f k W : Nat} (h : f + k ≤ N.length) : cur N f k W = N ↔ ∀ b ∈ Crc.bytes k W, b = 0 := by
  constructor
  · intro he b hb
    obtain ⟨j, hj⟩ := List.getElem?_of_mem hb
    have hjk : j < k := by
      have := (List.getElem?_eq_some_iff.1 hj).1
      rwa [Crc.bytes_length] at this
    rw [Crc.bytes_get _ _ _ hjk] at hj
    simp only [Option.some.injEq] at hj
    obtain ⟨n, hn⟩ : ∃ n, N[f + j]? = some n := ⟨_, List.getElem?_eq_getElem (by omega)⟩
    have h2 := cur_get2 (W := W) hn hjk
    rw [he, hn] at h2
    simp only [Option.some.injEq] at h2
    rw [hj] at h2
    have := congrArg (fun z => n ^^^ z) h2
    simp only [Crc.xor_xor, Nat.xor_self] at this
    exact this.symm
  · induction k with
    | zero => intro _; exact cur_zero N f W
    | succ k ih =>
      intro hz
      rw [bytes_succ] at hz
      have h1 := ih (by omega) fun b hb => hz b (by simp [hb])
      have h2 : W / 256 ^ k % 256 = 0 := hz _ (by simp)
      obtain ⟨n, hn⟩ : ∃ n, N[f + k]? = some n := ⟨_, List.getElem?_eq_getElem (by omega)⟩
      have h3 := cur_succ (W := W) hn
      rw [h1, h2, Nat.xor_zero] at h3
      rw [← h3]
      apply List.ext_getElem?
      intro i
      rw [List.getElem?_set]
      split
      · rename_i e
        subst e
        rw [if_pos (by omega), hn]
      · rfl
theorem be4_inj {m n : Nat} (hm : m < 4294967296) (hn : n < 4294967296) (h : be4 m = be4 n) : m = n := by
  have h1 := Frame.val4_be4 hm []
  have h2 := Frame.val4_be4 hn []
  rw [List.append_nil] at h1 h2
  rw [← h1, ← h2, h]
/-- A turned frame is the frame of something of the same length only where nothing was turned. -/
theorem turned_none {x : List Nat} (h8 : B8 x) (hx : x.length ≤ 16777208) {f k W E : Nat} (hW : W < 4294967296) (hk : k ≤ 4) (hf : 4 ≤ f) (hE : f + k ≤ E) (hcase : (f < 8 ∧ E = 8) ∨ (8 ≤ f ∧ E = 8 + x.length)) :
    (∃ body, firstN (cur (packN x) f k W) = some body ∧ body.length + 8 = 8 + x.length) ↔ ∀ b ∈ Crc.bytes k W, b = 0 := by
  have hp8 := packN_B8 h8
  have hlen : f + k ≤ (packN x).length := by rw [packN_length]; omega
  constructor
  · rintro ⟨body, hb, hbl⟩
    obtain ⟨e, _, hle, _, _, hb8⟩ := firstN_some (cur_lt hp8 f k W) hb
    have hcl := cur_length (W := W) hlen
    rw [packN_length] at hcl
    rw [List.drop_of_length_le (by omega), List.append_nil] at e
    have hbx : body.length = x.length := by omega
    have hMx : More 0 (be4 x.length ++ x) < 4294967296 := More_B ((be4_B8 _).append h8) (by decide)
    have hMb : More 0 (be4 x.length ++ body) < 4294967296 := More_B ((be4_B8 _).append hb8) (by decide)
    have ex : packN x = be4 x.length ++ (be4 (More 0 (be4 x.length ++ x)) ++ x) := by simp [packN]
    have eb : packN body = be4 x.length ++ (be4 (More 0 (be4 x.length ++ body)) ++ body) := by simp [packN, hbx]
    rcases hcase with ⟨hf8, rfl⟩ | ⟨hf8, rfl⟩
    · have e2 := e
      rw [ex, show f = (be4 x.length).length + (f - 4) from by rw [Frame.be4_length]; omega, cur_append, cur_left _ _ _ _ _ (by rw [Frame.be4_length]; omega), eb] at e2
      have e3 := List.append_cancel_left e2
      have e4 := List.append_inj_right' e3 hbx.symm
      rw [← e4] at e
      exact (cur_eq hlen).1 e
    · have e2 := e
      rw [ex, eb, ← List.append_assoc, ← List.append_assoc, show f = (be4 x.length ++ be4 (More 0 (be4 x.length ++ x))).length + (f - 8) from by rw [List.length_append, Frame.be4_length, Frame.be4_length]; omega, cur_append] at e2
      have e3 := List.append_inj e2 (by simp [Frame.be4_length])
      have e4 := be4_inj hMx hMb (List.append_cancel_left e3.1)
      have e5 : be4 x.length ++ body = cur (be4 x.length ++ x) ((be4 x.length).length + (f - 8)) k W := by rw [cur_append, e3.2]
      rw [e5] at e4
      have hlen2 : (be4 x.length).length + (f - 8) + k ≤ (be4 x.length ++ x).length := by rw [List.length_append, Frame.be4_length]; omega
      exact (cur_sum (turn := W) (bit := 0) (by simp) hW (by decide) (by omega) hlen2).1 e4.symm
  · intro hz
    refine ⟨x, ?_, by omega⟩
    rw [(cur_eq hlen).2 hz]
    have := firstN_pack h8 hx []
    rwa [List.append_nil] at this
theorem turn_byte {turn k : Nat} (ht : turn < 4294967296) (hk : k < 4) :
    IntKind.wrap .u8 (shrI .u32 (turn : Int) (IntKind.wrap .u64 (IntKind.wrap .i64 (8 * (k : Int))))) = ((turn / 256 ^ k % 256 : Nat) : Int) := by
  have e2 : IntKind.wrap .u64 (IntKind.wrap .i64 (8 * (k : Int))) = ((8 * k : Nat) : Int) := by
    rw [show 8 * (k : Int) = ((8 * k : Nat) : Int) by simp, wrap64_nat (by omega)]
    exact IntWalk.u64_in _ (by omega)
  rw [e2, shrI_nat .u32 _ _ (by show 8 * k ≤ 32; omega), u8_of_nat, show (256:Nat) ^ k = 2 ^ (8 * k) by rw [Nat.pow_mul]]
theorem turn_loop {x : List Nat} (h8 : B8 x) (hx : x.length ≤ 4000) {f W E : Nat} (hW : W < 4294967296) (hf : 4 ≤ f) (hfE : f ≤ E) (hcase : (f < 8 ∧ E = 8) ∨ (8 ≤ f ∧ E = 8 + x.length))
    {a : Addr} {c : Nat} {h0 h : Heap} {F : List HProp} (hF : ∀ h', sat F h' → Good h0 (.bool true) h') (H : sat (ownS 5 1 (some a) (8 + x.length) c ((packN x).map nv) :: F) h) :
    LoopH (fun (again0 : Bool × Int → Heap → Prop) (s1 : Bool × Int) h_3 =>
              (bif decide ((s1.2 : Int) < 4) then
                (bif decide (((IntKind.wrap .i64 ((f : Int) + s1.2)) : Int) < (E : Int)) then
                  0 ≤ ((IntKind.wrap .u64 (IntKind.wrap .i64 (8 * s1.2))) : Int) ∧
                  IdxA (some a) (8 + x.length) (IntKind.wrap .i64 ((f : Int) + s1.2)) 1 fun a0 =>
                  Ld h_3 a0 fun v0 => DI .u8 v0 fun x4 =>
                  IdxA (some a) (8 + x.length) (IntKind.wrap .i64 ((f : Int) + s1.2)) 1 fun a1 =>
                  StC h_3 (a1.add 0) (.int .u8 (bitsI .xor .u8 x4 (IntKind.wrap .u8 (shrI .u32 (W : Int) (IntKind.wrap .u64 (IntKind.wrap .i64 (8 * s1.2))))))) fun h_5 =>
                  (bif s1.1 then
                    again0 (true, IntKind.wrap .i64 (s1.2 + 1)) h_5
                  else
                    again0 (((IntKind.wrap .u8 (shrI .u32 (W : Int) (IntKind.wrap .u64 (IntKind.wrap .i64 (8 * s1.2))))) : Int) != 0, IntKind.wrap .i64 (s1.2 + 1)) h_5)
                else
                  CallsH Try.prog 22 [.slice (some a) (8 + x.length) c] h_3 fun r4 h_6 =>
                  ∃ (x5a : Option Addr), ∃ (x5l : Nat), ∃ (x5c : Nat), ∃ (x6 : Int), r4 = .tuple #[.slice x5a x5l x5c, .int .i64 x6] ∧
                  Good h0 (.bool (((x6 : Int) == 0) == (!s1.1))) h_6)
              else
                CallsH Try.prog 22 [.slice (some a) (8 + x.length) c] h_3 fun r5 h_7 =>
                ∃ (x7a : Option Addr), ∃ (x7l : Nat), ∃ (x7c : Nat), ∃ (x8 : Int), r5 = .tuple #[.slice x7a x7l x7c, .int .i64 x8] ∧
                Good h0 (.bool (((x8 : Int) == 0) == (!s1.1))) h_7)) (false, 0) h := by
  have hp8 := packN_B8 h8
  have hpl := packN_length x
  refine ⟨fun st h5 => ∃ k : Nat, st = ((Crc.bytes k W).any (fun b => b != 0), (k : Int)) ∧ k ≤ 4 ∧ f + k ≤ E ∧ sat (ownS 5 1 (some a) (8 + x.length) c ((cur (packN x) f k W).map nv) :: F) h5, fun st _ => (4 - st.2).toNat, ⟨0, rfl, by omega, by omega, by rw [cur_zero]; exact H⟩, ?_⟩
  rintro st h5 ⟨k, rfl, hk, hfk, H5⟩
  obtain ⟨_, hlc, hcm⟩ := ownS_len H5
  have fin : CallsH Try.prog 22 [.slice (some a) (8 + x.length) c] h5 fun r4 h_6 =>
                  ∃ (x5a : Option Addr), ∃ (x5l : Nat), ∃ (x5c : Nat), ∃ (x6 : Int), r4 = .tuple #[.slice x5a x5l x5c, .int .i64 x6] ∧
                  Good h0 (.bool (((x6 : Int) == 0) == (!(Crc.bytes k W).any (fun b => b != 0)))) h_6 := by
    refine (F22_spec H5 (ownS_read H5) (cur_lt hp8 _ _ _) (by rw [cur_length (by omega), hpl]) hlc hcm (by omega)).mono ?_
    rintro v h6 ⟨a6, l6, c6, e6, rfl, hc6⟩
    refine ⟨_, _, _, _, rfl, ?_⟩
    have ht := turned_none h8 (by omega) hW hk hf hfk hcase
    rcases hc6 with ⟨body, hb, hbl, rfl, _, H6⟩ | ⟨hno, rfl, _, H6⟩
    · have := any_ne.2 (ht.1 ⟨body, hb, hbl⟩)
      rw [this]
      exact hF _ H6.drop.drop
    · have : (Crc.bytes k W).any (fun b => b != 0) = true := by
        cases hany : (Crc.bytes k W).any (fun b => b != 0) with
        | true => rfl
        | false =>
          obtain ⟨body, hb, hbl⟩ := ht.2 (any_ne.1 hany)
          exact absurd hbl (hno body hb)
      rw [this]
      exact hF _ H6.drop.drop
  by_cases hk4 : k < 4
  · rw [decide_eq_true (show ((k : Int) < 4) by omega), cond_true]
    have e0 : IntKind.wrap .i64 ((f : Int) + (k : Int)) = ((f + k : Nat) : Int) := by
      rw [show (f : Int) + (k : Int) = ((f + k : Nat) : Int) by simp]
      exact wrap64_nat (by omega)
    have ebyte := turn_byte hW hk4
    simp only [e0, ebyte]
    by_cases hfl : f + k < E
    · rw [decide_eq_true (show (((f + k : Nat) : Int) < (E : Int)) by omega), cond_true]
      obtain ⟨n, hn⟩ : ∃ n, (packN x)[f + k]? = some n := ⟨_, List.getElem?_eq_getElem (by omega)⟩
      have hn8 : n < 256 := hp8 n (List.mem_of_getElem? hn)
      have hcl : (cur (packN x) f k W).length = (packN x).length := cur_length (by omega)
      have e8 : IntKind.wrap .u64 (IntKind.wrap .i64 (8 * (k : Int))) = ((8 * k : Nat) : Int) := by
        rw [show 8 * (k : Int) = ((8 * k : Nat) : Int) by simp, wrap64_nat (by omega)]
        exact IntWalk.u64_in _ (by omega)
      refine ⟨by rw [e8]; omega, a, rfl, by omega, by omega, nv n, ownS_read H5 _ _ ?_, ?_⟩
      · rw [Int.toNat_natCast, Nat.mul_one, List.getElem?_map, cur_get (by omega), hn]
        rfl
      · show DI .u8 (.int .u8 (n : Int)) _
        rw [DI_int]
        refine ⟨a, rfl, by omega, by omega, ?_⟩
        rw [Int.toNat_natCast, Nat.mul_one]
        simp only [addr_add0]
        have hx8 : W / 256 ^ k % 256 < 256 := Nat.mod_lt _ (by decide)
        rw [xor8 hn8 hx8]
        refine ownS_set H5 (by rw [List.length_map, hcl]; omega) fun h7 H7 => ?_
        rw [show ((cur (packN x) f k W).map nv).set (f + k) (.int .u8 ((n ^^^ (W / 256 ^ k % 256) : Nat) : Int)) = ((cur (packN x) f k W).set (f + k) (n ^^^ (W / 256 ^ k % 256))).map nv from (List.map_set ..).symm, cur_succ hn] at H7
        have hmu : (4 - (IntKind.wrap .i64 ((k : Int) + 1))).toNat < (4 - (k : Int)).toNat := by
          rw [wrap64_succ (by omega)]
          omega
        cases hany : (Crc.bytes k W).any (fun b => b != 0) with
        | true =>
          refine ⟨⟨k + 1, ?_, by omega, by omega, H7⟩, hmu⟩
          rw [wrap64_succ (by omega), bytes_succ, List.any_append, hany]
          rfl
        | false =>
          refine ⟨⟨k + 1, ?_, by omega, by omega, H7⟩, hmu⟩
          rw [wrap64_succ (by omega), bytes_succ, List.any_append, hany]
          have : (((W / 256 ^ k % 256 : Nat) : Int) != 0) = (W / 256 ^ k % 256 != 0) := by
            rw [Bool.eq_iff_iff]
            simp only [bne_iff_ne, ne_eq]
            omega
          rw [this]
          simp
    · rw [decide_eq_false (show ¬ (((f + k : Nat) : Int) < (E : Int)) by omega), cond_false]
      exact fin
  · rw [decide_eq_false (show ¬ ((k : Int) < 4) by omega), cond_false]
    exact fin

theorem FrameTurned_law (s : ByteArray) (at_ turn : Nat) (hat : at_ < 65536) (hturn : turn < 4294967296) (h : Heap) :
    CallsH Try.prog 11 [.string s, .int .u16 (at_ : Int), .int .u32 (turn : Int)] h (Good h) := by
  apply F11_ok
  unfold F11
  refine (F19_spec (sat_old h)).mono ?_
  rintro v h1 ⟨rfl, H1⟩
  rw [DB_bool]
  cases hsz : decide ((s.size : Int) > 4000) with
  | true => exact good_of H1
  | false =>
    have hle : s.size ≤ 4000 := by have := of_decide_eq_false hsz; omega
    cases htz : (turn : Int) == 0 with
    | true => exact good_of H1
    | false =>
      simp only [Bool.not_true, cond_false]
      refine bytesOfB t9 t26 t5 (show s.size ≤ maxLen by unfold maxLen; omega) H1 fun b c h2 H2 => ?_
      rw [DSl_slice]
      refine (F20_spec H2 (fun h' H => ownS_read H) (sb_B8 s) (sb_length s) (by omega)).mono ?_
      rintro v h3 ⟨b3, c3, rfl, H3⟩
      refine ⟨_, _, _, _, rfl, ?_⟩
      rw [show ((0 : Int) != 0) = false from rfl, cond_false]
      have hsl := sb_length s
      have w1 : IntKind.wrap .i64 (((8 + s.size : Nat) : Int) - 4) = ((4 + s.size : Nat) : Int) := by rw [IntWalk.i64_in _ (by omega)]; omega
      have w2 : Int.tmod (IntKind.wrap .i64 (at_ : Int)) ((4 + s.size : Nat) : Int) = ((at_ % (4 + s.size) : Nat) : Int) := by
        rw [wrap64_nat (by omega)]
        exact tmod_nat _ _
      have hmod : at_ % (4 + s.size) < 4 + s.size := Nat.mod_lt _ (by omega)
      have w3 : IntKind.wrap .i64 (4 + ((at_ % (4 + s.size) : Nat) : Int)) = ((4 + at_ % (4 + s.size) : Nat) : Int) := by rw [IntWalk.i64_in _ (by omega)]; omega
      rw [w1, w2, w3]
      refine ⟨by omega, ?_⟩
      generalize hf : 4 + at_ % (4 + s.size) = f at *
      rw [← hsl] at H3 ⊢
      by_cases h8 : f < 8
      · rw [decide_eq_true (show ((f : Int) < 8) by omega), cond_true]
        exact turn_loop (E := 8) (sb_B8 s) (by omega) hturn (by omega) (by omega) (.inl ⟨h8, rfl⟩) (fun h' H => good_of H.drop) H3
      · rw [decide_eq_false (show ¬ ((f : Int) < 8) by omega), cond_false]
        exact turn_loop (E := 8 + (sb s).length) (sb_B8 s) (by omega) hturn (by omega) (by omega) (.inr ⟨by omega, rfl⟩) (fun h' H => good_of H.drop) H3

end Go.Proofs.Ytpblcdgglbhdoaa
