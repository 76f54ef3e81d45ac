/- What the frame's functions compute, in the program. -/
import Derived.Test.YtpblcdgglbhdoaaFw12
import Derived.Test.YtpblcdgglbhdoaaFr1
import Derived.Test.YtpblcdgglbhdoaaCr2
namespace Go.Proofs.Ytpblcdgglbhdoaa
open Go Go.RowKit
set_option linter.unusedVariables false
set_option linter.unusedSimpArgs false
open Crc (Run More)
open Frame (be4 val4 packN firstN refAt scanN reach be4_B8 val4_lt val4_take packN_length packN_B8)

theorem More_B {x : List Nat} (hx : B8 x) {c : Nat} (hc : c < 4294967296) : More c x < 4294967296 := Crc.More_lt hc hx
theorem t26 : Try.prog.underlying 26 = some (.slice 5) := by kernel_rfl
theorem t9 : Try.prog.underlying 9 = some .string := by kernel_rfl
theorem t5 : Try.prog.underlying 5 = some (.int .u8) := by kernel_rfl
theorem t43 : Try.prog.underlying 43 = some (.slice 26) := by kernel_rfl
theorem t46 : Try.prog.underlying 46 = some (.slice 9) := by kernel_rfl
theorem s26 : srcTy Try.prog 26 = true := by kernel_rfl
theorem s9 : srcTy Try.prog 9 = true := by kernel_rfl
theorem s43 : srcTy Try.prog 43 = true := by kernel_rfl
theorem s46 : srcTy Try.prog 46 = true := by kernel_rfl
theorem i5 : infoOk Try.prog 5 1 = true := by kernel_rfl
theorem i26 : infoOk Try.prog 26 24 = true := by kernel_rfl
theorem i9 : infoOk Try.prog 9 16 = true := by kernel_rfl

theorem F32_spec {ns : List Nat} {a : Option Addr} {l c : Nat} {h : Heap} (hr : RdC h a (ns.map nv)) (h8 : B8 ns) (hl : ns.length = l) (h4 : 4 ≤ l) :
    CallsH Try.prog 32 [.slice a l c] h fun v h' => v = .int .u32 (val4 ns : Nat) ∧ h' = h := by
  apply F32_ok
  unfold F32
  match ns, hl with
  | x0 :: x1 :: x2 :: x3 :: r, hl =>
    have hm : ((x0 :: x1 :: x2 :: x3 :: r).map nv).length = l := by rw [List.length_map]; exact hl
    refine IdxA_nat (i := 0) hr hm (v := nv x0) rfl fun b hb hc => ⟨_, hc, ?_⟩
    show DI .u8 (.int .u8 (x0 : Int)) _
    rw [DI_int]
    refine ⟨by decide, IdxA_nat (i := 1) hr hm (v := nv x1) rfl fun b hb hc => ⟨_, hc, ?_⟩⟩
    show DI .u8 (.int .u8 (x1 : Int)) _
    rw [DI_int]
    refine ⟨by decide, IdxA_nat (i := 2) hr hm (v := nv x2) rfl fun b hb hc => ⟨_, hc, ?_⟩⟩
    show DI .u8 (.int .u8 (x2 : Int)) _
    rw [DI_int]
    refine ⟨by decide, IdxA_nat (i := 3) hr hm (v := nv x3) rfl fun b hb hc => ⟨_, hc, ?_⟩⟩
    show DI .u8 (.int .u8 (x3 : Int)) _
    rw [DI_int, be_num (h8 x0 (by simp)) (h8 x1 (by simp)) (h8 x2 (by simp)) (h8 x3 (by simp))]
    exact ⟨rfl, rfl⟩
  | [], hl => simp at hl; omega
  | [_], hl => simp at hl; omega
  | [_, _], hl => simp at hl; omega
  | [_, _, _], hl => simp at hl; omega

theorem F28_spec {n : Nat} (hn : n < 4294967296) {h : Heap} {F : List HProp} (hF : sat F h) :
    CallsH Try.prog 28 [.int .u32 (n : Int)] h fun v h' => ∃ b, v = .slice (some ⟨b, 0, none⟩) 4 4 ∧ sat (ownS 5 1 (some ⟨b, 0, none⟩) 4 4 ((be4 n).map nv) :: F) h' := by
  apply F28_ok
  unfold F28
  refine ⟨by decide, by decide, by decide, Al_sat hF fun b h' H => ⟨b, rfl, ownS_mk H (nofz_zero _) (by decide) (by unfold maxLen; decide) rfl ?_⟩⟩
  rw [show (24 : Int) = ((24 : Nat) : Int) from rfl, show (16 : Int) = ((16 : Nat) : Int) from rfl, show (8 : Int) = ((8 : Nat) : Int) from rfl,
    shrI_nat .u32 n 24 (by decide), shrI_nat .u32 n 16 (by decide), shrI_nat .u32 n 8 (by decide), u8_of_nat, u8_of_nat, u8_of_nat, u8_of_nat]
  rfl
theorem F29_spec {n : Nat} (hn : n < 4294967296) {h : Heap} {F : List HProp} (hF : sat F h) :
    CallsH Try.prog 29 [.int .u32 (n : Int)] h fun v h' => v = .string (ofN (be4 n)) ∧ sat F h' := by
  apply F29_ok
  unfold F29
  refine ⟨by decide, by decide, by decide, by decide, by decide, by decide, Al_sat hF fun b h' H => ⟨ofN (be4 n), ?_, rfl, H.drop⟩⟩
  have H2 : sat (ownS 5 1 (some ⟨b, 0, none⟩) 4 4 ((be4 n).map nv) :: F) h' := by
    refine ownS_mk H (nofz_zero _) (by decide) (by unfold maxLen; decide) rfl ?_
    have e1 : Int.tdiv (n : Int) 16777216 = ((n / 16777216 : Nat) : Int) := tdiv_nat _ _
    have e2 : Int.tdiv (n : Int) 65536 = ((n / 65536 : Nat) : Int) := tdiv_nat _ _
    have e3 : Int.tdiv (n : Int) 256 = ((n / 256 : Nat) : Int) := tdiv_nat _ _
    have e4 : ∀ m : Nat, Int.tmod (m : Int) 256 = ((m % 256 : Nat) : Int) := fun m => tmod_nat _ _
    rw [e1, e2, e3, IntWalk.u32_in ((n / 16777216 : Nat) : Int) (by omega), IntWalk.u32_in ((n / 65536 : Nat) : Int) (by omega), IntWalk.u32_in ((n / 256 : Nat) : Int) (by omega), e4, e4, e4, u8_of_nat, u8_of_nat, u8_of_nat, u8_of_nat]
    simp [be4, nv]
  exact bytesIn_of (ownS_read H2) rfl (be4_B8 n)

theorem F20_spec {x : List Nat} {a : Option Addr} {l c : Nat} {h : Heap} {F : List HProp} (hF : sat F h) (hR : ∀ h', sat F h' → RdC h' a (x.map nv)) (h8 : B8 x) (hl : x.length = l) (hm : l ≤ 16777208) :
    CallsH Try.prog 20 [.slice a l c] h fun v h' => ∃ b c', v = .tuple #[.slice (some b) (8 + l) c', .int .i64 0] ∧ sat (ownS 5 1 (some b) (8 + l) c' ((packN x).map nv) :: F) h' := by
  apply F20_ok
  unfold F20
  rw [decide_eq_false (show ¬ ((l : Int) > 16777208) by omega), cond_false, IntWalk.u32_in (l : Int) (by omega)]
  refine (F28_spec (by omega) hF).mono ?_
  rintro v h1 ⟨b1, rfl, H1⟩
  rw [DSl_slice]
  refine (F16_spec (l := 4) (ownS_read H1) (be4_B8 l) rfl (by decide)).mono ?_
  rintro v h2 ⟨rfl, rfl⟩
  rw [DI_int]
  have hM1 : More 0 (be4 l) < 4294967296 := More_B (be4_B8 l) (by decide)
  refine (F18_spec hM1 (hR _ H1.drop) h8 hl (by omega)).mono ?_
  rintro v h3 ⟨rfl, rfl⟩
  rw [DI_int, ← Crc.More_append]
  have hM2 : More 0 (be4 l ++ x) < 4294967296 := More_B ((be4_B8 l).append h8) (by decide)
  refine (F28_spec hM2 H1).mono ?_
  rintro v h4 ⟨b2, rfl, H4⟩
  rw [DSl_slice]
  refine appB t26 s26 i5 (H4.mv 1) (srcB (ownS_read H4) rfl) (by decide) fun a5 c5 h5 _ H5 => ?_
  rw [DSl_slice]
  refine appB t26 s26 i5 H5 (srcB (hR _ H5.drop.drop) hl) (by omega) fun a6 c6 h6 h60 H6 => ?_
  rw [DSl_slice]
  cases a6 with
  | none => have := h60 rfl; omega
  | some b =>
    refine ⟨b, c6, rfl, ?_⟩
    have := (H6.mv 1).drop
    subst hl
    exact this
theorem F21_spec {s : ByteArray} {h : Heap} {F : List HProp} (hF : sat F h) (hm : s.size ≤ 16777208) :
    CallsH Try.prog 21 [.string s] h fun v h' => v = .tuple #[.string (ofN (packN (sb s))), .int .i64 0] ∧ sat F h' := by
  apply F21_ok
  unfold F21
  have hsl := sb_length s
  rw [decide_eq_false (show ¬ ((s.size : Int) > 16777208) by omega), cond_false, IntWalk.u32_in (s.size : Int) (by omega)]
  refine (F29_spec (by omega) hF).mono ?_
  rintro v h1 ⟨rfl, H1⟩
  rw [DS_string]
  have e1 : sb (ofN (be4 s.size)) = be4 s.size := sb_ofN (be4_B8 _)
  have z1 : (ofN (be4 s.size)).size = 4 := by rw [← sb_length, e1]; rfl
  refine ⟨by omega, ?_⟩
  have e2 : sb (ofN (be4 s.size) ++ s) = be4 s.size ++ sb s := by rw [sb_append, e1]
  refine (F14_spec (b := ofN (be4 s.size) ++ s) (by rw [← sb_length, e2, List.length_append, hsl]; simp [be4]; omega)).mono ?_
  rintro v h2 ⟨rfl, rfl⟩
  rw [DI_int, show nb (ofN (be4 s.size) ++ s).data.toList = be4 s.size ++ sb s from e2]
  have hM2 : More 0 (be4 s.size ++ sb s) < 4294967296 := More_B ((be4_B8 _).append (sb_B8 s)) (by decide)
  refine (F29_spec hM2 H1).mono ?_
  rintro v h3 ⟨rfl, H3⟩
  rw [DS_string]
  have e3 : sb (ofN (be4 (More 0 (be4 s.size ++ sb s)))) = be4 (More 0 (be4 s.size ++ sb s)) := sb_ofN (be4_B8 _)
  have z3 : (ofN (be4 (More 0 (be4 s.size ++ sb s)))).size = 4 := by rw [← sb_length, e3]; rfl
  have e4 : sb (ofN (be4 s.size) ++ ofN (be4 (More 0 (be4 s.size ++ sb s)))) = be4 s.size ++ be4 (More 0 (be4 s.size ++ sb s)) := by rw [sb_append, e1, e3]
  refine ⟨by omega, by rw [← sb_length, e4]; simp [be4]; omega, ?_, H3⟩
  refine congrArg (fun z => Value.tuple #[.string z, .int .i64 0]) (sb_inj ?_)
  rw [sb_append, e4, sb_ofN (packN_B8 (sb_B8 s))]
  unfold packN
  rw [hsl]

/-- What the first frame is told to be. -/
def FirstIs (x : List Nat) (h : Heap) (v : Value) : Prop :=
  ∃ sa sl sc, v = .tuple #[.slice sa sl sc, .bool (firstN x).isSome] ∧ ∀ body, firstN x = some body → body.length = sl ∧ RdC h sa (body.map nv) ∧ sl ≤ sc ∧ sc ≤ maxLen
theorem F30_spec {x : List Nat} {a : Option Addr} {l c : Nat} {h : Heap} (hr : RdC h a (x.map nv)) (h8 : B8 x) (hl : x.length = l) (hlc : l ≤ c) (hc : c ≤ maxLen) :
    CallsH Try.prog 30 [.slice a l c] h fun v h' => FirstIs x h v ∧ h' = h := by
  apply F30_ok
  unfold F30
  have hcm : c ≤ 9223372036854775807 := hc
  by_cases h1 : l < 8
  · rw [decide_eq_true (show ((l : Int) < 8) by omega), cond_true]
    have : firstN x = none := by unfold firstN; rw [if_pos (by omega)]
    exact ⟨⟨none, 0, 0, by rw [this]; rfl, fun b hb => by rw [this] at hb; cases hb⟩, rfl⟩
  · rw [decide_eq_false (show ¬ ((l : Int) < 8) by omega), cond_false]
    refine (F32_spec hr h8 hl (by omega)).mono ?_
    rintro v g ⟨rfl, rfl⟩
    rw [DI_int]
    by_cases h2 : val4 x > 16777208
    · rw [decide_eq_true (show (((val4 x : Nat) : Int) > 16777208) by omega), cond_true]
      have : firstN x = none := by unfold firstN; rw [if_neg (by omega), if_pos h2]
      exact ⟨⟨none, 0, 0, by rw [this]; rfl, fun b hb => by rw [this] at hb; cases hb⟩, rfl⟩
    · rw [decide_eq_false (show ¬ (((val4 x : Nat) : Int) > 16777208) by omega), cond_false]
      have w1 : IntKind.wrap .i64 ((val4 x : Nat) : Int) = ((val4 x : Nat) : Int) := wrap64_nat (by omega)
      have w2 : IntKind.wrap .i64 ((l : Int) - 8) = ((l - 8 : Nat) : Int) := by rw [IntWalk.i64_in _ (by omega)]; omega
      have w3 : IntKind.wrap .i64 (8 + ((val4 x : Nat) : Int)) = ((8 + val4 x : Nat) : Int) := by rw [IntWalk.i64_in _ (by omega)]; omega
      rw [w1, w2, w3]
      by_cases h3 : val4 x > l - 8
      · rw [decide_eq_true (show (((val4 x : Nat) : Int) > ((l - 8 : Nat) : Int)) by omega), cond_true]
        have : firstN x = none := by unfold firstN; rw [if_neg (by omega), if_neg h2, if_pos (by omega)]
        exact ⟨⟨none, 0, 0, by rw [this]; rfl, fun b hb => by rw [this] at hb; cases hb⟩, rfl⟩
      · rw [decide_eq_false (show ¬ (((val4 x : Nat) : Int) > ((l - 8 : Nat) : Int)) by omega), cond_false]
        have hbl : ((x.drop 8).take (val4 x)).length = val4 x := by rw [List.length_take, List.length_drop]; omega
        have hb8 : B8 ((x.drop 8).take (val4 x)) := (h8.drop 8).take _
        have r1 : RdC g (subA a 8 c 1) (((x.drop 8).take (val4 x)).map nv) := by
          rw [List.map_take, List.map_drop]
          exact hr.sub 8 (val4 x) c (by omega)
        have r2 : RdC g (subA a 4 c 1) ((x.drop 4).map nv) := by
          have := hr.sub 4 (l - 4) c (by omega)
          rw [← List.map_drop, ← List.map_take, List.take_of_length_le (by rw [List.length_drop]; omega)] at this
          exact this
        have r3 : RdC g (subA a 0 c 1) ((x.take 4).map nv) := by
          have := hr.sub 0 4 c (by omega)
          rw [List.drop_zero, ← List.map_take] at this
          exact this
        refine SlV_nat (lo := 8) (by omega) (by omega) (Nat.le_refl _) (SlV_nat (lo := 4) (by omega) (by omega) (Nat.le_refl _) ?_)
        refine ⟨_, (F32_spec r2 (h8.drop 4) (by rw [List.length_drop, hl]) (by omega)).mono fun v h' ⟨e1, e2⟩ => ⟨e1, e2⟩, ?_⟩
        rw [DI_int]
        refine SlV_nat (lo := 0) (hi := 4) (by omega) (by omega) (Nat.le_refl _) ?_
        refine ⟨_, (F16_spec r3 (h8.take 4) (by rw [List.length_take]; omega) (by omega)).mono fun v h' ⟨e1, e2⟩ => ⟨e1, e2⟩, ?_⟩
        rw [DI_int]
        refine ⟨_, (F18_spec (More_B (h8.take 4) (by decide)) r1 hb8 (by rw [hbl]; omega) (by omega)).mono fun v h' ⟨e1, e2⟩ => ⟨e1, e2⟩, ?_⟩
        rw [DI_int, beqN]
        refine ⟨⟨subA a 8 c 1, 8 + val4 x - 8, c - 8, ?_, ?_⟩, rfl⟩
        · congr 3
          unfold firstN
          rw [if_neg (by omega), if_neg h2, if_neg (by omega)]
          by_cases hs : val4 (x.drop 4) = More (More 0 (x.take 4)) ((x.drop 8).take (val4 x))
          · rw [if_pos hs]; simp [hs]
          · rw [if_neg hs]; simp [hs]
        · intro body hb
          have : body = (x.drop 8).take (val4 x) := by
            unfold firstN at hb
            rw [if_neg (by omega), if_neg h2, if_neg (by omega)] at hb
            split at hb
            · simp only [Option.some.injEq] at hb; exact hb.symm
            · cases hb
          subst this
          exact ⟨by rw [hbl]; omega, r1, by omega, by omega⟩
theorem F22_spec {x : List Nat} {a : Option Addr} {l c : Nat} {h : Heap} {F : List HProp} (hF : sat F h) (hR : RdC h a (x.map nv)) (h8 : B8 x) (hl : x.length = l) (hlc : l ≤ c) (hc : c ≤ maxLen) (hm : l ≤ 140737488355328) :
    CallsH Try.prog 22 [.slice a l c] h fun v h' => ∃ a' l' c' e, v = .tuple #[.slice a' l' c', .int .i64 e] ∧
      ((∃ body, firstN x = some body ∧ body.length + 8 = l ∧ e = 0 ∧ l' = body.length ∧ sat (ownS 5 1 a' l' c' (body.map nv) :: F) h') ∨
       ((∀ body, firstN x = some body → body.length + 8 ≠ l) ∧ e = 52 ∧ l' = 0 ∧ sat (ownS 5 1 a' l' c' (([] : List Nat).map nv) :: F) h')) := by
  apply F22_ok
  unfold F22
  refine (F30_spec hR h8 hl hlc hc).mono ?_
  rintro v h1 ⟨⟨sa, sl, sc, rfl, hb⟩, rfl⟩
  refine ⟨sa, sl, sc, _, rfl, ?_⟩
  have hcm : c ≤ 9223372036854775807 := hc
  cases hf : firstN x with
  | none =>
    simp only [Option.isSome_none, Bool.not_false, cond_true]
    exact ⟨none, 0, 0, 52, rfl, .inr ⟨fun b hb => (by cases hb), rfl, rfl, ownS_nil 5 1 hF⟩⟩
  | some body =>
    obtain ⟨hbl, hbr, hbc, hbm⟩ := hb body hf
    obtain ⟨_, hb2, hb3, _, _, hb8⟩ := Frame.firstN_some h8 hf
    simp only [Option.isSome_some, Bool.not_true, cond_false]
    have w1 : IntKind.wrap .i64 ((sl : Int) + 8) = ((sl + 8 : Nat) : Int) := by rw [IntWalk.i64_in _ (by omega)]; omega
    rw [w1, bneN]
    by_cases he : sl + 8 = l
    · rw [decide_eq_false (by simpa using he), cond_false]
      refine appB (xs := []) t26 s26 i5 (ownS_nil 5 1 hF) (srcB hbr hbl) (by omega) fun a' c' h' _ H => ?_
      rw [DSl_slice]
      refine ⟨a', 0 + sl, c', 0, rfl, .inl ⟨body, rfl, by omega, rfl, by omega, H⟩⟩
    · rw [decide_eq_true (by simpa using he), cond_true]
      exact ⟨none, 0, 0, 52, rfl, .inr ⟨fun b hb => (by simp only [Option.some.injEq] at hb; subst hb; omega), rfl, rfl, ownS_nil 5 1 hF⟩⟩

end Go.Proofs.Ytpblcdgglbhdoaa
