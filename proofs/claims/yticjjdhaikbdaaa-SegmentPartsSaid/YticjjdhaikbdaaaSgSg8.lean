/- How large segments are counts for nothing: the law. -/
import Derived.Test.YticjjdhaikbdaaaSgSgA
import Derived.SliceStrings
namespace Go.Proofs.Yticjjdhaikbdaaa
open Go Go.RowKit Go.ChangeShapes Go.WideShapes Go.ChangeAt
set_option linter.unusedVariables false
set_option linter.unusedSimpArgs false
open Frame (packN packN_length packN_B8)

/-- A text behind texts that are owned. -/
theorem push_own {a : Option Addr} {c : Nat} {s : ByteArray} {ss : List ByteArray} {F : List HProp} {h : Heap} {K : Nat → Heap → Option Addr → Nat → Nat → Prop} (hb : ss.length < 1000000)
    (H : sat (ownS 9 1 a ss.length c (ss.map Value.string) :: F) h) (hK : ∀ b3 a2 c2 h2, sat (ownS 9 1 a2 (ss ++ [s]).length c2 ((ss ++ [s]).map Value.string) :: F) h2 → K b3 h2 a2 (ss ++ [s]).length c2) :
    Al h (.cells #[.string s] 9) fun b3 h1 => RunH Try.prog (Builtin.append_ #[41, 41] 41 #[.slice a ss.length c, .slice (some (Addr.mk b3 0 none)) 1 1]) h1 fun r h2 => DSl r fun ya yl yc => K b3 h2 ya yl yc := by
  refine Al_sat H fun b3 h1 H1 => ?_
  refine append1 (b := 16) (ys := [.string s]) u41 src41 inf9 (H1.mv 1) (srcOf_slice (n := 1) (c := 1) (RdCf H1 rfl) rfl) (by simp [Value.oneCell']) (by omega) fun a2 c2 h2 _ H2 => ?_
  rw [DSl_slice]
  have e : ss.map Value.string ++ [.string s] = (ss ++ [s]).map Value.string := by rw [List.map_append]; rfl
  have e2 : ss.length + 1 = (ss ++ [s]).length := by rw [List.length_append, List.length_singleton]
  rw [e2] at H2 ⊢
  rw [e] at H2
  exact hK b3 a2 c2 h2 ((H2.mv 1).drop)
theorem strRead {ss : List ByteArray} {la : Option Addr} {ll i : Nat} {s : ByteArray} {hh : Heap} {K : Addr → Prop} (hr : RdC hh la (ss.map Value.string)) (hl : ss.length = ll) (hs : ss[i]? = some s)
    (hK : ∀ b, cellAt hh b = some (.string s) → K b) : IdxA la ll (i : Int) 1 K :=
  IdxA_nat (v := .string s) hr (by rw [List.length_map]; exact hl) (by rw [List.getElem?_map, hs]; rfl) fun b hb hc => hK _ hc
theorem CStr {h : Heap} {a : Addr} {x : ByteArray} {K : ByteArray → Prop} (hv : cellAt h a = some (.string x)) (hK : K x) : Ld h a fun v => DS v K := ⟨_, hv, _, rfl, hK⟩
theorem CSl {h : Heap} {a : Addr} {p : Option Addr} {l c : Nat} {K : Option Addr → Nat → Nat → Prop} (hv : cellAt h a = some (.slice p l c)) (hK : K p l c) : Ld h a fun v => DSl v K := ⟨_, hv, by show DSl (.slice p l c) K; rw [DSl_slice]; exact hK⟩
section
variable {ra : Option Addr} {rl rc : Nat} {recs : List ByteArray} {h : Heap}
/-- What is to be read. -/
def loS (recs : List ByteArray) (fr : Nat) : Nat := fr % (min recs.length 30 + 1)
def cntS (recs : List ByteArray) (fr to : Nat) : Nat := to % (min recs.length 30 - loS recs fr + 1)
/-- Between the turns. -/
def TurnJ (h : Heap) (recs : List ByteArray) (fr to : Nat) (st : Sl × Sl × Int) (hh : Heap) : Prop :=
  ∃ (t : Nat) (xs ys : List ByteArray) (xa ya : Option Addr) (xc yc : Nat), st = (⟨xa, xs.length, xc⟩, ⟨ya, ys.length, yc⟩, (t : Int)) ∧ t ≤ 2 ∧ xs.length = (if t = 0 then 0 else cntS recs fr to) ∧ ys.length = (if t ≤ 1 then 0 else cntS recs fr to) ∧
    sat (ownS 9 1 xa xs.length xc (xs.map Value.string) :: ownS 9 1 ya ys.length yc (ys.map Value.string) :: [old h]) hh
theorem parts_read {b lb n fr to t : Nat} {A : AF.FS} {L : AF.Log} {gs : List (List (List Nat))} {k : Nat} {again0 : Sl × Sl × Int → Heap → Prop} {Q : Value → Heap → Prop} {hh : Heap} {xs ys : List ByteArray} {xa ya : Option Addr} {xc yc : Nat} {s0 : Sl × Sl × Int}
    (hs0 : s0 = (⟨xa, xs.length, xc⟩, ⟨ya, ys.length, yc⟩, (t : Int))) (ht : t < 2) (hx : xs.length = (if t = 0 then 0 else cntS recs fr to)) (hy : ys.length = 0) (hrd : RdC h ra (recs.map Value.string)) (hrl : recs.length = rl) (hn : n = min recs.length 30) (hfr : fr < 256) (hto : to < 256)
    (hsh : ∀ s ∈ recs.take n, s.size ≤ 200) (I : AF.SegInv 1048576 gs A L) (hgs : gs.flatten = (recs.take n).map sb) (S : L.Small k) (U : L.Up)
    (H : sat (logP lb b L :: fsP b A :: ownS 9 1 xa xs.length xc (xs.map Value.string) :: ownS 9 1 ya ys.length yc (ys.map Value.string) :: [old h]) hh)
    (hagain : ∀ st h', TurnJ h recs fr to st h' → st.2.2 = (t : Int) + 1 → again0 st h') :
    ((IntKind.wrap .i64 ((n : Int) + 1)) : Int) ≠ 0 ∧
    ((IntKind.wrap .i64 ((IntKind.wrap .i64 ((n : Int) - (Int.tmod (IntKind.wrap .i64 (fr : Int)) (IntKind.wrap .i64 ((n : Int) + 1))))) + 1)) : Int) ≠ 0 ∧
    CallsH Try.prog 51 [.pointer (some ⟨lb, 0, none⟩), .int .i64 (Int.tmod (IntKind.wrap .i64 (fr : Int)) (IntKind.wrap .i64 ((n : Int) + 1))), .int .i64 (IntKind.wrap .i64 ((Int.tmod (IntKind.wrap .i64 (fr : Int)) (IntKind.wrap .i64 ((n : Int) + 1))) + (Int.tmod (IntKind.wrap .i64 (to : Int)) (IntKind.wrap .i64 ((IntKind.wrap .i64 ((n : Int) - (Int.tmod (IntKind.wrap .i64 (fr : Int)) (IntKind.wrap .i64 ((n : Int) + 1))))) + 1)))))] hh fun r5 h_7 =>
    ∃ (x10a : Option Addr), ∃ (x10l : Nat), ∃ (x10c : Nat), ∃ (x11 : Int), r5 = .tuple #[.slice x10a x10l x10c, .int .i64 x11] ∧
    (bif (x11 : Int) != 0 then
      Q (.bool false) h_7
    else
      (bif ((x10l : Int) : Int) != (IntKind.wrap .i64 ((IntKind.wrap .i64 ((Int.tmod (IntKind.wrap .i64 (fr : Int)) (IntKind.wrap .i64 ((n : Int) + 1))) + (Int.tmod (IntKind.wrap .i64 (to : Int)) (IntKind.wrap .i64 ((IntKind.wrap .i64 ((n : Int) - (Int.tmod (IntKind.wrap .i64 (fr : Int)) (IntKind.wrap .i64 ((n : Int) + 1))))) + 1))))) - (Int.tmod (IntKind.wrap .i64 (fr : Int)) (IntKind.wrap .i64 ((n : Int) + 1))))) then
        Q (.bool false) h_7
      else
        LoopH (fun again2 (s2 : Sl × Sl × Int) h_8 =>
          (bif decide ((s2.2.2 : Int) < (x10l : Int)) then
            (bif (s0.2.2 : Int) == 0 then
              IdxA x10a x10l s2.2.2 1 fun a3 =>
              Ld h_8 a3 fun v2 => DSl v2 fun x12a x12l x12c =>
              ∃ bs0 : ByteArray, BytesIn h_8 x12a x12l bs0 ∧
              Al h_8 (.cells #[.string bs0] 9) fun b1 h_9 =>
              RunH Try.prog (Builtin.append_ #[41, 41] 41 #[.slice s2.1.a s2.1.l s2.1.c, .slice (some (Addr.mk b1 0 none)) 1 1]) h_9 fun r7 h_10 =>
              DSl r7 fun x13a x13l x13c =>
              IdxA x10a x10l s2.2.2 1 fun a4 =>
              Ld h_10 a4 fun v3 => DSl v3 fun x14a x14l x14c =>
              ∃ bs1 : ByteArray, BytesIn h_10 x14a x14l bs1 ∧
              IdxA ra rl (IntKind.wrap .i64 ((Int.tmod (IntKind.wrap .i64 (fr : Int)) (IntKind.wrap .i64 ((n : Int) + 1))) + s2.2.2)) 1 fun a5 =>
              Ld h_10 a5 fun v4 => DS v4 fun x15 =>
              (bif !strEq bs1 x15 then
                Q (.bool false) h_10
              else
                again2 (⟨x13a, x13l, x13c⟩, ⟨s2.2.1.a, s2.2.1.l, s2.2.1.c⟩, IntKind.wrap .i64 (s2.2.2 + 1)) h_10)
            else
              IdxA x10a x10l s2.2.2 1 fun a6 =>
              Ld h_8 a6 fun v5 => DSl v5 fun x16a x16l x16c =>
              ∃ bs2 : ByteArray, BytesIn h_8 x16a x16l bs2 ∧
              Al h_8 (.cells #[.string bs2] 9) fun b2 h_11 =>
              RunH Try.prog (Builtin.append_ #[41, 41] 41 #[.slice s2.2.1.a s2.2.1.l s2.2.1.c, .slice (some (Addr.mk b2 0 none)) 1 1]) h_11 fun r9 h_12 =>
              DSl r9 fun y0a y0l y0c =>
              IdxA x10a x10l s2.2.2 1 fun a7 =>
              Ld h_12 a7 fun v6 => DSl v6 fun x17a x17l x17c =>
              ∃ bs3 : ByteArray, BytesIn h_12 x17a x17l bs3 ∧
              IdxA ra rl (IntKind.wrap .i64 ((Int.tmod (IntKind.wrap .i64 (fr : Int)) (IntKind.wrap .i64 ((n : Int) + 1))) + s2.2.2)) 1 fun a8 =>
              Ld h_12 a8 fun v7 => DS v7 fun x18 =>
              (bif !strEq bs3 x18 then
                Q (.bool false) h_12
              else
                again2 (⟨s2.1.a, s2.1.l, s2.1.c⟩, ⟨y0a, y0l, y0c⟩, IntKind.wrap .i64 (s2.2.2 + 1)) h_12))
          else
            again0 (⟨s2.1.a, s2.1.l, s2.1.c⟩, ⟨s2.2.1.a, s2.2.1.l, s2.2.1.c⟩, IntKind.wrap .i64 (s0.2.2 + 1)) h_8)) (⟨s0.1.a, s0.1.l, s0.1.c⟩, ⟨s0.2.1.a, s0.2.1.l, s0.2.1.c⟩, 0) h_7)) := by
  subst hs0
  dsimp only
  have hnl : n ≤ recs.length := by omega
  have elo : loS recs fr = fr % (n + 1) := by unfold loS; rw [hn]
  have ecnt : cntS recs fr to = to % (n - loS recs fr + 1) := by unfold cntS; rw [hn]
  have hlo : fr % (n + 1) ≤ n := by have := Nat.mod_lt fr (show 0 < n + 1 by omega); omega
  have hcnt : to % (n - fr % (n + 1) + 1) ≤ n - fr % (n + 1) := by have := Nat.mod_lt to (show 0 < n - fr % (n + 1) + 1 by omega); omega
  rw [elo] at ecnt
  have w1 : IntKind.wrap .i64 ((n : Int) + 1) = ((n + 1 : Nat) : Int) := wrap64_succ (by omega)
  have w2 : IntKind.wrap .i64 (fr : Int) = (fr : Int) := wrap64_nat (by omega)
  have w3 : IntKind.wrap .i64 (to : Int) = (to : Int) := wrap64_nat (by omega)
  have w4 : IntKind.wrap .i64 ((n : Int) - ((fr % (n + 1) : Nat) : Int)) = ((n - fr % (n + 1) : Nat) : Int) := by rw [IntWalk.i64_in _ (by omega)]; omega
  have w5 : IntKind.wrap .i64 (((n - fr % (n + 1) : Nat) : Int) + 1) = ((n - fr % (n + 1) + 1 : Nat) : Int) := wrap64_succ (by omega)
  have w6 : IntKind.wrap .i64 (((fr % (n + 1) : Nat) : Int) + ((to % (n - fr % (n + 1) + 1) : Nat) : Int)) = ((fr % (n + 1) + to % (n - fr % (n + 1) + 1) : Nat) : Int) := by rw [IntWalk.i64_in _ (by omega)]; omega
  have w7 : IntKind.wrap .i64 (((fr % (n + 1) + to % (n - fr % (n + 1) + 1) : Nat) : Int) - ((fr % (n + 1) : Nat) : Int)) = ((to % (n - fr % (n + 1) + 1) : Nat) : Int) := by rw [IntWalk.i64_in _ (by omega)]; omega
  rw [w1, w2, w3, tmod_nat, w4, w5, tmod_nat, w6, w7]
  refine ⟨by omega, by omega, ?_⟩
  rw [← ecnt] at hcnt ⊢
  rw [← elo] at hlo hcnt ⊢
  generalize hlo' : loS recs fr = lo at *
  generalize hcnt' : cntS recs fr to = cnt at *
  have hin : ∀ x ∈ gs.flatten, ∃ s ∈ recs.take n, x = sb s := fun x hx => by
    rw [hgs] at hx
    obtain ⟨s, hs, e⟩ := List.mem_map.1 hx
    exact ⟨s, hs, e.symm⟩
  have hgl : gs.flatten.length = n := by rw [hgs, List.length_map, List.length_take]; omega
  have er := I.read_ok (lo := lo) (hi := lo + cnt) (fun g hg x hx => by
    obtain ⟨s, hs, rfl⟩ := hin x (List.mem_flatten.2 ⟨g, hg, hx⟩)
    have := hsh s hs
    exact ⟨sb_B8 s, by rw [sb_length]; omega⟩) (by omega) (by omega)
  refine (F51_spec I.wf S U H).mono ?_
  rintro v h7 (⟨out, a, c, hr, rfl, H7⟩ | ⟨e, hr, _⟩)
  · rw [er] at hr
    have hout : out = ((gs.flatten.take (lo + cnt)).drop lo) := by cases hr; rfl
    have hol : out.length = cnt := by rw [hout, List.length_drop, List.length_take]; omega
    have hget : ∀ i, i < cnt → ∃ s, recs[lo + i]? = some s ∧ out[i]? = some (sb s) := by
      intro i hi
      obtain ⟨s, hs⟩ : ∃ s, recs[lo + i]? = some s := ⟨_, List.getElem?_eq_getElem (by omega)⟩
      refine ⟨s, hs, ?_⟩
      rw [hout, List.getElem?_drop, List.getElem?_take, if_pos (by omega), hgs, List.getElem?_map, List.getElem?_take, if_pos (by omega), hs]
      rfl
    refine ⟨a, out.length, c, 0, rfl, ?_⟩
    rw [show ((0 : Int) != 0) = false from rfl, cond_false, bneN, decide_eq_false (by omega), cond_false]
    refine ⟨fun st hh => ∃ (i : Nat) (us vs : List ByteArray) (ua va : Option Addr) (uc vc : Nat), st = (⟨ua, us.length, uc⟩, ⟨va, vs.length, vc⟩, (i : Int)) ∧ i ≤ cnt ∧ us.length = (if t = 0 then i else cnt) ∧ vs.length = (if t = 0 then 0 else i) ∧
        sat (ownS 9 1 ua us.length uc (us.map Value.string) :: ownS 9 1 va vs.length vc (vs.map Value.string) :: ownL EbO 31 a out.length c out :: [old h]) hh,
      fun st _ => ((cnt : Int) - st.2.2).toNat, ⟨0, xs, ys, xa, ya, xc, yc, rfl, Nat.zero_le _, hx, by rw [hy]; split <;> rfl, H7.ordT 6 [3, 4, 0, 5]⟩, ?_⟩
    rintro st h8 ⟨i, us, vs, ua, va, uc, vc, rfl, hi, hul, hvl, H8⟩
    dsimp only
    have hcb : cnt ≤ 30 := by omega
    by_cases hlt : i < cnt
    · rw [decide_eq_true (show ((i : Int) < (out.length : Int)) by omega), cond_true]
      obtain ⟨s, hs, ho⟩ := hget i hlt
      have hs8 := sb_B8 s
      have wi : IntKind.wrap .i64 ((i : Int) + 1) = ((i + 1 : Nat) : Int) := wrap64_succ (by omega)
      have wl : IntKind.wrap .i64 ((lo : Int) + (i : Int)) = ((lo + i : Nat) : Int) := by rw [IntWalk.i64_in _ (by omega)]; omega
      rw [wi, wl]
      have hst : strEq s s = true := by rw [strEq_eq]; exact decide_eq_true rfl
      by_cases ht0 : t = 0
      · rw [show (((t : Nat) : Int) == 0) = true by rw [ht0]; rfl, cond_true]
        rw [if_pos ht0] at hul hvl
        refine idxBB (rdBB_of (H8.mv 2)) rfl ho fun b2 a' l' c' hc hrd' hl' => CSl hc ?_
        refine ⟨s, by rw [← ofN_sb s]; exact bytesIn_of hrd' hl' hs8, ?_⟩
        refine push_own (by omega) H8 fun b3 a2 c2 h9 H9 => ?_
        refine idxBB (rdBB_of (H9.mv 2)) rfl ho fun b2 a' l' c' hc hrd' hl' => CSl hc ?_
        refine ⟨s, by rw [← ofN_sb s]; exact bytesIn_of hrd' hl' hs8, ?_⟩
        refine strRead (hrd.old (H9.mv 3)) hrl hs fun b4 hc4 => CStr hc4 ?_
        rw [hst, Bool.not_true, cond_false]
        exact ⟨⟨i + 1, us ++ [s], vs, a2, va, c2, vc, rfl, by omega, by rw [if_pos ht0, List.length_append, List.length_singleton, hul], by rw [if_pos ht0, hvl], H9⟩, by omega⟩
      · rw [show (((t : Nat) : Int) == 0) = false by rw [beq_eq_false_iff_ne]; omega, cond_false]
        rw [if_neg ht0] at hul hvl
        refine idxBB (rdBB_of (H8.mv 2)) rfl ho fun b2 a' l' c' hc hrd' hl' => CSl hc ?_
        refine ⟨s, by rw [← ofN_sb s]; exact bytesIn_of hrd' hl' hs8, ?_⟩
        refine push_own (by omega) (H8.mv 1) fun b3 a2 c2 h9 H9 => ?_
        refine idxBB (rdBB_of (H9.mv 2)) rfl ho fun b2 a' l' c' hc hrd' hl' => CSl hc ?_
        refine ⟨s, by rw [← ofN_sb s]; exact bytesIn_of hrd' hl' hs8, ?_⟩
        refine strRead (hrd.old (H9.mv 3)) hrl hs fun b4 hc4 => CStr hc4 ?_
        rw [hst, Bool.not_true, cond_false]
        exact ⟨⟨i + 1, us, vs ++ [s], ua, a2, uc, c2, rfl, by omega, by rw [if_neg ht0, hul], by rw [if_neg ht0, List.length_append, List.length_singleton, hvl], H9.mv 1⟩, by omega⟩
    · rw [decide_eq_false (by omega), cond_false]
      have ei : i = cnt := by omega
      subst ei
      refine hagain _ _ ⟨t + 1, us, vs, ua, va, uc, vc, ?_, by omega, ?_, ?_, H8.ordT 3 [0, 1]⟩ ?_
      · rw [wrap64_succ (by omega)]
      · rw [if_neg (by omega), hul, hcnt']
        split <;> rfl
      · rw [hvl, hcnt']
        by_cases ht0 : t = 0
        · rw [if_pos ht0, if_pos (by omega)]
        · rw [if_neg ht0, if_neg (by omega)]
      · dsimp only
        rw [wrap64_succ (by omega)]
        omega
  · rw [er] at hr
    cases hr
theorem parts_turn {b fr to t sz : Nat} {again0 : Sl × Sl × Int → Heap → Prop} {Q : Value → Heap → Prop} {hh : Heap} {xs ys : List ByteArray} {xa ya : Option Addr} {xc yc : Nat} {s0 : Sl × Sl × Int}
    (hs0 : s0 = (⟨xa, xs.length, xc⟩, ⟨ya, ys.length, yc⟩, (t : Int))) (ht : t < 2) (hx : xs.length = (if t = 0 then 0 else cntS recs fr to)) (hy : ys.length = 0) (hrd : RdC h ra (recs.map Value.string)) (hrl : recs.length = rl) (hfr : fr < 256) (hto : to < 256) (hsz : 1 ≤ sz ∧ sz ≤ 256) (hrm : rl < 9223372036854775808)
    (H : sat (fsP b ⟨1048576, 0, none, false, [], []⟩ :: ownS 9 1 xa xs.length xc (xs.map Value.string) :: ownS 9 1 ya ys.length yc (ys.map Value.string) :: [old h]) hh)
    (hagain : ∀ st h', TurnJ h recs fr to st h' → st.2.2 = (t : Int) + 1 → again0 st h') (hQ : ∀ h', sat [old h] h' → Q (.bool true) h') :
    CallsH Try.prog 49 [.pointer (some ⟨b, 0, none⟩), .string ⟨#[112]⟩, .int .i64 (sz : Int)] hh fun r2 h_3 =>
    ∃ (x3 : Option Addr), ∃ (x4 : Int), r2 = .tuple #[.pointer x3, .int .i64 x4] ∧
    (bif (x4 : Int) != 0 then
      Q (.bool false) h_3
    else
      LoopH (fun again1 (s1 : Int × Int) h_4 =>
        (bif decide ((s1.2 : Int) < (rl : Int)) then
          (bif decide ((s1.2 : Int) < 30) then
            IdxA ra rl s1.2 1 fun a1 =>
            Ld h_4 a1 fun v0 => DS v0 fun x5 =>
            (bif decide ((((x5 : ByteArray).size : Int) : Int) > 200) then
              Q (.bool true) h_4
            else
              IdxA ra rl s1.2 1 fun a2 =>
              Ld h_4 a2 fun v1 => DS v1 fun x6 =>
              RunH Try.prog (Go.convert 9 31 (.string x6)) h_4 fun r3 h_5 =>
              DSl r3 fun x7a x7l x7c =>
              CallsH Try.prog 50 [.pointer x3, .slice x7a x7l x7c] h_5 fun r4 h_6 =>
              ∃ (x8 : Int), ∃ (x9 : Int), r4 = .tuple #[.int .i64 x8, .int .i64 x9] ∧
              (bif (x9 : Int) != 0 then
                Q (.bool false) h_6
              else
                (bif (x8 : Int) != s1.1 then
                  Q (.bool false) h_6
                else
                  again1 (IntKind.wrap .i64 (s1.1 + 1), IntKind.wrap .i64 (s1.2 + 1)) h_6)))
          else
            ((IntKind.wrap .i64 (s1.1 + 1)) : Int) ≠ 0 ∧
            ((IntKind.wrap .i64 ((IntKind.wrap .i64 (s1.1 - (Int.tmod (IntKind.wrap .i64 (fr : Int)) (IntKind.wrap .i64 (s1.1 + 1))))) + 1)) : Int) ≠ 0 ∧
            CallsH Try.prog 51 [.pointer x3, .int .i64 (Int.tmod (IntKind.wrap .i64 (fr : Int)) (IntKind.wrap .i64 (s1.1 + 1))), .int .i64 (IntKind.wrap .i64 ((Int.tmod (IntKind.wrap .i64 (fr : Int)) (IntKind.wrap .i64 (s1.1 + 1))) + (Int.tmod (IntKind.wrap .i64 (to : Int)) (IntKind.wrap .i64 ((IntKind.wrap .i64 (s1.1 - (Int.tmod (IntKind.wrap .i64 (fr : Int)) (IntKind.wrap .i64 (s1.1 + 1))))) + 1)))))] h_4 fun r5 h_7 =>
            ∃ (x10a : Option Addr), ∃ (x10l : Nat), ∃ (x10c : Nat), ∃ (x11 : Int), r5 = .tuple #[.slice x10a x10l x10c, .int .i64 x11] ∧
            (bif (x11 : Int) != 0 then
              Q (.bool false) h_7
            else
              (bif ((x10l : Int) : Int) != (IntKind.wrap .i64 ((IntKind.wrap .i64 ((Int.tmod (IntKind.wrap .i64 (fr : Int)) (IntKind.wrap .i64 (s1.1 + 1))) + (Int.tmod (IntKind.wrap .i64 (to : Int)) (IntKind.wrap .i64 ((IntKind.wrap .i64 (s1.1 - (Int.tmod (IntKind.wrap .i64 (fr : Int)) (IntKind.wrap .i64 (s1.1 + 1))))) + 1))))) - (Int.tmod (IntKind.wrap .i64 (fr : Int)) (IntKind.wrap .i64 (s1.1 + 1))))) then
                Q (.bool false) h_7
              else
                LoopH (fun again2 (s2 : Sl × Sl × Int) h_8 =>
                  (bif decide ((s2.2.2 : Int) < (x10l : Int)) then
                    (bif (s0.2.2 : Int) == 0 then
                      IdxA x10a x10l s2.2.2 1 fun a3 =>
                      Ld h_8 a3 fun v2 => DSl v2 fun x12a x12l x12c =>
                      ∃ bs0 : ByteArray, BytesIn h_8 x12a x12l bs0 ∧
                      Al h_8 (.cells #[.string bs0] 9) fun b1 h_9 =>
                      RunH Try.prog (Builtin.append_ #[41, 41] 41 #[.slice s2.1.a s2.1.l s2.1.c, .slice (some (Addr.mk b1 0 none)) 1 1]) h_9 fun r7 h_10 =>
                      DSl r7 fun x13a x13l x13c =>
                      IdxA x10a x10l s2.2.2 1 fun a4 =>
                      Ld h_10 a4 fun v3 => DSl v3 fun x14a x14l x14c =>
                      ∃ bs1 : ByteArray, BytesIn h_10 x14a x14l bs1 ∧
                      IdxA ra rl (IntKind.wrap .i64 ((Int.tmod (IntKind.wrap .i64 (fr : Int)) (IntKind.wrap .i64 (s1.1 + 1))) + s2.2.2)) 1 fun a5 =>
                      Ld h_10 a5 fun v4 => DS v4 fun x15 =>
                      (bif !strEq bs1 x15 then
                        Q (.bool false) h_10
                      else
                        again2 (⟨x13a, x13l, x13c⟩, ⟨s2.2.1.a, s2.2.1.l, s2.2.1.c⟩, IntKind.wrap .i64 (s2.2.2 + 1)) h_10)
                    else
                      IdxA x10a x10l s2.2.2 1 fun a6 =>
                      Ld h_8 a6 fun v5 => DSl v5 fun x16a x16l x16c =>
                      ∃ bs2 : ByteArray, BytesIn h_8 x16a x16l bs2 ∧
                      Al h_8 (.cells #[.string bs2] 9) fun b2 h_11 =>
                      RunH Try.prog (Builtin.append_ #[41, 41] 41 #[.slice s2.2.1.a s2.2.1.l s2.2.1.c, .slice (some (Addr.mk b2 0 none)) 1 1]) h_11 fun r9 h_12 =>
                      DSl r9 fun y0a y0l y0c =>
                      IdxA x10a x10l s2.2.2 1 fun a7 =>
                      Ld h_12 a7 fun v6 => DSl v6 fun x17a x17l x17c =>
                      ∃ bs3 : ByteArray, BytesIn h_12 x17a x17l bs3 ∧
                      IdxA ra rl (IntKind.wrap .i64 ((Int.tmod (IntKind.wrap .i64 (fr : Int)) (IntKind.wrap .i64 (s1.1 + 1))) + s2.2.2)) 1 fun a8 =>
                      Ld h_12 a8 fun v7 => DS v7 fun x18 =>
                      (bif !strEq bs3 x18 then
                        Q (.bool false) h_12
                      else
                        again2 (⟨s2.1.a, s2.1.l, s2.1.c⟩, ⟨y0a, y0l, y0c⟩, IntKind.wrap .i64 (s2.2.2 + 1)) h_12))
                  else
                    again0 (⟨s2.1.a, s2.1.l, s2.1.c⟩, ⟨s2.2.1.a, s2.2.1.l, s2.2.1.c⟩, IntKind.wrap .i64 (s0.2.2 + 1)) h_8)) (⟨s0.1.a, s0.1.l, s0.1.c⟩, ⟨s0.2.1.a, s0.2.1.l, s0.2.1.c⟩, 0) h_7)))
        else
          ((IntKind.wrap .i64 (s1.1 + 1)) : Int) ≠ 0 ∧
          ((IntKind.wrap .i64 ((IntKind.wrap .i64 (s1.1 - (Int.tmod (IntKind.wrap .i64 (fr : Int)) (IntKind.wrap .i64 (s1.1 + 1))))) + 1)) : Int) ≠ 0 ∧
          CallsH Try.prog 51 [.pointer x3, .int .i64 (Int.tmod (IntKind.wrap .i64 (fr : Int)) (IntKind.wrap .i64 (s1.1 + 1))), .int .i64 (IntKind.wrap .i64 ((Int.tmod (IntKind.wrap .i64 (fr : Int)) (IntKind.wrap .i64 (s1.1 + 1))) + (Int.tmod (IntKind.wrap .i64 (to : Int)) (IntKind.wrap .i64 ((IntKind.wrap .i64 (s1.1 - (Int.tmod (IntKind.wrap .i64 (fr : Int)) (IntKind.wrap .i64 (s1.1 + 1))))) + 1)))))] h_4 fun r10 h_13 =>
          ∃ (x19a : Option Addr), ∃ (x19l : Nat), ∃ (x19c : Nat), ∃ (x20 : Int), r10 = .tuple #[.slice x19a x19l x19c, .int .i64 x20] ∧
          (bif (x20 : Int) != 0 then
            Q (.bool false) h_13
          else
            (bif ((x19l : Int) : Int) != (IntKind.wrap .i64 ((IntKind.wrap .i64 ((Int.tmod (IntKind.wrap .i64 (fr : Int)) (IntKind.wrap .i64 (s1.1 + 1))) + (Int.tmod (IntKind.wrap .i64 (to : Int)) (IntKind.wrap .i64 ((IntKind.wrap .i64 (s1.1 - (Int.tmod (IntKind.wrap .i64 (fr : Int)) (IntKind.wrap .i64 (s1.1 + 1))))) + 1))))) - (Int.tmod (IntKind.wrap .i64 (fr : Int)) (IntKind.wrap .i64 (s1.1 + 1))))) then
              Q (.bool false) h_13
            else
              LoopH (fun again3 (s3 : Sl × Sl × Int) h_14 =>
                (bif decide ((s3.2.2 : Int) < (x19l : Int)) then
                  (bif (s0.2.2 : Int) == 0 then
                    IdxA x19a x19l s3.2.2 1 fun a9 =>
                    Ld h_14 a9 fun v8 => DSl v8 fun x21a x21l x21c =>
                    ∃ bs4 : ByteArray, BytesIn h_14 x21a x21l bs4 ∧
                    Al h_14 (.cells #[.string bs4] 9) fun b3 h_15 =>
                    RunH Try.prog (Builtin.append_ #[41, 41] 41 #[.slice s3.1.a s3.1.l s3.1.c, .slice (some (Addr.mk b3 0 none)) 1 1]) h_15 fun r12 h_16 =>
                    DSl r12 fun x22a x22l x22c =>
                    IdxA x19a x19l s3.2.2 1 fun a10 =>
                    Ld h_16 a10 fun v9 => DSl v9 fun x23a x23l x23c =>
                    ∃ bs5 : ByteArray, BytesIn h_16 x23a x23l bs5 ∧
                    IdxA ra rl (IntKind.wrap .i64 ((Int.tmod (IntKind.wrap .i64 (fr : Int)) (IntKind.wrap .i64 (s1.1 + 1))) + s3.2.2)) 1 fun a11 =>
                    Ld h_16 a11 fun v10 => DS v10 fun x24 =>
                    (bif !strEq bs5 x24 then
                      Q (.bool false) h_16
                    else
                      again3 (⟨x22a, x22l, x22c⟩, ⟨s3.2.1.a, s3.2.1.l, s3.2.1.c⟩, IntKind.wrap .i64 (s3.2.2 + 1)) h_16)
                  else
                    IdxA x19a x19l s3.2.2 1 fun a12 =>
                    Ld h_14 a12 fun v11 => DSl v11 fun x25a x25l x25c =>
                    ∃ bs6 : ByteArray, BytesIn h_14 x25a x25l bs6 ∧
                    Al h_14 (.cells #[.string bs6] 9) fun b4 h_17 =>
                    RunH Try.prog (Builtin.append_ #[41, 41] 41 #[.slice s3.2.1.a s3.2.1.l s3.2.1.c, .slice (some (Addr.mk b4 0 none)) 1 1]) h_17 fun r14 h_18 =>
                    DSl r14 fun y1a y1l y1c =>
                    IdxA x19a x19l s3.2.2 1 fun a13 =>
                    Ld h_18 a13 fun v12 => DSl v12 fun x26a x26l x26c =>
                    ∃ bs7 : ByteArray, BytesIn h_18 x26a x26l bs7 ∧
                    IdxA ra rl (IntKind.wrap .i64 ((Int.tmod (IntKind.wrap .i64 (fr : Int)) (IntKind.wrap .i64 (s1.1 + 1))) + s3.2.2)) 1 fun a14 =>
                    Ld h_18 a14 fun v13 => DS v13 fun x27 =>
                    (bif !strEq bs7 x27 then
                      Q (.bool false) h_18
                    else
                      again3 (⟨s3.1.a, s3.1.l, s3.1.c⟩, ⟨y1a, y1l, y1c⟩, IntKind.wrap .i64 (s3.2.2 + 1)) h_18))
                else
                  again0 (⟨s3.1.a, s3.1.l, s3.1.c⟩, ⟨s3.2.1.a, s3.2.1.l, s3.2.1.c⟩, IntKind.wrap .i64 (s0.2.2 + 1)) h_14)) (⟨s0.1.a, s0.1.l, s0.1.c⟩, ⟨s0.2.1.a, s0.2.1.l, s0.2.1.c⟩, 0) h_13)))) (0, 0) h_3) := by
  refine (F49_fresh (size := sz) (dir := AF.pN) hsz.1 (by omega) (new_wf (by omega)) (by decide) (by decide) (fresh_prep 1048576) H).mono ?_
  rintro v h2 ⟨lb, rfl, W2, s2, H2⟩
  refine ⟨some ⟨lb, 0, none⟩, 0, rfl, ?_⟩
  rw [show ((0 : Int) != 0) = false from rfl, cond_false]
  have I0 := fresh_inv (size := sz) W2 hsz.1
  have S0 : AF.Log.Small 0 ⟨AF.pN, sz, [], 0, 0⟩ := AF.Log.small0 (by decide) (by omega)
  have U0 : AF.Log.Up ⟨AF.pN, sz, [], 0, 0⟩ := AF.Log.up0
  refine ⟨fun st hh => ∃ (i : Nat) (gs : List (List (List Nat))) (A : AF.FS) (L : AF.Log), st = ((i : Int), (i : Int)) ∧ i ≤ rl ∧ i ≤ 30 ∧ gs.flatten = (recs.take i).map sb ∧ (∀ s ∈ recs.take i, s.size ≤ 200) ∧ (∀ g ∈ gs, g ≠ []) ∧ gs.length ≤ i ∧ (gs.map fun g => (AF.body g).length).sum ≤ i * 208 ∧
      AF.SegInv 1048576 gs A L ∧ L.Small (2 * i) ∧ L.Up ∧ A.steps ≤ 5001 + 4 * i ∧ sat (logP lb b L :: fsP b A :: ownS 9 1 xa xs.length xc (xs.map Value.string) :: ownS 9 1 ya ys.length yc (ys.map Value.string) :: [old h]) hh,
    fun st _ => (30 - st.2).toNat, ⟨0, [], _, _, rfl, Nat.zero_le _, by decide, rfl, by simp, by simp, Nat.le_refl _, Nat.le_refl _, I0, S0, U0, by dsimp only; decide, H2⟩, ?_⟩
  rintro st h3 ⟨i, gs, A, L, rfl, hi, hi30, hgs, hsh, hne, hgl, hsum, I, S, U, hst, H3⟩
  have fin : i = min recs.length 30 → _ := fun e => parts_read (Q := Q) (again0 := again0) (ra := ra) (rl := rl) hs0 ht hx hy hrd hrl e hfr hto hsh I hgs S U H3 hagain
  by_cases hlt : i < rl
  · rw [decide_eq_true (show ((i : Int) < (rl : Int)) by omega), cond_true]
    by_cases hlt2 : i < 30
    · rw [decide_eq_true (show ((i : Int) < 30) by omega), cond_true]
      obtain ⟨s, hs⟩ : ∃ s, recs[i]? = some s := ⟨_, List.getElem?_eq_getElem (by omega)⟩
      have hrd3 := hrd.old (H3.mv 4)
      refine strRead hrd3 hrl hs fun b4 hc4 => CStr hc4 ?_
      have htake : recs.take (i + 1) = recs.take i ++ [s] := by rw [List.take_add_one, hs]; rfl
      by_cases hbig : s.size > 200
      · rw [decide_eq_true (show ((s.size : Int) > 200) by omega), cond_true]
        exact hQ h3 (H3.rest 4)
      · rw [decide_eq_false (show ¬ ((s.size : Int) > 200) by omega), cond_false]
        refine strRead hrd3 hrl hs fun b5 hc5 => CStr hc5 ?_
        refine cText H3 (by unfold maxLen; omega) fun a c h4 H4 => ?_
        rw [DSl_slice]
        have hbl := sb_length s
        have hfl : gs.flatten.length = i := by rw [hgs, List.length_map, List.length_take]; omega
        obtain ⟨e1, gs', g1, g2, g3, g4, I2⟩ := I.append_ok (b := sb s) hne (by omega) (by omega) (sb_B8 s) (by omega) (by omega) (by decide)
        have K := AF.Log.append_keeps (b := sb s) I.wf S (by omega) (sb_B8 s)
        have U2 := AF.Log.append_up (A := A) (b := sb s) U
        refine (F50_spec (bs := sb s) I.wf (by omega) S (by omega) (fun h' hh => ownS_read hh) (sb_B8 s) hbl (H4.ordT 3 [1, 2, 0])).mono ?_
        rintro v h5 ⟨rfl, H5⟩
        rw [e1, I.fin, hfl]
        refine ⟨(i : Int), 0, rfl, ?_⟩
        rw [show ((0 : Int) != 0) = false from rfl, cond_false, bneN, decide_eq_false (by omega), cond_false, wrap64_succ (by omega)]
        refine ⟨⟨i + 1, gs', _, _, rfl, by omega, by omega, ?_, ?_, g2, by omega, by omega, I2, K.2.2, U2, ?_, H5.ordT 3 [0, 1] |> fun hh => ?_⟩, by dsimp only; omega⟩
        · rw [g1, hgs, htake, List.map_append]
          rfl
        · intro x hx
          rw [htake] at hx
          rcases List.mem_append.1 hx with hx | hx
          · exact hsh x hx
          · rw [List.mem_singleton] at hx
            subst hx
            omega
        · have := K.2.1
          omega
        · exact hh
    · rw [decide_eq_false (show ¬ ((i : Int) < 30) by omega), cond_false]
      exact fin (by omega)
  · rw [decide_eq_false (show ¬ ((i : Int) < (rl : Int)) by omega), cond_false]
    exact fin (by omega)
theorem SegmentParts_law {ra : Option Addr} {rl rc : Nat} {recs : List ByteArray} (a b fr to : Nat) (ha : a < 256) (hb : b < 256) (hfr : fr < 256) (hto : to < 256) (h : Heap) (hrd : RdC h ra (recs.map Value.string)) (hrl : recs.length = rl) (hrm : rl < 9223372036854775808) :
    CallsH Try.prog 12 [.slice ra rl rc, .int .u8 (a : Int), .int .u8 (b : Int), .int .u8 (fr : Int), .int .u8 (to : Int)] h (Good h) := by
  apply F12b_ok
  unfold F12b
  refine (F48_spec (sat_old h)).mono ?_
  rintro v h1 ⟨rfl, H1⟩
  rw [DB_bool, Bool.not_true, cond_false]
  have wa : IntKind.wrap .i64 (1 + IntKind.wrap .i64 (a : Int)) = ((1 + a : Nat) : Int) := by rw [IntWalk.i64_in (a : Int) (by omega), IntWalk.i64_in _ (by omega)]; omega
  have wb : IntKind.wrap .i64 (1 + IntKind.wrap .i64 (b : Int)) = ((1 + b : Nat) : Int) := by rw [IntWalk.i64_in (b : Int) (by omega), IntWalk.i64_in _ (by omega)]; omega
  rw [wa, wb]
  refine ⟨TurnJ h recs fr to, fun st _ => (2 - st.2.2).toNat, ⟨0, [], [], none, none, 0, 0, rfl, by omega, rfl, rfl, ownS_nil 9 1 (ownS_nil 9 1 H1)⟩, ?_⟩
  rintro st h2 ⟨t, xs, ys, xa, ya, xc, yc, hst, ht, hx, hy, H2⟩
  have e22 : st.2.2 = (t : Int) := by rw [hst]
  by_cases hlt : t < 2
  · rw [decide_eq_true (show (st.2.2 : Int) < 2 by rw [e22]; omega), cond_true]
    refine (F15_spec (room := 1048576) H2 (by omega)).mono ?_
    rintro v h3 ⟨fb, rfl, H3⟩
    refine ⟨some ⟨fb, 0, none⟩, 0, rfl, ?_⟩
    have hy0 : ys.length = 0 := by rw [hy, if_pos (by omega)]
    have next : ∀ (st' : Sl × Sl × Int) (h' : Heap), TurnJ h recs fr to st' h' → st'.2.2 = (t : Int) + 1 → TurnJ h recs fr to st' h' ∧ (2 - st'.2.2).toNat < (2 - st.2.2).toNat := fun st' h' hj he => ⟨hj, by rw [he, e22]; omega⟩
    by_cases ht1 : t = 1
    · rw [show (st.2.2 == 1) = true by rw [e22, ht1]; rfl, cond_true]
      exact parts_turn (s0 := st) (again0 := fun st' h' => TurnJ h recs fr to st' h' ∧ (2 - st'.2.2).toNat < (2 - st.2.2).toNat) (Q := Good h) hst hlt hx hy0 hrd hrl hfr hto (by omega) hrm H3 next fun h' hh => good_of hh
    · rw [show (st.2.2 == 1) = false by rw [e22, beq_eq_false_iff_ne]; omega, cond_false]
      exact parts_turn (s0 := st) (again0 := fun st' h' => TurnJ h recs fr to st' h' ∧ (2 - st'.2.2).toNat < (2 - st.2.2).toNat) (Q := Good h) hst hlt hx hy0 hrd hrl hfr hto (by omega) hrm H3 next fun h' hh => good_of hh
  · rw [decide_eq_false (by rw [e22]; omega), cond_false]
    rw [if_neg (by omega)] at hx hy
    subst hst
    rw [beqN, decide_eq_true (by rw [hx, hy])]
    exact good_of (H2.rest 2)
end

section
variable {H : Type} {enc : TypeId × Value → H} {P : Program} {w : World} {base : Nat} {spare : Nat → Bool} {held : Bool}
theorem strings_read {t e : TypeId} {n : Nat} {v : Value} {y : DataW H × List MemPlace} (ht : P.underlying t = some (.slice e)) (he : P.underlying e = some .string) (hc : P.cellsOf e = 1) (h : DataW.trod enc P w base spare held n t [v] = some y) :
    ∃ (a : Option Addr) (l c : Nat) (ss : List ByteArray), v = .slice a l c ∧ RdC w.heap a (ss.map Value.string) ∧ ss.length = l ∧ l ≤ c ∧ c ≤ maxLen := by
  rcases open_strings ht he hc h with ⟨hcs, _⟩ | ⟨a, len, cap, zs, hcs, _, hl, hm, hz, _, hcell, _⟩
  · simp only [List.cons.injEq, and_true] at hcs
    exact ⟨none, 0, 0, [], hcs, rfl, rfl, Nat.le_refl _, Nat.zero_le _⟩
  · simp only [List.cons.injEq, and_true] at hcs
    have hzl : len ≤ zs.length := by
      rw [hz]
      split <;> omega
    refine ⟨some a, len, cap, zs.take len, hcs, ?_, by rw [List.length_take]; omega, hl, hm⟩
    intro j v hv
    rw [List.getElem?_map, List.getElem?_take] at hv
    split at hv
    · rename_i hj
      have h2 := hcell j (by omega)
      rw [List.getElem?_eq_getElem (by omega)] at hv
      simp only [Option.map_some, Option.some.injEq] at hv
      rw [cell_world, List.getD_eq_getElem?_getD, List.getElem?_eq_getElem (by omega)] at h2
      rw [h2, ← hv]
      rfl
    · cases hv
/-- Texts in a slice that came in. -/
theorem strings_open {r : Reach} {b0 : Nat} {t e : TypeId} {v : Value} {d : DataW H} {p : List MemPlace}
    (ht : P.underlying t = some (.slice e)) (he : P.underlying e = some .string) (hc : P.cellsOf e = 1) (hv : Value.okWide P w r b0 t v) (h : DataW.Trod enc P w base spare held t v d p) :
    ∃ (a : Option Addr) (l c : Nat) (ss : List ByteArray), v = .slice a l c ∧ RdC w.heap a (ss.map Value.string) ∧ ss.length = l ∧ l ≤ c ∧ c ≤ maxLen := by
  obtain ⟨a, l, c, rfl⟩ := okWide_slice ht hv
  obtain ⟨fuel, hf⟩ := h
  exact strings_read ht he hc hf
end

end Go.Proofs.Yticjjdhaikbdaaa
