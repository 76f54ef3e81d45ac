/- Files of a log that go. -/
import Derived.Test.YticjjdhaikbdaaaGreatMkMt7
import Derived.Test.YticjjdhaikbdaaaGreatMkMt8
namespace Go.Proofs.YticjjdhaikbdaaaGreat
open Go Go.RowKit Go.MapKept
set_option linter.unusedVariables false
set_option linter.unusedSimpArgs false
open AF (Meta copyT topT nmI goG)
open Hex (digs)

namespace AF
section
variable {α : Type} {dir : ByteArray} {c : Nat} {p : Int → Bool}
theorem goG_1 {n : Int} {l : List Int} {A : FS} {T : List (Int × α)} {s : Bool} (hp : p n = true) (he : (A.remove dir (nmI c n)).2 = 0) : goG dir c p (n :: l) A T s = goG dir c p l (A.remove dir (nmI c n)).1 (delT n T) true := by
  conv => lhs; unfold goG
  rw [if_pos hp, if_pos he]
theorem goG_2 {n : Int} {l : List Int} {A : FS} {T : List (Int × α)} {s : Bool} (hp : p n = true) (he : ¬ (A.remove dir (nmI c n)).2 = 0) : goG dir c p (n :: l) A T s = ((A.remove dir (nmI c n)).1, T, s, (A.remove dir (nmI c n)).2) := by
  conv => lhs; unfold goG
  rw [if_pos hp, if_neg he]
theorem goG_3 {n : Int} {l : List Int} {A : FS} {T : List (Int × α)} {s : Bool} (hp : ¬ p n = true) : goG dir c p (n :: l) A T s = goG dir c p l A T s := by
  conv => lhs; unfold goG
  rw [if_neg hp]
theorem goG_fail : ∀ (l m : List Int) (A : FS) (T : List (Int × α)) (s : Bool), (goG dir c p l A T s).2.2.2 ≠ 0 → goG dir c p (l ++ m) A T s = goG dir c p l A T s
  | [], m, A, T, s, h => absurd rfl h
  | n :: l, m, A, T, s, h => by
    rw [List.cons_append]
    by_cases hp : p n = true
    · by_cases he : (A.remove dir (nmI c n)).2 = 0
      · rw [goG_1 hp he] at h ⊢
        rw [goG_1 hp he]
        exact goG_fail l m _ _ _ h
      · rw [goG_2 hp he, goG_2 hp he]
    · rw [goG_3 hp] at h ⊢
      rw [goG_3 hp]
      exact goG_fail l m _ _ _ h
theorem goG_more : ∀ (l m : List Int) (A : FS) (T : List (Int × α)) (s : Bool), (goG dir c p l A T s).2.2.2 = 0 → goG dir c p (l ++ m) A T s = goG dir c p m (goG dir c p l A T s).1 (goG dir c p l A T s).2.1 (goG dir c p l A T s).2.2.1
  | [], m, A, T, s, h => rfl
  | n :: l, m, A, T, s, h => by
    rw [List.cons_append]
    by_cases hp : p n = true
    · by_cases he : (A.remove dir (nmI c n)).2 = 0
      · rw [goG_1 hp he] at h ⊢
        rw [goG_1 hp he]
        exact goG_more l m _ _ _ h
      · rw [goG_2 hp he] at h
        exact absurd h he
    · rw [goG_3 hp] at h ⊢
      rw [goG_3 hp]
      exact goG_more l m _ _ _ h
theorem goG_wf : ∀ (l : List Int) (A : FS) (T : List (Int × α)) (s : Bool), A.WF → (goG dir c p l A T s).1.WF ∧ (goG dir c p l A T s).1.steps ≤ A.steps + l.length
  | [], A, T, s, W => ⟨W, Nat.le_refl _⟩
  | n :: l, A, T, s, W => by
    unfold goG
    by_cases hp : p n = true
    · rw [if_pos hp]
      have h1 := remove_steps (A := A) dir (nmI c n)
      by_cases he : (A.remove dir (nmI c n)).2 = 0
      · rw [if_pos he]
        obtain ⟨a, b⟩ := goG_wf l (A.remove dir (nmI c n)).1 (delT n T) true (W.remove _ _)
        exact ⟨a, by rw [List.length_cons]; omega⟩
      · rw [if_neg he]
        exact ⟨W.remove _ _, by rw [List.length_cons]; simp only []; omega⟩
    · rw [if_neg hp]
      obtain ⟨a, b⟩ := goG_wf l A T s W
      exact ⟨a, by rw [List.length_cons]; omega⟩
end
end AF
section
variable {α : Type}
abbrev GoSt (α : Type) := AF.FS × List (Int × α) × Bool × Nat
def remG (b0 b1 b2 b3 b fsb : Nat) (gv : Value) (lc : Array Value) (X Y C : HProp) (k : Nat) (F : List HProp) (st : GoSt α) : List HProp :=
  pur (st.2.2.2 = 0 ∧ st.1.WF ∧ st.1.steps ≤ k) :: pt b0 (.cells #[ptrV b] 60 (0, 0)) :: pt b1 (.cells #[gv] 149 (0, 0)) :: pt b2 (.cells #[.int .i64 0] 26 (0, 0)) :: pt b3 (.cells #[.bool st.2.2.1] 4 (0, 0)) :: pt b (.cells lc 133 (0, 0)) :: X :: Y :: fsP fsb st.1 :: C :: F
def remX (R : α → Value → Heap → Prop) (mb b0 b1 b2 b3 b fsb : Nat) (gv : Value) (lc : Array Value) (X Y C : HProp) (k : Nat) (F : List HProp) (st : GoSt α) (j : Code) : List HProp :=
  pur (st.2.2.2 ≠ 0 ∧ st.1.WF ∧ st.1.steps ≤ k ∧ j = .ret) :: tabM R mb st.2.1 :: pt b0 (.cells #[ptrV b] 60 (0, 0)) :: pt b1 (.cells #[gv] 149 (0, 0)) :: pt b2 (.cells #[.int .i64 (st.2.2.2 : Int)] 26 (0, 0)) :: pt b3 (.cells #[.bool st.2.2.1] 4 (0, 0)) :: pt b (.cells lc 133 (0, 0)) :: X :: Y :: fsP fsb st.1 :: C :: F
theorem VPt {h : Heap} {b x : Nat} {e : TypeId} {fr : Nat × Nat} {K : Option Addr → Prop} (hb : h[b]? = some (.cells #[ptrV x] e fr)) (hK : K (some ⟨x, 0, none⟩)) : Ld h ⟨b, 0, none⟩ fun v => DP v K := LdV hb rfl ⟨_, rfl, hK⟩
theorem VIn {h : Heap} {b : Nat} {e : TypeId} {fr : Nat × Nat} {k : IntKind} {x : Int} {K : Int → Prop} (hb : h[b]? = some (.cells #[.int k x] e fr)) (hK : K x) : Ld h ⟨b, 0, none⟩ fun v => DI k v K := LdV hb rfl ⟨_, rfl, hK⟩
theorem VBo {h : Heap} {b : Nat} {e : TypeId} {fr : Nat × Nat} {x : Bool} {K : Bool → Prop} (hb : h[b]? = some (.cells #[.bool x] e fr)) (hK : K x) : Ld h ⟨b, 0, none⟩ fun v => DB v K := LdV hb rfl ⟨_, rfl, hK⟩
theorem VSt {h : Heap} {b : Nat} {e : TypeId} {fr : Nat × Nat} {x : ByteArray} {K : ByteArray → Prop} (hb : h[b]? = some (.cells #[.string x] e fr)) (hK : K x) : Ld h ⟨b, 0, none⟩ fun v => DS v K := LdV hb rfl ⟨_, rfl, hK⟩
theorem VMp {h : Heap} {b x : Nat} {e : TypeId} {fr : Nat × Nat} {K : Option Nat → Prop} (hb : h[b]? = some (.cells #[.map (some x)] e fr)) (hK : K (some x)) : Ld h ⟨b, 0, none⟩ fun v => DM v K := LdV hb rfl ⟨_, rfl, hK⟩
theorem VSl {h : Heap} {b : Nat} {e : TypeId} {fr : Nat × Nat} {a : Option Addr} {l m : Nat} {K : Option Addr → Nat → Nat → Prop} (hb : h[b]? = some (.cells #[.slice a l m] e fr)) (hK : K a l m) : Ld h ⟨b, 0, none⟩ fun v => DSl v K := LdV hb rfl (by show DSl (.slice a l m) K; rw [DSl_slice]; exact hK)
end
theorem bs_slice (x : List Nat) (v : Value) (h : Heap) (H : Bs x v h) : ∃ (a : Option Addr) (l c : Nat), v = .slice a l c := let ⟨a, c, e, _⟩ := H; ⟨a, _, c, e⟩
theorem bb_bool (x : Unit) (v : Value) (h : Heap) (H : Bb x v h) : ∃ b : Bool, v = .bool b := ⟨true, H⟩
section
variable {F : List HProp} {h : Heap} {b fsb : Nat} {M : Meta} {A : AF.FS}
set_option maxHeartbeats 1000000 in
theorem F97_spec {gf : Fn} {gp gc : Array Value} {p : Nat → Int → Bool} {C : HProp} (hg : ∀ (c : Nat) (n : Int) (F' : List HProp) (h' : Heap), (c = 98 ∨ c = 102) → sat (C :: F') h' → CallV Tryz.prog (.func gf gp gc) [.int .u8 (c : Int), .int .i64 n] h' fun v h'' => v = .bool (p c n) ∧ h'' = h')
    (W : A.WF) (hs : A.steps + M.S.length + M.Fo.length + 10 < 1099511627776) (hd : M.dir.size < 4611686018427387904) (H : sat (logM b fsb M :: fsP fsb A :: C :: F) h) :
    CallsH Tryz.prog 97 [ptrV b, .func gf gp gc] h (Came b fsb A (M.S.length + M.Fo.length + 1) (M.remove A p) (C :: F)) := by
  apply F97_ok
  unfold F97
  refine Al_sat H fun b0 h1 H1 => ?_
  refine Al_sat H1 fun b1 h2 H2 => ?_
  refine Al_sat H2 fun b2 h3 H3 => ?_
  refine Al_sat H3 fun b3 h4 H4 => ?_
  refine StCC H4 (by decide) rfl fun h5 H5 => ?_
  -- b3, b2, b1, b0, log, fs, C, F
  obtain ⟨ms, mf, mm, H6⟩ := logM_open (H5.mv 4)
  -- log, tS, tF, tD, b3, b2, b1, b0, fs, C, F
  refine VPt (H6.mv 7).get ?_
  rw [NN'_some]
  refine LdMp (x := ms) H6 rfl ?_
  refine (F91_rise (H6.mv 1) (by omega)).mono ?_
  rintro v h6 ⟨kb, tb, a, c, s, rfl, hsk, hnd, H7⟩
  have hsl : s.length = M.S.length := by
    have := congrArg List.length hsk
    simpa using this
  refine ⟨_, rfl, ?_⟩
  -- rise, log, tF, tD, b3, b2, b1, b0, fs, C, F
  let St : Nat → GoSt (List Nat) := fun i => goG M.dir 98 (p 98) ((M.S.map (·.1)).take i) A M.S false
  let Rs : GoSt (List Nat) := goG M.dir 98 (p 98) (M.S.map (·.1)) A M.S false
  have hRs : St s.length = Rs := by
    show goG _ _ _ ((M.S.map (·.1)).take s.length) _ _ _ = _
    rw [List.take_of_length_le (by rw [List.length_map]; omega)]
  have H8 : sat (riseT Bs kb tb ms a c 129 s 0 (St 0).2.1 :: remG b0 b1 b2 b3 b fsb (.func gf gp gc) (logC5 fsb M.dir ms mf mm) (tabM Bb mf M.Fo) (tabM Bs mm M.D) C (A.steps + s.length) F (St 0)) h6 :=
    (sat_pur.2 ⟨⟨rfl, W, Nat.le_add_right _ _⟩, H7.ordT 10 [0, 7, 6, 5, 4, 1, 2, 3, 8, 9]⟩ : sat (pur _ :: _) h6).bk 1
  have hRwf := AF.goG_wf (dir := M.dir) (c := 98) (p := p 98) (M.S.map (·.1)) A M.S false W
  have WR : Rs.1.WF := hRwf.1
  have hRst : Rs.1.steps ≤ A.steps + M.S.length := by have := hRwf.2; rw [List.length_map] at this; exact this
  refine range_iterK s (fun x => [.int .i64 x.1, x.2]) (fun i => riseT Bs kb tb ms a c 129 s i (St i).2.1) (fun i => remG b0 b1 b2 b3 b fsb (.func gf gp gc) (logC5 fsb M.dir ms mf mm) (tabM Bb mf M.Fo) (tabM Bs mm M.D) C (A.steps + s.length) F (St i))
    (fun j => remX Bs ms b0 b1 b2 b3 b fsb (.func gf gp gc) (logC5 fsb M.dir ms mf mm) (tabM Bb mf M.Fo) (tabM Bs mm M.D) C (A.steps + s.length) F Rs j) H8 (fun _ => rfl)
    (fun yv G' Out h1 hh r f => F146_rise (by omega) (fun i => (St i).2.1) bs_slice yv G' Out h1 hh r f) ?_ ?_ ?_
  · -- a round
    intro i x L rec h2 Q hx H2 hgo hstop
    obtain ⟨n, v⟩ := x
    have hi := (List.getElem?_eq_some_iff.1 hx).1
    have HL := H2.get
    obtain ⟨⟨he, Wi, hsi⟩, H3⟩ := sat_pur.1 (H2.mv 3)
    have hn : (M.S.map (·.1))[i]? = some n := by rw [← hsk, List.getElem?_map, hx]; rfl
    have htake : (M.S.map (·.1)).take (i + 1) = (M.S.map (·.1)).take i ++ [n] := by rw [List.take_add_one, hn]; rfl
    have hst : St (i + 1) = goG M.dir 98 (p 98) [n] (St i).1 (St i).2.1 (St i).2.2.1 := by
      show goG _ _ _ ((M.S.map (·.1)).take (i + 1)) _ _ _ = _
      rw [htake]
      exact AF.goG_more _ _ _ _ _ he
    obtain ⟨x, _, va, vc, rfl, _⟩ := riseT_val (H3.mv 2) hx
    refine ⟨n, va, x.length, vc, rfl, HL, ?_⟩
    have H4 := H3.set (rec .busy none)
    refine ⟨.func gf gp gc, by rw [cellAt_of (H4.mv 4).get]; rfl, .func gf gp gc, rfl, ?_⟩
    refine (hg 98 n _ _ (.inl rfl) (H4.mv 11)).mono ?_
    rintro v h3 ⟨rfl, rfl⟩
    rw [DB_bool]
    by_cases hp : p 98 n = true
    · rw [hp, cond_true]
      refine VPt (H4.mv 3).get ?_
      rw [NN'_some]
      refine LdPt (x := fsb) (H4.mv 7) rfl ?_
      refine VPt (H4.mv 3).get ?_
      rw [NN'_some]
      refine LdStr (x := M.dir) (H4.mv 7) rfl ?_
      refine (F44_spec (n := n) H4).mono ?_
      rintro v h3 ⟨rfl, H5⟩
      rw [DS_string]
      refine ⟨VPt (H5.mv 3).get rfl, rfl, rfl, LdPt (x := fsb) (H5.mv 7) rfl rfl, VPt (H5.mv 3).get rfl, rfl, rfl, LdStr (x := M.dir) (H5.mv 7) rfl rfl, ?_, ?_⟩
      · have := size_nmI 98 n
        rw [show (nmI 98 n).size = ((⟨#[98, 46]⟩ : ByteArray) ++ ofN (digs 16 (natOf n))).size from rfl, ByteArray.size_append] at this
        omega
      refine (F60_spec (k := nmI 98 n) Wi (by omega) hd (by rw [size_nmI]; decide) (H5.mv 10)).mono ?_
      rintro v h4 ⟨rfl, H6⟩
      have H7 := H6.bk 10
      rw [DI_int]
      by_cases hr : ((St i).1.remove M.dir (nmI 98 n)).2 = 0
      · have hst2 : St (i + 1) = (((St i).1.remove M.dir (nmI 98 n)).1, delT n (St i).2.1, true, 0) := by
          rw [hst]
          rw [AF.goG_1 hp hr]
          rfl
        rw [hr, show (((0 : Nat) : Int) != 0) = false from rfl, cond_false]
        refine VPt (H7.mv 3).get ?_
        rw [NN'_some]
        refine LdMp (x := ms) (H7.mv 7) rfl ?_
        refine riseT_del (kt := 2) (et := 40) (by kernel_rfl) (by kernel_rfl) hnd hx (H7.mv 2) fun g5 H8 => ?_
        refine StCC ((H8.bk 2).mv 6) (by exact Nat.zero_lt_one) rfl fun g6 H9 => ?_
        have H10 := H9.bk 6
        have W' := Wi.remove M.dir (nmI 98 n)
        have Hf : sat (pt L (rec .busy none) :: markD h6.size :: riseT Bs kb tb ms a c 129 s (i + 1) (St (i + 1)).2.1 :: remG b0 b1 b2 b3 b fsb (.func gf gp gc) (logC5 fsb M.dir ms mf mm) (tabM Bb mf M.Fo) (tabM Bs mm M.D) C (A.steps + s.length) F (St (i + 1))) g6 := by
          rw [hst2]
          have h1 := (AF.goG_wf (dir := M.dir) (c := 98) (p := p 98) ((M.S.map (·.1)).take (i + 1)) A M.S false W)
          have h2 : (St (i + 1)).1.steps ≤ _ := h1.2
          rw [hst2, List.length_take] at h2
          have hlen : (M.S.map (·.1)).length = s.length := by rw [← hsk, List.length_map]
          have P : (0 : Nat) = 0 ∧ ((St i).1.remove M.dir (nmI 98 n)).1.WF ∧ ((St i).1.remove M.dir (nmI 98 n)).1.steps ≤ A.steps + s.length := ⟨rfl, W', by simp only [] at h2 ⊢; simp only [hlen] at h2; omega⟩
          exact (sat_pur.2 ⟨P, H10⟩).bk 3
        exact hgo g6 Hf
      · have hst2 : St (i + 1) = (((St i).1.remove M.dir (nmI 98 n)).1, (St i).2.1, (St i).2.2.1, ((St i).1.remove M.dir (nmI 98 n)).2) := by
          rw [hst]
          rw [AF.goG_2 hp hr]
        rw [err_bne hr, cond_true]
        refine StCC (H7.mv 5) (by exact Nat.zero_lt_one) rfl fun g5 H8 => ?_
        have H9 := H8.bk 5
        have H10 := (riseT_tab (H9.mv 2)).bk 2
        have htot : Rs = St (i + 1) := by
          have e1 : M.S.map (·.1) = (M.S.map (·.1)).take (i + 1) ++ (M.S.map (·.1)).drop (i + 1) := (List.take_append_drop ..).symm
          show goG _ _ _ (M.S.map (·.1)) _ _ _ = _
          rw [e1]
          refine AF.goG_fail _ _ _ _ _ ?_
          have : (St (i + 1)).2.2.2 ≠ 0 := by rw [hst2]; exact hr
          exact this
        have hwf := AF.goG_wf (dir := M.dir) (c := 98) (p := p 98) (M.S.map (·.1)) A M.S false W
        have Hf : sat (pt L (rec .busy none) :: markD h6.size :: remX Bs ms b0 b1 b2 b3 b fsb (.func gf gp gc) (logC5 fsb M.dir ms mf mm) (tabM Bb mf M.Fo) (tabM Bs mm M.D) C (A.steps + s.length) F Rs .ret) g5 := by
          have hlen : (M.S.map (·.1)).length = s.length := by rw [← hsk, List.length_map]
          have hw2 : Rs.1.steps ≤ _ := hwf.2
          rw [hlen] at hw2
          have hw3 : Rs.1.WF := hwf.1
          have hw4 : Rs.2.2.2 ≠ 0 := by rw [htot, hst2]; exact hr
          have H11 : sat (pur (Rs.2.2.2 ≠ 0 ∧ Rs.1.WF ∧ Rs.1.steps ≤ (A.steps + s.length) ∧ Code.ret = .ret) :: _) g5 := sat_pur.2 ⟨⟨hw4, hw3, by omega, rfl⟩, H10⟩
          have H12 := H11.bk 2
          rw [htot, hst2] at H12 ⊢
          exact H12
        exact hstop .ret g5 Hf
    · have hpf : p 98 n = false := by cases h : p 98 n with
        | true => exact absurd h hp
        | false => rfl
      rw [hpf, cond_false]
      have hst2 : St (i + 1) = St i := by
        rw [hst]
        rw [AF.goG_3 hp]
        exact Prod.ext rfl (Prod.ext rfl (Prod.ext rfl he.symm))
      have Hf : sat (pt L (rec .busy none) :: markD h6.size :: riseT Bs kb tb ms a c 129 s (i + 1) (St (i + 1)).2.1 :: remG b0 b1 b2 b3 b fsb (.func gf gp gc) (logC5 fsb M.dir ms mf mm) (tabM Bb mf M.Fo) (tabM Bs mm M.D) C (A.steps + s.length) F (St (i + 1))) (h2.setIfInBounds L (rec .busy none)) := by
        rw [hst2]
        have H5 := (riseT_next (H4.mv 2)).bk 2
        exact (sat_pur.2 ⟨(⟨he, Wi, hsi⟩ : (St i).2.2.2 = 0 ∧ (St i).1.WF ∧ (St i).1.steps ≤ A.steps + s.length), H5⟩).bk 3
      exact hgo _ Hf
  · -- the folds
    intro h7 H9
    refine ⟨.inl rfl, fun _ => ?_, fun e => by cases e⟩
    rw [hRs] at H9
    obtain ⟨⟨he, _, _⟩, H10⟩ := sat_pur.1 (H9.mv 2)
    -- D, rise, b0, b1, b2, b3, log, tF, tD, fs, C, F
    have H11 := (riseT_tab (H10.mv 1)).bk 1
    refine VPt (H11.mv 2).get ?_
    rw [NN'_some]
    refine LdMp (x := mf) (H11.mv 6) rfl ?_
    refine (F153_rise (H11.mv 7) (by omega)).mono ?_
    rintro v h9 ⟨kb, tb, a, c, s, rfl, hsk, hnd, H12⟩
    have hsl : s.length = M.Fo.length := by
      have := congrArg List.length hsk
      simpa using this
    refine ⟨_, rfl, ?_⟩
    -- rise, D, tS, b0, b1, b2, b3, log, tD, fs, C, F
    let St : Nat → GoSt Unit := fun i => goG M.dir 102 (p 102) ((M.Fo.map (·.1)).take i) Rs.1 M.Fo Rs.2.2.1
    let Rf : GoSt Unit := goG M.dir 102 (p 102) (M.Fo.map (·.1)) Rs.1 M.Fo Rs.2.2.1
    have hRf : St s.length = Rf := by
      show goG _ _ _ ((M.Fo.map (·.1)).take s.length) _ _ _ = _
      rw [List.take_of_length_le (by rw [List.length_map]; omega)]
    have H13 : sat (riseT Bb kb tb mf a c 131 s 0 (St 0).2.1 :: remG b0 b1 b2 b3 b fsb (.func gf gp gc) (logC5 fsb M.dir ms mf mm) (tabM Bs ms Rs.2.1) (tabM Bs mm M.D) C (Rs.1.steps + s.length) (markD h6.size :: F) (St 0)) h9 :=
      (sat_pur.2 ⟨⟨rfl, WR, Nat.le_add_right _ _⟩, H12.ordT 11 [0, 3, 4, 5, 6, 7, 2, 8, 9, 10, 1]⟩ : sat (pur _ :: _) h9).bk 1
    have hFwf := AF.goG_wf (dir := M.dir) (c := 102) (p := p 102) (M.Fo.map (·.1)) Rs.1 M.Fo Rs.2.2.1 WR
    have WF : Rf.1.WF := hFwf.1
    have hFst : Rf.1.steps ≤ Rs.1.steps + M.Fo.length := by have := hFwf.2; rw [List.length_map] at this; exact this
    refine range_iterK s (fun x => [.int .i64 x.1, x.2]) (fun i => riseT Bb kb tb mf a c 131 s i (St i).2.1) (fun i => remG b0 b1 b2 b3 b fsb (.func gf gp gc) (logC5 fsb M.dir ms mf mm) (tabM Bs ms Rs.2.1) (tabM Bs mm M.D) C (Rs.1.steps + s.length) (markD h6.size :: F) (St i))
      (fun j => remX Bb mf b0 b1 b2 b3 b fsb (.func gf gp gc) (logC5 fsb M.dir ms mf mm) (tabM Bs ms Rs.2.1) (tabM Bs mm M.D) C (Rs.1.steps + s.length) (markD h6.size :: F) Rf j) H13 (fun _ => rfl)
      (fun yv G' Out h1 hh r f => F180_rise (by omega) (fun i => (St i).2.1) bb_bool yv G' Out h1 hh r f) ?_ ?_ ?_
    · -- a round
      intro i x L rec h2 Q hx H2 hgo hstop
      obtain ⟨n, v⟩ := x
      have hi := (List.getElem?_eq_some_iff.1 hx).1
      have HL := H2.get
      obtain ⟨⟨he, Wi, hsi⟩, H3⟩ := sat_pur.1 (H2.mv 3)
      have hn : (M.Fo.map (·.1))[i]? = some n := by rw [← hsk, List.getElem?_map, hx]; rfl
      have htake : (M.Fo.map (·.1)).take (i + 1) = (M.Fo.map (·.1)).take i ++ [n] := by rw [List.take_add_one, hn]; rfl
      have hst : St (i + 1) = goG M.dir 102 (p 102) [n] (St i).1 (St i).2.1 (St i).2.2.1 := by
        show goG _ _ _ ((M.Fo.map (·.1)).take (i + 1)) _ _ _ = _
        rw [htake]
        exact AF.goG_more _ _ _ _ _ he
      obtain ⟨x, _, rfl⟩ := riseT_val (H3.mv 2) hx
      refine ⟨n, true, rfl, HL, ?_⟩
      have H4 := H3.set (rec .busy none)
      refine ⟨.func gf gp gc, by rw [cellAt_of (H4.mv 4).get]; rfl, .func gf gp gc, rfl, ?_⟩
      refine (hg 102 n _ _ (.inr rfl) (H4.mv 11)).mono ?_
      rintro v h3 ⟨rfl, rfl⟩
      rw [DB_bool]
      by_cases hp : p 102 n = true
      · rw [hp, cond_true]
        refine VPt (H4.mv 3).get ?_
        rw [NN'_some]
        refine LdPt (x := fsb) (H4.mv 7) rfl ?_
        refine VPt (H4.mv 3).get ?_
        rw [NN'_some]
        refine LdStr (x := M.dir) (H4.mv 7) rfl ?_
        refine (F44_spec (n := n) H4).mono ?_
        rintro v h3 ⟨rfl, H5⟩
        rw [DS_string]
        refine ⟨VPt (H5.mv 3).get rfl, rfl, rfl, LdPt (x := fsb) (H5.mv 7) rfl rfl, VPt (H5.mv 3).get rfl, rfl, rfl, LdStr (x := M.dir) (H5.mv 7) rfl rfl, ?_, ?_⟩
        · have := size_nmI 102 n
          rw [show (nmI 102 n).size = ((⟨#[102, 46]⟩ : ByteArray) ++ ofN (digs 16 (natOf n))).size from rfl, ByteArray.size_append] at this
          omega
        refine (F60_spec (k := nmI 102 n) Wi (by omega) hd (by rw [size_nmI]; decide) (H5.mv 10)).mono ?_
        rintro v h4 ⟨rfl, H6⟩
        have H7 := H6.bk 10
        rw [DI_int]
        by_cases hr : ((St i).1.remove M.dir (nmI 102 n)).2 = 0
        · have hst2 : St (i + 1) = (((St i).1.remove M.dir (nmI 102 n)).1, delT n (St i).2.1, true, 0) := by
            rw [hst]
            rw [AF.goG_1 hp hr]
            rfl
          rw [hr, show (((0 : Nat) : Int) != 0) = false from rfl, cond_false]
          refine VPt (H7.mv 3).get ?_
          rw [NN'_some]
          refine LdMp (x := mf) (H7.mv 7) rfl ?_
          refine riseT_del (kt := 2) (et := 4) (by kernel_rfl) (by kernel_rfl) hnd hx (H7.mv 2) fun g5 H8 => ?_
          refine StCC ((H8.bk 2).mv 6) (by exact Nat.zero_lt_one) rfl fun g6 H9 => ?_
          have H10 := H9.bk 6
          have W' := Wi.remove M.dir (nmI 102 n)
          have Hf : sat (pt L (rec .busy none) :: markD h9.size :: riseT Bb kb tb mf a c 131 s (i + 1) (St (i + 1)).2.1 :: remG b0 b1 b2 b3 b fsb (.func gf gp gc) (logC5 fsb M.dir ms mf mm) (tabM Bs ms Rs.2.1) (tabM Bs mm M.D) C (Rs.1.steps + s.length) (markD h6.size :: F) (St (i + 1))) g6 := by
            rw [hst2]
            have h1 := (AF.goG_wf (dir := M.dir) (c := 102) (p := p 102) ((M.Fo.map (·.1)).take (i + 1)) Rs.1 M.Fo Rs.2.2.1 WR)
            have h2 : (St (i + 1)).1.steps ≤ _ := h1.2
            rw [hst2, List.length_take] at h2
            have hlen : (M.Fo.map (·.1)).length = s.length := by rw [← hsk, List.length_map]
            have P : (0 : Nat) = 0 ∧ ((St i).1.remove M.dir (nmI 102 n)).1.WF ∧ ((St i).1.remove M.dir (nmI 102 n)).1.steps ≤ Rs.1.steps + s.length := ⟨rfl, W', by simp only [] at h2 ⊢; simp only [hlen] at h2; omega⟩
            exact (sat_pur.2 ⟨P, H10⟩).bk 3
          exact hgo g6 Hf
        · have hst2 : St (i + 1) = (((St i).1.remove M.dir (nmI 102 n)).1, (St i).2.1, (St i).2.2.1, ((St i).1.remove M.dir (nmI 102 n)).2) := by
            rw [hst]
            rw [AF.goG_2 hp hr]
          rw [err_bne hr, cond_true]
          refine StCC (H7.mv 5) (by exact Nat.zero_lt_one) rfl fun g5 H8 => ?_
          have H9 := H8.bk 5
          have H10 := (riseT_tab (H9.mv 2)).bk 2
          have htot : Rf = St (i + 1) := by
            have e1 : M.Fo.map (·.1) = (M.Fo.map (·.1)).take (i + 1) ++ (M.Fo.map (·.1)).drop (i + 1) := (List.take_append_drop ..).symm
            show goG _ _ _ (M.Fo.map (·.1)) _ _ _ = _
            rw [e1]
            refine AF.goG_fail _ _ _ _ _ ?_
            have : (St (i + 1)).2.2.2 ≠ 0 := by rw [hst2]; exact hr
            exact this
          have hwf := AF.goG_wf (dir := M.dir) (c := 102) (p := p 102) (M.Fo.map (·.1)) Rs.1 M.Fo Rs.2.2.1 WR
          have Hf : sat (pt L (rec .busy none) :: markD h9.size :: remX Bb mf b0 b1 b2 b3 b fsb (.func gf gp gc) (logC5 fsb M.dir ms mf mm) (tabM Bs ms Rs.2.1) (tabM Bs mm M.D) C (Rs.1.steps + s.length) (markD h6.size :: F) Rf .ret) g5 := by
            have hlen : (M.Fo.map (·.1)).length = s.length := by rw [← hsk, List.length_map]
            have hw2 : Rf.1.steps ≤ _ := hwf.2
            rw [hlen] at hw2
            have hw3 : Rf.1.WF := hwf.1
            have hw4 : Rf.2.2.2 ≠ 0 := by rw [htot, hst2]; exact hr
            have H11 : sat (pur (Rf.2.2.2 ≠ 0 ∧ Rf.1.WF ∧ Rf.1.steps ≤ (Rs.1.steps + s.length) ∧ Code.ret = .ret) :: _) g5 := sat_pur.2 ⟨⟨hw4, hw3, by omega, rfl⟩, H10⟩
            have H12 := H11.bk 2
            rw [htot, hst2] at H12 ⊢
            exact H12
          exact hstop .ret g5 Hf
      · have hpf : p 102 n = false := by cases h : p 102 n with
          | true => exact absurd h hp
          | false => rfl
        rw [hpf, cond_false]
        have hst2 : St (i + 1) = St i := by
          rw [hst]
          rw [AF.goG_3 hp]
          exact Prod.ext rfl (Prod.ext rfl (Prod.ext rfl he.symm))
        have Hf : sat (pt L (rec .busy none) :: markD h9.size :: riseT Bb kb tb mf a c 131 s (i + 1) (St (i + 1)).2.1 :: remG b0 b1 b2 b3 b fsb (.func gf gp gc) (logC5 fsb M.dir ms mf mm) (tabM Bs ms Rs.2.1) (tabM Bs mm M.D) C (Rs.1.steps + s.length) (markD h6.size :: F) (St (i + 1))) (h2.setIfInBounds L (rec .busy none)) := by
          rw [hst2]
          have H5 := (riseT_next (H4.mv 2)).bk 2
          exact (sat_pur.2 ⟨(⟨he, Wi, hsi⟩ : (St i).2.2.2 = 0 ∧ (St i).1.WF ∧ (St i).1.steps ≤ Rs.1.steps + s.length), H5⟩).bk 3
        exact hgo _ Hf
    · intro h10 H14
      refine ⟨.inl rfl, fun _ => ?_, fun e => by cases e⟩
      rw [hRf] at H14
      obtain ⟨⟨hef, _, _⟩, H15⟩ := sat_pur.1 (H14.mv 2)
      -- D2, rise, b0, b1, b2, b3, log, tS, tD, fs, C, D1, F
      have H16 := (riseT_tab (H15.mv 1)).bk 1
      refine VBo (H16.mv 5).get ?_
      have hrem : M.remove A p = if Rf.2.2.1 = true then ((Rf.1.syncDir M.dir).1, { M with S := Rs.2.1, Fo := Rf.2.1 }, (Rf.1.syncDir M.dir).2) else (Rf.1, { M with S := Rs.2.1, Fo := Rf.2.1 }, 0) := by
        unfold AF.Meta.remove
        show (if Rs.2.2.2 ≠ 0 then _ else if Rf.2.2.2 ≠ 0 then _ else _) = _
        rw [if_neg (by rw [he]; exact fun h => h rfl), if_neg (by rw [hef]; exact fun h => h rfl)]
      rw [hrem]
      cases hsome : Rf.2.2.1 with
      | true =>
        rw [cond_true, if_pos rfl]
        refine VPt (H16.mv 2).get ?_
        rw [NN'_some]
        refine LdPt (x := fsb) (H16.mv 6) rfl ?_
        refine VPt (H16.mv 2).get ?_
        rw [NN'_some]
        refine LdStr (x := M.dir) (H16.mv 6) rfl ?_
        refine (F57_spec WF (by omega) hd (H16.mv 9)).mono ?_
        rintro v h11 ⟨rfl, H17⟩
        rw [DI_int]
        -- fs, D2, tF, b0, b1, b2, b3, log, tS, tD, C, D1, F
        refine StCC (H17.mv 5) (by exact Nat.zero_lt_one) rfl fun h12 H18 => ?_
        have H19 := H18.bk 5
        refine ⟨(H19.mv 1).get, ?_⟩
        have H20 := (H19.mv 1).set (.deferred none)
        -- D2, fs, tF, b0, b1, b2, b3, log, tS, tD, C, D1, F
        refine ⟨(H20.mv 11).get, ?_⟩
        have H21 := (H20.mv 11).set (.deferred none)
        -- D1, D2, fs, tF, b0, b1, b2, b3, log, tS, tD, C, F
        refine VIn (H21.mv 6).get ?_
        refine ⟨rfl, WF.syncDir _, ?_, ?_⟩
        · have := AF.syncDir_steps (A := Rf.1) M.dir
          simp only []
          omega
        · have H22 := H21.ordT 12 [8, 9, 3, 10, 2, 11]
          exact logM_shut (M := { M with S := Rs.2.1, Fo := Rf.2.1 }) H22
      | false =>
        rw [cond_false, if_neg (by decide)]
        -- D2, tF, b0, b1, b2, b3, log, tS, tD, fs, C, D1, F
        refine StCC (H16.mv 4) (by exact Nat.zero_lt_one) rfl fun h12 H18 => ?_
        have H19 := H18.bk 4
        refine ⟨H19.get, ?_⟩
        have H20 := H19.set (.deferred none)
        refine ⟨(H20.mv 11).get, ?_⟩
        have H21 := (H20.mv 11).set (.deferred none)
        -- D1, D2, tF, b0, b1, b2, b3, log, tS, tD, fs, C, F
        refine VIn (H21.mv 5).get ?_
        refine ⟨rfl, WF, ?_, ?_⟩
        · simp only []
          omega
        · exact logM_shut (M := { M with S := Rs.2.1, Fo := Rf.2.1 }) (H21.ordT 12 [7, 8, 2, 9, 10, 11])
    · intro j h10 H14
      obtain ⟨⟨hef, _, _, rfl⟩, H15⟩ := sat_pur.1 (H14.mv 1)
      refine ⟨.inr rfl, (fun e => by cases e), fun _ => ?_⟩
      -- D2, tF, b0, b1, b2, b3, log, tS, tD, fs, C, D1, F
      refine ⟨H15.get, ?_⟩
      have H20 := H15.set (.deferred none)
      refine ⟨(H20.mv 11).get, ?_⟩
      have H21 := (H20.mv 11).set (.deferred none)
      refine VIn (H21.mv 5).get ?_
      have hrem : M.remove A p = (Rf.1, { M with S := Rs.2.1, Fo := Rf.2.1 }, Rf.2.2.2) := by
        unfold AF.Meta.remove
        show (if Rs.2.2.2 ≠ 0 then _ else if Rf.2.2.2 ≠ 0 then _ else _) = _
        rw [if_neg (by rw [he]; exact fun h => h rfl), if_pos hef]
      rw [hrem]
      refine ⟨rfl, WF, ?_, ?_⟩
      · simp only []
        omega
      · exact logM_shut (M := { M with S := Rs.2.1, Fo := Rf.2.1 }) (H21.ordT 12 [7, 8, 2, 9, 10, 11])
  · intro j h10 H14
    obtain ⟨⟨hef, _, _, rfl⟩, H15⟩ := sat_pur.1 (H14.mv 1)
    refine ⟨.inr rfl, (fun e => by cases e), fun _ => ?_⟩
    -- D1, tS, b0, b1, b2, b3, log, tF, tD, fs, C, F
    refine ⟨H15.get, ?_⟩
    have H20 := H15.set (.deferred none)
    refine VIn (H20.mv 4).get ?_
    have hrem : M.remove A p = (Rs.1, { M with S := Rs.2.1 }, Rs.2.2.2) := by
      unfold AF.Meta.remove
      show (if Rs.2.2.2 ≠ 0 then _ else _) = _
      rw [if_pos hef]
    rw [hrem]
    refine ⟨rfl, WR, ?_, ?_⟩
    · simp only []
      omega
    · exact logM_shut (M := { M with S := Rs.2.1 }) (H20.ordT 11 [6, 1, 7, 8, 9, 10])
end

end Go.Proofs.YticjjdhaikbdaaaGreat
