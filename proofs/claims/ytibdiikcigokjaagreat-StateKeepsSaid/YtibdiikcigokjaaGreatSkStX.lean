/- Helpers out of the texts of seat Z (pickT.py). -/
import Derived.Test.YtibdiikcigokjaaGreatSkKz
import Derived.Test.YtibdiikcigokjaaGreatSkLvX
import Derived.Test.YtibdiikcigokjaaGreatSkKeyN
namespace Go.Proofs.YtibdiikcigokjaaGreat
open Go Go.RowKit Go.MapKept
set_option linter.unusedVariables false
set_option linter.unusedSimpArgs false
open AF (topT)
section
variable {F : List HProp} {h : Heap} {b fsb : Nat}
theorem LdMp {i : Nat} {c : Array Value} {e : TypeId} {fr : Nat × Nat} {x : Nat} {K : Option Nat → Prop} (H : sat (pt b (.cells c e fr) :: F) h) (hv : c[i]? = some (.map (some x))) (hK : K (some x)) : Ld h ((Addr.mk b 0 none).add i) fun v => DM v K :=
  LdC H hv (by rw [DM_map]; exact hK)
theorem LdPt {i : Nat} {c : Array Value} {e : TypeId} {fr : Nat × Nat} {x : Nat} {K : Option Addr → Prop} (H : sat (pt b (.cells c e fr) :: F) h) (hv : c[i]? = some (ptrV x)) (hK : K (some ⟨x, 0, none⟩)) : Ld h ((Addr.mk b 0 none).add i) fun v => DP v K :=
  LdC H hv ⟨_, rfl, hK⟩
theorem tab_look {α : Type} {R : α → Value → Heap → Prop} {b : Nat} {T : List (Int × α)} (H : sat (tabM R b T :: F) h) (k : Int) : ∃ es f, mapEs h (some b) es ∧ es.size = T.length ∧ Instr.findNow (.int .i64) (.int .i64 k) es.toList 0 = some f ∧
    ((f = none ∧ getT T k = none) ∨ ∃ j v x, f = some (j, v) ∧ getT T k = some x ∧ R x v h) := by
  obtain ⟨m, H2⟩ := tabM_open H
  obtain ⟨es, clock, hm, hes⟩ := mapEs_ownM H2
  obtain ⟨f, hf, hl, hcase⟩ := hm.find k
  have I := roP_get (H2.mv 1)
  refine ⟨es, f, hes, ?_, hf, ?_⟩
  · rw [hm.size, I.length hm.nodup]
  · rcases I.look k with ⟨h1, h2⟩ | ⟨v, x, h1, h2, h3⟩
    · left
      refine ⟨?_, h2⟩
      rw [h1] at hl
      exact Option.map_eq_none_iff.1 hl
    · right
      rw [h1] at hl
      cases f with
      | none => cases hl
      | some q =>
        obtain ⟨j, u⟩ := q
        simp only [Option.map_some, Option.some.injEq] at hl
        subst hl
        exact ⟨j, u, x, rfl, h2, h3⟩
theorem VBo {h : Heap} {b : Nat} {e : TypeId} {fr : Nat × Nat} {x : Bool} {K : Bool → Prop} (hb : h[b]? = some (.cells #[.bool x] e fr)) (hK : K x) : Ld h ⟨b, 0, none⟩ fun v => DB v K := LdV hb rfl ⟨_, rfl, hK⟩
end
end Go.Proofs.YtibdiikcigokjaaGreat

/- Removals, one by one (pickT.py, out of Mt9, Mt5, MtS). -/
namespace Go.Proofs.YtibdiikcigokjaaGreat
open Go Go.RowKit Go.MapKept
set_option linter.unusedVariables false
set_option linter.unusedSimpArgs false
namespace AF
section
variable {α : Type} {dir : ByteArray} {c : Nat} {p : Int → Bool}
theorem goG_1 {n : Int} {l : List Int} {A : FS} {T : List (Int × α)} {s : Bool} (hp : p n = true) (he : (A.remove dir (nmI c n)).2 = 0) : goG dir c p (n :: l) A T s = goG dir c p l (A.remove dir (nmI c n)).1 (delT n T) true := by
  conv => lhs; unfold goG
  rw [if_pos hp, if_pos he]
theorem goG_2 {n : Int} {l : List Int} {A : FS} {T : List (Int × α)} {s : Bool} (hp : p n = true) (he : ¬ (A.remove dir (nmI c n)).2 = 0) : goG dir c p (n :: l) A T s = ((A.remove dir (nmI c n)).1, T, s, (A.remove dir (nmI c n)).2) := by
  conv => lhs; unfold goG
  rw [if_pos hp, if_neg he]
theorem goG_3 {n : Int} {l : List Int} {A : FS} {T : List (Int × α)} {s : Bool} (hp : ¬ p n = true) : goG dir c p (n :: l) A T s = goG dir c p l A T s := by
  conv => lhs; unfold goG
  rw [if_neg hp]
theorem goG_fail : ∀ (l m : List Int) (A : FS) (T : List (Int × α)) (s : Bool), (goG dir c p l A T s).2.2.2 ≠ 0 → goG dir c p (l ++ m) A T s = goG dir c p l A T s
  | [], m, A, T, s, h => absurd rfl h
  | n :: l, m, A, T, s, h => by
    rw [List.cons_append]
    by_cases hp : p n = true
    · by_cases he : (A.remove dir (nmI c n)).2 = 0
      · rw [goG_1 hp he] at h ⊢
        rw [goG_1 hp he]
        exact goG_fail l m _ _ _ h
      · rw [goG_2 hp he, goG_2 hp he]
    · rw [goG_3 hp] at h ⊢
      rw [goG_3 hp]
      exact goG_fail l m _ _ _ h
theorem goG_more : ∀ (l m : List Int) (A : FS) (T : List (Int × α)) (s : Bool), (goG dir c p l A T s).2.2.2 = 0 → goG dir c p (l ++ m) A T s = goG dir c p m (goG dir c p l A T s).1 (goG dir c p l A T s).2.1 (goG dir c p l A T s).2.2.1
  | [], m, A, T, s, h => rfl
  | n :: l, m, A, T, s, h => by
    rw [List.cons_append]
    by_cases hp : p n = true
    · by_cases he : (A.remove dir (nmI c n)).2 = 0
      · rw [goG_1 hp he] at h ⊢
        rw [goG_1 hp he]
        exact goG_more l m _ _ _ h
      · rw [goG_2 hp he] at h
        exact absurd h he
    · rw [goG_3 hp] at h ⊢
      rw [goG_3 hp]
      exact goG_more l m _ _ _ h
theorem goG_wf : ∀ (l : List Int) (A : FS) (T : List (Int × α)) (s : Bool), A.WF → (goG dir c p l A T s).1.WF ∧ (goG dir c p l A T s).1.steps ≤ A.steps + l.length
  | [], A, T, s, W => ⟨W, Nat.le_refl _⟩
  | n :: l, A, T, s, W => by
    unfold goG
    by_cases hp : p n = true
    · rw [if_pos hp]
      have h1 := remove_steps (A := A) dir (nmI c n)
      by_cases he : (A.remove dir (nmI c n)).2 = 0
      · rw [if_pos he]
        obtain ⟨a, b⟩ := goG_wf l (A.remove dir (nmI c n)).1 (delT n T) true (W.remove _ _)
        exact ⟨a, by rw [List.length_cons]; omega⟩
      · rw [if_neg he]
        exact ⟨W.remove _ _, by rw [List.length_cons]; simp only []; omega⟩
    · rw [if_neg hp]
      obtain ⟨a, b⟩ := goG_wf l A T s W
      exact ⟨a, by rw [List.length_cons]; omega⟩
end
theorem filter_id {β : Type} {l : List β} {p : β → Bool} (h : ∀ x ∈ l, p x = true) : l.filter p = l := List.filter_eq_self.2 h
theorem goG_ok {α : Type} (dir : ByteArray) {c : Nat} (hc : c < 256) (p : Int → Bool) : ∀ (l : List Int) (A : FS) (T : List (Int × α)) (s : Bool) (U : Dirc), Live A → Has A dir U → l.Nodup → (∀ n ∈ l, IdOk n) → (∀ n ∈ l, p n = true → ∃ x, getN U (nmI c n) = some x) →
    ∃ A', goG dir c p l A T s = (A', T.filter (fun q => !(decide (q.1 ∈ l) && p q.1)), s || l.any p, 0) ∧ Upd 0 0 l.length A A' dir (U.filter fun q => !(l.any fun n => p n && decide (q.1 = nmI c n)))
  | [], A, T, s, U, L, H, _, _, _ => by
    refine ⟨A, ?_, ?_⟩
    · simp only [goG, List.any_nil, Bool.or_false]
      rw [filter_id (by simp)]
    · rw [filter_id (by simp)]
      exact Upd.refl L H
  | n :: l, A, T, s, U, L, H, hn, hi, hg => by
    have hn2 := List.nodup_cons.1 hn
    unfold goG
    by_cases hp : p n = true
    · rw [if_pos hp]
      obtain ⟨x, hx⟩ := hg n (List.mem_cons_self ..) hp
      obtain ⟨e, u⟩ := remove_ok L H hx
      rw [if_pos e]
      obtain ⟨A', e2, u2⟩ := goG_ok dir hc p l (A.remove dir (nmI c n)).1 (delT n T) true (delN (nmI c n) U) u.live u.here hn2.2 (fun m hm => hi m (List.mem_cons_of_mem _ hm)) fun m hm hpm => by
        obtain ⟨y, hy⟩ := hg m (List.mem_cons_of_mem _ hm) hpm
        refine ⟨y, ?_⟩
        rw [getN_del_ne _ U]
        · exact hy
        · intro e3
          have := (nmI_inj hc hc (hi n (List.mem_cons_self ..)) (hi m (List.mem_cons_of_mem _ hm)) e3).2
          exact hn2.1 (by rw [this]; exact hm)
      refine ⟨A', ?_, ?_⟩
      · rw [e2]
        congr 1
        congr 1
        · unfold delT
          rw [List.filter_filter]
          apply List.filter_congr
          intro q _
          by_cases hq : q.1 = n
          · simp [hq, hp]
          · simp [hq]
        · congr 1
          simp [hp]
      · have := u.trans u2
        refine Upd.weak (n := 0 + 0) (k := 0 + 0) (s := 1 + l.length) ?_ (Nat.le_refl _) (Nat.le_refl _) (by simp; omega)
        have e4 : (delN (nmI c n) U).filter (fun q => !(l.any fun m => p m && decide (q.1 = nmI c m))) = U.filter fun q => !((n :: l).any fun m => p m && decide (q.1 = nmI c m)) := by
          unfold delN
          rw [List.filter_filter]
          apply List.filter_congr
          intro q _
          simp only [List.any_cons, hp, Bool.true_and, Bool.not_or]
          exact Bool.and_comm _ _
        rw [← e4]
        exact this
    · rw [if_neg hp]
      obtain ⟨A', e2, u2⟩ := goG_ok dir hc p l A T s U L H hn2.2 (fun m hm => hi m (List.mem_cons_of_mem _ hm)) fun m hm hpm => hg m (List.mem_cons_of_mem _ hm) hpm
      refine ⟨A', ?_, ?_⟩
      · rw [e2]
        congr 1
        congr 1
        · apply List.filter_congr
          intro q _
          by_cases hq : q.1 = n
          · simp [hq, hp]
          · simp [hq]
        · congr 1
          simp [hp]
      · have e4 : U.filter (fun q => !((n :: l).any fun m => p m && decide (q.1 = nmI c m))) = U.filter fun q => !(l.any fun m => p m && decide (q.1 = nmI c m)) := by
          apply List.filter_congr
          intro q _
          simp [hp]
        rw [e4]
        exact u2.weak (Nat.le_refl _) (Nat.le_refl _) (by simp)
/-- Files removed, with a fuse. -/
theorem goG_fz {α : Type} {P : Dirc → Prop} (dir : ByteArray) {c : Nat} (hc : c < 256) (p : Int → Bool) : ∀ (l : List Int) (A : FS) (T : List (Int × α)) (s : Bool) (U : Dirc), Live (er A) → Has (er A) dir U → l.Nodup → (∀ n ∈ l, IdOk n) → (∀ n ∈ l, p n = true → ∃ y, getN U (nmI c n) = some y) → (∀ q ∈ U, isTmp q.1 = false) →
    Dur A dir P → (∀ V n, n ∈ l → p n = true → P V → P (delN (nmI c n) V)) →
    ((goG dir c p l A T s).2.2.2 = 0 ∧ er (goG dir c p l A T s).1 = (goG dir c p l (er A) T s).1 ∧ (goG dir c p l A T s).2 = (goG dir c p l (er A) T s).2 ∧ Dur (goG dir c p l A T s).1 dir P) ∨
    ((goG dir c p l A T s).2.2.2 = 60 ∧ Dur (goG dir c p l A T s).1 dir P)
  | [], A, T, s, U, L, H, hn, hi, hg, ht, D, hP => .inl ⟨rfl, rfl, rfl, D⟩
  | n :: l, A, T, s, U, L, H, hn, hi, hg, ht, D, hP => by
    have hn2 := List.nodup_cons.1 hn
    unfold goG
    by_cases hp : p n = true
    · rw [if_pos hp, if_pos hp]
      obtain ⟨y, hy⟩ := hg n (List.mem_cons_self ..) hp
      obtain ⟨e, u⟩ := remove_ok L H hy
      rw [if_pos e]
      have hdel : ∀ q ∈ delN (nmI c n) U, isTmp q.1 = false := fun q hq => ht q (List.mem_filter.1 hq).1
      have hPU : P (unT (delN (nmI c n) U)) := by
        rw [unT_id hdel]
        refine hP U n (List.mem_cons_self ..) hp ?_
        obtain ⟨i, d, hd, hdn, hv, D'⟩ := Dur.both (A := er A) L H D
        have h1 := D'.good _ (Nat.le_refl _)
        rw [stat_last (L.wf.each d (List.mem_of_getElem? hd)), hv, unT_id ht] at h1
        exact h1
      rcases remove_fz L H hy D hPU with ⟨h1, h2, h3⟩ | ⟨h1, h2⟩
      · rw [if_pos h1]
        rw [← h2] at u
        have hc256 : c < 256 := hc
        have := goG_fz dir hc p l (A.remove dir (nmI c n)).1 (delT n T) true _ u.live u.here hn2.2 (fun m hm => hi m (List.mem_cons_of_mem _ hm)) (fun m hm hpm => by
          obtain ⟨z, hz⟩ := hg m (List.mem_cons_of_mem _ hm) hpm
          refine ⟨z, ?_⟩
          rw [getN_del_ne (fun e2 => hn2.1 ?_)]
          · exact hz
          · have := (nmI_inj hc256 hc256 (hi n (List.mem_cons_self ..)) (hi m (List.mem_cons_of_mem _ hm)) e2).2
            rw [this]
            exact hm) hdel h3 (fun V m hm hpm hV => hP V m (List.mem_cons_of_mem _ hm) hpm hV)
        rw [h2] at this
        exact this
      · rw [if_neg (by rw [h1]; decide)]
        exact .inr ⟨h1, h2⟩
    · rw [if_neg hp, if_neg hp]
      exact goG_fz dir hc p l A T s U L H hn2.2 (fun m hm => hi m (List.mem_cons_of_mem _ hm)) (fun m hm hpm => hg m (List.mem_cons_of_mem _ hm) hpm) ht D (fun V m hm hpm hV => hP V m (List.mem_cons_of_mem _ hm) hpm hV)
end AF
end Go.Proofs.YtibdiikcigokjaaGreat

/- A store over the heap: names of its files, Files, near, right, Open (seat S). -/
namespace Go.Proofs.YtibdiikcigokjaaGreat
open Go Go.RowKit Go.MapKept
set_option linter.unusedVariables false
set_option linter.unusedSimpArgs false
open AF (nmI IdOk Live Has Upd Dirc)
open Hex (digs)

/-- A set of numbers. -/
def Bu (_ : Unit) (v : Value) (_ : Heap) : Prop := v = .agg #[]
structure Sto where
  dir : ByteArray
  D : List (Int × Unit)
  N : List (Int × Unit)
abbrev stoC (fb : Nat) (d : ByteArray) (dm nm : Nat) : Array Value := #[ptrV fb, .string d, .map (some dm), .map (some nm)]
def stoM (b fsb : Nat) (S : Sto) : HProp := exi fun q : Nat × Nat => Many [pt b (.cells (stoC fsb S.dir q.1 q.2) 86 (0, 0)), tabM Bu q.1 S.D, tabM Bu q.2 S.N]
section
variable {F : List HProp} {h : Heap} {b fsb : Nat} {S : Sto} {A : AF.FS}
theorem stoM_open (H : sat (stoM b fsb S :: F) h) : ∃ d n, sat (pt b (.cells (stoC fsb S.dir d n) 86 (0, 0)) :: tabM Bu d S.D :: tabM Bu n S.N :: F) h := by
  obtain ⟨⟨d, n⟩, H2⟩ := sat_exi.1 H
  exact ⟨d, n, H2.open⟩
theorem stoM_shut {d n : Nat} (H : sat (pt b (.cells (stoC fsb S.dir d n) 86 (0, 0)) :: tabM Bu d S.D :: tabM Bu n S.N :: F) h) : sat (stoM b fsb S :: F) h :=
  sat_exi.2 ⟨(d, n), sat.shut (m := [_, _, _]) H⟩
theorem size_nmI (c : Nat) (n : Int) : (nmI c n).size = 18 := AF.Fnm.nm_size _ _
theorem F36_spec {c : Nat} {sg : ByteArray} {n : Int} (hs : sg ++ ⟨#[46]⟩ = ofN [c, 46]) (hz : sg.size = 1) (H : sat F h) : CallsH Tryz.prog 36 [.string sg, .int .i64 n] h fun v h' => v = .string (nmI c n) ∧ sat F h' := by
  apply F36_ok
  unfold F36
  refine ⟨by rw [hz]; decide, ?_⟩
  refine (F106_spec (n := n) H).mono ?_
  rintro v h1 ⟨rfl, H1⟩
  rw [DS_string]
  refine ⟨?_, ?_, H1⟩
  · have := size_nmI c n
    rw [hs, show (nmI c n).size = (ofN [c, 46] ++ ofN (digs 16 (natOf n))).size from rfl, ByteArray.size_append] at *
    omega
  · rw [hs]
    rfl
theorem sgD : (⟨#[100]⟩ : ByteArray) ++ ⟨#[46]⟩ = ofN [100, 46] := by decide
theorem sgN : (⟨#[110]⟩ : ByteArray) ++ ⟨#[46]⟩ = ofN [110, 46] := by decide
theorem F13_spec (H : sat (stoM b fsb S :: F) h) (hD : S.D.length + S.N.length < 1099511627776) : CallsH Tryz.prog 13 [ptrV b] h fun v h' => v = .int .i64 ((S.D.length + S.N.length : Nat) : Int) ∧ sat (stoM b fsb S :: F) h' := by
  apply F13_ok
  unfold F13
  rw [show (some (⟨b, 0, none⟩ : Addr)).isNone = false from rfl, cond_false]
  obtain ⟨d, n, H2⟩ := stoM_open H
  rw [NN'_some]
  refine LdMp (x := d) H2 rfl ?_
  obtain ⟨es, f, h1, h2, _⟩ := tab_look (H2.mv 1) 0
  refine ⟨es, h1, ?_⟩
  rw [NN'_some]
  refine LdMp (x := n) H2 rfl ?_
  obtain ⟨es2, f2, h3, h4, _⟩ := tab_look (H2.mv 2) 0
  refine ⟨es2, h3, ?_, H⟩
  rw [h2, h4, ← Int.natCast_add, wrap64_nat (by omega)]
theorem F44_spec {v : Int} : CallsH Tryz.prog 44 [ptrV b, .int .i64 v] h fun r h' => h' = h ∧ r = .int .i64 (if v < 1 ∨ 1099511627776 < v then 2 else 0) := by
  apply F44_ok
  unfold F44
  rw [show (some (⟨b, 0, none⟩ : Addr)).isNone = false from rfl, cond_false]
  by_cases h1 : v < 1
  · rw [decide_eq_true h1, cond_true, if_pos (.inl h1)]
    exact ⟨by trivial, by trivial⟩
  · rw [decide_eq_false h1, cond_false]
    by_cases h2 : 1099511627776 < v
    · rw [decide_eq_true (show v > 1099511627776 from h2), cond_true, if_pos (.inr h2)]
      exact ⟨by trivial, by trivial⟩
    · rw [decide_eq_false (show ¬ v > 1099511627776 from h2), cond_false, if_neg (by omega)]
      exact ⟨by trivial, by trivial⟩
/-- The greatest number up to one. -/
def nearL (l : List Int) (v : Int) : Int := (l.filter fun n => decide (n ≤ v)).foldl max 0
theorem foldl_max_from : ∀ (l : List Int) (a : Int), l.foldl max a = max a (l.foldl max a) ∧ (∀ x ∈ l, x ≤ l.foldl max a) ∧ (l.foldl max a = a ∨ l.foldl max a ∈ l)
  | [], a => ⟨by simp, by simp, .inl rfl⟩
  | y :: l, a => by
    obtain ⟨h1, h2, h3⟩ := foldl_max_from l (max a y)
    rw [List.foldl_cons]
    refine ⟨by omega, fun x hx => ?_, ?_⟩
    · rcases List.mem_cons.1 hx with rfl | hx
      · omega
      · exact h2 x hx
    · rcases h3 with h3 | h3
      · rw [h3]
        by_cases hay : a ≤ y
        · exact .inr (by rw [Int.max_eq_right hay]; exact List.mem_cons_self ..)
        · exact .inl (by omega)
      · exact .inr (List.mem_cons_of_mem _ h3)
theorem nearL_perm {l m : List Int} (h : l.Perm m) (v : Int) : nearL l v = nearL m v := by
  unfold nearL
  have hp := h.filter (fun n => decide (n ≤ v))
  obtain ⟨a1, a2, a3⟩ := foldl_max_from (l.filter fun n => decide (n ≤ v)) 0
  obtain ⟨b1, b2, b3⟩ := foldl_max_from (m.filter fun n => decide (n ≤ v)) 0
  have x1 : (l.filter fun n => decide (n ≤ v)).foldl max 0 ≤ (m.filter fun n => decide (n ≤ v)).foldl max 0 := by
    rcases a3 with h | h
    · omega
    · exact b2 _ (hp.mem_iff.1 h)
  have x2 : (m.filter fun n => decide (n ≤ v)).foldl max 0 ≤ (l.filter fun n => decide (n ≤ v)).foldl max 0 := by
    rcases b3 with h | h
    · omega
    · exact a2 _ (hp.mem_iff.2 h)
  omega
theorem F33_spec {v : Int} (H : sat (stoM b fsb S :: F) h) : CallsH Tryz.prog 33 [ptrV b, .int .i64 v] h fun r h' => r = .int .i64 (nearL (S.N.map (·.1)) v) ∧ sat (stoM b fsb S :: F) h' := by
  obtain ⟨d, n, H2⟩ := stoM_open H
  apply F33_ok
  unfold F33
  rw [NN'_some]
  refine LdMp (x := n) H2 rfl ?_
  obtain ⟨ms, H3⟩ := tabM_open (H2.mv 2)
  obtain ⟨es, clock, hm, H4⟩ := ownM_open H3
  have I := roP_get (H4.mv 1)
  refine range_sat (k := 2) (e := 81) (by kernel_rfl) H4 H4.get fun r h1 H5 => ?_
  rw [DP_pointer]
  -- r, n, TabIs, b, d, F
  refine mapLoopI hm (fun done => nearL (done.map (·.1)) v) (G := fun _ => roP (TabIs Bu ms S.N) :: pt b (.cells (stoC fsb S.dir d n) 86 (0, 0)) :: tabM Bu d S.D :: F) H5 ?_ ?_
  · intro done h2 hp H6
    refine ⟨?_, ?_⟩
    · rw [nearL_perm ((hp.map (·.1)).trans (I.perm hm.nodup))]
    · have H7 := tabM_shut (ownM_shut hm H6)
      exact stoM_shut (H7.ordT 3 [1, 2, 0])
  · rintro o done k x h2 again ⟨rest, hp⟩ H6 hag
    refine ⟨k, x, rfl, ?_⟩
    have := hag h2 H6
    have e : nearL ((done ++ [(k, x)]).map (·.1)) v = if k ≤ v then (if k > nearL (done.map (·.1)) v then k else nearL (done.map (·.1)) v) else nearL (done.map (·.1)) v := by
      unfold nearL
      rw [List.map_append, List.filter_append, List.foldl_append]
      by_cases hk : k ≤ v
      · rw [if_pos hk]
        simp only [List.map_cons, List.map_nil, List.filter_cons, hk, decide_true, if_true, List.filter_nil, List.foldl_cons, List.foldl_nil]
        split <;> omega
      · rw [if_neg hk]
        simp only [List.map_cons, List.map_nil, List.filter_cons, hk, decide_false, Bool.false_eq_true, if_false, List.filter_nil, List.foldl_nil]
    rw [e] at this
    by_cases hk : k ≤ v
    · rw [decide_eq_true hk, cond_true]
      rw [if_pos hk] at this
      exact this
    · rw [decide_eq_false hk, cond_false]
      rw [if_neg hk] at this
      exact this
end
end Go.Proofs.YtibdiikcigokjaaGreat

/- A store's files: read, laid (seat S). -/
namespace Go.Proofs.YtibdiikcigokjaaGreat
open Go Go.RowKit Go.MapKept
set_option linter.unusedVariables false
set_option linter.unusedSimpArgs false
open AF (nmI IdOk Live Has Upd Dirc)
open Frame (packN)
open Hex (digs)

abbrev Prs := List (ByteArray × ByteArray)
def VOk (n : Int) : Prop := 1 ≤ n ∧ n ≤ 1099511627776
theorem VOk.id {n : Int} (h : VOk n) : IdOk n := ⟨by have := h.1; omega, h.2⟩
/-- Small enough to be laid. -/
def Fit (ps : Prs) : Prop := (pairsN ps).length ≤ 1000000 ∧ ps.length ≤ 1000000 ∧ ∀ p ∈ ps, p.1.size ≤ 1000000 ∧ p.2.size ≤ 1000000
def laidS (S : Sto) (c : Nat) (v : Int) : Sto := if c = 100 then { S with D := setT v () S.D } else { S with N := setT v () S.N }
def Sto.lay (S : Sto) (A : AF.FS) (c : Nat) (v : Int) (ps : Prs) : AF.FS × Sto × Nat :=
  ((A.put S.dir (nmI c v) (pairsN ps)).1, if (A.put S.dir (nmI c v) (pairsN ps)).2 = 0 then laidS S c v else S, (A.put S.dir (nmI c v) (pairsN ps)).2)
section
variable {F : List HProp} {h : Heap} {b fsb : Nat} {S : Sto} {A : AF.FS}
theorem pairsN_B8 (ps : Prs) : B8 (pairsN ps) := pairsB_B8 fun p hp => by
  obtain ⟨q, hq, rfl⟩ := List.mem_map.1 hp
  exact ⟨sb_B8 _, sb_B8 _⟩
/-- The pairs of a file. -/
theorem F35_spec {name : ByteArray} {ps : Prs} (W : A.WF) (hd : S.dir.size < 4611686018427387904) (hn : name.size < 4611686018427387904) (hf : Fit ps) (hg : A.get S.dir name = .ok (pairsN ps)) (H : sat (stoM b fsb S :: fsP fsb A :: F) h) :
    CallsH Tryz.prog 35 [ptrV b, .string name] h fun v h' => ∃ a c, v = .tuple #[.slice a ps.length c, .int .i64 0] ∧ sat (ownS 50 2 a ps.length c (ps.flatMap pairC) :: stoM b fsb S :: fsP fsb A :: F) h' := by
  apply F35_ok
  unfold F35
  rw [NN'_some]
  obtain ⟨d, n, H2⟩ := stoM_open H
  refine LdPt (x := fsb) H2 rfl ?_
  rw [NN'_some]
  refine LdStr (x := S.dir) H2 rfl ?_
  refine (F104_spec (name := name) W hd hn (H2.mv 3)).mono ?_
  rintro v h1 (⟨bs, a, c, hg2, hb8, hbl, rfl, H3⟩ | ⟨e, hg2, _⟩)
  rotate_left
  · rw [hg] at hg2; cases hg2
  rw [hg] at hg2
  cases hg2
  refine ⟨a, (pairsN ps).length, c, 0, rfl, ?_⟩
  rw [show ((0 : Int) != 0) = false from rfl, cond_false]
  have hc : (pairsN ps).length ≤ c := by
    rcases (ownS_cases H3).2 with ⟨_, h0, _⟩ | ⟨_, _, _, _, h1, _⟩ <;> omega
  refine (F105_spec (ps := ps) hc (by have := hf.1; omega) (ownS_read H3) (roP_own H3)).mono ?_
  rintro v h2 ⟨a2, c2, rfl, H4⟩
  refine ⟨a2, ps.length, c2, 0, rfl, ?_⟩
  rw [show ((0 : Int) != 0) = false from rfl, cond_false]
  -- own, fs, b, d, n, F
  exact ⟨a2, c2, rfl, (stoM_shut (H4.ordT 5 [2, 3, 4, 0, 1])).ordT 3 [1, 0, 2]⟩
theorem laidS_dir (S : Sto) (c : Nat) (v : Int) : (laidS S c v).dir = S.dir := by unfold laidS; split <;> rfl
/-- A file of pairs laid. -/
theorem F45_spec {c q dm nm : Nat} {sg : ByteArray} {v : Int} {la : Option Addr} {ll lc : Nat} {ps : Prs} (hc : (c = 100 ∧ q = dm) ∨ (c = 110 ∧ q = nm)) (hs : sg ++ ⟨#[46]⟩ = ofN [c, 46]) (hz : sg.size = 1)
    (W : A.WF) (hst : A.steps + 10 < 1099511627776) (hd : S.dir.size < 4611686018427387904) (hf : Fit ps) (hr : ∀ h', sat F h' → RdC h' la (ps.flatMap pairC)) (hl : ps.length = ll)
    (H : sat (pt b (.cells (stoC fsb S.dir dm nm) 86 (0, 0)) :: tabM Bu dm S.D :: tabM Bu nm S.N :: fsP fsb A :: F) h) :
    CallsH Tryz.prog 45 [ptrV b, .map (some q), .string sg, .int .i64 v, .slice la ll lc] h fun r h' => r = .int .i64 (((S.lay A c v ps).2.2 : Nat) : Int) ∧ (S.lay A c v ps).1.WF ∧ (S.lay A c v ps).1.steps ≤ A.steps + 6 ∧
      sat (stoM b fsb (S.lay A c v ps).2.1 :: fsP fsb (S.lay A c v ps).1 :: F) h' := by
  apply F45_ok
  unfold F45
  obtain ⟨f1, f2, f3⟩ := hf
  have hr' : ∀ h', sat (pt b (.cells (stoC fsb S.dir dm nm) 86 (0, 0)) :: tabM Bu dm S.D :: tabM Bu nm S.N :: fsP fsb A :: F) h' → RdC h' la (ps.flatMap pairC) := fun h' hh => hr h' (hh.rest 4)
  refine (F113_spec (ps := ps) hr' hl (by omega) (fun p hp => by have := f3 p hp; omega) (by omega) H).mono ?_
  rintro r h1 (⟨hbig, _⟩ | ⟨_, a, cc, rfl, H1⟩)
  · omega
  refine ⟨a, (pairsN ps).length, cc, 0, rfl, ?_⟩
  rw [show ((0 : Int) != 0) = false from rfl, cond_false, NN'_some]
  -- own, b, D, N, fs, F
  refine LdPt (x := fsb) (H1.mv 1) rfl ?_
  rw [NN'_some]
  refine LdStr (x := S.dir) (H1.mv 1) rfl ?_
  refine (F36_spec (n := v) hs hz H1).mono ?_
  rintro r h2 ⟨rfl, H2⟩
  rw [DS_string]
  refine ⟨rfl, rfl, rfl, LdPt (x := fsb) (H2.mv 1) rfl rfl, rfl, rfl, rfl, LdStr (x := S.dir) (H2.mv 1) rfl rfl, rfl, ?_⟩
  refine (F114_spec (bs := pairsN ps) (name := nmI c v) W hst hd (by rw [size_nmI]; decide) (fun h' hh => ownS_read hh) (pairsN_B8 ps) rfl (by omega) (H2.ordT 5 [4, 0, 1, 2, 3])).mono ?_
  rintro r h3 ⟨rfl, W3, hs3, H3⟩
  -- fs, own, b, D, N, F
  rw [DI_int]
  by_cases he : (A.put S.dir (nmI c v) (pairsN ps)).2 = 0
  · have e2 : S.lay A c v ps = ((A.put S.dir (nmI c v) (pairsN ps)).1, laidS S c v, 0) := by unfold Sto.lay; rw [he, if_pos rfl]
    rw [he, e2, show (((0 : Nat) : Int) != 0) = false from rfl, cond_false]
    rcases hc with ⟨rfl, rfl⟩ | ⟨rfl, rfl⟩
    · have H4 := roP_mono (S := Bu () (.agg #[])) (fun h _ => rfl) (roP_true H3)
      -- ro, fs, own, b, D, N, F
      refine tab_set (kt := 2) (et := 81) (x := ()) (by kernel_rfl) (by kernel_rfl) (H4.ordT 6 [4, 0, 1, 2, 3, 5]) fun h4 H5 => ?_
      -- D, fs, own, b, N, F
      refine ⟨rfl, W3, hs3, ?_⟩
      exact stoM_shut (S := laidS S 100 v) (H5.ordT 5 [3, 0, 4, 1])
    · have H4 := roP_mono (S := Bu () (.agg #[])) (fun h _ => rfl) (roP_true H3)
      refine tab_set (kt := 2) (et := 81) (x := ()) (by kernel_rfl) (by kernel_rfl) (H4.ordT 6 [5, 0, 1, 2, 3, 4]) fun h4 H5 => ?_
      -- N, fs, own, b, D, F
      refine ⟨rfl, W3, hs3, ?_⟩
      exact stoM_shut (S := laidS S 110 v) (H5.ordT 5 [3, 4, 0, 1])
  · have e2 : S.lay A c v ps = ((A.put S.dir (nmI c v) (pairsN ps)).1, S, (A.put S.dir (nmI c v) (pairsN ps)).2) := by unfold Sto.lay; rw [if_neg he]
    rw [err_bne he, cond_true, e2]
    exact ⟨rfl, W3, hs3, stoM_shut (S := S) (H3.ordT 5 [2, 3, 4, 0])⟩
end
end Go.Proofs.YtibdiikcigokjaaGreat

/- What a store's directory has; Open; Drop (seat S). -/
namespace Go.Proofs.YtibdiikcigokjaaGreat
open Go Go.RowKit Go.MapKept
set_option linter.unusedVariables false
set_option linter.unusedSimpArgs false
open AF (nmI IdOk Live Has Upd Dirc)
open Frame (packN)
open Hex (digs)

abbrev Cnt := Nat → Int → Prs
structure SF (S : Sto) (T : Dirc) (c : Cnt) : Prop where
  upD : UpT S.D
  upN : UpT S.N
  okD : ∀ p ∈ S.D, VOk p.1
  okN : ∀ p ∈ S.N, VOk p.1
  fitD : ∀ p ∈ S.D, Fit (c 100 p.1)
  fitN : ∀ p ∈ S.N, Fit (c 110 p.1)
  files : ∀ k x, (k, x) ∈ T ↔ (∃ p ∈ S.D, k = nmI 100 p.1 ∧ x = packN (pairsN (c 100 p.1))) ∨ (∃ p ∈ S.N, k = nmI 110 p.1 ∧ x = packN (pairsN (c 110 p.1)))
theorem natOf_id2 {n : Int} (h : IdOk n) : ((natOf n : Nat) : Int) = n ∧ natOf n < 9223372036854775808 := by
  obtain ⟨h0, h1⟩ := h
  have e : n = ((n.toNat : Nat) : Int) := by omega
  rw [e, natOf_nat (by omega)]
  exact ⟨rfl, by omega⟩
theorem nmI_sb {c : Nat} (hc : c < 256) (n : Int) : sb (nmI c n) = c :: 46 :: digs 16 (natOf n) := AF.Fnm.nm_sb hc _
theorem nm_inj2 (c d : Nat) {m n : Int} (hm : VOk m) (hn : VOk n) (h : nmI c m = nmI d n) (hc : c < 256 := by decide) (hd : d < 256 := by decide) : c = d ∧ m = n := AF.nmI_inj hc hd hm.id hn.id h
section
variable {F : List HProp} {h : Heap} {b fsb : Nat} {S : Sto} {A : AF.FS} {T : Dirc} {c : Cnt}
theorem SF.noTmp (I : SF S T c) : ∀ p ∈ T, AF.isTmp p.1 = false := fun p hp => by
  rcases (I.files p.1 p.2).1 hp with ⟨q, _, e, _⟩ | ⟨q, _, e, _⟩ <;> rw [e] <;> exact AF.Fnm.nm_tmp (by decide) _
theorem SF.getD (I : SF S T c) (L : Live A) (H : Has A S.dir T) {v : Int} (hv : (v, ()) ∈ S.D) : A.get S.dir (nmI 100 v) = .ok (pairsN (c 100 v)) :=
  AF.get_ok L H (AF.mem_getN (AF.has_up L H) ((I.files _ _).2 (.inl ⟨_, hv, rfl, rfl⟩))) (pairsN_B8 _) (by have := (I.fitD _ hv).1; simp only at this; omega)
theorem SF.getN (I : SF S T c) (L : Live A) (H : Has A S.dir T) {v : Int} (hv : (v, ()) ∈ S.N) : A.get S.dir (nmI 110 v) = .ok (pairsN (c 110 v)) :=
  AF.get_ok L H (AF.mem_getN (AF.has_up L H) ((I.files _ _).2 (.inr ⟨_, hv, rfl, rfl⟩))) (pairsN_B8 _) (by have := (I.fitN _ hv).1; simp only at this; omega)
theorem SF.few (I : SF S T c) (L : Live A) (H : Has A S.dir T) : T.length ≤ S.D.length + S.N.length := by
  have h := AF.nodup_len (AF.UpN.nodup (AF.has_up L H)) (m := S.D.map (fun p => nmI 100 p.1) ++ S.N.map fun p => nmI 110 p.1) fun k hk => by
    obtain ⟨p, hp, rfl⟩ := List.mem_map.1 hk
    rcases (I.files p.1 p.2).1 hp with ⟨q, hq, e, _⟩ | ⟨q, hq, e, _⟩
    · exact List.mem_append.2 (.inl (List.mem_map.2 ⟨q, hq, e.symm⟩))
    · exact List.mem_append.2 (.inr (List.mem_map.2 ⟨q, hq, e.symm⟩))
  simpa using h
def updC (c : Cnt) (k : Nat) (v : Int) (ps : Prs) : Cnt := fun k' v' => if k' = k ∧ v' = v then ps else c k' v'
theorem memU {S : List (Int × Unit)} {v : Int} (h : v ∈ S.map (·.1)) : (v, ()) ∈ S := by
  obtain ⟨⟨a, ⟨⟩⟩, hp, rfl⟩ := List.mem_map.1 h
  exact hp
theorem SF.laid (I : SF S T c) (L : Live A) (H : Has A S.dir T) {k : Nat} (hk : k = 100 ∨ k = 110) {v : Int} (hv : VOk v) {ps : Prs} (hf : Fit ps) (hu : AF.UpN (AF.setN (nmI k v) (packN (pairsN ps)) T)) : SF (laidS S k v) (AF.setN (nmI k v) (packN (pairsN ps)) T) (updC c k v ps) := by
  have up0 := AF.has_up L H
  have mem : ∀ k' x, (k', x) ∈ AF.setN (nmI k v) (packN (pairsN ps)) T ↔ (k' = nmI k v ∧ x = packN (pairsN ps)) ∨ (k' ≠ nmI k v ∧ (k', x) ∈ T) := fun k' x => by
    rw [AF.mem_setN_iff up0 hu, Prod.mk.injEq]
  rcases hk with rfl | rfl
  · have eS : laidS S 100 v = { S with D := setT v () S.D } := if_pos rfl
    have e1 : ∀ n, n ≠ v → updC c 100 v ps 100 n = c 100 n := fun n hn => by unfold updC; rw [if_neg (fun h => hn h.2)]
    have e2 : updC c 100 v ps 100 v = ps := by unfold updC; rw [if_pos ⟨rfl, rfl⟩]
    have e3 : ∀ n, updC c 100 v ps 110 n = c 110 n := fun n => by unfold updC; rw [if_neg (fun h => by cases h.1)]
    have hD : ∀ p ∈ setT v () S.D, p.1 = v ∨ (p.1 ≠ v ∧ p ∈ S.D) := fun p hp => by
      rcases (mem_setT I.upD).1 hp with rfl | h
      · exact .inl rfl
      · exact .inr h
    rw [eS]
    refine ⟨setT_up I.upD, I.upN, fun p hp => ?_, I.okN, fun p hp => ?_, fun p hp => by rw [e3]; exact I.fitN p hp, fun k' x => ?_⟩
    · rcases hD p hp with e | ⟨_, h⟩
      · rw [e]; exact hv
      · exact I.okD p h
    · rcases hD p hp with e | ⟨hne, h⟩
      · rw [e, e2]; exact hf
      · rw [e1 _ hne]; exact I.fitD p h
    · rw [mem]
      constructor
      · rintro (⟨h1, h2⟩ | ⟨hne, h⟩)
        · exact .inl ⟨(v, ()), (mem_setT I.upD).2 (.inl rfl), h1, by rw [e2]; exact h2⟩
        · rcases (I.files k' x).1 h with ⟨p, hp, a1, a2⟩ | ⟨p, hp, a1, a2⟩
          · have hpv : p.1 ≠ v := fun e => hne (by rw [a1, e])
            exact .inl ⟨p, (mem_setT I.upD).2 (.inr ⟨hpv, hp⟩), a1, by rw [e1 _ hpv]; exact a2⟩
          · exact .inr ⟨p, hp, a1, by rw [e3]; exact a2⟩
      · rintro (⟨p, hp, a1, a2⟩ | ⟨p, hp, a1, a2⟩)
        · rcases hD p hp with e | ⟨hpv, h⟩
          · rw [e] at a1 a2; rw [e2] at a2; exact .inl ⟨a1, a2⟩
          · rw [e1 _ hpv] at a2
            refine .inr ⟨fun e => hpv ?_, (I.files _ _).2 (.inl ⟨p, h, a1, a2⟩)⟩
            exact (nm_inj2 100 100 (I.okD p h) hv (by rw [← a1, e])).2
        · rw [e3] at a2
          refine .inr ⟨fun e => ?_, (I.files _ _).2 (.inr ⟨p, hp, a1, a2⟩)⟩
          have := (nm_inj2 110 100 (I.okN p hp) hv (by rw [← a1, e])).1
          omega
  · have eS : laidS S 110 v = { S with N := setT v () S.N } := if_neg (by decide)
    have e1 : ∀ n, n ≠ v → updC c 110 v ps 110 n = c 110 n := fun n hn => by unfold updC; rw [if_neg (fun h => hn h.2)]
    have e2 : updC c 110 v ps 110 v = ps := by unfold updC; rw [if_pos ⟨rfl, rfl⟩]
    have e3 : ∀ n, updC c 110 v ps 100 n = c 100 n := fun n => by unfold updC; rw [if_neg (fun h => by cases h.1)]
    have hD : ∀ p ∈ setT v () S.N, p.1 = v ∨ (p.1 ≠ v ∧ p ∈ S.N) := fun p hp => by
      rcases (mem_setT I.upN).1 hp with rfl | h
      · exact .inl rfl
      · exact .inr h
    rw [eS]
    refine ⟨I.upD, setT_up I.upN, I.okD, fun p hp => ?_, fun p hp => by rw [e3]; exact I.fitD p hp, fun p hp => ?_, fun k' x => ?_⟩
    · rcases hD p hp with e | ⟨_, h⟩
      · rw [e]; exact hv
      · exact I.okN p h
    · rcases hD p hp with e | ⟨hne, h⟩
      · rw [e, e2]; exact hf
      · rw [e1 _ hne]; exact I.fitN p h
    · rw [mem]
      constructor
      · rintro (⟨h1, h2⟩ | ⟨hne, h⟩)
        · exact .inr ⟨(v, ()), (mem_setT I.upN).2 (.inl rfl), h1, by rw [e2]; exact h2⟩
        · rcases (I.files k' x).1 h with ⟨p, hp, a1, a2⟩ | ⟨p, hp, a1, a2⟩
          · exact .inl ⟨p, hp, a1, by rw [e3]; exact a2⟩
          · have hpv : p.1 ≠ v := fun e => hne (by rw [a1, e])
            exact .inr ⟨p, (mem_setT I.upN).2 (.inr ⟨hpv, hp⟩), a1, by rw [e1 _ hpv]; exact a2⟩
      · rintro (⟨p, hp, a1, a2⟩ | ⟨p, hp, a1, a2⟩)
        · rw [e3] at a2
          refine .inr ⟨fun e => ?_, (I.files _ _).2 (.inl ⟨p, hp, a1, a2⟩)⟩
          have := (nm_inj2 100 110 (I.okD p hp) hv (by rw [← a1, e])).1
          omega
        · rcases hD p hp with e | ⟨hpv, h⟩
          · rw [e] at a1 a2; rw [e2] at a2; exact .inl ⟨a1, a2⟩
          · rw [e1 _ hpv] at a2
            refine .inr ⟨fun e => hpv ?_, (I.files _ _).2 (.inr ⟨p, h, a1, a2⟩)⟩
            exact (nm_inj2 110 110 (I.okN p h) hv (by rw [← a1, e])).2
/-- Some numbers fewer. -/
theorem SF.less (I : SF S T c) {U : Dirc} (p q : Int → Bool) (hU : ∀ k x, (k, x) ∈ U ↔ (k, x) ∈ T ∧ (∀ v, (v, ()) ∈ S.D → p v = true → k ≠ nmI 100 v) ∧ (∀ v, (v, ()) ∈ S.N → q v = true → k ≠ nmI 110 v)) :
    SF { S with D := S.D.filter fun x => !p x.1, N := S.N.filter fun x => !q x.1 } U c := by
  refine ⟨filter_up I.upD, filter_up I.upN, fun x hx => I.okD x (List.mem_filter.1 hx).1, fun x hx => I.okN x (List.mem_filter.1 hx).1, fun x hx => I.fitD x (List.mem_filter.1 hx).1, fun x hx => I.fitN x (List.mem_filter.1 hx).1, fun k x => ?_⟩
  rw [hU, I.files]
  constructor
  · rintro ⟨⟨y, hy, a1, a2⟩ | ⟨y, hy, a1, a2⟩, h1, h2⟩
    · refine .inl ⟨y, List.mem_filter.2 ⟨hy, ?_⟩, a1, a2⟩
      rw [Bool.not_eq_true', Bool.eq_false_iff]
      exact fun h => h1 y.1 hy h a1
    · refine .inr ⟨y, List.mem_filter.2 ⟨hy, ?_⟩, a1, a2⟩
      rw [Bool.not_eq_true', Bool.eq_false_iff]
      exact fun h => h2 y.1 hy h a1
  · rintro (⟨y, hy, a1, a2⟩ | ⟨y, hy, a1, a2⟩)
    · obtain ⟨hy1, hy2⟩ := List.mem_filter.1 hy
      refine ⟨.inl ⟨y, hy1, a1, a2⟩, fun v hv hp e => ?_, fun v hv hp e => ?_⟩
      · have := (nm_inj2 100 100 (I.okD y hy1) (I.okD _ hv) (by rw [← a1, e])).2
        simp only at this
        rw [this, hp] at hy2
        cases hy2
      · have := (nm_inj2 100 110 (I.okD y hy1) (I.okN _ hv) (by rw [← a1, e])).1
        omega
    · obtain ⟨hy1, hy2⟩ := List.mem_filter.1 hy
      refine ⟨.inr ⟨y, hy1, a1, a2⟩, fun v hv hp e => ?_, fun v hv hp e => ?_⟩
      · have := (nm_inj2 110 100 (I.okN y hy1) (I.okD _ hv) (by rw [← a1, e])).1
        omega
      · have := (nm_inj2 110 110 (I.okN y hy1) (I.okN _ hv) (by rw [← a1, e])).2
        simp only at this
        rw [this, hp] at hy2
        cases hy2
end
end Go.Proofs.YtibdiikcigokjaaGreat

/- A store opened; numbers that go (seat S). -/
namespace Go.Proofs.YtibdiikcigokjaaGreat
open Go Go.RowKit Go.MapKept
set_option linter.unusedVariables false
set_option linter.unusedSimpArgs false
open AF (nmI IdOk Live Has Upd Dirc goG)
open Frame (packN)
open Hex (digs)

section
variable {F : List HProp} {h : Heap} {b fsb : Nat} {S : Sto} {A : AF.FS} {T : Dirc} {c : Cnt} {dir : ByteArray}
def SetIs (D : List (Int × Unit)) (cc : Nat) (ks : List ByteArray) : Prop := UpT D ∧ ∀ v, (v, ()) ∈ D ↔ VOk v ∧ nmI cc v ∈ ks
theorem SetIs.add {D : List (Int × Unit)} {cc : Nat} {ks : List ByteArray} (hI : SetIs D cc ks) (hc : cc < 256) {v : Int} (hv : VOk v) : SetIs (setT v () D) cc (ks ++ [nmI cc v]) := by
  refine ⟨setT_up hI.1, fun w => ?_⟩
  rw [mem_setT hI.1, hI.2, Prod.mk.injEq, List.mem_append, List.mem_singleton]
  constructor
  · rintro (⟨rfl, _⟩ | ⟨_, h1, h2⟩)
    · exact ⟨hv, .inr rfl⟩
    · exact ⟨h1, .inl h2⟩
  · rintro ⟨h1, h2 | h2⟩
    · by_cases e : w = v
      · exact .inl ⟨e, rfl⟩
      · exact .inr ⟨e, h1, h2⟩
    · exact .inl ⟨(nm_inj2 cc cc h1 hv h2 hc hc).2, rfl⟩
theorem SetIs.skip {D : List (Int × Unit)} {cc dd : Nat} {ks : List ByteArray} (hI : SetIs D cc ks) (hc : cc < 256) (hd : dd < 256) (hne : cc ≠ dd) {v : Int} (hv : VOk v) : SetIs D cc (ks ++ [nmI dd v]) := by
  refine ⟨hI.1, fun w => ?_⟩
  rw [hI.2, List.mem_append, List.mem_singleton]
  constructor
  · rintro ⟨h1, h2⟩
    exact ⟨h1, .inl h2⟩
  · rintro ⟨h1, h2 | h2⟩
    · exact ⟨h1, h2⟩
    · exact absurd (nm_inj2 cc dd h1 hv h2 hc hd).1 hne
set_option maxHeartbeats 1000000 in
theorem F9_spec {B : AF.FS} {ks : List ByteArray} (W : A.WF) (hs : A.steps + 20000 < 1099511627776) (hd : dir.size < 4611686018427387904) (hp : A.prep dir = (B, .ok ks)) (hk : ∀ s ∈ ks, ∃ cc v, (cc = 100 ∨ cc = 110) ∧ VOk v ∧ s = nmI cc v) (H : sat (fsP fsb A :: F) h) :
    CallsH Tryz.prog 9 [ptrV fsb, .string dir] h fun v h' => ∃ b D N, v = .tuple #[ptrV b, .int .i64 0] ∧ SetIs D 100 ks ∧ SetIs N 110 ks ∧ B.WF ∧ B.steps ≤ A.steps + 5001 ∧ sat (stoM b fsb ⟨dir, D, N⟩ :: fsP fsb B :: F) h' := by
  apply F9_ok
  unfold F9
  refine (F42_spec W hs hd H).mono ?_
  rw [hp]
  rintro v h5 ⟨W2, hs2, ⟨ks', a, cc, hk', hright, hlen, rfl, H5⟩ | ⟨e, hk', _⟩⟩
  rotate_left
  · cases hk'
  simp only at W2 hs2 H5
  cases hk'
  refine ⟨a, ks.length, cc, 0, rfl, ?_⟩
  rw [show ((0 : Int) != 0) = false from rfl, cond_false]
  refine Al_sat H5 fun b0 h6 H6 => ?_
  refine Al_sat H6 fun b1 h7 H7 => ?_
  refine Al_sat H7 fun b2 h8 H8 => ?_
  -- b2, b1, b0, own, fs, F
  have M1 := tabM_new (R := Bu) (H8.mv 1)
  -- b1, b2, b0, own, fs
  have M2 := tabM_new (R := Bu) (M1.mv 2)
  -- b0, b1, b2, own, fs
  refine LoopH.upto ks.length (fun i (s0 : Int) h' => s0 = (i : Int) ∧ i ≤ ks.length ∧ ∃ D N, SetIs D 100 (ks.take i) ∧ SetIs N 110 (ks.take i) ∧ sat (tabM Bu b0 D :: tabM Bu b1 N :: pt b2 (.cells (stoC fsb dir b0 b1) 86 (0, 0)) :: ownS 9 1 a ks.length cc (ks.map Value.string) :: fsP fsb B :: F) h') (fun s0 => ks.length - s0.toNat) (fun i s0 h' hh => ⟨hh.2.1, by rw [hh.1]; omega⟩)
    ⟨rfl, Nat.zero_le _, [], [], ⟨List.Pairwise.nil, fun v => by simp⟩, ⟨List.Pairwise.nil, fun v => by simp⟩, M2⟩ ?_ ?_
  · rintro i s0 h' again hi ⟨rfl, _, D, N, iD, iN, K⟩ go
    rw [decide_eq_true (show ((i : Int) < (ks.length : Int)) by omega), cond_true]
    obtain ⟨s, hsi⟩ : ∃ s, ks[i]? = some s := ⟨_, List.getElem?_eq_getElem hi⟩
    refine strRead (ownS_read (K.mv 3)) rfl hsi fun bb hc => ?_
    refine ⟨.string s, hc, s, rfl, ?_⟩
    obtain ⟨k, v, hkk, hv, rfl⟩ := hk s (List.mem_of_getElem? hsi)
    have hk256 : k < 256 := by omega
    have hz : (nmI k v).size = 18 := size_nmI _ _
    have hsb := nmI_sb hk256 v
    have b0' : bt (nmI k v) 0 = (k : Int) := bt_sb (i := 0) (by rw [hsb]; rfl)
    have b1' : bt (nmI k v) 1 = 46 := bt_sb (i := 1) (n := 46) (by rw [hsb]; rfl)
    rw [hz, show ((((18 : Nat) : Int)) != 18) = false from rfl, cond_false]
    refine ⟨by decide, by decide, ?_⟩
    rw [b1', show ((46 : Int) != 46) = false from rfl, cond_false]
    refine ⟨by decide, by decide, by omega, ?_⟩
    have he : sb ((nmI k v).extract 2 18) = digs 16 (natOf v) := by
      rw [sb_extract, hsb, List.take_of_length_le (by simp [Hex.digs_length])]
      rfl
    have e2 : ((2 : Int)).toNat = 2 := rfl
    have e3 : (((18 : Nat) : Int)).toNat = 18 := rfl
    rw [e2, e3]
    refine (F43_spec (by rw [← sb_length, he, Hex.digs_length]; decide) K).mono ?_
    rintro r h12 ⟨rfl, K1⟩
    obtain ⟨hn1, hn2⟩ := natOf_id2 hv.id
    have hun : unhexV (Hex.unhex (sb ((nmI k v).extract 2 18))) = .tuple #[.int .i64 v, .bool true] := by
      rw [he, Hex.unhex_digs (by omega), if_pos hn2]
      unfold unhexV
      simp only [Option.getD_some, Option.isSome_some, hn1]
    rw [hun]
    refine ⟨v, true, rfl, ?_⟩
    have hv1 := hv.1
    have hv2 := hv.2
    rw [Bool.not_true, cond_false, decide_eq_false (show ¬ v < 1 by omega), cond_false, decide_eq_false (show ¬ v > 1099511627776 by omega), cond_false]
    refine ⟨by decide, by decide, ?_⟩
    rw [b0']
    have htk : ks.take (i + 1) = ks.take i ++ [nmI k v] := by rw [List.take_add_one, hsi]; rfl
    have hw : IntKind.wrap .i64 ((i : Int) + 1) = ((i + 1 : Nat) : Int) := wrap64_succ (by omega)
    have K2 := roP_mono (S := Bu () (.agg #[])) (fun h _ => rfl) (roP_true K1)
    -- ro, D, N, b2, own, fs, F
    rcases hkk with rfl | rfl
    · rw [show ((((100 : Nat) : Int)) == 100) = true from rfl, cond_true]
      refine LdMp (x := b0) (K1.mv 2) rfl ?_
      refine tab_set (kt := 2) (et := 81) (x := ()) (by kernel_rfl) (by kernel_rfl) (K2.ordT 2 [1, 0]) fun h13 K3 => ?_
      rw [hw]
      refine go _ _ ⟨rfl, by omega, _, N, ?_, ?_, K3⟩
      · rw [htk]; exact iD.add (by decide) hv
      · rw [htk]; exact iN.skip (by decide) (by decide) (by decide) hv
    · rw [show ((((110 : Nat) : Int)) == 100) = false from rfl, cond_false, show ((((110 : Nat) : Int)) == 110) = true from rfl, cond_true]
      refine LdMp (x := b1) (K1.mv 2) rfl ?_
      refine tab_set (kt := 2) (et := 81) (x := ()) (by kernel_rfl) (by kernel_rfl) (K2.ordT 3 [2, 0, 1]) fun h13 K3 => ?_
      rw [hw]
      refine go _ _ ⟨rfl, by omega, D, _, ?_, ?_, K3.ordT 2 [1, 0]⟩
      · rw [htk]; exact iD.skip (by decide) (by decide) (by decide) hv
      · rw [htk]; exact iN.add (by decide) hv
  · rintro s0 h' again ⟨rfl, _, D, N, iD, iN, K⟩
    rw [decide_eq_false (by omega), cond_false]
    rw [List.take_length] at iD iN
    exact ⟨b2, D, N, rfl, iD, iN, W2, hs2, stoM_shut (S := ⟨dir, D, N⟩) (K.ordT 5 [2, 0, 1, 4])⟩
theorem SF.setD (I : SF S T c) {D : List (Int × Unit)} (hD : SetIs D 100 (T.map (·.1))) : D = S.D := by
  refine tab_ext hD.1 I.upD fun p => ?_
  obtain ⟨v, ⟨⟩⟩ := p
  rw [hD.2]
  constructor
  · rintro ⟨hv, hm⟩
    obtain ⟨q, hq, e⟩ := List.mem_map.1 hm
    rcases (I.files q.1 q.2).1 hq with ⟨x, hx, a1, _⟩ | ⟨x, hx, a1, _⟩
    · have := (nm_inj2 100 100 hv (I.okD x hx) (by rw [← e, a1])).2
      rw [this]
      exact hx
    · have := (nm_inj2 100 110 hv (I.okN x hx) (by rw [← e, a1])).1
      omega
  · intro hm
    exact ⟨I.okD _ hm, List.mem_map.2 ⟨_, (I.files _ _).2 (.inl ⟨_, hm, rfl, rfl⟩), rfl⟩⟩
theorem SF.setN (I : SF S T c) {D : List (Int × Unit)} (hD : SetIs D 110 (T.map (·.1))) : D = S.N := by
  refine tab_ext hD.1 I.upN fun p => ?_
  obtain ⟨v, ⟨⟩⟩ := p
  rw [hD.2]
  constructor
  · rintro ⟨hv, hm⟩
    obtain ⟨q, hq, e⟩ := List.mem_map.1 hm
    rcases (I.files q.1 q.2).1 hq with ⟨x, hx, a1, _⟩ | ⟨x, hx, a1, _⟩
    · have := (nm_inj2 110 100 hv (I.okD x hx) (by rw [← e, a1])).1
      omega
    · have := (nm_inj2 110 110 hv (I.okN x hx) (by rw [← e, a1])).2
      rw [this]
      exact hx
  · intro hm
    exact ⟨I.okN _ hm, List.mem_map.2 ⟨_, (I.files _ _).2 (.inr ⟨_, hm, rfl, rfl⟩), rfl⟩⟩
theorem SF.names (I : SF S T c) : ∀ s ∈ T.map (·.1), ∃ cc v, (cc = 100 ∨ cc = 110) ∧ VOk v ∧ s = nmI cc v := fun s hs => by
  obtain ⟨q, hq, rfl⟩ := List.mem_map.1 hs
  rcases (I.files q.1 q.2).1 hq with ⟨x, hx, a1, _⟩ | ⟨x, hx, a1, _⟩
  · exact ⟨100, x.1, .inl rfl, I.okD x hx, a1⟩
  · exact ⟨110, x.1, .inr rfl, I.okN x hx, a1⟩
theorem sto_open {dir : ByteArray} (L : Live A) (hs : A.steps + 20000 < 1099511627776) (hr : AF.right dir = true) (ha : A.at dir = none) (hf : A.dirs.length < 64) (H : sat (fsP fsb A :: F) h) :
    CallsH Tryz.prog 9 [ptrV fsb, .string dir] h fun v h' => ∃ b B, v = .tuple #[ptrV b, .int .i64 0] ∧ Upd 1 0 1 A B dir [] ∧ sat (stoM b fsb ⟨dir, [], []⟩ :: fsP fsb B :: F) h' := by
  obtain ⟨u, e⟩ := AF.prep_new L hr ha hf
  have hz : dir.size ≤ 32 := by
    unfold AF.right at hr
    simp only [Bool.and_eq_true, decide_eq_true_eq] at hr
    exact hr.1.2
  refine (F9_spec (B := (A.prep dir).1) (ks := []) L.wf hs (by omega) (Prod.ext rfl e) (fun s hs => by cases hs) H).mono ?_
  rintro v h' ⟨b', D, N, rfl, hD, hN, _, _, H'⟩
  have none' : ∀ {D : List (Int × Unit)} {cc : Nat}, SetIs D cc [] → D = [] := fun {D cc} hD => by
    cases D with
    | nil => rfl
    | cons p D =>
      obtain ⟨v, ⟨⟩⟩ := p
      have := ((hD.2 v).1 (List.mem_cons_self ..)).2
      cases this
  have e1 := none' hD
  have e2 := none' hN
  subst e1 e2
  exact ⟨b', _, rfl, u, H'⟩
theorem SF.new (dir : ByteArray) (c : Cnt) : SF ⟨dir, [], []⟩ [] c := ⟨List.Pairwise.nil, List.Pairwise.nil, by simp, by simp, by simp, by simp, by simp⟩
end
end Go.Proofs.YtibdiikcigokjaaGreat

/- Drop (seat S). -/
namespace Go.Proofs.YtibdiikcigokjaaGreat
open Go Go.RowKit Go.MapKept
set_option linter.unusedVariables false
set_option linter.unusedSimpArgs false
open AF (nmI IdOk Live Has Upd Dirc goG)
open Frame (packN)
open Hex (digs)

def Sto.drop (S : Sto) (A : AF.FS) (below : Int) : AF.FS × Sto × Nat :=
  let at_ := nearL (S.N.map (·.1)) below
  if at_ = 0 then (A, S, 0) else
  let r := goG S.dir 100 (fun n => decide (n ≤ at_)) (S.D.map (·.1)) A S.D false
  if r.2.2.2 ≠ 0 then (r.1, { S with D := r.2.1 }, r.2.2.2) else
  let q := goG S.dir 110 (fun n => decide (n < at_)) (S.N.map (·.1)) r.1 S.N r.2.2.1
  if q.2.2.2 ≠ 0 then (q.1, { S with D := r.2.1, N := q.2.1 }, q.2.2.2) else
  if q.2.2.1 = true then ((q.1.syncDir S.dir).1, { S with D := r.2.1, N := q.2.1 }, (q.1.syncDir S.dir).2) else (q.1, { S with D := r.2.1, N := q.2.1 }, 0)
section
variable {F : List HProp} {h : Heap} {b fsb : Nat} {S : Sto} {A : AF.FS}
set_option maxHeartbeats 1000000 in
theorem F47_spec {k q dm nm b0 b2 : Nat} {sg dir : ByteArray} {gf : Fn} {gp gc : Array Value} {p : Int → Bool} {C : HProp} {TT : List (Int × Unit)} {s : Bool} (hk : k < 256) (hsg : sg ++ ⟨#[46]⟩ = ofN [k, 46]) (hz : sg.size = 1)
    (hg : ∀ (n : Int) (F' : List HProp) (h' : Heap), sat (C :: F') h' → CallV Tryz.prog (.func gf gp gc) [.int .i64 n] h' fun v h'' => v = .bool (p n) ∧ h'' = h')
    (W : A.WF) (hs : A.steps + TT.length + 10 < 1099511627776) (hd : dir.size < 4611686018427387904) (hT : TT.length < 1000000000)
    (H : sat (tabM Bu q TT :: pt b (.cells (stoC fsb dir dm nm) 86 (0, 0)) :: fsP fsb A :: pt b0 (.cells #[ptrV b] 23 (0, 0)) :: pt b2 (.cells #[.bool s] 4 (0, 0)) :: C :: F) h) :
    CallsH Tryz.prog 47 [.map (some q), .string sg, .func gf gp gc, .pointer (some ⟨b0, 0, none⟩), .pointer (some ⟨b2, 0, none⟩)] h fun v h' => v = .int .i64 (((goG dir k p (TT.map (·.1)) A TT s).2.2.2 : Nat) : Int) ∧
      (goG dir k p (TT.map (·.1)) A TT s).1.WF ∧ (goG dir k p (TT.map (·.1)) A TT s).1.steps ≤ A.steps + TT.length ∧
      sat (tabM Bu q (goG dir k p (TT.map (·.1)) A TT s).2.1 :: pt b (.cells (stoC fsb dir dm nm) 86 (0, 0)) :: fsP fsb (goG dir k p (TT.map (·.1)) A TT s).1 :: pt b0 (.cells #[ptrV b] 23 (0, 0)) :: pt b2 (.cells #[.bool (goG dir k p (TT.map (·.1)) A TT s).2.2.1] 4 (0, 0)) :: C :: F) h' := by
  have hwf := AF.goG_wf (dir := dir) (c := k) (p := p) (TT.map (·.1)) A TT s W
  rw [List.length_map] at hwf
  apply F47_ok
  unfold F47
  refine (F49_spec (m0 := some q) H).mono ?_
  rintro v h1 ⟨cb, rfl, H1⟩
  refine ⟨_, rfl, ?_⟩
  obtain ⟨m, H2⟩ := tabM_open (H1.mv 1)
  have I := roP_get (H2.mv 1)
  have hn := ownM_nodup H2
  have hlm := I.length hn
  -- own, TabIs, cb, b, fs, b0, b2, C, F
  refine (F48_spec (H2.ordT 3 [2, 0, 1]) (by omega)).mono ?_
  rintro v h2 ⟨a, c, rfl, H3⟩
  rw [DSl_slice]
  have hsort : sortI (m.map (·.1)) = TT.map (·.1) := sortI_eq (I.perm hn) (List.pairwise_map.2 I.up)
  have hml : m.length = TT.length := hlm
  rw [hsort, hml] at H3
  rw [hml]
  -- keys, own, TabIs, b, fs, b0, b2, C, F
  let St : Nat → AF.FS × List (Int × Unit) × Bool × Nat := fun i => goG dir k p ((TT.map (·.1)).take i) A TT s
  have H4 : sat (tabM Bu q (St 0).2.1 :: ownS 2 1 a TT.length c ((TT.map (·.1)).map iv) :: pt b (.cells (stoC fsb dir dm nm) 86 (0, 0)) :: fsP fsb (St 0).1 :: pt b0 (.cells #[ptrV b] 23 (0, 0)) :: pt b2 (.cells #[.bool (St 0).2.2.1] 4 (0, 0)) :: C :: F) h2 := tabM_shut (H3.ordT 3 [1, 2, 0])
  refine LoopH.upto TT.length (fun i (s0 : Int) h' => s0 = (i : Int) ∧ i ≤ TT.length ∧ (St i).2.2.2 = 0 ∧ (St i).1.WF ∧ (St i).1.steps ≤ A.steps + i ∧
      sat (tabM Bu q (St i).2.1 :: ownS 2 1 a TT.length c ((TT.map (·.1)).map iv) :: pt b (.cells (stoC fsb dir dm nm) 86 (0, 0)) :: fsP fsb (St i).1 :: pt b0 (.cells #[ptrV b] 23 (0, 0)) :: pt b2 (.cells #[.bool (St i).2.2.1] 4 (0, 0)) :: C :: F) h')
    (fun s0 => TT.length - s0.toNat) (fun i s0 h' hh => ⟨hh.2.1, by rw [hh.1]; omega⟩) ⟨rfl, Nat.zero_le _, rfl, W, Nat.le_refl _, H4⟩ ?_ ?_
  · rintro i s0 h' again hi ⟨rfl, _, he, Wi, hsi, K⟩ go
    rw [decide_eq_true (show ((i : Int) < (TT.length : Int)) by omega), cond_true]
    obtain ⟨n, hni⟩ : ∃ n, (TT.map (·.1))[i]? = some n := ⟨_, List.getElem?_eq_getElem (by rw [List.length_map]; exact hi)⟩
    have htake : (TT.map (·.1)).take (i + 1) = (TT.map (·.1)).take i ++ [n] := by rw [List.take_add_one, hni]; rfl
    have hst : St (i + 1) = goG dir k p [n] (St i).1 (St i).2.1 (St i).2.2.1 := by
      show goG _ _ _ ((TT.map (·.1)).take (i + 1)) _ _ _ = _
      rw [htake]
      exact AF.goG_more _ _ _ _ _ he
    have hw : IntKind.wrap .i64 ((i : Int) + 1) = ((i + 1 : Nat) : Int) := wrap64_succ (by omega)
    refine IdxA_nat (v := iv n) (ownS_read (K.mv 1)) (by simp) (by rw [List.getElem?_map, hni]; rfl) fun ba hb hc => ⟨_, hc, n, rfl, ?_⟩
    refine (hg n _ _ (K.mv 6)).mono ?_
    rintro v h3 ⟨rfl, rfl⟩
    rw [DB_bool]
    by_cases hp : p n = true
    · rw [hp, Bool.not_true, cond_false]
      refine VPt (K.mv 4).get ?_
      rw [NN'_some]
      refine LdPt (x := fsb) (K.mv 2) rfl ?_
      refine VPt (K.mv 4).get ?_
      rw [NN'_some]
      refine LdStr (x := dir) (K.mv 2) rfl ?_
      refine (F36_spec (c := k) (n := n) hsg hz K).mono ?_
      rintro v h4 ⟨rfl, K2⟩
      rw [DS_string]
      refine ⟨VPt (K2.mv 4).get rfl, rfl, rfl, LdPt (x := fsb) (K2.mv 2) rfl rfl, VPt (K2.mv 4).get rfl, rfl, rfl, LdStr (x := dir) (K2.mv 2) rfl rfl, ?_⟩
      refine (F50_spec (k := nmI k n) Wi (by omega) hd (by rw [size_nmI]; decide) (K2.mv 3)).mono ?_
      rintro v h5 ⟨rfl, K3⟩
      -- fs, D, keys, b, b0, b2, C, F
      rw [DI_int]
      have rst := AF.remove_steps (A := (St i).1) dir (nmI k n)
      by_cases hr : ((St i).1.remove dir (nmI k n)).2 = 0
      · have hst2 : St (i + 1) = (((St i).1.remove dir (nmI k n)).1, delT n (St i).2.1, true, 0) := by
          rw [hst, AF.goG_1 hp hr]
          rfl
        rw [hr, show (((0 : Nat) : Int) != 0) = false from rfl, cond_false]
        refine tab_delete (kt := 2) (et := 81) (by kernel_rfl) (by kernel_rfl) (K3.mv 1) fun h6 K4 => ?_
        -- D, fs, keys, b, b0, b2, C, F
        refine StCC (K4.mv 5) (by exact Nat.zero_lt_one) rfl fun h7 K5 => ?_
        -- b2, D, fs, keys, b, b0, C, F
        rw [hw]
        refine go _ _ ⟨rfl, by omega, by rw [hst2], by rw [hst2]; exact Wi.remove _ _, by rw [hst2]; simp only; omega, ?_⟩
        rw [hst2]
        exact K5.ordT 7 [1, 3, 4, 2, 5, 0, 6]
      · have hst2 : St (i + 1) = (((St i).1.remove dir (nmI k n)).1, (St i).2.1, (St i).2.2.1, ((St i).1.remove dir (nmI k n)).2) := by
          rw [hst]
          exact AF.goG_2 hp hr
        rw [err_bne hr, cond_true]
        have htot : goG dir k p (TT.map (·.1)) A TT s = St (i + 1) := by
          have e1 : TT.map (·.1) = (TT.map (·.1)).take (i + 1) ++ (TT.map (·.1)).drop (i + 1) := (List.take_append_drop ..).symm
          conv => lhs; rw [e1]
          refine AF.goG_fail _ _ _ _ _ ?_
          have : (St (i + 1)).2.2.2 ≠ 0 := by rw [hst2]; exact hr
          exact this
        rw [htot] at hwf ⊢
        refine ⟨by rw [hst2], hwf.1, hwf.2, ?_⟩
        rw [hst2]
        exact K3.ordT 7 [1, 3, 0, 4, 5, 6]
    · have hst2 : St (i + 1) = St i := by
        rw [hst, AF.goG_3 hp]
        show ((St i).1, (St i).2.1, (St i).2.2.1, 0) = St i
        rw [← he]
      rw [Bool.not_eq_true] at hp
      rw [hp, Bool.not_false, cond_true, hw]
      exact go _ _ ⟨rfl, by omega, by rw [hst2]; exact he, by rw [hst2]; exact Wi, by rw [hst2]; omega, by rw [hst2]; exact K⟩
  · rintro s0 h' again ⟨rfl, _, he, Wi, hsi, K⟩
    rw [decide_eq_false (by omega), cond_false]
    have hall : St TT.length = goG dir k p (TT.map (·.1)) A TT s := by
      show goG _ _ _ ((TT.map (·.1)).take TT.length) _ _ _ = _
      rw [List.take_of_length_le (by rw [List.length_map]; omega)]
    rw [hall] at he K Wi hsi
    refine ⟨by rw [he]; rfl, Wi, hsi, ?_⟩
    exact K.ordT 7 [0, 2, 3, 4, 5, 6]
theorem F51_call {b1 : Nat} {x : Int} (n : Int) (F' : List HProp) (h' : Heap) (H : sat (pt b1 (.cells #[.int .i64 x] 2 (0, 0)) :: F') h') : CallV Tryz.prog (.func (.func 51) #[] #[.pointer (some ⟨b1, 0, none⟩)]) [.int .i64 n] h' fun v h'' => v = .bool (decide (n ≤ x)) ∧ h'' = h' := by
  refine CallV_fn ?_
  refine F51_ok (c0 := ⟨b1, 0, none⟩) ?_
  unfold F51
  exact VIn H.get ⟨rfl, rfl⟩
theorem F52_call {b1 : Nat} {x : Int} (n : Int) (F' : List HProp) (h' : Heap) (H : sat (pt b1 (.cells #[.int .i64 x] 2 (0, 0)) :: F') h') : CallV Tryz.prog (.func (.func 52) #[] #[.pointer (some ⟨b1, 0, none⟩)]) [.int .i64 n] h' fun v h'' => v = .bool (decide (n < x)) ∧ h'' = h' := by
  refine CallV_fn ?_
  refine F52_ok (c0 := ⟨b1, 0, none⟩) ?_
  unfold F52
  exact VIn H.get ⟨rfl, rfl⟩
set_option maxHeartbeats 1000000 in
theorem F12_spec {below : Int} (W : A.WF) (hs : A.steps + S.D.length + S.N.length + 20 < 1099511627776) (hd : S.dir.size < 4611686018427387904) (hT : S.D.length + S.N.length < 1000000000) (H : sat (stoM b fsb S :: fsP fsb A :: F) h) :
    CallsH Tryz.prog 12 [ptrV b, .int .i64 below] h fun v h' => v = .int .i64 (((S.drop A below).2.2 : Nat) : Int) ∧ (S.drop A below).1.WF ∧ (S.drop A below).1.steps ≤ A.steps + S.D.length + S.N.length + 1 ∧ sat (stoM b fsb (S.drop A below).2.1 :: fsP fsb (S.drop A below).1 :: F) h' := by
  apply F12_ok
  unfold F12
  refine Al_sat H fun b0 h1 H1 => ?_
  refine VPt H1.get ?_
  rw [show (some (⟨b, 0, none⟩ : Addr)).isNone = false from rfl, cond_false]
  refine VPt H1.get ?_
  refine (F33_spec (v := below) (H1.mv 1)).mono ?_
  rintro v h2 ⟨rfl, H2⟩
  -- sto, b0, fs, F
  rw [DI_int]
  refine Al_sat H2 fun b1 h3 H3 => ?_
  refine StCC H3 (by exact Nat.zero_lt_one) rfl fun h4 H4 => ?_
  refine VIn H4.get ?_
  unfold Sto.drop
  dsimp only
  generalize hat : nearL (S.N.map (·.1)) below = at_ at H4 ⊢
  by_cases h0 : at_ = 0
  · subst h0
    rw [show ((0 : Int) == 0) = true from rfl, cond_true, if_pos rfl]
    exact ⟨rfl, W, by simp only; omega, H4.ordT 4 [1, 3]⟩
  rw [show ((at_ : Int) == 0) = false from by rw [beq_eq_false_iff_ne]; exact h0, cond_false, if_neg h0]
  refine Al_sat H4 fun b2 h5 H5 => ?_
  refine StCC H5 (by exact Nat.zero_lt_one) rfl fun h6 H6 => ?_
  -- b2, b1, sto, b0, fs, F
  refine VPt (H6.mv 3).get ?_
  obtain ⟨dm, nm, H7⟩ := stoM_open (H6.mv 2)
  -- b, D, N, b2, b1, b0, fs, F
  rw [NN'_some]
  refine LdMp (x := dm) H7 rfl ?_
  refine (F47_spec (k := 100) (dm := dm) (nm := nm) (TT := S.D) (s := false) (p := fun n => decide (n ≤ at_)) (by decide) sgD rfl F51_call W (by omega) hd (by omega) (H7.ordT 7 [1, 0, 6, 5, 3, 4, 2])).mono ?_
  generalize goG S.dir 100 (fun n => decide (n ≤ at_)) (S.D.map (·.1)) A S.D false = r
  rintro v h7 ⟨rfl, W7, hs7, H8⟩
  -- D, b, fs, b0, b2, b1, N, F
  rw [DI_int]
  by_cases he : r.2.2.2 = 0
  · rw [he, show (((0 : Nat) : Int) != 0) = false from rfl, cond_false, if_neg (by simp)]
    refine VPt (H8.mv 3).get ?_
    rw [NN'_some]
    refine LdMp (x := nm) (H8.mv 1) rfl ?_
    refine (F47_spec (k := 110) (dm := dm) (nm := nm) (TT := S.N) (s := r.2.2.1) (p := fun n => decide (n < at_)) (by decide) sgN rfl F52_call W7 (by omega) hd (by omega) (H8.ordT 7 [6, 1, 2, 3, 4, 5, 0])).mono ?_
    generalize goG S.dir 110 (fun n => decide (n < at_)) (S.N.map (·.1)) r.1 S.N r.2.2.1 = q
    rintro v h8 ⟨rfl, W8, hs8, H9⟩
    -- N, b, fs, b0, b2, b1, D, F
    rw [DI_int]
    by_cases he2 : q.2.2.2 = 0
    · rw [he2, show (((0 : Nat) : Int) != 0) = false from rfl, cond_false, if_neg (by simp)]
      refine VBo (H9.mv 4).get ?_
      cases hfl : q.2.2.1 with
      | false =>
        rw [Bool.not_false, cond_true, if_neg (by decide)]
        exact ⟨rfl, W8, by simp only; omega, (stoM_shut (S := { S with D := r.2.1, N := q.2.1 }) (H9.ordT 7 [1, 6, 0, 2]))⟩
      | true =>
        rw [Bool.not_true, cond_false, if_pos rfl]
        refine VPt (H9.mv 3).get ?_
        rw [NN'_some]
        refine LdPt (x := fsb) (H9.mv 1) rfl ?_
        refine VPt (H9.mv 3).get ?_
        rw [NN'_some]
        refine LdStr (x := S.dir) (H9.mv 1) rfl ?_
        refine (F53_spec (dir := S.dir) W8 (by omega) hd (H9.mv 2)).mono ?_
        rintro v h9 ⟨rfl, H10⟩
        -- fs, N, b, b0, b2, b1, D, F
        rw [DI_int]
        have := AF.syncDir_steps (A := q.1) S.dir
        exact ⟨rfl, W8.syncDir _, by simp only; omega, (stoM_shut (S := { S with D := r.2.1, N := q.2.1 }) (H10.ordT 7 [2, 6, 1, 0]))⟩
    · rw [err_bne he2, cond_true, if_pos he2]
      exact ⟨rfl, W8, by simp only; omega, (stoM_shut (S := { S with D := r.2.1, N := q.2.1 }) (H9.ordT 7 [1, 6, 0, 2]))⟩
  · rw [err_bne he, cond_true, if_pos he]
    exact ⟨rfl, W7, by simp only; omega, (stoM_shut (S := { S with D := r.2.1 }) (H8.ordT 7 [1, 0, 6, 2]))⟩
end
end Go.Proofs.YtibdiikcigokjaaGreat
