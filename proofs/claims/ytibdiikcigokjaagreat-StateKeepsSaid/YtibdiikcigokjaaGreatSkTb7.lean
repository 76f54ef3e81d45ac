/- The document's answer on tables (seat T). -/
import Derived.Test.YtibdiikcigokjaaGreatSkTb6
namespace Go.Proofs.YtibdiikcigokjaaGreat.TS
open Go Go.RowKit
open Tb (T get set del Up Has)
open AF (ltB strLt_irrefl strLt_trans strLt_total)
set_option linter.unusedVariables false
set_option linter.unusedSimpArgs false

abbrev Pr := ByteArray × ByteArray
abbrev pairC (p : Pr) : List Value := [.string p.1, .string p.2]
section
variable {h : Heap} {F : List HProp} {a : Option Addr} {n c : Nat} {l : T VT}
theorem prPush {xs : List Pr} {x : Pr} {K : Heap → Option Addr → Nat → Nat → Prop} (hl : xs.length = n) (hb : n < 2199023255552) (H : sat (ownS 50 2 a n c (xs.flatMap pairC) :: F) h)
    (hK : ∀ a' c' h', sat (ownS 50 2 a' (n + 1) c' ((xs ++ [x]).flatMap pairC) :: F) h' → K h' a' (n + 1) c') :
    Al h (.cells #[.string x.1, .string x.2] 50) fun b1 h1 => RunH Tryz.prog (Builtin.append_ #[41, 41] 41 #[.slice a n c, .slice (some (Addr.mk b1 0 none)) 1 1]) h1 fun r h2 => DSl r fun a' l' c' => K h2 a' l' c' := by
  refine pushEl (f := pairC) (sz := 2) (by_ := 32) (x := x) (by kernel_rfl) (by kernel_rfl) (by kernel_rfl) (fun _ => rfl) (fun v hv => ?_) rfl hl (by omega) H hK
  simp only [List.mem_cons, List.not_mem_nil, or_false] at hv
  rcases hv with rfl | rfl <;> rfl
/-- A row of pairs that is read. -/
abbrev rdP (F : List HProp) (a : Option Addr) (l : T VT) : Prop := ∀ h', sat F h' → RdC h' a (l.flatMap pairC)
/-- The document's Set, on any row. -/
def rset (k v : ByteArray) : T VT → T VT
  | [] => [(k, v)]
  | p :: l => if ltB p.1 k = true then p :: rset k v l else (k, v) :: del (p :: l) k
theorem rset_eq (k v : ByteArray) : ∀ {l : T VT}, Up l → rset k v l = set k v l
  | [], _ => rfl
  | p :: l, U => by
    have hall : ∀ {m : T VT}, (∀ q ∈ m, q.1 ≠ k) → del m k = m := fun {m} hm => by
      unfold Tb.del
      rw [List.filter_eq_self]
      intro q hq
      simp [hm q hq]
    unfold rset Tb.set
    by_cases e : p.1 = k
    · have h1 : ¬ ltB p.1 k = true := fun h => Tb.lt_ne h e
      rw [if_neg h1, if_pos e]
      have h2 : del (p :: l) k = del l k := by
        unfold Tb.del
        rw [List.filter_cons, if_neg (by simp [e])]
      rw [h2, hall fun q hq e2 => Tb.lt_ne (U.head q hq) (by rw [e, e2])]
    · rw [if_neg e]
      by_cases h3 : ltB k p.1 = true
      · have h1 : ¬ ltB p.1 k = true := fun h => strLt_irrefl _ (strLt_trans h h3)
        rw [if_neg h1, if_pos h3, hall]
        intro q hq e2
        rcases List.mem_cons.1 hq with rfl | hq
        · exact e e2
        · exact strLt_irrefl k (by have := strLt_trans h3 (U.head q hq); rwa [e2] at this)
      · rw [if_neg h3, if_pos (strLt_total (Ne.symm e) h3), rset_eq k v U.tail]
theorem F54_spec {key val : ByteArray} (hr : rdP F a l) (hn : l.length = n) (hm : n < 1099511627776) (U : Up l) (H : sat F h) :
    CallsH Tryz.prog 54 [.slice a n c, .string key, .string val] h fun v h' => ∃ a' n' c', v = .slice a' n' c' ∧ (set key val l).length = n' ∧ sat (ownS 50 2 a' n' c' ((set key val l).flatMap pairC) :: F) h' := by
  apply F54_ok
  unfold F54
  rw [← rset_eq key val U]
  refine ⟨fun st hh => ∃ (i : Nat) (xs : T VT) (d : Bool), st = (⟨st.1.a, xs.length, st.1.c⟩, d, (i : Int)) ∧ i ≤ n ∧ xs.length ≤ (if d = true then i + 1 else i) ∧ xs ++ (if d = true then del (l.drop i) key else rset key val (l.drop i)) = rset key val l ∧ sat (ownS 50 2 st.1.a xs.length st.1.c (xs.flatMap pairC) :: F) hh,
    fun st _ => ((n : Int) - st.2.2).toNat, ⟨0, [], false, rfl, Nat.zero_le _, Nat.zero_le _, rfl, ownS_nil 50 2 H⟩, ?_⟩
  rintro ⟨⟨oa, ol, oc⟩, d, st⟩ h1 ⟨i, xs, d', est, hi, hxl, hxs, H1⟩
  simp only [Prod.mk.injEq, Sl.mk.injEq] at est
  obtain ⟨⟨_, rfl, _⟩, rfl, rfl⟩ := est
  simp only [] at H1 ⊢
  by_cases hlt : i < n
  · rw [decide_eq_true (show ((i : Int) < (n : Int)) by omega), cond_true]
    obtain ⟨p, hp⟩ : ∃ p, l[i]? = some p := ⟨_, List.getElem?_eq_getElem (by omega)⟩
    have hd : l.drop i = p :: l.drop (i + 1) := List.drop_eq_getElem?_toList_append .. |>.trans (by rw [hp]; rfl)
    have wi : IntKind.wrap .i64 ((i : Int) + 1) = ((i + 1 : Nat) : Int) := wrap64_succ (by omega)
    have hme : ((n : Int) - ((i + 1 : Nat) : Int)).toNat < ((n : Int) - (i : Int)).toNat := by omega
    rw [hd] at hxs
    cases d with
    | true =>
      rw [Bool.not_true, cond_false]
      rw [if_pos rfl] at hxs hxl
      refine IdxC (f := pairC) (fun _ => rfl) (by decide) (hr h1 H1.drop) hn hp fun b hb hc => CStr (hc 0 _ rfl) ?_
      rw [strEq_dec]
      by_cases e : p.1 = key
      · rw [decide_eq_true e, Bool.not_true, cond_false, wi]
        refine ⟨⟨i + 1, xs, true, rfl, by omega, by rw [if_pos rfl]; omega, ?_, H1⟩, hme⟩
        rw [if_pos rfl, ← hxs]
        unfold Tb.del
        rw [List.filter_cons, if_neg (by simp [e])]
      · rw [decide_eq_false e, Bool.not_false, cond_true, wi]
        refine IdxC (f := pairC) (fun _ => rfl) (by decide) (hr h1 H1.drop) hn hp fun b hb hc => ⟨_, hc 0 _ rfl, _, hc 1 _ rfl, p.1, p.2, rfl, ?_⟩
        refine prPush (x := p) rfl (by omega) H1 fun a' c' h' H2 => ?_
        refine ⟨⟨i + 1, xs ++ [p], true, by rw [List.length_append]; rfl, by omega, by rw [if_pos rfl, List.length_append]; show xs.length + 1 ≤ _; omega, ?_, by rw [List.length_append]; exact H2⟩, hme⟩
        rw [if_pos rfl, ← hxs, List.append_assoc]
        unfold Tb.del
        rw [List.filter_cons, if_pos (by simp [e])]
        rfl
    | false =>
      rw [Bool.not_false, cond_true]
      rw [if_neg (by decide)] at hxs hxl
      refine IdxC (f := pairC) (fun _ => rfl) (by decide) (hr h1 H1.drop) hn hp fun b hb hc => CStr (hc 0 _ rfl) ?_
      rw [AF.strLt_eq]
      cases hlb : ltB p.1 key with
      | true =>
        have e : p.1 ≠ key := Tb.lt_ne hlb
        rw [Bool.not_true, cond_false]
        refine IdxC (f := pairC) (fun _ => rfl) (by decide) (hr h1 H1.drop) hn hp fun b hb hc => CStr (hc 0 _ rfl) ?_
        rw [strEq_dec, decide_eq_false e, Bool.not_false, cond_true, wi]
        refine IdxC (f := pairC) (fun _ => rfl) (by decide) (hr h1 H1.drop) hn hp fun b hb hc => ⟨_, hc 0 _ rfl, _, hc 1 _ rfl, p.1, p.2, rfl, ?_⟩
        refine prPush (x := p) rfl (by omega) H1 fun a' c' h' H2 => ?_
        refine ⟨⟨i + 1, xs ++ [p], false, by rw [List.length_append]; rfl, by omega, by rw [if_neg (by decide), List.length_append]; show xs.length + 1 ≤ _; omega, ?_, by rw [List.length_append]; exact H2⟩, hme⟩
        rw [if_neg (by decide), ← hxs, List.append_assoc]
        rw [rset, if_pos hlb]
        rfl
      | false =>
        rw [Bool.not_false, cond_true]
        rw [rset, hlb, if_neg (by decide)] at hxs
        refine prPush (x := (key, val)) rfl (by omega) H1 fun a1 c1 h2 H2 => ?_
        refine IdxC (f := pairC) (fun _ => rfl) (by decide) (hr h2 H2.drop) hn hp fun b hb hc => CStr (hc 0 _ rfl) ?_
        rw [strEq_dec]
        by_cases e : p.1 = key
        · rw [decide_eq_true e, Bool.not_true, cond_false, wi]
          refine ⟨⟨i + 1, xs ++ [(key, val)], true, by rw [List.length_append]; rfl, by omega, by rw [if_pos rfl, List.length_append]; show xs.length + 1 ≤ _; omega, ?_, by rw [List.length_append]; exact H2⟩, hme⟩
          rw [if_pos rfl, ← hxs, List.append_assoc]
          unfold Tb.del
          rw [List.filter_cons, if_neg (by simp [e])]
          rfl
        · rw [decide_eq_false e, Bool.not_false, cond_true, wi]
          refine IdxC (f := pairC) (fun _ => rfl) (by decide) (hr h2 H2.drop) hn hp fun b hb hc => ⟨_, hc 0 _ rfl, _, hc 1 _ rfl, p.1, p.2, rfl, ?_⟩
          refine prPush (x := p) (by rw [List.length_append]; rfl) (by omega) H2 fun a' c' h' H3 => ?_
          refine ⟨⟨i + 1, xs ++ [(key, val)] ++ [p], true, by rw [List.length_append, List.length_append]; rfl, by omega, by rw [if_pos rfl, List.length_append, List.length_append]; show xs.length + 1 + 1 ≤ _; omega, ?_, by rw [List.length_append, List.length_append]; exact H3⟩, hme⟩
          rw [if_pos rfl, ← hxs, List.append_assoc, List.append_assoc]
          unfold Tb.del
          rw [List.filter_cons, if_pos (by simp [e])]
          rfl
  · rw [decide_eq_false (by omega), cond_false]
    rw [List.drop_of_length_le (by omega)] at hxs
    cases d with
    | true =>
      rw [Bool.not_true, cond_false]
      rw [if_pos rfl, show del ([] : T VT) key = [] from rfl, List.append_nil] at hxs
      exact ⟨oa, xs.length, oc, rfl, by rw [← hxs], by rw [← hxs]; exact H1⟩
    | false =>
      rw [Bool.not_false, cond_true]
      rw [if_neg (by decide)] at hxs hxl
      refine prPush (x := (key, val)) rfl (by omega) H1 fun a' c' h' H2 => ?_
      exact ⟨a', xs.length + 1, c', rfl, by rw [← hxs, List.length_append]; rfl, by rw [← hxs]; exact H2⟩
end

end Go.Proofs.YtibdiikcigokjaaGreat.TS
