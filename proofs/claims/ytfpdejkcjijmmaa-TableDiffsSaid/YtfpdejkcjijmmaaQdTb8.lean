/- The document's answer on what changed (seat T). -/
import Derived.Test.YtfpdejkcjijmmaaQdTb7
namespace Go.Proofs.Ytfpdejkcjijmmaa.TS
open Go Go.RowKit
open Tb (T get set del Up Has)
open AF (ltB strLt_irrefl strLt_trans strLt_total)
set_option linter.unusedVariables false
set_option linter.unusedSimpArgs false

/-- What changed, both gone over at once. -/
def mrg : T VT → T VT → List Ch
  | [], [] => []
  | x :: a, [] => (x.1, vz, true) :: mrg a []
  | [], y :: b => (y.1, y.2, false) :: mrg [] b
  | x :: a, y :: b => if ltB x.1 y.1 = true then (x.1, vz, true) :: mrg a (y :: b) else if ltB y.1 x.1 = true then (y.1, y.2, false) :: mrg (x :: a) b else (if x.2 = y.2 then [] else [(y.1, y.2, false)]) ++ mrg a b
termination_by a b => a.length + b.length
theorem mrg_mem (n : Nat) : ∀ {a b : T VT}, a.length + b.length ≤ n → ∀ x ∈ mrg a b, (∃ p ∈ a, p.1 = x.1) ∨ ∃ p ∈ b, p.1 = x.1 := by
  induction n with
  | zero =>
    intro a b h x hx
    have ha : a = [] := List.eq_nil_of_length_eq_zero (by omega)
    have hb : b = [] := List.eq_nil_of_length_eq_zero (by omega)
    subst ha hb
    rw [mrg] at hx
    cases hx
  | succ n ih =>
    intro a b h x hx
    cases a with
    | nil =>
      cases b with
      | nil => rw [mrg] at hx; cases hx
      | cons y b =>
        rw [mrg] at hx
        rcases List.mem_cons.1 hx with rfl | hx
        · exact .inr ⟨y, by simp, rfl⟩
        · rcases ih (by simp at h ⊢; omega) x hx with ⟨p, hp, e⟩ | ⟨p, hp, e⟩
          · exact .inl ⟨p, hp, e⟩
          · exact .inr ⟨p, by simp [hp], e⟩
    | cons z a =>
      cases b with
      | nil =>
        rw [mrg] at hx
        rcases List.mem_cons.1 hx with rfl | hx
        · exact .inl ⟨z, by simp, rfl⟩
        · rcases ih (by simp at h ⊢; omega) x hx with ⟨p, hp, e⟩ | ⟨p, hp, e⟩
          · exact .inl ⟨p, by simp [hp], e⟩
          · exact .inr ⟨p, hp, e⟩
      | cons y b =>
        rw [mrg] at hx
        simp only [List.length_cons] at h
        split at hx
        · rcases List.mem_cons.1 hx with rfl | hx
          · exact .inl ⟨z, by simp, rfl⟩
          · rcases ih (by simp only [List.length_cons]; omega) x hx with ⟨p, hp, e⟩ | ⟨p, hp, e⟩
            · exact .inl ⟨p, by simp [hp], e⟩
            · exact .inr ⟨p, hp, e⟩
        · split at hx
          · rcases List.mem_cons.1 hx with rfl | hx
            · exact .inr ⟨y, by simp, rfl⟩
            · rcases ih (by simp only [List.length_cons]; omega) x hx with ⟨p, hp, e⟩ | ⟨p, hp, e⟩
              · exact .inl ⟨p, hp, e⟩
              · exact .inr ⟨p, by simp [hp], e⟩
          · rcases List.mem_append.1 hx with hx | hx
            · split at hx
              · cases hx
              · rw [List.mem_singleton] at hx
                subst hx
                exact .inr ⟨y, by simp, rfl⟩
            · rcases ih (by omega) x hx with ⟨p, hp, e⟩ | ⟨p, hp, e⟩
              · exact .inl ⟨p, by simp [hp], e⟩
              · exact .inr ⟨p, by simp [hp], e⟩
theorem above_none {l : T VT} {k : ByteArray} (h : ∀ p ∈ l, ltB k p.1 = true) : get l k = none := Tb.get_none.2 fun p hp => (Tb.lt_ne (h p hp)).symm
theorem get_cons {V : Type} (p : ByteArray × V) (l : T V) (k : ByteArray) : get (p :: l) k = if p.1 = k then some p.2 else get l k := by
  unfold Tb.get
  rw [List.find?_cons]
  by_cases e : p.1 = k
  · simp [e]
  · simp [e]
theorem mrg_diffs (n : Nat) : ∀ {a b : T VT}, a.length + b.length ≤ n → Up a → Up b → Diffs a b (mrg a b) := by
  have ups : ∀ {k : ByteArray} {a b : T VT} {d : List Ch} {v : VT × Bool}, (∀ x ∈ d, (∃ p ∈ a, p.1 = x.1) ∨ ∃ p ∈ b, p.1 = x.1) → (∀ p ∈ a, ltB k p.1 = true) → (∀ p ∈ b, ltB k p.1 = true) → Up (V := VT × Bool) d → Up (V := VT × Bool) ((k, v) :: d) := fun {k a b d v} hm ha hb U => by
    refine List.pairwise_cons.2 ⟨fun q hq => ?_, U⟩
    rcases hm q hq with ⟨p, hp, e⟩ | ⟨p, hp, e⟩
    · have := ha p hp
      rwa [e] at this
    · have := hb p hp
      rwa [e] at this
  induction n with
  | zero =>
    intro a b h Ua Ub
    have ha : a = [] := List.eq_nil_of_length_eq_zero (by omega)
    have hb : b = [] := List.eq_nil_of_length_eq_zero (by omega)
    subst ha hb
    rw [mrg]
    exact ⟨Up.nil, fun k => rfl⟩
  | succ n ih =>
    intro a b h Ua Ub
    cases a with
    | nil =>
      cases b with
      | nil =>
        rw [mrg]
        exact ⟨Up.nil, fun k => rfl⟩
      | cons y b =>
        rw [mrg]
        have h2 : ([] : T VT).length + b.length ≤ n := by simp at h ⊢; omega
        have D := ih h2 Ua Ub.tail
        refine ⟨ups (mrg_mem n h2) (by simp) Ub.head D.up, fun k => ?_⟩
        rw [get_cons, D.at_]
        unfold dget
        rw [get_cons]
        by_cases e : y.1 = k
        · simp only [e, if_true]
          rfl
        · simp only [e, if_false]
    | cons x a =>
      cases b with
      | nil =>
        rw [mrg]
        have h2 : a.length + ([] : T VT).length ≤ n := by simp at h ⊢; omega
        have D := ih h2 Ua.tail Ub
        refine ⟨ups (mrg_mem n h2) Ua.head (by simp) D.up, fun k => ?_⟩
        rw [get_cons, D.at_]
        unfold dget
        rw [get_cons (l := a)]
        by_cases e : x.1 = k
        · simp only [e, if_true]
          rfl
        · simp only [e, if_false]
      | cons y b =>
        rw [mrg]
        simp only [List.length_cons] at h
        split
        · rename_i hlt
          have h2 : a.length + (y :: b).length ≤ n := by simp only [List.length_cons]; omega
          have D := ih h2 Ua.tail Ub
          have hy : ∀ p ∈ y :: b, ltB x.1 p.1 = true := fun p hp => by
            rcases List.mem_cons.1 hp with rfl | hp
            · exact hlt
            · exact strLt_trans hlt (Ub.head p hp)
          refine ⟨ups (mrg_mem n h2) Ua.head hy D.up, fun k => ?_⟩
          rw [get_cons, D.at_]
          unfold dget
          rw [get_cons (p := x)]
          by_cases e : x.1 = k
          · rw [show get (y :: b) k = none from by rw [← e]; exact above_none hy]
            simp only [e, if_true]
            rfl
          · simp only [e, if_false]
        · rename_i hnlt
          split
          · rename_i hlt
            have h2 : (x :: a).length + b.length ≤ n := by simp only [List.length_cons]; omega
            have D := ih h2 Ua Ub.tail
            have hx : ∀ p ∈ x :: a, ltB y.1 p.1 = true := fun p hp => by
              rcases List.mem_cons.1 hp with rfl | hp
              · exact hlt
              · exact strLt_trans hlt (Ua.head p hp)
            refine ⟨ups (mrg_mem n h2) hx Ub.head D.up, fun k => ?_⟩
            rw [get_cons, D.at_]
            unfold dget
            rw [get_cons (p := y)]
            by_cases e : y.1 = k
            · rw [show get (x :: a) k = none from by rw [← e]; exact above_none hx]
              simp only [e, if_true]
              rfl
            · simp only [e, if_false]
          · rename_i hnlt2
            have exy : x.1 = y.1 := by
              by_cases e : x.1 = y.1
              · exact e
              · exact absurd (strLt_total e hnlt) hnlt2
            have h2 : a.length + b.length ≤ n := by omega
            have D := ih h2 Ua.tail Ub.tail
            have hya : ∀ p ∈ a, ltB y.1 p.1 = true := fun p hp => by rw [← exy]; exact Ua.head p hp
            have hna : get a y.1 = none := above_none hya
            have hnb : get b y.1 = none := above_none Ub.head
            have hnd : get (V := VT × Bool) (mrg a b) y.1 = none := by
              rw [D.at_, dget, hnb, hna]
              rfl
            split
            · rename_i ev
              rw [List.nil_append]
              refine ⟨D.up, fun k => ?_⟩
              by_cases e : y.1 = k
              · subst e
                rw [hnd, dget, get_cons, get_cons, if_pos rfl, if_pos exy]
                simp only [ev, if_true]
              · rw [D.at_]
                unfold dget
                have ex : ¬ x.1 = k := by rw [exy]; exact e
                rw [get_cons, get_cons]
                simp only [ex, e, if_false]
            · rename_i ev
              refine ⟨ups (mrg_mem n h2) hya Ub.head D.up, fun k => ?_⟩
              show get (V := VT × Bool) ((y.1, y.2, false) :: mrg a b) k = _
              rw [get_cons]
              by_cases e : y.1 = k
              · subst e
                rw [if_pos rfl, dget, get_cons, get_cons, if_pos rfl, if_pos exy]
                simp only [Option.some.injEq, ev, if_false]
              · rw [if_neg e, D.at_]
                unfold dget
                have ex : ¬ x.1 = k := by rw [exy]; exact e
                rw [get_cons, get_cons]
                simp only [ex, e, if_false]
theorem Diffs.uniq {a b : T VT} {d e : List Ch} (D : Diffs a b d) (E : Diffs a b e) : d = e := Tb.Up.ext D.up E.up fun k => by rw [D.at_, E.at_]
theorem mrg_len (n : Nat) : ∀ {a b : T VT}, a.length + b.length ≤ n → (mrg a b).length ≤ a.length + b.length := by
  induction n with
  | zero =>
    intro a b h
    have ha : a = [] := List.eq_nil_of_length_eq_zero (by omega)
    have hb : b = [] := List.eq_nil_of_length_eq_zero (by omega)
    subst ha hb
    rw [mrg]
    exact Nat.zero_le _
  | succ n ih =>
    intro a b h
    cases a with
    | nil =>
      cases b with
      | nil => rw [mrg]; exact Nat.zero_le _
      | cons y b =>
        rw [mrg]
        have := ih (a := []) (b := b) (by simp at h ⊢; omega)
        simp only [List.length_cons, List.length_nil] at this ⊢
        omega
    | cons x a =>
      cases b with
      | nil =>
        rw [mrg]
        have := ih (a := a) (b := []) (by simp at h ⊢; omega)
        simp only [List.length_cons, List.length_nil] at this ⊢
        omega
      | cons y b =>
        rw [mrg]
        simp only [List.length_cons] at h
        have h1 := ih (a := a) (b := y :: b) (by simp only [List.length_cons]; omega)
        have h2 := ih (a := x :: a) (b := b) (by simp only [List.length_cons]; omega)
        have h3 := ih (a := a) (b := b) (by omega)
        simp only [List.length_cons] at h1 h2
        split
        · simp only [List.length_cons]; omega
        · split
          · simp only [List.length_cons]; omega
          · rw [List.length_append]
            split
            · simp only [List.length_cons, List.length_nil]; omega
            · simp only [List.length_cons, List.length_nil]; omega
theorem Al_and {P : Prop} {h : Heap} {o : Obj} {K : Nat → Heap → Prop} (hp : P) (H : Al h o K) : Al h o fun b h => P ∧ K b h := ⟨hp, H⟩
section
variable {h : Heap} {F : List HProp} {pa pb : Option Addr} {n m ca cb : Nat} {a b : T VT}
theorem chPush {sa : Option Addr} {n c : Nat} {xs : List Ch} {x : Ch} {K : Heap → Option Addr → Nat → Nat → Prop} (hl : xs.length = n) (hb : n < 2199023255552) (H : sat (ownS 55 3 sa n c (xs.flatMap chC) :: F) h)
    (hK : ∀ a' c' h', sat (ownS 55 3 a' (n + 1) c' ((xs ++ [x]).flatMap chC) :: F) h' → K h' a' (n + 1) c') :
    Al h (.cells #[.string x.1, ve x.2.1, .bool x.2.2] 55) fun b1 h1 => RunH Try.prog (Builtin.append_ #[51, 51] 51 #[.slice sa n c, .slice (some (Addr.mk b1 0 none)) 1 1]) h1 fun r h2 => DSl r fun a' l' c' => K h2 a' l' c' := by
  refine pushEl (f := chC) (sz := 3) (by_ := 40) (x := x) (by kernel_rfl) (by kernel_rfl) (by kernel_rfl) (fun _ => rfl) (fun v hv => ?_) rfl hl (by omega) H hK
  simp only [List.mem_cons, List.not_mem_nil, or_false] at hv
  rcases hv with rfl | rfl | rfl <;> rfl
theorem F24_spec (hra : rdP F pa a) (hrb : rdP F pb b) (hna : a.length = n) (hnb : b.length = m) (hn : n < 1099511627776) (hm : m < 1099511627776) (H : sat F h) :
    CallsH Try.prog 24 [.slice pa n ca, .slice pb m cb] h fun v h' => ∃ sa k c, v = .slice sa k c ∧ (mrg a b).length = k ∧ sat (ownS 55 3 sa k c ((mrg a b).flatMap chC) :: F) h' := by
  apply F24_ok
  unfold F24
  refine ⟨fun st hh => ∃ (i k : Nat) (xs : List Ch), st = (⟨st.1.a, xs.length, st.1.c⟩, (i : Int), (k : Int)) ∧ i ≤ n ∧ k ≤ m ∧ xs.length ≤ i + k ∧ xs ++ mrg (a.drop i) (b.drop k) = mrg a b ∧ sat (ownS 55 3 st.1.a xs.length st.1.c (xs.flatMap chC) :: F) hh,
    fun st _ => ((n : Int) - st.2.1).toNat + ((m : Int) - st.2.2).toNat, ⟨0, 0, [], rfl, Nat.zero_le _, Nat.zero_le _, Nat.zero_le _, rfl, ownS_nil 55 3 H⟩, ?_⟩
  rintro ⟨⟨oa, ol, oc⟩, st1, st2⟩ h1 ⟨i, k, xs, est, hi, hk, hxl, hxs, H1⟩
  simp only [Prod.mk.injEq, Sl.mk.injEq] at est
  obtain ⟨⟨_, rfl, _⟩, rfl, rfl⟩ := est
  simp only [] at H1 ⊢
  have ga : ∀ {i : Nat}, i < n → ∃ p, a[i]? = some p ∧ a.drop i = p :: a.drop (i + 1) := fun {i} hlt => by
    obtain ⟨p, hp⟩ : ∃ p, a[i]? = some p := ⟨_, List.getElem?_eq_getElem (by omega)⟩
    exact ⟨p, hp, List.drop_eq_getElem?_toList_append .. |>.trans (by rw [hp]; rfl)⟩
  have gb : ∀ {i : Nat}, i < m → ∃ p, b[i]? = some p ∧ b.drop i = p :: b.drop (i + 1) := fun {i} hlt => by
    obtain ⟨p, hp⟩ : ∃ p, b[i]? = some p := ⟨_, List.getElem?_eq_getElem (by omega)⟩
    exact ⟨p, hp, List.drop_eq_getElem?_toList_append .. |>.trans (by rw [hp]; rfl)⟩
  have wi : i < n → IntKind.wrap .i64 ((i : Int) + 1) = ((i + 1 : Nat) : Int) := fun _ => wrap64_succ (by omega)
  have wk : k < m → IntKind.wrap .i64 ((k : Int) + 1) = ((k + 1 : Nat) : Int) := fun _ => wrap64_succ (by omega)
  have meG : i < n → ((n : Int) - ((i + 1 : Nat) : Int)).toNat + ((m : Int) - (k : Int)).toNat < ((n : Int) - (i : Int)).toNat + ((m : Int) - (k : Int)).toNat := fun _ => by omega
  have meP : k < m → ((n : Int) - (i : Int)).toNat + ((m : Int) - ((k + 1 : Nat) : Int)).toNat < ((n : Int) - (i : Int)).toNat + ((m : Int) - (k : Int)).toNat := fun _ => by omega
  have meB : i < n → k < m → ((n : Int) - ((i + 1 : Nat) : Int)).toNat + ((m : Int) - ((k + 1 : Nat) : Int)).toNat < ((n : Int) - (i : Int)).toNat + ((m : Int) - (k : Int)).toNat := fun _ _ => by omega
  by_cases hia : i < n
  · obtain ⟨p, hp, hda⟩ := ga hia
    rw [decide_eq_true (show ((i : Int) < (n : Int)) by omega), cond_true]
    by_cases hkb : k < m
    · obtain ⟨q, hq, hdb⟩ := gb hkb
      rw [hda, hdb, mrg] at hxs
      rw [decide_eq_false (show ¬ ((k : Int) ≥ (m : Int)) by omega), cond_false, cond_true]
      refine IdxC (f := pairC) (fun _ => rfl) (by decide) (hra h1 H1.drop) hna hp fun _ _ hc => CStr (hc 0 _ rfl) ?_
      refine IdxC (f := pairC) (fun _ => rfl) (by decide) (hrb h1 H1.drop) hnb hq fun _ _ hc => CStr (hc 0 _ rfl) ?_
      rw [AF.strLt_eq]
      cases h12 : ltB p.1 q.1 with
      | true =>
        rw [cond_true]
        rw [if_pos h12] at hxs
        refine IdxC (f := pairC) (fun _ => rfl) (by decide) (hra h1 H1.drop) hna hp fun _ _ hc => CStr (hc 0 _ rfl) ?_
        refine chPush (x := (p.1, vz, true)) rfl (by omega) H1 fun a' c' h' H2 => ?_
        rw [wi hia]
        refine ⟨⟨i + 1, k, xs ++ [(p.1, vz, true)], by rw [List.length_append]; rfl, by omega, hk, by rw [List.length_append]; show xs.length + 1 ≤ _; omega, ?_, by rw [List.length_append]; exact H2⟩, meG hia⟩
        rw [hdb, ← hxs, List.append_assoc]
        rfl
      | false =>
        rw [cond_false]
        rw [if_neg (by rw [h12]; decide)] at hxs
        rw [decide_eq_false (show ¬ ((i : Int) ≥ (n : Int)) by omega), cond_false]
        refine IdxC (f := pairC) (fun _ => rfl) (by decide) (hrb h1 H1.drop) hnb hq fun _ _ hc => CStr (hc 0 _ rfl) ?_
        refine IdxC (f := pairC) (fun _ => rfl) (by decide) (hra h1 H1.drop) hna hp fun _ _ hc => CStr (hc 0 _ rfl) ?_
        rw [AF.strLt_eq]
        cases h21 : ltB q.1 p.1 with
        | true =>
          rw [cond_true]
          rw [if_pos h21] at hxs
          refine IdxC (f := pairC) (fun _ => rfl) (by decide) (hrb h1 H1.drop) hnb hq fun _ _ hc => CStr (hc 0 _ rfl) ?_
          refine IdxC (f := pairC) (fun _ => rfl) (by decide) (hrb h1 H1.drop) hnb hq fun _ _ hc => CStr (hc 1 _ rfl) ?_
          refine Al_and rfl (chPush (x := (q.1, q.2, false)) rfl (by omega) H1 fun a' c' h' H2 => ?_)
          rw [wk hkb]
          refine ⟨⟨i, k + 1, xs ++ [(q.1, q.2, false)], by rw [List.length_append]; rfl, hi, by omega, by rw [List.length_append]; show xs.length + 1 ≤ _; omega, ?_, by rw [List.length_append]; exact H2⟩, meP hkb⟩
          rw [hda, ← hxs, List.append_assoc]
          rfl
        | false =>
          rw [cond_false]
          rw [if_neg (by rw [h21]; decide)] at hxs
          refine IdxC (f := pairC) (fun _ => rfl) (by decide) (hra h1 H1.drop) hna hp fun _ _ hc => CStr (hc 1 _ rfl) ?_
          refine IdxC (f := pairC) (fun _ => rfl) (by decide) (hrb h1 H1.drop) hnb hq fun _ _ hc => CStr (hc 1 _ rfl) ?_
          rw [strEq_dec]
          by_cases e : p.2 = q.2
          · rw [decide_eq_true e, Bool.not_true, cond_false, wi hia, wk hkb]
            rw [if_pos e, List.nil_append] at hxs
            exact ⟨⟨i + 1, k + 1, xs, rfl, by omega, by omega, by omega, hxs, H1⟩, meB hia hkb⟩
          · rw [decide_eq_false e, Bool.not_false, cond_true]
            rw [if_neg e] at hxs
            refine IdxC (f := pairC) (fun _ => rfl) (by decide) (hrb h1 H1.drop) hnb hq fun _ _ hc => CStr (hc 0 _ rfl) ?_
            refine IdxC (f := pairC) (fun _ => rfl) (by decide) (hrb h1 H1.drop) hnb hq fun _ _ hc => CStr (hc 1 _ rfl) ?_
            refine Al_and rfl (chPush (x := (q.1, q.2, false)) rfl (by omega) H1 fun a' c' h' H2 => ?_)
            rw [wi hia, wk hkb]
            refine ⟨⟨i + 1, k + 1, xs ++ [(q.1, q.2, false)], by rw [List.length_append]; rfl, by omega, by omega, by rw [List.length_append]; show xs.length + 1 ≤ _; omega, ?_, by rw [List.length_append]; exact H2⟩, meB hia hkb⟩
            rw [← hxs, List.append_assoc]
    · have hdb : b.drop k = [] := List.drop_of_length_le (by omega)
      rw [hda, hdb, mrg] at hxs
      rw [decide_eq_true (show ((k : Int) ≥ (m : Int)) by omega), cond_true]
      refine IdxC (f := pairC) (fun _ => rfl) (by decide) (hra h1 H1.drop) hna hp fun _ _ hc => CStr (hc 0 _ rfl) ?_
      refine chPush (x := (p.1, vz, true)) rfl (by omega) H1 fun a' c' h' H2 => ?_
      rw [wi hia]
      refine ⟨⟨i + 1, k, xs ++ [(p.1, vz, true)], by rw [List.length_append]; rfl, by omega, hk, by rw [List.length_append]; show xs.length + 1 ≤ _; omega, ?_, by rw [List.length_append]; exact H2⟩, meG hia⟩
      rw [hdb, ← hxs, List.append_assoc]
      rfl
  · have hda : a.drop i = [] := List.drop_of_length_le (by omega)
    rw [decide_eq_false (show ¬ ((i : Int) < (n : Int)) by omega), cond_false]
    by_cases hkb : k < m
    · obtain ⟨q, hq, hdb⟩ := gb hkb
      rw [hda, hdb, mrg] at hxs
      rw [decide_eq_true (show ((k : Int) < (m : Int)) by omega), cond_true, decide_eq_false (show ¬ ((k : Int) ≥ (m : Int)) by omega), cond_false, cond_false, decide_eq_true (show ((i : Int) ≥ (n : Int)) by omega), cond_true]
      refine IdxC (f := pairC) (fun _ => rfl) (by decide) (hrb h1 H1.drop) hnb hq fun _ _ hc => CStr (hc 0 _ rfl) ?_
      refine IdxC (f := pairC) (fun _ => rfl) (by decide) (hrb h1 H1.drop) hnb hq fun _ _ hc => CStr (hc 1 _ rfl) ?_
      refine Al_and rfl (chPush (x := (q.1, q.2, false)) rfl (by omega) H1 fun a' c' h' H2 => ?_)
      rw [wk hkb]
      refine ⟨⟨i, k + 1, xs ++ [(q.1, q.2, false)], by rw [List.length_append]; rfl, hi, by omega, by rw [List.length_append]; show xs.length + 1 ≤ _; omega, ?_, by rw [List.length_append]; exact H2⟩, meP hkb⟩
      rw [hda, ← hxs, List.append_assoc]
      rfl
    · have hdb : b.drop k = [] := List.drop_of_length_le (by omega)
      rw [hda, hdb, mrg, List.append_nil] at hxs
      rw [decide_eq_false (show ¬ ((k : Int) < (m : Int)) by omega), cond_false]
      exact ⟨oa, xs.length, oc, rfl, by rw [hxs], by rw [← hxs]; exact H1⟩
end

end Go.Proofs.Ytfpdejkcjijmmaa.TS
