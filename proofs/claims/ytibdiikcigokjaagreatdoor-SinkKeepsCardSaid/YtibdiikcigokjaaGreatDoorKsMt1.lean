/- What stays and is read; tables by numbers over owned maps. -/
import Derived.Test.YtibdiikcigokjaaGreatDoorKsFwB
namespace Go.Proofs.YtibdiikcigokjaaGreatDoor
open Go Go.RowKit Go.MapKept
set_option linter.unusedVariables false
set_option linter.unusedSimpArgs false
def roP (R : Heap → Prop) : HProp := fun r => (∀ b x, r b = some x → x.2 = true) ∧ ∀ h, sub r h → R h
theorem roP_pers (R : Heap → Prop) : Pers (roP R) := fun r h => h.1
section
variable {F : List HProp} {h : Heap} {R S : Heap → Prop}
theorem sub_right {r s : PHeap} (hd : disj r s) (H : sub (union r s) h) : sub s h := fun b x hx => H b x (union_right hd hx)
theorem roP_get (H : sat (roP R :: F) h) : R h := by
 obtain ⟨r, ⟨r1, r2, hd, rfl, ⟨_, ho⟩, h2⟩, hs⟩ := H
 exact ho h (sub_left hs)
theorem roP_and (H : sat (roP R :: roP S :: F) h) : sat (roP (fun h => R h ∧ S h) :: F) h := by
 obtain ⟨r, hr, hs⟩ := H
 refine ⟨r, sep_mono ?_ (fun _ h => h) (sep_assoc' hr), hs⟩
 rintro q ⟨r1, r2, hd, rfl, ⟨p1, o1⟩, ⟨p2, o2⟩⟩
 refine ⟨fun b x hx => ?_, fun h hs => ⟨o1 h (sub_left hs), o2 h (sub_right hd hs)⟩⟩
 unfold union at hx
 cases h : r1 b with
 | some y => rw [h] at hx; cases hx; exact p1 b _ h
 | none => rw [h] at hx; exact p2 b x hx
theorem roP_mono (hi : ∀ h, R h → S h) (H : sat (roP R :: F) h) : sat (roP S :: F) h := H.imp fun r hr => ⟨hr.1, fun h hs => hi h (hr.2 h hs)⟩
theorem roP_true (H : sat F h) : sat (roP (fun _ => True) :: F) h := by
 obtain ⟨r, hr, hs⟩ := H
 obtain ⟨r1, r2, hd, e1, h1, h2⟩ := emp_sep hr
 exact ⟨r, ⟨r1, r2, hd, e1, ⟨fun b x hx => (by rw [h1 b] at hx; cases hx), fun h hs => trivial⟩, h2⟩, hs⟩
theorem roP_own {e sz : Nat} {a : Option Addr} {l c : Nat} {xs : List Value} (H : sat (ownS e sz a l c xs :: F) h) : sat (roP (fun h => RdC h a xs) :: F) h := roS_of H
theorem roP_dup (H : sat (roP R :: F) h) : sat (roP R :: roP R :: F) h := H.dup (roP_pers R)
end
def Bs (xs : List Nat) (v : Value) (h : Heap) : Prop := ∃ (a : Option Addr) (c : Nat), v = .slice a xs.length c ∧ RdC h a (xs.map nv)
section
variable {α : Type}
def getT (T : List (Int × α)) (k : Int) : Option α := (T.find? fun p => decide (p.1 = k)).map (·.2)
def setT (k : Int) (x : α) : List (Int × α) → List (Int × α)
 | [] => [(k, x)]
 | p :: T => if p.1 = k then (k, x) :: T else if k < p.1 then (k, x) :: p :: T else p :: setT k x T
def delT (k : Int) (T : List (Int × α)) : List (Int × α) := T.filter fun p => !decide (p.1 = k)
def UpT (T : List (Int × α)) : Prop := T.Pairwise fun p q => p.1 < q.1
theorem UpT.nodup {T : List (Int × α)} (h : UpT T) : (T.map (·.1)).Nodup := by
 rw [List.Nodup, List.pairwise_map]
 exact h.imp fun h e => by omega
theorem getT_cons (p : Int × α) (l : List (Int × α)) (j : Int) : getT (p :: l) j = if p.1 = j then some p.2 else getT l j := by
 unfold getT
 rw [List.find?_cons]
 by_cases h : p.1 = j <;> simp [h]
theorem getT_none {T : List (Int × α)} {k : Int} : getT T k = none ↔ ∀ p ∈ T, p.1 ≠ k := by
 unfold getT
 simp [List.find?_eq_none]
theorem getT_mem {T : List (Int × α)} {k : Int} {x : α} (h : getT T k = some x) : (k, x) ∈ T := by
 unfold getT at h
 cases hf : T.find? (fun p => decide (p.1 = k)) with
 | none => rw [hf] at h; cases h
 | some p =>
   rw [hf] at h;have h1 := List.mem_of_find?_eq_some hf;have h2 := List.find?_some hf;simp at h h2;rw [← h, ← h2];exact h1
theorem mem_getT {T : List (Int × α)} (hu : UpT T) {k : Int} {x : α} (h : (k, x) ∈ T) : getT T k = some x := by
 induction T with
 | nil => cases h
 | cons p T ih =>
   have hu2 := List.pairwise_cons.1 hu;rw [getT_cons]
   rcases List.mem_cons.1 h with rfl | h
   · rw [if_pos rfl]
   · have : p.1 ≠ k := fun e => by have := hu2.1 _ h; simp only at this; omega
     rw [if_neg this, ih hu2.2 h]
theorem getT_set_self (k : Int) (x : α) : ∀ T : List (Int × α), getT (setT k x T) k = some x
 | [] => by simp [setT, getT_cons]
 | p :: l => by
   unfold setT;split
   · simp [getT_cons]
   · split
     · simp [getT_cons]
     · rename_i h _;rw [getT_cons, if_neg h, getT_set_self k x l]
theorem getT_set_ne {k j : Int} (x : α) (h : k ≠ j) : ∀ T : List (Int × α), getT (setT k x T) j = getT T j
 | [] => by simp [setT, getT_cons, h]
 | p :: l => by
   unfold setT;split
   · rename_i e;rw [getT_cons, getT_cons, if_neg h, if_neg (by rw [e]; exact h)]
   · split
     · rw [getT_cons, if_neg h]
     · rw [getT_cons, getT_cons, getT_set_ne x h l]
theorem setT_up {k : Int} {x : α} : ∀ {T : List (Int × α)}, UpT T → UpT (setT k x T)
 | [], _ => List.pairwise_singleton ..
 | p :: l, h => by
   have h2 := List.pairwise_cons.1 h;unfold setT;split
   · rename_i e;exact List.pairwise_cons.2 ⟨fun q hq => by have := h2.1 q hq; simp only; omega, h2.2⟩
   · rename_i e;split
     · rename_i hl;refine List.pairwise_cons.2 ⟨fun q hq => ?_, h⟩
       rcases List.mem_cons.1 hq with rfl | hq
       · exact hl
       · have := h2.1 q hq;simp only;omega
     · rename_i hl;refine List.pairwise_cons.2 ⟨fun q hq => ?_, setT_up h2.2⟩;have hm : q = (k, x) ∨ q ∈ l := by
        clear h h2 e hl
        induction l with
        | nil => simp [setT] at hq; exact .inl hq
        | cons r l ih =>
          unfold setT at hq;split at hq
          · rcases List.mem_cons.1 hq with h | h
            · exact .inl h
            · exact .inr (List.mem_cons_of_mem _ h)
          · split at hq
            · rcases List.mem_cons.1 hq with h | h
              · exact .inl h
              · exact .inr h
            · rcases List.mem_cons.1 hq with h | h
              · exact .inr (by rw [h]; exact List.mem_cons_self ..)
              · rcases ih h with h | h
                · exact .inl h
                · exact .inr (List.mem_cons_of_mem _ h)
       rcases hm with rfl | hq
       · simp only;omega
       · exact h2.1 q hq
theorem mem_setT {k : Int} {x : α} {T : List (Int × α)} (hu : UpT T) {p : Int × α} : p ∈ setT k x T ↔ p = (k, x) ∨ (p.1 ≠ k ∧ p ∈ T) := by
 obtain ⟨j, y⟩ := p
 by_cases h : j = k
 · subst h;constructor
   · intro hm;have h1 := mem_getT (setT_up hu) hm;rw [getT_set_self] at h1;cases h1;exact .inl rfl
   · rintro (h | ⟨h, _⟩)
     · rw [h]; exact getT_mem (getT_set_self _ _ _)
     · exact absurd rfl h
 · constructor
   · intro hm;have h1 := mem_getT (setT_up hu) hm;rw [getT_set_ne _ (Ne.symm h)] at h1;exact .inr ⟨h, getT_mem h1⟩
   · rintro (h1 | ⟨_, h1⟩)
     · cases h1; exact absurd rfl h
     · refine getT_mem ?_;rw [getT_set_ne _ (Ne.symm h)];exact mem_getT hu h1
theorem delT_up {k : Int} {T : List (Int × α)} (h : UpT T) : UpT (delT k T) := List.Pairwise.filter _ h
theorem tab_ext : ∀ {T U : List (Int × α)}, UpT T → UpT U → (∀ p, p ∈ T ↔ p ∈ U) → T = U
 | [], [], _, _, _ => rfl
 | [], q :: U, _, _, h => by have := (h q).2 (List.mem_cons_self ..); cases this
 | p :: T, [], _, _, h => by have := (h p).1 (List.mem_cons_self ..); cases this
 | p :: T, q :: U, hT, hU, h => by
   have t2 := List.pairwise_cons.1 hT;have u2 := List.pairwise_cons.1 hU;have hp := (h p).1 (List.mem_cons_self ..);have hq := (h q).2 (List.mem_cons_self ..);have e : p = q := by
    rcases List.mem_cons.1 hp with e | hp
    · exact e
    · rcases List.mem_cons.1 hq with e | hq
      · exact e.symm
      · have := t2.1 q hq;have := u2.1 p hp;omega
   subst e;congr 1;refine tab_ext t2.2 u2.2 fun r => ⟨fun hr => ?_, fun hr => ?_⟩
   · rcases List.mem_cons.1 ((h r).1 (List.mem_cons_of_mem _ hr)) with e | h1
     · have := t2.1 r hr; rw [e] at this; omega
     · exact h1
   · rcases List.mem_cons.1 ((h r).2 (List.mem_cons_of_mem _ hr)) with e | h1
     · have := u2.1 r hr; rw [e] at this; omega
     · exact h1
structure TabIs (R : α → Value → Heap → Prop) (m : List (Int × Value)) (T : List (Int × α)) (h : Heap) : Prop where
 up : UpT T
 keys : ∀ k, k ∈ m.map (·.1) ↔ k ∈ T.map (·.1)
 vals : ∀ k v, (k, v) ∈ m → ∃ x, (k, x) ∈ T ∧ R x v h
def tabM (R : α → Value → Heap → Prop) (b : Nat) (T : List (Int × α)) : HProp := exi fun m : List (Int × Value) => Many [ownM (intKeys .i64) b m, roP (TabIs R m T)]
variable {R : α → Value → Heap → Prop} {b : Nat} {T : List (Int × α)} {F : List HProp} {h : Heap}
theorem tabM_open (H : sat (tabM R b T :: F) h) : ∃ m, sat (ownM (intKeys .i64) b m :: roP (TabIs R m T) :: F) h := by
 obtain ⟨m, H2⟩ := sat_exi.1 H
 exact ⟨m, H2.open⟩
theorem tabM_shut {m : List (Int × Value)} (H : sat (ownM (intKeys .i64) b m :: roP (TabIs R m T) :: F) h) : sat (tabM R b T :: F) h :=
 sat_exi.2 ⟨m, sat.shut (m := [_, _]) H⟩
theorem lkM_in {κ : Type} [DecidableEq κ] {m : List (κ × Value)} {k : κ} {v : Value} (h : lkM m k = some v) : (k, v) ∈ m := by
 unfold lkM at h
 cases hf : m.find? (fun p => decide (p.1 = k)) with
 | none => rw [hf] at h; cases h
 | some p =>
   rw [hf] at h;have h1 := List.mem_of_find?_eq_some hf;have h2 := List.find?_some hf;simp at h h2;rw [← h, ← h2];exact h1
theorem lkM_no {κ : Type} [DecidableEq κ] {m : List (κ × Value)} {k : κ} (h : lkM m k = none) : k ∉ m.map (·.1) := by
 unfold lkM at h
 rw [Option.map_eq_none_iff, List.find?_eq_none] at h
 intro hm
 obtain ⟨p, hp, e⟩ := List.mem_map.1 hm
 have := h p hp
 simp [e] at this
theorem TabIs.look {m : List (Int × Value)} (I : TabIs R m T h) (k : Int) : (lkM m k = none ∧ getT T k = none) ∨ ∃ v x, lkM m k = some v ∧ getT T k = some x ∧ R x v h := by
 cases hl : lkM m k with
 | none =>
   refine .inl ⟨rfl, ?_⟩;rw [getT_none];intro p hp e;exact lkM_no hl ((I.keys k).2 (List.mem_map.2 ⟨p, hp, e⟩))
 | some v =>
   obtain ⟨x, hx, hr⟩ := I.vals k v (lkM_in hl);exact .inr ⟨v, x, rfl, mem_getT I.up hx, hr⟩
theorem updM_in {κ : Type} [DecidableEq κ] {m : List (κ × Value)} {k : κ} {v : Value} {p : κ × Value} : p ∈ updM m k v ↔ p = (k, v) ∨ (p.1 ≠ k ∧ p ∈ m) := by
 unfold updM
 split
 · rename_i ha;rw [List.mem_map];constructor
   · rintro ⟨q, hq, rfl⟩;by_cases e : q.1 = k
     · rw [if_pos e]; exact .inl rfl
     · rw [if_neg e]; exact .inr ⟨e, hq⟩
   · rintro (rfl | ⟨hne, hp⟩)
     · rw [List.any_eq_true] at ha;obtain ⟨q, hq, e⟩ := ha;exact ⟨q, hq, if_pos (by simpa using e)⟩
     · exact ⟨p, hp, if_neg hne⟩
 · rename_i ha;rw [List.mem_append, List.mem_singleton];constructor
   · rintro (hp | rfl)
     · refine .inr ⟨fun e => ha ?_, hp⟩;rw [List.any_eq_true];exact ⟨p, hp, by simpa using e⟩
     · exact .inl rfl
   · rintro (rfl | ⟨_, hp⟩)
     · exact .inr rfl
     · exact .inl hp
theorem TabIs.set {m : List (Int × Value)} (I : TabIs R m T h) {k : Int} {v : Value} {x : α} (hr : R x v h) : TabIs R (updM m k v) (setT k x T) h := by
 refine ⟨setT_up I.up, fun j => ?_, fun j u hu => ?_⟩
 · by_cases e : j = k
   · subst e;constructor
     · intro _; exact List.mem_map.2 ⟨_, (mem_setT I.up).2 (.inl rfl), rfl⟩
     · intro _; exact List.mem_map.2 ⟨_, updM_in.2 (.inl rfl), rfl⟩
   · constructor
     · intro hj;obtain ⟨p, hp, rfl⟩ := List.mem_map.1 hj
       rcases updM_in.1 hp with rfl | ⟨_, hp⟩
       · exact absurd rfl e
       · obtain ⟨q, hq, e2⟩ := List.mem_map.1 ((I.keys p.1).1 (List.mem_map.2 ⟨p, hp, rfl⟩));exact List.mem_map.2 ⟨q, (mem_setT I.up).2 (.inr ⟨by rw [e2]; exact e, hq⟩), e2⟩
     · intro hj;obtain ⟨p, hp, rfl⟩ := List.mem_map.1 hj
       rcases (mem_setT I.up).1 hp with rfl | ⟨_, hp⟩
       · exact absurd rfl e
       · obtain ⟨q, hq, e2⟩ := List.mem_map.1 ((I.keys p.1).2 (List.mem_map.2 ⟨p, hp, rfl⟩));exact List.mem_map.2 ⟨q, updM_in.2 (.inr ⟨by rw [e2]; exact e, hq⟩), e2⟩
 · rcases updM_in.1 hu with h1 | ⟨h1, h2⟩
   · cases h1;exact ⟨x, (mem_setT I.up).2 (.inl rfl), hr⟩
   · obtain ⟨y, hy, hr2⟩ := I.vals j u h2;exact ⟨y, (mem_setT I.up).2 (.inr ⟨h1, hy⟩), hr2⟩
theorem TabIs.del {m : List (Int × Value)} (I : TabIs R m T h) (k : Int) : TabIs R (delM m k) (delT k T) h := by
 refine ⟨delT_up I.up, fun j => ?_, fun j u hu => ?_⟩
 · constructor
   · intro hj;obtain ⟨p, hp, rfl⟩ := List.mem_map.1 hj;have hp2 := List.mem_filter.1 hp;obtain ⟨q, hq, e2⟩ := List.mem_map.1 ((I.keys p.1).1 (List.mem_map.2 ⟨p, hp2.1, rfl⟩));exact List.mem_map.2 ⟨q, List.mem_filter.2 ⟨hq, by rw [e2]; exact hp2.2⟩, e2⟩
   · intro hj;obtain ⟨p, hp, rfl⟩ := List.mem_map.1 hj;have hp2 := List.mem_filter.1 hp;obtain ⟨q, hq, e2⟩ := List.mem_map.1 ((I.keys p.1).2 (List.mem_map.2 ⟨p, hp2.1, rfl⟩));exact List.mem_map.2 ⟨q, List.mem_filter.2 ⟨hq, by rw [e2]; exact hp2.2⟩, e2⟩
 · have hu2 := List.mem_filter.1 hu;obtain ⟨y, hy, hr2⟩ := I.vals j u hu2.1;exact ⟨y, List.mem_filter.2 ⟨hy, hu2.2⟩, hr2⟩
theorem TabIs.nil : TabIs R [] [] h := ⟨List.Pairwise.nil, fun k => Iff.rfl, fun k v hv => by cases hv⟩
theorem tabM_new (H : sat (pt b (.map #[] 0) :: F) h) : sat (tabM R b [] :: F) h :=
 tabM_shut ((roP_mono (fun _ _ => TabIs.nil) (roP_true ((ownM_new (intKeys .i64) H)))).mv 1)
theorem ownM_nodup {κ : Type} {E : Keys κ} {m : List (κ × Value)} (H : sat (ownM E b m :: F) h) : (m.map (·.1)).Nodup := by
 obtain ⟨es, clock, hm, _⟩ := ownM_open H
 exact hm.nodup
theorem tabM_up (H : sat (tabM R b T :: F) h) : UpT T := by
 obtain ⟨m, H2⟩ := tabM_open H
 exact (roP_get (H2.mv 1)).up
theorem TabIs.perm {m : List (Int × Value)} (I : TabIs R m T h) (hn : (m.map (·.1)).Nodup) : (m.map (·.1)).Perm (T.map (·.1)) :=
 (List.perm_ext_iff_of_nodup hn I.up.nodup).2 I.keys
theorem TabIs.length {m : List (Int × Value)} (I : TabIs R m T h) (hn : (m.map (·.1)).Nodup) : m.length = T.length := by
 have := (I.perm hn).length_eq
 simpa using this
theorem tab_set {P : Program} {ty kt et : TypeId} {k : Int} {v : Value} {x : α} {K : Heap → Prop} (hT : P.underlying ty = some (.map kt et)) (hd : P.underlying kt = some (.int .i64)) (H : sat (tabM R b T :: roP (R x v) :: F) h)
  (hK : ∀ h', sat (tabM R b (setT k x T) :: F) h' → K h') : RunU P (Instr.mapUpdate ty (.map (some b)) (.int .i64 k) v) h K := by
 obtain ⟨m, H2⟩ := tabM_open H
 refine mapUpdate_sat (E := intKeys .i64) (k := k) hT hd H2 fun h' H3 => hK h' (tabM_shut (m := updM m k v) ?_)
 exact (roP_mono (fun _ hh => hh.1.set hh.2) (roP_and (H3.ordT 3 [1, 2, 0]))).mv 1
end
end Go.Proofs.YtibdiikcigokjaaGreatDoor
