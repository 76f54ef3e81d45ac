/- A log in a file system that is on and has no fuse: put, fold and opening anew (plain). -/
import Derived.Test.YtibdiikcigokjaaGreatDoorKsMt0
import Derived.Test.YtibdiikcigokjaaGreatDoorKsMaX
import Derived.Test.YtibdiikcigokjaaGreatDoorKsPlA
namespace Go.Proofs.YtibdiikcigokjaaGreatDoor
open Go Go.RowKit
set_option linter.unusedVariables false
set_option linter.unusedSimpArgs false
section
variable {α : Type}
theorem getT_filter (p : Int → Bool) : ∀ (T : List (Int × α)) (k : Int), getT (T.filter fun q => p q.1) k = if p k = true then getT T k else none
 | [], k => by simp [getT]
 | q :: T, k => by
   have ih := getT_filter p T k;rw [List.filter_cons, getT_cons];by_cases h : p q.1 = true
   · rw [if_pos h, getT_cons, ih];by_cases e : q.1 = k
     · rw [if_pos e, if_pos (by rw [← e]; exact h), if_pos e]
     · rw [if_neg e, if_neg e]
   · rw [if_neg h, ih];by_cases e : q.1 = k
     · rw [if_neg (by rw [← e]; exact h), if_neg (by rw [← e]; exact h)]
     · rw [if_neg e]
theorem tab_ext2 {T U : List (Int × α)} (hT : UpT T) (hU : UpT U) (h : ∀ k, getT T k = getT U k) : T = U :=
 tab_ext hT hU fun p => ⟨fun hp => getT_mem (by rw [← h]; exact mem_getT hT hp), fun hp => getT_mem (by rw [h]; exact mem_getT hU hp)⟩
theorem filter_up {p : Int × α → Bool} {T : List (Int × α)} (h : UpT T) : UpT (T.filter p) := List.Pairwise.filter _ h
end
namespace AF
section
variable {α : Type}
theorem copyT_up {T D : List (Int × α)} (h : UpT T) : UpT (copyT T D) := by
 unfold copyT
 induction D generalizing T with
 | nil => exact h
 | cons p D ih => exact ih (setT_up h)
theorem getT_copy {D : List (Int × α)} (hD : UpT D) : ∀ (T : List (Int × α)) (k : Int), getT (copyT T D) k = match getT D k with
  | some x => some x
  | none => getT T k := by
 induction D with
 | nil => intro T k; rfl
 | cons p D ih =>
   intro T k;have h2 := List.pairwise_cons.1 hD;show getT (copyT (setT p.1 p.2 T) D) k = _;rw [ih h2.2, getT_cons];by_cases e : p.1 = k
   · rw [if_pos e];have : getT D k = none := getT_none.2 fun q hq e2 => by have := h2.1 q hq; omega
     rw [this];simp only [];rw [← e, getT_set_self]
   · rw [if_neg e]
     cases getT D k with
     | some x => rfl
     | none => exact getT_set_ne _ e T
theorem foldl_max (l : List Int) : ∀ a : Int, a ≤ l.foldl max a ∧ (∀ x ∈ l, x ≤ l.foldl max a) ∧ (l.foldl max a = a ∨ l.foldl max a ∈ l) := by
 induction l with
 | nil => intro a; simp
 | cons y l ih =>
   intro a;obtain ⟨h1, h2, h3⟩ := ih (max a y);rw [List.foldl_cons];refine ⟨by omega, fun x hx => ?_, ?_⟩
   · rcases List.mem_cons.1 hx with rfl | hx
     · omega
     · exact h2 x hx
   · rcases h3 with h3 | h3
     · rw [h3];by_cases h : a ≤ y
       · right; rw [show max a y = y by omega]; exact List.mem_cons_self ..
       · left; omega
     · exact .inr (List.mem_cons_of_mem _ h3)
theorem le_top {T : List (Int × α)} {p : Int × α} (h : p ∈ T) : p.1 ≤ topT T := (foldl_max _ _).2.1 _ (List.mem_map.2 ⟨p, h, rfl⟩)
theorem top_mem {T : List (Int × α)} (h : -1 < topT T) : ∃ p ∈ T, p.1 = topT T := by
 rcases (foldl_max (T.map (·.1)) (-1)).2.2 with h2 | h2
 · exact absurd (show topT T = -1 from h2) (by omega)
 · obtain ⟨p, hp, e⟩ := List.mem_map.1 h2;exact ⟨p, hp, e⟩
end
theorem mem_setN_iff {k : ByteArray} {x : List Nat} {T : Dirc} (hu : UpN T) {p : ByteArray × List Nat} (hu2 : UpN (setN k x T)) : p ∈ setN k x T ↔ p = (k, x) ∨ (p.1 ≠ k ∧ p ∈ T) := by
 obtain ⟨j, y⟩ := p
 by_cases h : j = k
 · subst h;constructor
   · intro hm;have h1 := mem_getN hu2 hm;rw [getN_set_self] at h1;cases h1;exact .inl rfl
   · rintro (h | ⟨h, _⟩)
     · rw [h]; exact getN_mem (getN_set_self _ _ _)
     · exact absurd rfl h
 · constructor
   · intro hm;have h1 := mem_getN hu2 hm;rw [getN_set_ne _ (Ne.symm h)] at h1;exact .inr ⟨h, getN_mem h1⟩
   · rintro (h1 | ⟨_, h1⟩)
     · cases h1; exact absurd rfl h
     · refine getN_mem ?_;rw [getN_set_ne _ (Ne.symm h)];exact mem_getN hu h1
theorem natOf_id {n : Int} (h0 : 0 ≤ n) (h : n ≤ 1099511627776) : natOf n = n.toNat := by
 have : n = (n.toNat : Int) := by omega
 rw [this, natOf_nat (by omega)]
 omega
def IdOk (n : Int) : Prop := 0 ≤ n ∧ n ≤ 1099511627776
theorem nmI_inj {c d : Nat} {m n : Int} (hc : c < 256) (hd : d < 256) (hm : IdOk m) (hn : IdOk n) (h : nmI c m = nmI d n) : c = d ∧ m = n := by
 unfold nmI at h
 rw [natOf_id hm.1 hm.2, natOf_id hn.1 hn.2] at h
 have := Fnm.nm_inj hc hd (by have := hm.2; omega) (by have := hn.2; omega) h
 have h1 := hm.1; have h2 := hn.1
 exact ⟨this.1, by omega⟩
open Frame (packN)
open Fnm (nm)
structure MInv (A : FS) (M : Meta) (T : Dirc) : Prop where
 live : Live A
 has : Has A M.dir T
 upS : UpT M.S
 upD : UpT M.D
 okS : ∀ p ∈ M.S, IdOk p.1 ∧ B8 p.2 ∧ p.2.length ≤ 5000
 okD : ∀ p ∈ M.D, IdOk p.1 ∧ B8 p.2 ∧ p.2.length ≤ 5000
 lenD : (pairsE M.D).length ≤ 16777208
 fold : (M.Fo = [] ∧ M.D = []) ∨ (-1 < topT M.D ∧ M.Fo = [(topT M.D, ())])
 files : ∀ k x, (k, x) ∈ T ↔ (∃ p ∈ M.S, k = nmI 98 p.1 ∧ x = packN p.2) ∨ (∃ p ∈ M.Fo, k = nmI 102 p.1 ∧ x = packN (pairsE M.D))
section
variable {A : FS} {M : Meta} {T : Dirc}
theorem MInv.names (I : MInv A M T) {p : ByteArray × List Nat} (hp : p ∈ T) : ∃ c n, p.1 = nm c n ∧ c < 256 := by
 rcases (I.files p.1 p.2).1 hp with ⟨q, _, e, _⟩ | ⟨q, _, e, _⟩
 · exact ⟨98, _, e, by decide⟩
 · exact ⟨102, _, e, by decide⟩
theorem nodup_len {β : Type} [DecidableEq β] : ∀ {l m : List β}, l.Nodup → (∀ x ∈ l, x ∈ m) → l.length ≤ m.length
 | [], _, _, _ => Nat.zero_le _
 | a :: l, m, hn, hs => by
   have hn2 := List.nodup_cons.1 hn;have ha := hs a (List.mem_cons_self ..);have := nodup_len (l := l) (m := m.erase a) hn2.2 fun x hx => (List.mem_erase_of_ne fun e => hn2.1 (by rw [← e]; exact hx)).2 (hs x (List.mem_cons_of_mem _ hx));rw [List.length_erase_of_mem ha] at this;have : 0 < m.length := List.length_pos_of_mem ha;rw [List.length_cons];omega
theorem UpN.nodup {T : Dirc} (h : UpN T) : (T.map (·.1)).Nodup := by
 rw [List.Nodup, List.pairwise_map]
 refine List.Pairwise.imp ?_ h
 intro a b hab e
 rw [← e] at hab
 exact strLt_irrefl a.1 hab
theorem MInv.few (I : MInv A M T) : T.length ≤ M.S.length + M.Fo.length := by
 have h := nodup_len (has_up I.live I.has).nodup (m := M.S.map (fun p => nmI 98 p.1) ++ M.Fo.map fun p => nmI 102 p.1) fun k hk => by
  obtain ⟨p, hp, rfl⟩ := List.mem_map.1 hk
  rcases (I.files p.1 p.2).1 hp with ⟨q, hq, e, _⟩ | ⟨q, hq, e, _⟩
  · exact List.mem_append.2 (.inl (List.mem_map.2 ⟨q, hq, e.symm⟩))
  · exact List.mem_append.2 (.inr (List.mem_map.2 ⟨q, hq, e.symm⟩))
 simpa using h
theorem MInv.noTmp (I : MInv A M T) (name : ByteArray) : getN T (tmpN ++ name) = none := by
 rw [getN_none]
 intro p hp e
 obtain ⟨c, n, e2, hc⟩ := I.names hp
 exact Fnm.nm_tmpne c n name hc (by rw [← e, e2])
theorem MInv.upE (I : MInv A M T) : UpT M.entries := copyT_up I.upS
theorem MInv.getE (I : MInv A M T) (k : Int) : getT M.entries k = M.get k := by
 unfold Meta.entries Meta.get
 rw [getT_copy I.upD]
 cases getT M.D k <;> rfl
theorem MInv.okE (I : MInv A M T) : ∀ p ∈ M.entries, IdOk p.1 ∧ B8 p.2 ∧ p.2.length ≤ 5000 := by
 rintro ⟨k, x⟩ hp
 have h := mem_getT I.upE hp
 rw [I.getE] at h
 unfold Meta.get at h
 cases hd : getT M.D k with
 | some b => rw [hd] at h; cases h; exact I.okD _ (getT_mem hd)
 | none => rw [hd] at h; exact I.okS _ (getT_mem h)
theorem setT_length {α : Type} (k : Int) (x : α) : ∀ T : List (Int × α), (setT k x T).length ≤ T.length + 1 ∧ T.length ≤ (setT k x T).length
 | [] => by simp [setT]
 | p :: l => by
   have := setT_length k x l;unfold setT;split
   · simp
   · split
     · simp
     · simp; omega
theorem MInv.put (I : MInv A M T) {id : Int} {b : List Nat} (hid : IdOk id) (hg : M.get id = none) (h8 : B8 b) (hb : b.length ≤ 5000) (hu : A.used + (8 + b.length) ≤ A.room) (hf : M.S.length < 4000) :
  ∃ A' T', M.put A id b = (A', { M with S := setT id b M.S }, 0) ∧ MInv A' { M with S := setT id b M.S } T' ∧ Upd 0 (8 + b.length) 5 A A' M.dir T' := by
 have hfo : M.Fo.length ≤ 1 := by rcases I.fold with ⟨e, _⟩ | ⟨_, e⟩ <;> rw [e] <;> simp
 obtain ⟨e, u⟩ := put_ok (name := nmI 98 id) (x := b) I.live I.has (Fnm.nm_right (by decide) (by decide) _) (by unfold nmI; rw [Fnm.nm_size]; decide) (I.noTmp _) (by have := I.few; omega) h8 (by omega) hu
 have hgS : getT M.S id = none := by
  unfold Meta.get at hg
  cases hd : getT M.D id with
  | some b => rw [hd] at hg; cases hg
  | none => rw [hd] at hg; exact hg
 refine ⟨_, _, ?_, ?_, u⟩
 · unfold Meta.put;rw [if_neg (by have := hid.1; have := hid.2; omega), hg];simp only [];rw [if_pos e]
 · have hup := has_up I.live I.has;have hup2 := has_up u.live u.here;refine ⟨u.live, u.here, setT_up I.upS, I.upD, ?_, I.okD, I.lenD, I.fold, ?_⟩
   · intro p hp
     rcases (mem_setT I.upS).1 hp with rfl | ⟨_, hp⟩
     · exact ⟨hid, h8, hb⟩
     · exact I.okS p hp
   · intro k x;show _ ↔ _;rw [mem_setN_iff hup hup2];constructor
     · rintro (h | ⟨hne, hm⟩)
       · cases h;exact .inl ⟨(id, b), (mem_setT I.upS).2 (.inl rfl), rfl, rfl⟩
       · rcases (I.files k x).1 hm with ⟨p, hp, e1, e2⟩ | h
         · refine .inl ⟨p, (mem_setT I.upS).2 (.inr ⟨fun e3 => hne ?_, hp⟩), e1, e2⟩;simp only [e1, e3]
         · exact .inr h
     · rintro (⟨p, hp, e1, e2⟩ | ⟨p, hp, e1, e2⟩)
       · rcases (mem_setT I.upS).1 hp with rfl | ⟨hne, hp⟩
         · exact .inl (by rw [e1, e2])
         · refine .inr ⟨fun e3 => hne ?_, (I.files k x).2 (.inl ⟨p, hp, e1, e2⟩)⟩;simp only [e1] at e3;exact (nmI_inj (by decide) (by decide) (I.okS p hp).1 hid e3).2
       · refine .inr ⟨fun e3 => ?_, (I.files k x).2 (.inr ⟨p, hp, e1, e2⟩)⟩;simp only [e1] at e3;have hid2 : IdOk p.1 := by
          rcases I.fold with ⟨e4, _⟩ | ⟨ht, e4⟩
          · rw [e4] at hp; cases hp
          · rw [e4, List.mem_singleton] at hp;subst hp;obtain ⟨q, hq, e5⟩ := top_mem ht;simp only [← e5];exact (I.okD q hq).1
         have := (nmI_inj (by decide) (by decide) hid2 hid e3).1;omega
end
end AF
open Go Go.RowKit Go.MapKept
open AF (Meta copyT topT)
def Bb (_ : Unit) (v : Value) (_ : Heap) : Prop := v = .bool true
def logC5 (fb : Nat) (d : ByteArray) (s f m : Nat) : Array Value := #[ptrV fb, .string d, .map (some s), .map (some f), .map (some m)]
def logM (b fsb : Nat) (M : Meta) : HProp := exi fun q : Nat × Nat × Nat => Many [pt b (.cells (logC5 fsb M.dir q.1 q.2.1 q.2.2) 221 (0, 0)), tabM Bs q.1 M.S, tabM Bb q.2.1 M.Fo, tabM Bs q.2.2 M.D]
theorem RdC.push {h : Heap} {a : Option Addr} {xs : List Value} (H : RdC h a xs) (o : Obj) : RdC (h.push o) a xs := by
 cases a with
 | none => exact H
 | some a =>
   intro j v hv;have h1 := H j v hv;unfold cellAt at h1 ⊢
   cases hb : h[(a.add j).block]? with
   | none => rw [hb] at h1; cases h1
   | some x =>
     have hlt := (Array.getElem?_eq_some_iff.1 hb).1;rw [Array.getElem?_push, if_neg (by omega), hb];rw [hb] at h1;exact h1
section
variable {F : List HProp} {h : Heap} {b fsb : Nat} {M : Meta}
theorem logM_open (H : sat (logM b fsb M :: F) h) : ∃ s f m, sat (pt b (.cells (logC5 fsb M.dir s f m) 221 (0, 0)) :: tabM Bs s M.S :: tabM Bb f M.Fo :: tabM Bs m M.D :: F) h := by
 obtain ⟨⟨s, f, m⟩, H2⟩ := sat_exi.1 H
 exact ⟨s, f, m, H2.open⟩
theorem logM_shut {s f m : Nat} (H : sat (pt b (.cells (logC5 fsb M.dir s f m) 221 (0, 0)) :: tabM Bs s M.S :: tabM Bb f M.Fo :: tabM Bs m M.D :: F) h) : sat (logM b fsb M :: F) h :=
 sat_exi.2 ⟨(s, f, m), sat.shut (m := [_, _, _, _]) H⟩
theorem LdMp {i : Nat} {c : Array Value} {e : TypeId} {fr : Nat × Nat} {x : Nat} {K : Option Nat → Prop} (H : sat (pt b (.cells c e fr) :: F) h) (hv : c[i]? = some (.map (some x))) (hK : K (some x)) : Ld h ((Addr.mk b 0 none).add i) fun v => DM v K :=
 LdC H hv (by rw [DM_map]; exact hK)
theorem LdPt {i : Nat} {c : Array Value} {e : TypeId} {fr : Nat × Nat} {x : Nat} {K : Option Addr → Prop} (H : sat (pt b (.cells c e fr) :: F) h) (hv : c[i]? = some (ptrV x)) (hK : K (some ⟨x, 0, none⟩)) : Ld h ((Addr.mk b 0 none).add i) fun v => DP v K :=
 LdC H hv ⟨_, rfl, hK⟩
theorem tab_look {α : Type} {R : α → Value → Heap → Prop} {b : Nat} {T : List (Int × α)} (H : sat (tabM R b T :: F) h) (k : Int) : ∃ es f, mapEs h (some b) es ∧ es.size = T.length ∧ Instr.findNow (.int .i64) (.int .i64 k) es.toList 0 = some f ∧
  ((f = none ∧ getT T k = none) ∨ ∃ j v x, f = some (j, v) ∧ getT T k = some x ∧ R x v h) := by
 obtain ⟨m, H2⟩ := tabM_open H
 obtain ⟨es, clock, hm, hes⟩ := mapEs_ownM H2
 obtain ⟨f, hf, hl, hcase⟩ := hm.find k
 have I := roP_get (H2.mv 1)
 refine ⟨es, f, hes, ?_, hf, ?_⟩
 · rw [hm.size, I.length hm.nodup]
 · rcases I.look k with ⟨h1, h2⟩ | ⟨v, x, h1, h2, h3⟩
   · left;refine ⟨?_, h2⟩;rw [h1] at hl;exact Option.map_eq_none_iff.1 hl
   · right;rw [h1] at hl
     cases f with
     | none => cases hl
     | some q =>
       obtain ⟨j, u⟩ := q;simp only [Option.map_some, Option.some.injEq] at hl;subst hl;exact ⟨j, u, x, rfl, h2, h3⟩
theorem F107_spec {id : Int} (H : sat (logM b fsb M :: F) h) : CallsH Tryz.prog 107 [ptrV b, .int .i64 id] h fun v h' => h' = h ∧ ((M.get id = none ∧ v = .tuple #[.slice none 0 0, .bool false]) ∨ ∃ x a c, M.get id = some x ∧ v = .tuple #[.slice a x.length c, .bool true] ∧ RdC h a (x.map nv)) := by
 obtain ⟨s, f, m, H2⟩ := logM_open H
 apply F107_ok.ap
 unfold F107
 rw [NN'_some]
 refine LdMp (x := m) H2 rfl ?_
 obtain ⟨es, g, h1, _, h2, h3⟩ := tab_look (H2.mv 3) id
 refine ⟨es, h1, g, h2, ?_⟩
 rcases h3 with ⟨rfl, h3⟩ | ⟨j, v, x, rfl, h3, a, c, rfl, hR⟩
 · simp only [Option.map_none, Option.getD_none, DSl_slice, Option.isSome_none, cond_false];rw [NN'_some];refine LdMp (x := s) H2 rfl ?_;obtain ⟨es, g, h1, _, h2, h4⟩ := tab_look (H2.mv 1) id;refine ⟨es, h1, g, h2, ?_⟩;have hg : M.get id = getT M.S id := by unfold AF.Meta.get; rw [h3]
   rcases h4 with ⟨rfl, h4⟩ | ⟨j, v, x, rfl, h4, a, c, rfl, hR⟩
   · simp only [Option.map_none, Option.getD_none, DSl_slice, Option.isSome_none];exact ⟨by first | rfl | trivial, .inl ⟨by rw [hg, h4], by first | rfl | trivial⟩⟩
   · simp only [Option.map_some, Option.getD_some, DSl_slice, Option.isSome_some];exact ⟨by first | rfl | trivial, .inr ⟨x, a, c, by rw [hg, h4], by first | rfl | trivial, hR⟩⟩
 · simp only [Option.map_some, Option.getD_some, DSl_slice, Option.isSome_some, cond_true];have hg : M.get id = some x := by unfold AF.Meta.get; rw [h3]
   exact ⟨by first | rfl | trivial, .inr ⟨x, a, c, hg, by first | rfl | trivial, hR⟩⟩
theorem u40 : Tryz.prog.underlying 85 = some (.slice 5) := by kernel_rfl
theorem src40 : srcTy Tryz.prog 85 = true := by kernel_rfl
theorem inf5b : infoOk Tryz.prog 5 1 = true := by kernel_rfl
theorem F108_spec {a : Option Addr} {l c : Nat} {xs : List Nat} (hF : sat F h) (hR : RdC h a (xs.map nv)) (hl : xs.length = l) (hm : l ≤ 140737488355328) :
  CallsH Tryz.prog 108 [.slice a l c] h fun v h' => ∃ a' c', v = .slice a' l c' ∧ sat (ownS 5 1 a' l c' (xs.map nv) :: F) h' := by
 apply F108_ok.ap
 unfold F108
 cases a with
 | none =>
   have h0 : xs = [] := List.map_eq_nil_iff.1 hR;subst h0;rw [show (none : Option Addr).isNone = true from rfl, cond_true];simp at hl;subst hl;exact ⟨none, 0, rfl, ownS_nil 5 1 hF⟩
 | some a =>
   rw [show (some a).isNone = false from rfl, cond_false];unfold Al;dsimp only;have H1 : sat (ownS 5 1 (some ⟨h.size, 0, none⟩) 0 0 (([] : List Nat).map nv) :: F) (h.push (.cells #[] 5)) := ownS_mk (hF.push _) (nofz_zero _) (Nat.le_refl _) (Nat.zero_le _) rfl rfl;refine appB (xs := []) u40 src40 inf5b H1 (srcB (hR.push _) hl) (by omega) fun a' c' h2 _ H2 => ?_;rw [DSl_slice];rw [Nat.zero_add, List.nil_append] at H2;exact ⟨a', c', by rw [Nat.zero_add], H2⟩
theorem F141_spec {a a2 : Option Addr} {c l2 c2 : Nat} {xs ys : List Nat} (h8 : B8 xs) (h82 : B8 ys) (hR : RdC h a (xs.map nv)) (hR2 : RdC h a2 (ys.map nv)) (hl : ys.length = l2) :
  CallsH Tryz.prog 141 [.slice a xs.length c, .slice a2 l2 c2] h fun v h' => h' = h ∧ v = .bool (decide (xs = ys)) := by
 apply F141_ok.ap
 unfold F141
 refine ⟨ofN xs, bytesIn_of hR rfl h8, ofN ys, bytesIn_of hR2 hl h82, rfl, ?_⟩
 rw [strEq_eq, sb_ofN h8, sb_ofN h82]
theorem F191_spec {α : Type} {R : α → Value → Heap → Prop} {T : List (Int × α)} {b : Nat} (H : sat (tabM R b T :: F) h) : CallsH Tryz.prog 191 [.map (some b)] h fun v h' => ∃ b', v = .map (some b') ∧ sat (tabM R b' T :: tabM R b T :: F) h' := by
 obtain ⟨m, H2⟩ := tabM_open H
 obtain ⟨es, clock, hm, H3⟩ := ownM_open H2
 refine ⟨by kernel_rfl, fun w hw => callsIn_wide.2 ?_⟩
 subst hw
 refine (Tryz.maps_Clone191 b es clock w H3.get).mono ?_
 rintro e w' ⟨rfl, rfl⟩
 have H4 := H3.push (.map es clock)
 have H5 := roP_dup (H4.mv 2)
 refine ⟨_, rfl, ⟨w.heap.size, rfl, ?_⟩, ⟨rfl, rfl, rfl⟩⟩
 have H6 := ownM_shut hm (H5.mv 2)
 have H7 : sat (ownM (intKeys .i64) w.heap.size m :: roP (TabIs R m T) :: roP (TabIs R m T) :: pt b (.map es clock) :: F) (w.heap.push (.map es clock)) := H6
 have H8 := ownM_shut hm ((tabM_shut H7).mv 2)
 exact (tabM_shut (H8.ordT 3 [0, 2, 1])).mv 1
theorem foldl_max_perm {l m : List Int} (h : l.Perm m) : l.foldl max (-1) = m.foldl max (-1) := by
 obtain ⟨a1, a2, a3⟩ := AF.foldl_max l (-1)
 obtain ⟨b1, b2, b3⟩ := AF.foldl_max m (-1)
 have e1 : l.foldl max (-1) ≤ m.foldl max (-1) := by
  rcases a3 with e | e
  · rw [e]; exact b1
  · exact b2 _ (h.mem_iff.1 e)
 have e2 : m.foldl max (-1) ≤ l.foldl max (-1) := by
  rcases b3 with e | e
  · rw [e]; exact a1
  · exact a2 _ (h.mem_iff.2 e)
 omega
theorem F192_spec {T S : List (Int × List Nat)} {db sb : Nat} (H : sat (tabM Bs db T :: tabM Bs sb S :: F) h) : CallsH Tryz.prog 192 [.map (some db), .map (some sb)] h fun v h' => v = .tuple #[] ∧ sat (tabM Bs db (copyT T S) :: tabM Bs sb S :: F) h' := by
 have hT := tabM_up H
 obtain ⟨m, H2⟩ := tabM_open (H.mv 1)
 obtain ⟨es, clock, hm, H3⟩ := ownM_open H2
 have I := roP_get (H3.mv 1)
 have hS := I.up
 have hperm := I.perm hm.nodup
 apply F192_ok.ap
 unfold F192
 refine range_sat (k := 2) (e := 85) (by kernel_rfl) H3 H3.get fun r h1 H4 => ?_
 rw [DP_pointer]
 refine mapLoopI (mb := sb) hm (fun _ => ()) (G := fun done => [exi fun T' : List (Int × List Nat) => Many [pur (∀ k, getT T' k = if k ∈ done.map (·.1) then getT S k else getT T k), tabM Bs db T'], roP (TabIs Bs m S)] ++ F) ?_ ?_ ?_
 · -- r, sb, TabIs, db, F
   have H5 := H4.mv 3;have H6 : sat ((exi fun T' : List (Int × List Nat) => Many [pur (∀ k, getT T' k = if k ∈ ([] : List (Int × Value)).map (·.1) then getT S k else getT T k), tabM Bs db T']) :: pt r (.mapIter (some sb) clock #[] clock) :: pt sb (.map es clock) :: roP (TabIs Bs m S) :: F) h1 :=
    sat_exi.2 ⟨T, sat.shut (m := [_, _]) (sat_pur.2 ⟨fun k => by simp, H5⟩)⟩
   exact H6.bk 2
 · intro done h2 hp H5;obtain ⟨T', H6⟩ := sat_exi.1 (H5.mv 1);obtain ⟨hk, H7⟩ := sat_pur.1 H6.open;refine ⟨rfl, ?_⟩;have hT' := tabM_up H7;have e : T' = copyT T S := by
    refine tab_ext2 hT' (AF.copyT_up hT) fun k => ?_;rw [hk, AF.getT_copy hS];have h1 : k ∈ done.map (·.1) ↔ k ∈ S.map (·.1) := (hp.map (·.1)).mem_iff.trans hperm.mem_iff
    cases hg : getT S k with
    | none =>
      have : k ∉ done.map (·.1) := fun hh => by
       obtain ⟨p, hp2, e2⟩ := List.mem_map.1 (h1.1 hh);exact getT_none.1 hg p hp2 e2
      rw [if_neg this]
    | some x =>
      have : k ∈ done.map (·.1) := h1.2 (List.mem_map.2 ⟨_, getT_mem hg, rfl⟩);rw [if_pos this]
   subst e;have H8 : sat (tabM Bs db (copyT T S) :: pt sb (.map es clock) :: roP (TabIs Bs m S) :: F) h2 := H7;exact (tabM_shut (ownM_shut hm (H8.mv 1)|>.ordT 3 [0, 2, 1])).mv 1
 · rintro o done k v h2 again ⟨rest, hp⟩ H5 hag;obtain ⟨T', H6⟩ := sat_exi.1 (H5.mv 2);obtain ⟨hk, H7⟩ := sat_pur.1 H6.open;have hmem : (k, v) ∈ m := hp.mem_iff.1 (by simp);have H8 := roP_dup (H7.mv 3);have I2 := roP_get H8;obtain ⟨x, hx, a, c, rfl, hR⟩ := I2.vals k v hmem;refine ⟨k, a, x.length, c, rfl, ?_⟩;have H9 := roP_mono (S := Bs x (.slice a x.length c)) (fun h I => by
    obtain ⟨y, hy, hr⟩ := I.vals k _ hmem;have : y = x := by
     have h1 := mem_getT hS hx;rw [mem_getT hS hy] at h1;cases h1
     rfl
    rw [← this] at hr ⊢;exact hr) H8
   refine tab_set (kt := 2) (et := 85) (x := x) (by kernel_rfl) (by kernel_rfl) (H9.ordT 5 [2, 0, 3, 4, 1]) fun h3 H10 => ?_;refine hag h3 ?_;have H11 : sat ((exi fun T' : List (Int × List Nat) => Many [pur (∀ j, getT T' j = if j ∈ (done ++ [(k, Value.slice a x.length c)]).map (·.1) then getT S j else getT T j), tabM Bs db T']) :: pt r o :: pt sb (.map es clock) :: roP (TabIs Bs m S) :: F) h3 := by
    refine sat_exi.2 ⟨setT k x T', sat.shut (m := [_, _]) (sat_pur.2 ⟨fun j => ?_, H10⟩)⟩;by_cases e : j = k
    · subst e;rw [getT_set_self, if_pos (by simp), mem_getT hS hx]
    · have hm2 : j ∈ (done ++ [(k, Value.slice a x.length c)]).map (·.1) ↔ j ∈ done.map (·.1) := by
       rw [List.map_append, List.mem_append];exact ⟨fun h => h.elim id fun h => absurd (by simpa using h) e, .inl⟩
      rw [getT_set_ne _ (Ne.symm e), hk];by_cases hj : j ∈ done.map (·.1)
      · rw [if_pos hj, if_pos (hm2.2 hj)]
      · rw [if_neg hj, if_neg fun h => hj (hm2.1 h)]
   exact H11.bk 2
theorem F124_spec (H : sat (logM b fsb M :: F) h) : CallsH Tryz.prog 124 [ptrV b] h fun v h' => ∃ eb, v = .map (some eb) ∧ sat (tabM Bs eb M.entries :: logM b fsb M :: F) h' := by
 obtain ⟨s, f, m, H2⟩ := logM_open H
 apply F124_ok.ap
 unfold F124
 rw [NN'_some]
 refine LdMp (x := s) H2 rfl ?_
 refine (F191_spec (H2.mv 1)).mono ?_
 rintro v h1 ⟨eb, rfl, H3⟩
 rw [DM_map, NN'_some]
 refine LdMp (x := m) (H3.mv 2) rfl ?_
 refine (F192_spec (H3.ordT 5 [0, 4, 2, 1, 3])).mono ?_
 rintro v h2 ⟨rfl, H4⟩
 refine ⟨rfl, eb, rfl, ?_⟩
 exact (logM_shut (H4.ordT 5 [2, 3, 4, 1, 0])).mv 1
theorem F129_spec (H : sat (logM b fsb M :: F) h) : CallsH Tryz.prog 129 [ptrV b] h fun v h' => v = .int .i64 (topT M.Fo) ∧ sat (logM b fsb M :: F) h' := by
 obtain ⟨s, f, m, H2⟩ := logM_open H
 apply F129_ok.ap
 unfold F129
 rw [NN'_some]
 refine LdMp (x := f) H2 rfl ?_
 obtain ⟨ms, H3⟩ := tabM_open (H2.mv 2)
 obtain ⟨es, clock, hm, H4⟩ := ownM_open H3
 have I := roP_get (H4.mv 1)
 refine range_sat (k := 2) (e := 4) (by kernel_rfl) H4 H4.get fun r h1 H5 => ?_
 rw [DP_pointer]
 refine mapLoopI hm (fun done => (done.map (·.1)).foldl max (-1)) (G := fun _ => roP (TabIs Bb ms M.Fo) :: pt b (.cells (logC5 fsb M.dir s f m) 221 (0, 0)) :: tabM Bs s M.S :: tabM Bs m M.D :: F) H5 ?_ ?_
 · intro done h2 hp H6;refine ⟨?_, ?_⟩
   · rw [foldl_max_perm ((hp.map (·.1)).trans (I.perm hm.nodup))]
     rfl
   · have H7 := tabM_shut (ownM_shut hm H6);exact logM_shut (H7.ordT 4 [1, 2, 0, 3])
 · rintro o done k v h2 again ⟨rest, hp⟩ H6 hag;refine ⟨k, v, rfl, ?_⟩;have := hag h2 H6;have e : ((done ++ [(k, v)]).map (·.1)).foldl max (-1) = if k > (done.map (·.1)).foldl max (-1) then k else (done.map (·.1)).foldl max (-1) := by
    rw [List.map_append, List.foldl_append];show max _ k = _;split <;> omega
   rw [e] at this;exact this
end
open AF (Meta copyT topT nmI)
open Hex (digs)
theorem size_nmI (c : Nat) (n : Int) : (nmI c n).size = 18 := AF.Fnm.nm_size _ _
section
variable {F : List HProp} {h : Heap} {b fsb : Nat} {M : Meta} {A : AF.FS}
def Came (b fsb : Nat) (A : AF.FS) (k : Nat) (r : AF.FS × Meta × Nat) (F : List HProp) (v : Value) (h' : Heap) : Prop :=
 v = .int .i64 (r.2.2 : Int) ∧ r.1.WF ∧ r.1.steps ≤ A.steps + k ∧ sat (logM b fsb r.2.1 :: fsP fsb r.1 :: F) h'
theorem F47_spec {id : Int} {ba : Option Addr} {bl bc : Nat} {bs : List Nat} (W : A.WF) (hs : A.steps + 10 < 1099511627776) (hd : M.dir.size < 4611686018427387904) (h8M : ∀ x, M.get id = some x → B8 x)
  (hr : ∀ h', sat F h' → RdC h' ba (bs.map nv)) (h8 : B8 bs) (hl : bs.length = bl) (hlb : bl ≤ 140737488355328) (H : sat (logM b fsb M :: fsP fsb A :: F) h) :
  CallsH Tryz.prog 47 [ptrV b, .int .i64 id, .slice ba bl bc] h (Came b fsb A 6 (M.put A id bs) F) := by
 apply F47_ok.ap
 unfold F47
 rw [show (some (⟨b, 0, none⟩ : Addr)).isNone = false from rfl, cond_false]
 by_cases h0 : id < 0
 · rw [decide_eq_true h0, cond_true];have e : M.put A id bs = (A, M, 2) := by unfold AF.Meta.put; rw [if_pos (.inl h0)]
   rw [e];exact ⟨rfl, W, Nat.le_add_right _ _, H⟩
 rw [decide_eq_false h0, cond_false]
 by_cases h1 : id > 1099511627776
 · rw [decide_eq_true h1, cond_true];have e : M.put A id bs = (A, M, 2) := by unfold AF.Meta.put; rw [if_pos (.inr h1)]
   rw [e];exact ⟨rfl, W, Nat.le_add_right _ _, H⟩
 rw [decide_eq_false h1, cond_false]
 have e0 : ¬ (id < 0 ∨ 1099511627776 < id) := by omega
 refine (F107_spec (id := id) H).mono ?_
 rintro v h1 ⟨rfl, ⟨hg, rfl⟩ | ⟨x, a, c, hg, rfl, hR⟩⟩
 · refine ⟨none, 0, 0, false, rfl, ?_⟩;rw [cond_false, NN'_some];obtain ⟨s, f, m, H2⟩ := logM_open H;refine LdPt (x := fsb) H2 rfl ?_;rw [NN'_some];refine LdStr (x := M.dir) H2 rfl ?_;refine (F35_spec (n := id) H2).mono ?_;rintro v h2 ⟨rfl, H3⟩;rw [DS_string];refine ⟨rfl, rfl, rfl, LdPt (x := fsb) H3 rfl rfl, rfl, rfl, rfl, LdStr (x := M.dir) H3 rfl rfl, rfl, ?_, ?_⟩
   · have := size_nmI 98 id;rw [show (nmI 98 id).size = ((⟨#[98, 46]⟩ : ByteArray) ++ ofN (digs 16 (natOf id))).size from rfl, ByteArray.size_append] at this;omega
   have H4 : sat (fsP fsb A :: pt b (.cells (logC5 fsb M.dir s f m) 221 (0, 0)) :: tabM Bs s M.S :: tabM Bb f M.Fo :: tabM Bs m M.D :: F) h2 := H3.mv 4;have hr4 : ∀ h', sat (pt b (.cells (logC5 fsb M.dir s f m) 221 (0, 0)) :: tabM Bs s M.S :: tabM Bb f M.Fo :: tabM Bs m M.D :: F) h' → RdC h' ba (bs.map nv) := fun h' hh => hr h' (hh.rest 4);refine (F45_spec (bs := bs) (name := nmI 98 id) W hs hd (by rw [size_nmI]; decide) hr4 h8 hl (by omega) H4).mono ?_;rintro v h3 ⟨rfl, W3, hs3, H5⟩;rw [DI_int];by_cases he : (A.put M.dir (nmI 98 id) bs).2 = 0
   · have e : M.put A id bs = ((A.put M.dir (nmI 98 id) bs).1, { M with S := setT id bs M.S }, 0) := by
      unfold AF.Meta.put;rw [if_neg e0, hg];simp only [];rw [if_pos he]
     rw [e, he];rw [show (((0 : Nat) : Int) != 0) = false from rfl, cond_false, NN'_some];have H6 := H5.mv 1;refine LdMp (x := s) H6 rfl ?_;refine (F108_spec H6 (hr _ (H6.rest 5)) hl hlb).mono ?_;rintro v h4 ⟨a', c', rfl, H7⟩;rw [DSl_slice];refine ⟨rfl, rfl, rfl, LdMp (x := s) (H7.mv 1) rfl rfl, rfl, ?_⟩;have H8 := roP_mono (S := Bs bs (.slice a' bl c')) (fun h hR => ⟨a', c', by rw [hl], hR⟩) (roP_own H7);refine tab_set (kt := 2) (et := 85) (x := bs) (by kernel_rfl) (by kernel_rfl) (H8.ordT 6 [3, 0, 1, 2, 4, 5]) fun h5 H9 => ?_;refine ⟨rfl, W3, hs3, ?_⟩;exact logM_shut (M := { M with S := setT id bs M.S }) (H9.ordT 5 [1, 0, 3, 4, 2])
   · have e : M.put A id bs = ((A.put M.dir (nmI 98 id) bs).1, M, (A.put M.dir (nmI 98 id) bs).2) := by
      unfold AF.Meta.put;rw [if_neg e0, hg];simp only [];rw [if_neg he]
     rw [e];rw [err_bne he, cond_true];exact ⟨rfl, W3, hs3, logM_shut (H5.ordT 5 [1, 2, 3, 4, 0])⟩
 · refine ⟨a, x.length, c, true, rfl, ?_⟩;rw [cond_true];refine (F141_spec (xs := x) (ys := bs) (h8M x hg) h8 hR (hr _ (H.rest 2)) hl).mono ?_;rintro v h2 ⟨rfl, rfl⟩;rw [DB_bool];have e : M.put A id bs = (A, M, if x = bs then 0 else 90) := by
    unfold AF.Meta.put;rw [if_neg e0, hg]
   rw [e];by_cases hx : x = bs
   · rw [decide_eq_true hx, Bool.not_true, cond_false, if_pos hx];exact ⟨rfl, W, Nat.le_add_right _ _, H⟩
   · rw [decide_eq_false hx, Bool.not_false, cond_true, if_neg hx];exact ⟨rfl, W, Nat.le_add_right _ _, H⟩
theorem F32_spec {id : Int} (hm : ∀ x, M.get id = some x → x.length ≤ 140737488355328) (H : sat (logM b fsb M :: F) h) :
  CallsH Tryz.prog 32 [ptrV b, .int .i64 id] h fun v h' => (M.get id = none ∧ v = .tuple #[.slice none 0 0, .int .i64 91] ∧ sat (logM b fsb M :: F) h') ∨
   ∃ x a c, M.get id = some x ∧ v = .tuple #[.slice a x.length c, .int .i64 0] ∧ sat (ownS 5 1 a x.length c (x.map nv) :: logM b fsb M :: F) h' := by
 apply F32_ok.ap
 unfold F32
 rw [show (some (⟨b, 0, none⟩ : Addr)).isNone = false from rfl, cond_false]
 refine (F107_spec (id := id) H).mono ?_
 rintro v h1 ⟨rfl, ⟨hg, rfl⟩ | ⟨x, a, c, hg, rfl, hR⟩⟩
 · refine ⟨none, 0, 0, false, rfl, ?_⟩;rw [Bool.not_false, cond_true];exact .inl ⟨hg, rfl, H⟩
 · refine ⟨a, x.length, c, true, rfl, ?_⟩;rw [Bool.not_true, cond_false];refine (F108_spec H hR rfl (hm x hg)).mono ?_;rintro v h2 ⟨a', c', rfl, H2⟩;rw [DSl_slice];exact .inr ⟨x, a', c', hg, rfl, H2⟩
end
theorem range_iterK {P : Program} {f : FuncId} {first cap : Array Value} {np : Nat} {h : Heap} {B : Nat → (LoopState → Option Code → Obj) → List Value → Heap → (Value → Heap → Prop) → Prop} {A : Option Code → Heap → Prop} {α : Type}
  (s : List α) (argsOf : α → List Value) (K : Nat → HProp) (G : Nat → List HProp) (X : Code → List HProp) (H : sat (K 0 :: G 0) h) (hnp : ∀ x, (argsOf x).length = np)
  (iter : ∀ (yv : Value) (G' : Nat → List HProp) (Out : Heap → Prop) (h1 : Heap), sat (K 0 :: G' 0) h1 →
   (∀ i x h2, s[i]? = some x → sat (K i :: G' i) h2 → CallV P yv (argsOf x) h2 fun r h3 => ∃ go, r = .bool go ∧ (go = true → sat (K (i + 1) :: G' (i + 1)) h3) ∧ (go = false → Out h3)) →
   (∀ h2, sat (K s.length :: G' s.length) h2 → Out h2) → CallsH P f (first.toList ++ [yv] ++ cap.toList) h1 fun _ h' => Out h')
  (round : ∀ i x (L : Nat) (rec : LoopState → Option Code → Obj) (h2 : Heap) (Q : Value → Heap → Prop), s[i]? = some x → sat (pt L (rec .ready none) :: markD h.size :: K i :: G i) h2 →
   (∀ h3, sat (pt L (rec .busy none) :: markD h.size :: K (i + 1) :: G (i + 1)) h3 → h3[L]? = some (rec .busy none) ∧ Q (.bool true) (h3.setIfInBounds L (rec .ready none))) →
   (∀ j h3, sat (pt L (rec .busy none) :: markD h.size :: X j) h3 → h3[L]? = some (rec .busy none) ∧ Q (.bool false) (h3.setIfInBounds L (rec .done (some j)))) → B L rec (argsOf x) h2 Q)
  (after : ∀ h2, sat (markD h.size :: K s.length :: G s.length) h2 → A none h2) (afterX : ∀ j h2, sat (markD h.size :: X j) h2 → A (some j) h2) :
  RangeFn P (.func (.func f) first cap) np none h B A := by
 intro rec hrec hy
 refine CallF_fn ?_
 have H3 := (H.push (.deferred (some []))).push (rec .ready none)
 rw [Array.size_push] at H3
 refine (iter _ (fun i => pt (h.size + 1) (rec .ready none) :: markD h.size :: G i)
  (fun h2 => ∃ st pend, h2[h.size + 1]? = some (rec st pend) ∧ st ≠ .busy ∧ A pend (h2.setIfInBounds (h.size + 1) (rec .exhausted pend))) _ (H3.mv 2) ?_ ?_).mono fun _ _ hh => hh
 · intro i x h2 hx H2;refine CallV_yield ?_;have HL := (H2.mv 1).get;have H4 : sat (pt (h.size + 1) (rec .ready none) :: markD h.size :: K i :: G i) h2 := (H2.mv 2).mv 2;refine hy _ _ _ (hnp x) HL (round i x _ rec h2 _ hx H4 ?_ ?_)
   · intro h3 H3;refine ⟨H3.get, true, rfl, fun _ => ?_, fun e => by cases e⟩;exact (H3.set (rec .ready none)).mv 2
   · intro j h3 H3;refine ⟨H3.get, false, rfl, (fun e => by cases e), fun _ => ?_⟩;have H5 := H3.set (rec .done (some j));exact ⟨.done, some j, H5.get, by decide, afterX j _ (H5.set (rec .exhausted (some j))).drop⟩
 · intro h2 H2;have H5 := H2.mv 1;refine ⟨.ready, none, H5.get, by decide, after _ ?_⟩;exact (H5.set (rec .exhausted none)).drop.mv 1
section
variable {α : Type}
def riseT (R : α → Value → Heap → Prop) (kb tb mb : Nat) (a : Option Addr) (c : Nat) (ty : TypeId) (s : List (Int × Value)) (i : Nat) (T : List (Int × α)) : HProp :=
 exi fun m : List (Int × Value) => Many [RiseK kb tb mb a c ty (s.map (·.1)), pur (∀ j k v, i ≤ j → s[j]? = some (k, v) → lkM m k = some v), ownM (intKeys .i64) mb m, roP (TabIs R m T)]
variable {R : α → Value → Heap → Prop} {kb tb mb c i : Nat} {a : Option Addr} {ty : TypeId} {s : List (Int × Value)} {T : List (Int × α)} {F : List HProp} {h : Heap}
theorem riseT_open (H : sat (riseT R kb tb mb a c ty s i T :: F) h) : ∃ m, (∀ j k v, i ≤ j → s[j]? = some (k, v) → lkM m k = some v) ∧ sat (ownM (intKeys .i64) mb m :: RiseK kb tb mb a c ty (s.map (·.1)) :: roP (TabIs R m T) :: F) h := by
 obtain ⟨m, H2⟩ := sat_exi.1 H
 obtain ⟨h1, H3⟩ := sat_pur.1 (H2.open.mv 1)
 exact ⟨m, h1, H3.mv 1⟩
theorem riseT_shut {m : List (Int × Value)} (h1 : ∀ j k v, i ≤ j → s[j]? = some (k, v) → lkM m k = some v) (H : sat (ownM (intKeys .i64) mb m :: RiseK kb tb mb a c ty (s.map (·.1)) :: roP (TabIs R m T) :: F) h) : sat (riseT R kb tb mb a c ty s i T :: F) h := by
 have H2 : sat (pur (∀ j k v, i ≤ j → s[j]? = some (k, v) → lkM m k = some v) :: RiseK kb tb mb a c ty (s.map (·.1)) :: ownM (intKeys .i64) mb m :: roP (TabIs R m T) :: F) h := sat_pur.2 ⟨h1, H.mv 1⟩
 exact sat_exi.2 ⟨m, sat.shut (m := [_, _, _, _]) (H2.mv 1)⟩
theorem riseT_next (H : sat (riseT R kb tb mb a c ty s i T :: F) h) : sat (riseT R kb tb mb a c ty s (i + 1) T :: F) h := by
 obtain ⟨m, h1, H2⟩ := riseT_open H
 exact riseT_shut (fun j k v hj hs => h1 j k v (by omega) hs) H2
theorem riseT_tab (H : sat (riseT R kb tb mb a c ty s i T :: F) h) : sat (tabM R mb T :: F) h := by
 obtain ⟨m, h1, H2⟩ := riseT_open H
 exact tabM_shut ((H2.mv 1).drop)
theorem riseT_val {k : Int} {v : Value} (H : sat (riseT R kb tb mb a c ty s i T :: F) h) (hs : s[i]? = some (k, v)) : ∃ x, getT T k = some x ∧ R x v h := by
 obtain ⟨m, h1, H2⟩ := riseT_open H
 have I := roP_get (H2.mv 2)
 obtain ⟨x, hx, hr⟩ := I.vals k v (lkM_in (h1 i k v (Nat.le_refl _) hs))
 exact ⟨x, mem_getT I.up hx, hr⟩
theorem riseT_keep {k : Int} {v : Value} {x : α} (H : sat (riseT R kb tb mb a c ty s i T :: F) h) (hs : s[i]? = some (k, v)) (hx : getT T k = some x) : sat (roP (R x v) :: riseT R kb tb mb a c ty s i T :: F) h := by
 obtain ⟨m, h1, H2⟩ := riseT_open H
 have H3 := roP_dup (H2.mv 2)
 have H4 := roP_mono (S := R x v) (fun h I => by
  obtain ⟨y, hy, hr⟩ := I.vals k v (lkM_in (h1 i k v (Nat.le_refl _) hs));have := mem_getT I.up hy;rw [hx] at this;cases this;exact hr) H3
 exact (riseT_shut h1 (H4.ordT 4 [2, 3, 1, 0])).mv 1
theorem nodup_ne {s : List (Int × Value)} (hn : (s.map (·.1)).Nodup) {i j : Nat} {k k' : Int} {v v' : Value} (h1 : s[i]? = some (k, v)) (h2 : s[j]? = some (k', v')) (hij : i < j) : k' ≠ k := by
 intro e
 have a1 : (s.map (·.1))[i]? = some k := by rw [List.getElem?_map, h1]; rfl
 have a2 : (s.map (·.1))[j]? = some k := by rw [List.getElem?_map, h2, ← e]; rfl
 obtain ⟨b1, c1⟩ := List.getElem?_eq_some_iff.1 a1
 obtain ⟨b2, c2⟩ := List.getElem?_eq_some_iff.1 a2
 have := List.pairwise_iff_getElem.1 hn i j b1 b2 hij
 rw [c1, c2] at this
 exact this rfl
theorem lkM_del {m : List (Int × Value)} {k k' : Int} (h : k' ≠ k) : lkM (delM m k) k' = lkM m k' := by
 unfold lkM delM
 congr 1
 induction m with
 | nil => rfl
 | cons p m ih =>
   rw [List.filter_cons];by_cases e : p.1 = k
   · have e2 : ¬ p.1 = k' := fun e2 => h (by rw [← e2, e]);simp only [e, decide_true, Bool.not_true, Bool.false_eq_true, if_false, List.find?_cons];rw [ih];have : decide (k = k') = false := decide_eq_false (Ne.symm h);rw [this]
   · simp only [e, decide_false, Bool.not_false, if_true, List.find?_cons];rw [ih]
theorem lkM_upd {m : List (Int × Value)} {k k' : Int} {v : Value} (hn : ((updM m k v).map (·.1)).Nodup) (hn2 : (m.map (·.1)).Nodup) (h : k' ≠ k) {u : Value} (hl : lkM m k' = some u) : lkM (updM m k v) k' = some u := by
 have h1 := lkM_in hl
 have h2 : (k', u) ∈ updM m k v := updM_in.2 (.inr ⟨h, h1⟩)
 cases he : lkM (updM m k v) k' with
 | none => exact absurd (List.mem_map.2 ⟨_, h2, rfl⟩) (lkM_no he)
 | some w =>
   have h3 := lkM_in he;have : (k', w) = (k', u) := by
    obtain ⟨i, hi⟩ := List.mem_iff_getElem?.1 h3;obtain ⟨j, hj⟩ := List.mem_iff_getElem?.1 h2
    rcases Nat.lt_trichotomy i j with hh | hh | hh
    · exact absurd rfl (nodup_ne hn hi hj hh)
    · subst hh; rw [hi] at hj; cases hj; rfl
    · exact absurd rfl (nodup_ne hn hj hi hh)
   cases this
   rfl
theorem riseT_del {P : Program} {ty1 ty2 kt et t : TypeId} {k : Int} {v : Value} {K : Value → Heap → Prop} (hT : P.underlying ty1 = some (.map kt et)) (hd : P.underlying kt = some (.int .i64)) (hn : (s.map (·.1)).Nodup) (hs : s[i]? = some (k, v)) (H : sat (riseT R kb tb mb a c ty s i T :: F) h)
  (hK : ∀ h', sat (riseT R kb tb mb a c ty s (i + 1) (delT k T) :: F) h' → K (.tuple #[]) h') : RunH P (Builtin.delete_ #[ty1, ty2] t #[.map (some mb), .int .i64 k]) h K := by
 obtain ⟨m, h1, H2⟩ := riseT_open H
 refine delete_sat (E := intKeys .i64) (k := k) hT hd H2 fun h' H3 => hK h' (riseT_shut (m := delM m k) (fun j k' v' hj hs' => ?_) ?_)
 · rw [lkM_del (nodup_ne hn hs hs' (by omega))];exact h1 j k' v' (by omega) hs'
 · exact (roP_mono (fun _ hh => hh.del k) (H3.mv 2)).bk 2
theorem riseT_set {P : Program} {ty1 kt et : TypeId} {k : Int} {v u : Value} {x : α} {K : Heap → Prop} (hT : P.underlying ty1 = some (.map kt et)) (hd : P.underlying kt = some (.int .i64)) (hn : (s.map (·.1)).Nodup) (hs : s[i]? = some (k, v)) (H : sat (riseT R kb tb mb a c ty s i T :: roP (R x u) :: F) h)
  (hK : ∀ h', sat (riseT R kb tb mb a c ty s (i + 1) (setT k x T) :: F) h' → K h') : RunU P (Instr.mapUpdate ty1 (.map (some mb)) (.int .i64 k) u) h K := by
 obtain ⟨m, h1, H2⟩ := riseT_open H
 have hm := ownM_nodup H2
 refine mapUpdate_sat (E := intKeys .i64) (k := k) hT hd H2 fun h' H3 => hK h' (riseT_shut (m := updM m k u) (fun j k' v' hj hs' => ?_) ?_)
 · exact lkM_upd (ownM_nodup H3) hm (nodup_ne hn hs hs' (by omega)) (h1 j k' v' (by omega) hs')
 · -- m, Rise, TabIs, R, F
   exact (roP_mono (fun _ hh => hh.1.set hh.2) (roP_and (H3.ordT 4 [2, 3, 0, 1]))).bk 2
theorem riseT_start {m : List (Int × Value)} (H : sat (RiseK kb tb mb a c ty (sortI (m.map (·.1))) :: ownM (intKeys .i64) mb m :: roP (TabIs R m T) :: F) h) :
  ∃ s : List (Int × Value), s.map (·.1) = T.map (·.1) ∧ (s.map (·.1)).Nodup ∧ sat (riseT R kb tb mb a c ty s 0 T :: F) h := by
 have I := roP_get (H.mv 2)
 have hn := ownM_nodup (H.mv 1)
 have e : sortI (m.map (·.1)) = T.map (·.1) := sortI_eq (I.perm hn) (List.pairwise_map.2 I.up)
 have hs : (T.map fun p => (p.1, (lkM m p.1).getD (.bool false))).map (·.1) = T.map (·.1) := by
  rw [List.map_map]
  rfl
 refine ⟨T.map fun p => (p.1, (lkM m p.1).getD (.bool false)), hs, by rw [hs]; exact I.up.nodup, ?_⟩
 rw [e, ← hs] at H
 refine riseT_shut (fun j k v _ hj => ?_) (H.mv 1)
 rw [List.getElem?_map] at hj
 cases hT : T[j]? with
 | none => rw [hT] at hj; cases hj
 | some p =>
   rw [hT] at hj;simp only [Option.map_some, Option.some.injEq, Prod.mk.injEq] at hj;obtain ⟨rfl, rfl⟩ := hj
   rcases I.look p.1 with ⟨_, h2⟩ | ⟨v, x, h1, _, _⟩
   · exact absurd rfl (getT_none.1 h2 p (List.mem_of_getElem? hT))
   · rw [h1]
     rfl
end
theorem F195_rise {α : Type} {R : α → Value → Heap → Prop} {kb tb mb : Nat} {a : Option Addr} {c : Nat} {s : List (Int × Value)} (hlen : s.length < 1099511627776) (Ts : Nat → List (Int × α)) (hv : ∀ x (v : Value) h, R x v h → ∃ (a : Option Addr) (l c : Nat), v = .slice a l c)
  (yv : Value) (G : Nat → List HProp) (Out : Heap → Prop) (h1 : Heap) (H : sat (riseT R kb tb mb a c 214 s 0 (Ts 0) :: G 0) h1)
  (round : ∀ i x h2, s[i]? = some x → sat (riseT R kb tb mb a c 214 s i (Ts i) :: G i) h2 → CallV Tryz.prog yv [.int .i64 x.1, x.2] h2 fun r h3 => ∃ go, r = .bool go ∧ (go = true → sat (riseT R kb tb mb a c 214 s (i + 1) (Ts (i + 1)) :: G (i + 1)) h3) ∧ (go = false → Out h3))
  (fin : ∀ h2, sat (riseT R kb tb mb a c 214 s s.length (Ts s.length) :: G s.length) h2 → Out h2) :
  CallsH Tryz.prog 195 [yv, .pointer (some ⟨kb, 0, none⟩), .pointer (some ⟨tb, 0, none⟩)] h1 fun _ h' => Out h' := by
 apply F195_ok.ap
 unfold F195
 have hsl : (s.map (·.1)).length = s.length := List.length_map _
 obtain ⟨m0, _, H0⟩ := riseT_open H
 have H0' := (H0.mv 1).open
 refine ⟨.slice a (s.map (·.1)).length c, by rw [cellAt_of H0'.get]; rfl, ?_⟩
 show DSl (.slice a (s.map (·.1)).length c) _
 rw [DSl_slice, hsl]
 refine LoopH.upto s.length (fun i (s0 : Int) h2 => s0 = (i : Int) ∧ i ≤ s.length ∧ sat (riseT R kb tb mb a c 214 s i (Ts i) :: G i) h2) (fun s0 => s.length - s0.toNat) (fun i s0 h2 hh => ⟨hh.2.1, by rw [hh.1]; omega⟩) ⟨rfl, Nat.zero_le _, H⟩ ?_ ?_
 · rintro i s0 h2 again hi ⟨rfl, _, H2⟩ go;rw [decide_eq_true (show ((i : Int) < (s.length : Int)) by omega), cond_true];obtain ⟨⟨k, v⟩, hx⟩ : ∃ x, s[i]? = some x := ⟨_, List.getElem?_eq_getElem hi⟩
   have hki : (s.map (·.1))[i]? = some k := by rw [List.getElem?_map, hx]; rfl
   obtain ⟨x, _, hR⟩ := riseT_val H2 hx;obtain ⟨m, hl, H3⟩ := riseT_open H2;have H4 := (H3.mv 1).open;refine IdxA_nat (v := iv k) (ownS_read (H4.mv 2)) (by rw [List.length_map, hsl]) (by rw [List.getElem?_map, hki]; rfl) fun b hb hc => ?_;refine ⟨iv k, hc, k, rfl, ?_⟩;refine ⟨.map (some mb), by rw [cellAt_of (H4.mv 1).get]; rfl, ?_⟩;show DM (.map (some mb)) _;rw [DM_map];obtain ⟨es, clock, hm, hes⟩ := mapEs_ownM H3;obtain ⟨f, hf, hl2, _⟩ := hm.find k;refine ⟨es, hes, f, hf, ?_⟩;have e1 : Option.map (fun x : Nat × Value => x.2) f = some v := by
    rw [← hl i k v (Nat.le_refl _) hx];exact hl2
   rw [e1];simp only [Option.getD_some];obtain ⟨va, vl, vc, rfl⟩ := hv x v h2 hR;rw [DSl_slice];refine (round i (k, _) h2 hx H2).mono ?_;rintro r h3 ⟨g, rfl, hg, hs⟩;rw [DB_bool]
   cases g with
   | true =>
     rw [Bool.not_true, cond_false, wrap64_succ (by omega)];exact go _ _ ⟨rfl, by omega, hg rfl⟩
   | false =>
     rw [Bool.not_false, cond_true];exact hs rfl
 · rintro s0 h2 again ⟨rfl, _, H2⟩;rw [decide_eq_false (by omega), cond_false];exact fin h2 H2
theorem F126_rise {α : Type} {R : α → Value → Heap → Prop} {mb : Nat} {T : List (Int × α)} {h : Heap} {F : List HProp} (H : sat (tabM R mb T :: F) h) (hmax : T.length < 1099511627776) :
  CallsH Tryz.prog 126 [.map (some mb)] h fun v h' => ∃ (kb tb : Nat) (a : Option Addr) (c : Nat) (s : List (Int × Value)), v = .func (.func 195) #[] #[.pointer (some ⟨kb, 0, none⟩), .pointer (some ⟨tb, 0, none⟩)] ∧
   s.map (·.1) = T.map (·.1) ∧ (s.map (·.1)).Nodup ∧ sat (riseT R kb tb mb a c 214 s 0 T :: F) h' := by
 obtain ⟨m, H2⟩ := tabM_open H
 have hl := (roP_get (H2.mv 1)).length (ownM_nodup H2)
 refine (F126_spec H2 (by omega)).mono ?_
 rintro v h1 ⟨kb, tb, a, c, rfl, H3⟩
 obtain ⟨s, h1, h2, H4⟩ := riseT_start H3
 exact ⟨kb, tb, a, c, s, rfl, h1, h2, H4⟩
theorem F240_rise {α : Type} {R : α → Value → Heap → Prop} {kb tb mb : Nat} {a : Option Addr} {c : Nat} {s : List (Int × Value)} (hlen : s.length < 1099511627776) (Ts : Nat → List (Int × α)) (hv : ∀ x (v : Value) h, R x v h → ∃ b : Bool, v = .bool b)
  (yv : Value) (G : Nat → List HProp) (Out : Heap → Prop) (h1 : Heap) (H : sat (riseT R kb tb mb a c 219 s 0 (Ts 0) :: G 0) h1)
  (round : ∀ i x h2, s[i]? = some x → sat (riseT R kb tb mb a c 219 s i (Ts i) :: G i) h2 → CallV Tryz.prog yv [.int .i64 x.1, x.2] h2 fun r h3 => ∃ go, r = .bool go ∧ (go = true → sat (riseT R kb tb mb a c 219 s (i + 1) (Ts (i + 1)) :: G (i + 1)) h3) ∧ (go = false → Out h3))
  (fin : ∀ h2, sat (riseT R kb tb mb a c 219 s s.length (Ts s.length) :: G s.length) h2 → Out h2) :
  CallsH Tryz.prog 240 [yv, .pointer (some ⟨kb, 0, none⟩), .pointer (some ⟨tb, 0, none⟩)] h1 fun _ h' => Out h' := by
 apply F240_ok.ap
 unfold F240
 have hsl : (s.map (·.1)).length = s.length := List.length_map _
 obtain ⟨m0, _, H0⟩ := riseT_open H
 have H0' := (H0.mv 1).open
 refine ⟨.slice a (s.map (·.1)).length c, by rw [cellAt_of H0'.get]; rfl, ?_⟩
 show DSl (.slice a (s.map (·.1)).length c) _
 rw [DSl_slice, hsl]
 refine LoopH.upto s.length (fun i (s0 : Int) h2 => s0 = (i : Int) ∧ i ≤ s.length ∧ sat (riseT R kb tb mb a c 219 s i (Ts i) :: G i) h2) (fun s0 => s.length - s0.toNat) (fun i s0 h2 hh => ⟨hh.2.1, by rw [hh.1]; omega⟩) ⟨rfl, Nat.zero_le _, H⟩ ?_ ?_
 · rintro i s0 h2 again hi ⟨rfl, _, H2⟩ go;rw [decide_eq_true (show ((i : Int) < (s.length : Int)) by omega), cond_true];obtain ⟨⟨k, v⟩, hx⟩ : ∃ x, s[i]? = some x := ⟨_, List.getElem?_eq_getElem hi⟩
   have hki : (s.map (·.1))[i]? = some k := by rw [List.getElem?_map, hx]; rfl
   obtain ⟨x, _, hR⟩ := riseT_val H2 hx;obtain ⟨m, hl, H3⟩ := riseT_open H2;have H4 := (H3.mv 1).open;refine IdxA_nat (v := iv k) (ownS_read (H4.mv 2)) (by rw [List.length_map, hsl]) (by rw [List.getElem?_map, hki]; rfl) fun b hb hc => ?_;refine ⟨iv k, hc, k, rfl, ?_⟩;refine ⟨.map (some mb), by rw [cellAt_of (H4.mv 1).get]; rfl, ?_⟩;show DM (.map (some mb)) _;rw [DM_map];obtain ⟨es, clock, hm, hes⟩ := mapEs_ownM H3;obtain ⟨f, hf, hl2, _⟩ := hm.find k;refine ⟨es, hes, f, hf, ?_⟩;have e1 : Option.map (fun x : Nat × Value => x.2) f = some v := by
    rw [← hl i k v (Nat.le_refl _) hx];exact hl2
   rw [e1];simp only [Option.getD_some];obtain ⟨vb, rfl⟩ := hv x v h2 hR;rw [DB_bool];refine (round i (k, _) h2 hx H2).mono ?_;rintro r h3 ⟨g, rfl, hg, hs⟩;rw [DB_bool]
   cases g with
   | true =>
     rw [Bool.not_true, cond_false, wrap64_succ (by omega)];exact go _ _ ⟨rfl, by omega, hg rfl⟩
   | false =>
     rw [Bool.not_false, cond_true];exact hs rfl
 · rintro s0 h2 again ⟨rfl, _, H2⟩;rw [decide_eq_false (by omega), cond_false];exact fin h2 H2
theorem F214_rise {α : Type} {R : α → Value → Heap → Prop} {mb : Nat} {T : List (Int × α)} {h : Heap} {F : List HProp} (H : sat (tabM R mb T :: F) h) (hmax : T.length < 1099511627776) :
  CallsH Tryz.prog 214 [.map (some mb)] h fun v h' => ∃ (kb tb : Nat) (a : Option Addr) (c : Nat) (s : List (Int × Value)), v = .func (.func 240) #[] #[.pointer (some ⟨kb, 0, none⟩), .pointer (some ⟨tb, 0, none⟩)] ∧
   s.map (·.1) = T.map (·.1) ∧ (s.map (·.1)).Nodup ∧ sat (riseT R kb tb mb a c 219 s 0 T :: F) h' := by
 obtain ⟨m, H2⟩ := tabM_open H
 have hl := (roP_get (H2.mv 1)).length (ownM_nodup H2)
 refine (F214_spec H2 (by omega)).mono ?_
 rintro v h1 ⟨kb, tb, a, c, rfl, H3⟩
 obtain ⟨s, h1, h2, H4⟩ := riseT_start H3
 exact ⟨kb, tb, a, c, s, rfl, h1, h2, H4⟩
open AF (Meta copyT topT nmI goG)
namespace AF
section
variable {α : Type} {dir : ByteArray} {c : Nat} {p : Int → Bool}
theorem goG_1 {n : Int} {l : List Int} {A : FS} {T : List (Int × α)} {s : Bool} (hp : p n = true) (he : (A.remove dir (nmI c n)).2 = 0) : goG dir c p (n :: l) A T s = goG dir c p l (A.remove dir (nmI c n)).1 (delT n T) true := by
 conv => lhs; unfold goG
 rw [if_pos hp, if_pos he]
theorem goG_2 {n : Int} {l : List Int} {A : FS} {T : List (Int × α)} {s : Bool} (hp : p n = true) (he : ¬ (A.remove dir (nmI c n)).2 = 0) : goG dir c p (n :: l) A T s = ((A.remove dir (nmI c n)).1, T, s, (A.remove dir (nmI c n)).2) := by
 conv => lhs; unfold goG
 rw [if_pos hp, if_neg he]
theorem goG_3 {n : Int} {l : List Int} {A : FS} {T : List (Int × α)} {s : Bool} (hp : ¬ p n = true) : goG dir c p (n :: l) A T s = goG dir c p l A T s := by
 conv => lhs; unfold goG
 rw [if_neg hp]
theorem goG_fail : ∀ (l m : List Int) (A : FS) (T : List (Int × α)) (s : Bool), (goG dir c p l A T s).2.2.2 ≠ 0 → goG dir c p (l ++ m) A T s = goG dir c p l A T s
 | [], m, A, T, s, h => absurd rfl h
 | n :: l, m, A, T, s, h => by
   rw [List.cons_append];by_cases hp : p n = true
   · by_cases he : (A.remove dir (nmI c n)).2 = 0
     · rw [goG_1 hp he] at h ⊢;rw [goG_1 hp he];exact goG_fail l m _ _ _ h
     · rw [goG_2 hp he, goG_2 hp he]
   · rw [goG_3 hp] at h ⊢;rw [goG_3 hp];exact goG_fail l m _ _ _ h
theorem goG_more : ∀ (l m : List Int) (A : FS) (T : List (Int × α)) (s : Bool), (goG dir c p l A T s).2.2.2 = 0 → goG dir c p (l ++ m) A T s = goG dir c p m (goG dir c p l A T s).1 (goG dir c p l A T s).2.1 (goG dir c p l A T s).2.2.1
 | [], m, A, T, s, h => rfl
 | n :: l, m, A, T, s, h => by
   rw [List.cons_append];by_cases hp : p n = true
   · by_cases he : (A.remove dir (nmI c n)).2 = 0
     · rw [goG_1 hp he] at h ⊢;rw [goG_1 hp he];exact goG_more l m _ _ _ h
     · rw [goG_2 hp he] at h;exact absurd h he
   · rw [goG_3 hp] at h ⊢;rw [goG_3 hp];exact goG_more l m _ _ _ h
theorem goG_wf : ∀ (l : List Int) (A : FS) (T : List (Int × α)) (s : Bool), A.WF → (goG dir c p l A T s).1.WF ∧ (goG dir c p l A T s).1.steps ≤ A.steps + l.length
 | [], A, T, s, W => ⟨W, Nat.le_refl _⟩
 | n :: l, A, T, s, W => by
   unfold goG;by_cases hp : p n = true
   · rw [if_pos hp];have h1 := remove_steps (A := A) dir (nmI c n);by_cases he : (A.remove dir (nmI c n)).2 = 0
     · rw [if_pos he];obtain ⟨a, b⟩ := goG_wf l (A.remove dir (nmI c n)).1 (delT n T) true (W.remove _ _);exact ⟨a, by rw [List.length_cons]; omega⟩
     · rw [if_neg he];exact ⟨W.remove _ _, by rw [List.length_cons]; simp only []; omega⟩
   · rw [if_neg hp];obtain ⟨a, b⟩ := goG_wf l A T s W;exact ⟨a, by rw [List.length_cons]; omega⟩
end
end AF
section
variable {α : Type}
abbrev GoSt (α : Type) := AF.FS × List (Int × α) × Bool × Nat
def remG (b0 b1 b2 b3 b fsb : Nat) (gv : Value) (lc : Array Value) (X Y C : HProp) (k : Nat) (F : List HProp) (st : GoSt α) : List HProp :=
 pur (st.2.2.2 = 0 ∧ st.1.WF ∧ st.1.steps ≤ k) :: pt b0 (.cells #[ptrV b] 87 (0, 0)) :: pt b1 (.cells #[gv] 234 (0, 0)) :: pt b2 (.cells #[.int .i64 0] 25 (0, 0)) :: pt b3 (.cells #[.bool st.2.2.1] 4 (0, 0)) :: pt b (.cells lc 221 (0, 0)) :: X :: Y :: fsP fsb st.1 :: C :: F
def remX (R : α → Value → Heap → Prop) (mb b0 b1 b2 b3 b fsb : Nat) (gv : Value) (lc : Array Value) (X Y C : HProp) (k : Nat) (F : List HProp) (st : GoSt α) (j : Code) : List HProp :=
 pur (st.2.2.2 ≠ 0 ∧ st.1.WF ∧ st.1.steps ≤ k ∧ j = .ret) :: tabM R mb st.2.1 :: pt b0 (.cells #[ptrV b] 87 (0, 0)) :: pt b1 (.cells #[gv] 234 (0, 0)) :: pt b2 (.cells #[.int .i64 (st.2.2.2 : Int)] 25 (0, 0)) :: pt b3 (.cells #[.bool st.2.2.1] 4 (0, 0)) :: pt b (.cells lc 221 (0, 0)) :: X :: Y :: fsP fsb st.1 :: C :: F
theorem VPt {h : Heap} {b x : Nat} {e : TypeId} {fr : Nat × Nat} {K : Option Addr → Prop} (hb : h[b]? = some (.cells #[ptrV x] e fr)) (hK : K (some ⟨x, 0, none⟩)) : Ld h ⟨b, 0, none⟩ fun v => DP v K := LdV hb rfl ⟨_, rfl, hK⟩
theorem VIn {h : Heap} {b : Nat} {e : TypeId} {fr : Nat × Nat} {k : IntKind} {x : Int} {K : Int → Prop} (hb : h[b]? = some (.cells #[.int k x] e fr)) (hK : K x) : Ld h ⟨b, 0, none⟩ fun v => DI k v K := LdV hb rfl ⟨_, rfl, hK⟩
theorem VBo {h : Heap} {b : Nat} {e : TypeId} {fr : Nat × Nat} {x : Bool} {K : Bool → Prop} (hb : h[b]? = some (.cells #[.bool x] e fr)) (hK : K x) : Ld h ⟨b, 0, none⟩ fun v => DB v K := LdV hb rfl ⟨_, rfl, hK⟩
theorem VSt {h : Heap} {b : Nat} {e : TypeId} {fr : Nat × Nat} {x : ByteArray} {K : ByteArray → Prop} (hb : h[b]? = some (.cells #[.string x] e fr)) (hK : K x) : Ld h ⟨b, 0, none⟩ fun v => DS v K := LdV hb rfl ⟨_, rfl, hK⟩
theorem VMp {h : Heap} {b x : Nat} {e : TypeId} {fr : Nat × Nat} {K : Option Nat → Prop} (hb : h[b]? = some (.cells #[.map (some x)] e fr)) (hK : K (some x)) : Ld h ⟨b, 0, none⟩ fun v => DM v K := LdV hb rfl ⟨_, rfl, hK⟩
theorem VSl {h : Heap} {b : Nat} {e : TypeId} {fr : Nat × Nat} {a : Option Addr} {l m : Nat} {K : Option Addr → Nat → Nat → Prop} (hb : h[b]? = some (.cells #[.slice a l m] e fr)) (hK : K a l m) : Ld h ⟨b, 0, none⟩ fun v => DSl v K := LdV hb rfl (by show DSl (.slice a l m) K; rw [DSl_slice]; exact hK)
end
theorem bs_slice (x : List Nat) (v : Value) (h : Heap) (H : Bs x v h) : ∃ (a : Option Addr) (l c : Nat), v = .slice a l c := let ⟨a, c, e, _⟩ := H; ⟨a, _, c, e⟩
theorem bb_bool (x : Unit) (v : Value) (h : Heap) (H : Bb x v h) : ∃ b : Bool, v = .bool b := ⟨true, H⟩
section
variable {F : List HProp} {h : Heap} {b fsb : Nat} {M : Meta} {A : AF.FS}
set_option maxHeartbeats 1000000 in
theorem F142_spec {gf : Fn} {gp gc : Array Value} {p : Nat → Int → Bool} {C : HProp} (hg : ∀ (c : Nat) (n : Int) (F' : List HProp) (h' : Heap), (c = 98 ∨ c = 102) → sat (C :: F') h' → CallV Tryz.prog (.func gf gp gc) [.int .u8 (c : Int), .int .i64 n] h' fun v h'' => v = .bool (p c n) ∧ h'' = h')
  (W : A.WF) (hs : A.steps + M.S.length + M.Fo.length + 10 < 1099511627776) (hd : M.dir.size < 4611686018427387904) (H : sat (logM b fsb M :: fsP fsb A :: C :: F) h) :
  CallsH Tryz.prog 142 [ptrV b, .func gf gp gc] h (Came b fsb A (M.S.length + M.Fo.length + 1) (M.remove A p) (C :: F)) := by
 apply F142_ok.ap
 unfold F142
 refine Al_sat H fun b0 h1 H1 => ?_
 refine Al_sat H1 fun b1 h2 H2 => ?_
 refine Al_sat H2 fun b2 h3 H3 => ?_
 refine Al_sat H3 fun b3 h4 H4 => ?_
 refine StCC H4 (by decide) rfl fun h5 H5 => ?_
 obtain ⟨ms, mf, mm, H6⟩ := logM_open (H5.mv 4)
 refine VPt (H6.mv 7).get ?_
 rw [NN'_some]
 refine LdMp (x := ms) H6 rfl ?_
 refine (F126_rise (H6.mv 1) (by omega)).mono ?_
 rintro v h6 ⟨kb, tb, a, c, s, rfl, hsk, hnd, H7⟩
 have hsl : s.length = M.S.length := by
  have := congrArg List.length hsk;simpa using this
 refine ⟨_, rfl, ?_⟩
 let St : Nat → GoSt (List Nat) := fun i => goG M.dir 98 (p 98) ((M.S.map (·.1)).take i) A M.S false
 let Rs : GoSt (List Nat) := goG M.dir 98 (p 98) (M.S.map (·.1)) A M.S false
 have hRs : St s.length = Rs := by
  show goG _ _ _ ((M.S.map (·.1)).take s.length) _ _ _ = _;rw [List.take_of_length_le (by rw [List.length_map]; omega)]
 have H8 : sat (riseT Bs kb tb ms a c 214 s 0 (St 0).2.1 :: remG b0 b1 b2 b3 b fsb (.func gf gp gc) (logC5 fsb M.dir ms mf mm) (tabM Bb mf M.Fo) (tabM Bs mm M.D) C (A.steps + s.length) F (St 0)) h6 :=
  (sat_pur.2 ⟨⟨rfl, W, Nat.le_add_right _ _⟩, H7.ordT 10 [0, 7, 6, 5, 4, 1, 2, 3, 8, 9]⟩ : sat (pur _ :: _) h6).bk 1
 have hRwf := AF.goG_wf (dir := M.dir) (c := 98) (p := p 98) (M.S.map (·.1)) A M.S false W
 have WR : Rs.1.WF := hRwf.1
 have hRst : Rs.1.steps ≤ A.steps + M.S.length := by have := hRwf.2; rw [List.length_map] at this; exact this
 refine range_iterK s (fun x => [.int .i64 x.1, x.2]) (fun i => riseT Bs kb tb ms a c 214 s i (St i).2.1) (fun i => remG b0 b1 b2 b3 b fsb (.func gf gp gc) (logC5 fsb M.dir ms mf mm) (tabM Bb mf M.Fo) (tabM Bs mm M.D) C (A.steps + s.length) F (St i))
  (fun j => remX Bs ms b0 b1 b2 b3 b fsb (.func gf gp gc) (logC5 fsb M.dir ms mf mm) (tabM Bb mf M.Fo) (tabM Bs mm M.D) C (A.steps + s.length) F Rs j) H8 (fun _ => rfl)
  (fun yv G' Out h1 hh r f => F195_rise (by omega) (fun i => (St i).2.1) bs_slice yv G' Out h1 hh r f) ?_ ?_ ?_
 · -- a round
   intro i x L rec h2 Q hx H2 hgo hstop;obtain ⟨n, v⟩ := x;have hi := (List.getElem?_eq_some_iff.1 hx).1;have HL := H2.get;obtain ⟨⟨he, Wi, hsi⟩, H3⟩ := sat_pur.1 (H2.mv 3);have hn : (M.S.map (·.1))[i]? = some n := by rw [← hsk, List.getElem?_map, hx]; rfl
   have htake : (M.S.map (·.1)).take (i + 1) = (M.S.map (·.1)).take i ++ [n] := by rw [List.take_add_one, hn]; rfl
   have hst : St (i + 1) = goG M.dir 98 (p 98) [n] (St i).1 (St i).2.1 (St i).2.2.1 := by
    show goG _ _ _ ((M.S.map (·.1)).take (i + 1)) _ _ _ = _;rw [htake];exact AF.goG_more _ _ _ _ _ he
   obtain ⟨x, _, va, vc, rfl, _⟩ := riseT_val (H3.mv 2) hx;refine ⟨n, va, x.length, vc, rfl, HL, ?_⟩;have H4 := H3.set (rec .busy none);refine ⟨.func gf gp gc, by rw [cellAt_of (H4.mv 4).get]; rfl, .func gf gp gc, rfl, ?_⟩;refine (hg 98 n _ _ (.inl rfl) (H4.mv 11)).mono ?_;rintro v h3 ⟨rfl, rfl⟩;rw [DB_bool];by_cases hp : p 98 n = true
   · rw [hp, cond_true];refine VPt (H4.mv 3).get ?_;rw [NN'_some];refine LdPt (x := fsb) (H4.mv 7) rfl ?_;refine VPt (H4.mv 3).get ?_;rw [NN'_some];refine LdStr (x := M.dir) (H4.mv 7) rfl ?_;refine (F35_spec (n := n) H4).mono ?_;rintro v h3 ⟨rfl, H5⟩;rw [DS_string];refine ⟨VPt (H5.mv 3).get rfl, rfl, rfl, LdPt (x := fsb) (H5.mv 7) rfl rfl, VPt (H5.mv 3).get rfl, rfl, rfl, LdStr (x := M.dir) (H5.mv 7) rfl rfl, ?_, ?_⟩
     · have := size_nmI 98 n;rw [show (nmI 98 n).size = ((⟨#[98, 46]⟩ : ByteArray) ++ ofN (digs 16 (natOf n))).size from rfl, ByteArray.size_append] at this;omega
     refine (F84_spec (k := nmI 98 n) Wi (by omega) hd (by rw [size_nmI]; decide) (H5.mv 10)).mono ?_;rintro v h4 ⟨rfl, H6⟩;have H7 := H6.bk 10;rw [DI_int];by_cases hr : ((St i).1.remove M.dir (nmI 98 n)).2 = 0
     · have hst2 : St (i + 1) = (((St i).1.remove M.dir (nmI 98 n)).1, delT n (St i).2.1, true, 0) := by
        rw [hst];rw [AF.goG_1 hp hr]
        rfl
       rw [hr, show (((0 : Nat) : Int) != 0) = false from rfl, cond_false];refine VPt (H7.mv 3).get ?_;rw [NN'_some];refine LdMp (x := ms) (H7.mv 7) rfl ?_;refine riseT_del (kt := 2) (et := 85) (by kernel_rfl) (by kernel_rfl) hnd hx (H7.mv 2) fun g5 H8 => ?_;refine StCC ((H8.bk 2).mv 6) (by exact Nat.zero_lt_one) rfl fun g6 H9 => ?_;have H10 := H9.bk 6;have W' := Wi.remove M.dir (nmI 98 n);have Hf : sat (pt L (rec .busy none) :: markD h6.size :: riseT Bs kb tb ms a c 214 s (i + 1) (St (i + 1)).2.1 :: remG b0 b1 b2 b3 b fsb (.func gf gp gc) (logC5 fsb M.dir ms mf mm) (tabM Bb mf M.Fo) (tabM Bs mm M.D) C (A.steps + s.length) F (St (i + 1))) g6 := by
        rw [hst2];have h1 := (AF.goG_wf (dir := M.dir) (c := 98) (p := p 98) ((M.S.map (·.1)).take (i + 1)) A M.S false W)
        have h2 : (St (i + 1)).1.steps ≤ _ := h1.2;rw [hst2, List.length_take] at h2;have hlen : (M.S.map (·.1)).length = s.length := by rw [← hsk, List.length_map]
        have P : (0 : Nat) = 0 ∧ ((St i).1.remove M.dir (nmI 98 n)).1.WF ∧ ((St i).1.remove M.dir (nmI 98 n)).1.steps ≤ A.steps + s.length := ⟨rfl, W', by simp only [] at h2 ⊢; simp only [hlen] at h2; omega⟩
        exact (sat_pur.2 ⟨P, H10⟩).bk 3
       exact hgo g6 Hf
     · have hst2 : St (i + 1) = (((St i).1.remove M.dir (nmI 98 n)).1, (St i).2.1, (St i).2.2.1, ((St i).1.remove M.dir (nmI 98 n)).2) := by
        rw [hst];rw [AF.goG_2 hp hr]
       rw [err_bne hr, cond_true];refine StCC (H7.mv 5) (by exact Nat.zero_lt_one) rfl fun g5 H8 => ?_;have H9 := H8.bk 5;have H10 := (riseT_tab (H9.mv 2)).bk 2;have htot : Rs = St (i + 1) := by
        have e1 : M.S.map (·.1) = (M.S.map (·.1)).take (i + 1) ++ (M.S.map (·.1)).drop (i + 1) := (List.take_append_drop ..).symm;show goG _ _ _ (M.S.map (·.1)) _ _ _ = _;rw [e1];refine AF.goG_fail _ _ _ _ _ ?_;have : (St (i + 1)).2.2.2 ≠ 0 := by rw [hst2]; exact hr
        exact this
       have hwf := AF.goG_wf (dir := M.dir) (c := 98) (p := p 98) (M.S.map (·.1)) A M.S false W;have Hf : sat (pt L (rec .busy none) :: markD h6.size :: remX Bs ms b0 b1 b2 b3 b fsb (.func gf gp gc) (logC5 fsb M.dir ms mf mm) (tabM Bb mf M.Fo) (tabM Bs mm M.D) C (A.steps + s.length) F Rs .ret) g5 := by
        have hlen : (M.S.map (·.1)).length = s.length := by rw [← hsk, List.length_map]
        have hw2 : Rs.1.steps ≤ _ := hwf.2;rw [hlen] at hw2;have hw3 : Rs.1.WF := hwf.1;have hw4 : Rs.2.2.2 ≠ 0 := by rw [htot, hst2]; exact hr
        have H11 : sat (pur (Rs.2.2.2 ≠ 0 ∧ Rs.1.WF ∧ Rs.1.steps ≤ (A.steps + s.length) ∧ Code.ret = .ret) :: _) g5 := sat_pur.2 ⟨⟨hw4, hw3, by omega, rfl⟩, H10⟩;have H12 := H11.bk 2;rw [htot, hst2] at H12 ⊢;exact H12
       exact hstop .ret g5 Hf
   · have hpf : p 98 n = false := by cases h : p 98 n with
      | true => exact absurd h hp
      | false => rfl
     rw [hpf, cond_false];have hst2 : St (i + 1) = St i := by
      rw [hst];rw [AF.goG_3 hp];exact Prod.ext rfl (Prod.ext rfl (Prod.ext rfl he.symm))
     have Hf : sat (pt L (rec .busy none) :: markD h6.size :: riseT Bs kb tb ms a c 214 s (i + 1) (St (i + 1)).2.1 :: remG b0 b1 b2 b3 b fsb (.func gf gp gc) (logC5 fsb M.dir ms mf mm) (tabM Bb mf M.Fo) (tabM Bs mm M.D) C (A.steps + s.length) F (St (i + 1))) (h2.setIfInBounds L (rec .busy none)) := by
      rw [hst2];have H5 := (riseT_next (H4.mv 2)).bk 2;exact (sat_pur.2 ⟨(⟨he, Wi, hsi⟩ : (St i).2.2.2 = 0 ∧ (St i).1.WF ∧ (St i).1.steps ≤ A.steps + s.length), H5⟩).bk 3
     exact hgo _ Hf
 · -- the folds
   intro h7 H9;refine ⟨.inl rfl, fun _ => ?_, fun e => by cases e⟩;rw [hRs] at H9;obtain ⟨⟨he, _, _⟩, H10⟩ := sat_pur.1 (H9.mv 2);have H11 := (riseT_tab (H10.mv 1)).bk 1;refine VPt (H11.mv 2).get ?_;rw [NN'_some];refine LdMp (x := mf) (H11.mv 6) rfl ?_;refine (F214_rise (H11.mv 7) (by omega)).mono ?_;rintro v h9 ⟨kb, tb, a, c, s, rfl, hsk, hnd, H12⟩;have hsl : s.length = M.Fo.length := by
    have := congrArg List.length hsk;simpa using this
   refine ⟨_, rfl, ?_⟩
   let St : Nat → GoSt Unit := fun i => goG M.dir 102 (p 102) ((M.Fo.map (·.1)).take i) Rs.1 M.Fo Rs.2.2.1
   let Rf : GoSt Unit := goG M.dir 102 (p 102) (M.Fo.map (·.1)) Rs.1 M.Fo Rs.2.2.1
   have hRf : St s.length = Rf := by
    show goG _ _ _ ((M.Fo.map (·.1)).take s.length) _ _ _ = _;rw [List.take_of_length_le (by rw [List.length_map]; omega)]
   have H13 : sat (riseT Bb kb tb mf a c 219 s 0 (St 0).2.1 :: remG b0 b1 b2 b3 b fsb (.func gf gp gc) (logC5 fsb M.dir ms mf mm) (tabM Bs ms Rs.2.1) (tabM Bs mm M.D) C (Rs.1.steps + s.length) (markD h6.size :: F) (St 0)) h9 :=
    (sat_pur.2 ⟨⟨rfl, WR, Nat.le_add_right _ _⟩, H12.ordT 11 [0, 3, 4, 5, 6, 7, 2, 8, 9, 10, 1]⟩ : sat (pur _ :: _) h9).bk 1
   have hFwf := AF.goG_wf (dir := M.dir) (c := 102) (p := p 102) (M.Fo.map (·.1)) Rs.1 M.Fo Rs.2.2.1 WR;have WF : Rf.1.WF := hFwf.1;have hFst : Rf.1.steps ≤ Rs.1.steps + M.Fo.length := by have := hFwf.2; rw [List.length_map] at this; exact this
   refine range_iterK s (fun x => [.int .i64 x.1, x.2]) (fun i => riseT Bb kb tb mf a c 219 s i (St i).2.1) (fun i => remG b0 b1 b2 b3 b fsb (.func gf gp gc) (logC5 fsb M.dir ms mf mm) (tabM Bs ms Rs.2.1) (tabM Bs mm M.D) C (Rs.1.steps + s.length) (markD h6.size :: F) (St i))
    (fun j => remX Bb mf b0 b1 b2 b3 b fsb (.func gf gp gc) (logC5 fsb M.dir ms mf mm) (tabM Bs ms Rs.2.1) (tabM Bs mm M.D) C (Rs.1.steps + s.length) (markD h6.size :: F) Rf j) H13 (fun _ => rfl)
    (fun yv G' Out h1 hh r f => F240_rise (by omega) (fun i => (St i).2.1) bb_bool yv G' Out h1 hh r f) ?_ ?_ ?_
   · -- a round
     intro i x L rec h2 Q hx H2 hgo hstop;obtain ⟨n, v⟩ := x;have hi := (List.getElem?_eq_some_iff.1 hx).1;have HL := H2.get;obtain ⟨⟨he, Wi, hsi⟩, H3⟩ := sat_pur.1 (H2.mv 3);have hn : (M.Fo.map (·.1))[i]? = some n := by rw [← hsk, List.getElem?_map, hx]; rfl
     have htake : (M.Fo.map (·.1)).take (i + 1) = (M.Fo.map (·.1)).take i ++ [n] := by rw [List.take_add_one, hn]; rfl
     have hst : St (i + 1) = goG M.dir 102 (p 102) [n] (St i).1 (St i).2.1 (St i).2.2.1 := by
      show goG _ _ _ ((M.Fo.map (·.1)).take (i + 1)) _ _ _ = _;rw [htake];exact AF.goG_more _ _ _ _ _ he
     obtain ⟨x, _, rfl⟩ := riseT_val (H3.mv 2) hx;refine ⟨n, true, rfl, HL, ?_⟩;have H4 := H3.set (rec .busy none);refine ⟨.func gf gp gc, by rw [cellAt_of (H4.mv 4).get]; rfl, .func gf gp gc, rfl, ?_⟩;refine (hg 102 n _ _ (.inr rfl) (H4.mv 11)).mono ?_;rintro v h3 ⟨rfl, rfl⟩;rw [DB_bool];by_cases hp : p 102 n = true
     · rw [hp, cond_true];refine VPt (H4.mv 3).get ?_;rw [NN'_some];refine LdPt (x := fsb) (H4.mv 7) rfl ?_;refine VPt (H4.mv 3).get ?_;rw [NN'_some];refine LdStr (x := M.dir) (H4.mv 7) rfl ?_;refine (F35_spec (n := n) H4).mono ?_;rintro v h3 ⟨rfl, H5⟩;rw [DS_string];refine ⟨VPt (H5.mv 3).get rfl, rfl, rfl, LdPt (x := fsb) (H5.mv 7) rfl rfl, VPt (H5.mv 3).get rfl, rfl, rfl, LdStr (x := M.dir) (H5.mv 7) rfl rfl, ?_, ?_⟩
       · have := size_nmI 102 n;rw [show (nmI 102 n).size = ((⟨#[102, 46]⟩ : ByteArray) ++ ofN (digs 16 (natOf n))).size from rfl, ByteArray.size_append] at this;omega
       refine (F84_spec (k := nmI 102 n) Wi (by omega) hd (by rw [size_nmI]; decide) (H5.mv 10)).mono ?_;rintro v h4 ⟨rfl, H6⟩;have H7 := H6.bk 10;rw [DI_int];by_cases hr : ((St i).1.remove M.dir (nmI 102 n)).2 = 0
       · have hst2 : St (i + 1) = (((St i).1.remove M.dir (nmI 102 n)).1, delT n (St i).2.1, true, 0) := by
          rw [hst];rw [AF.goG_1 hp hr]
          rfl
         rw [hr, show (((0 : Nat) : Int) != 0) = false from rfl, cond_false];refine VPt (H7.mv 3).get ?_;rw [NN'_some];refine LdMp (x := mf) (H7.mv 7) rfl ?_;refine riseT_del (kt := 2) (et := 4) (by kernel_rfl) (by kernel_rfl) hnd hx (H7.mv 2) fun g5 H8 => ?_;refine StCC ((H8.bk 2).mv 6) (by exact Nat.zero_lt_one) rfl fun g6 H9 => ?_;have H10 := H9.bk 6;have W' := Wi.remove M.dir (nmI 102 n);have Hf : sat (pt L (rec .busy none) :: markD h9.size :: riseT Bb kb tb mf a c 219 s (i + 1) (St (i + 1)).2.1 :: remG b0 b1 b2 b3 b fsb (.func gf gp gc) (logC5 fsb M.dir ms mf mm) (tabM Bs ms Rs.2.1) (tabM Bs mm M.D) C (Rs.1.steps + s.length) (markD h6.size :: F) (St (i + 1))) g6 := by
          rw [hst2];have h1 := (AF.goG_wf (dir := M.dir) (c := 102) (p := p 102) ((M.Fo.map (·.1)).take (i + 1)) Rs.1 M.Fo Rs.2.2.1 WR)
          have h2 : (St (i + 1)).1.steps ≤ _ := h1.2;rw [hst2, List.length_take] at h2;have hlen : (M.Fo.map (·.1)).length = s.length := by rw [← hsk, List.length_map]
          have P : (0 : Nat) = 0 ∧ ((St i).1.remove M.dir (nmI 102 n)).1.WF ∧ ((St i).1.remove M.dir (nmI 102 n)).1.steps ≤ Rs.1.steps + s.length := ⟨rfl, W', by simp only [] at h2 ⊢; simp only [hlen] at h2; omega⟩
          exact (sat_pur.2 ⟨P, H10⟩).bk 3
         exact hgo g6 Hf
       · have hst2 : St (i + 1) = (((St i).1.remove M.dir (nmI 102 n)).1, (St i).2.1, (St i).2.2.1, ((St i).1.remove M.dir (nmI 102 n)).2) := by
          rw [hst];rw [AF.goG_2 hp hr]
         rw [err_bne hr, cond_true];refine StCC (H7.mv 5) (by exact Nat.zero_lt_one) rfl fun g5 H8 => ?_;have H9 := H8.bk 5;have H10 := (riseT_tab (H9.mv 2)).bk 2;have htot : Rf = St (i + 1) := by
          have e1 : M.Fo.map (·.1) = (M.Fo.map (·.1)).take (i + 1) ++ (M.Fo.map (·.1)).drop (i + 1) := (List.take_append_drop ..).symm;show goG _ _ _ (M.Fo.map (·.1)) _ _ _ = _;rw [e1];refine AF.goG_fail _ _ _ _ _ ?_;have : (St (i + 1)).2.2.2 ≠ 0 := by rw [hst2]; exact hr
          exact this
         have hwf := AF.goG_wf (dir := M.dir) (c := 102) (p := p 102) (M.Fo.map (·.1)) Rs.1 M.Fo Rs.2.2.1 WR;have Hf : sat (pt L (rec .busy none) :: markD h9.size :: remX Bb mf b0 b1 b2 b3 b fsb (.func gf gp gc) (logC5 fsb M.dir ms mf mm) (tabM Bs ms Rs.2.1) (tabM Bs mm M.D) C (Rs.1.steps + s.length) (markD h6.size :: F) Rf .ret) g5 := by
          have hlen : (M.Fo.map (·.1)).length = s.length := by rw [← hsk, List.length_map]
          have hw2 : Rf.1.steps ≤ _ := hwf.2;rw [hlen] at hw2;have hw3 : Rf.1.WF := hwf.1;have hw4 : Rf.2.2.2 ≠ 0 := by rw [htot, hst2]; exact hr
          have H11 : sat (pur (Rf.2.2.2 ≠ 0 ∧ Rf.1.WF ∧ Rf.1.steps ≤ (Rs.1.steps + s.length) ∧ Code.ret = .ret) :: _) g5 := sat_pur.2 ⟨⟨hw4, hw3, by omega, rfl⟩, H10⟩;have H12 := H11.bk 2;rw [htot, hst2] at H12 ⊢;exact H12
         exact hstop .ret g5 Hf
     · have hpf : p 102 n = false := by cases h : p 102 n with
        | true => exact absurd h hp
        | false => rfl
       rw [hpf, cond_false];have hst2 : St (i + 1) = St i := by
        rw [hst];rw [AF.goG_3 hp];exact Prod.ext rfl (Prod.ext rfl (Prod.ext rfl he.symm))
       have Hf : sat (pt L (rec .busy none) :: markD h9.size :: riseT Bb kb tb mf a c 219 s (i + 1) (St (i + 1)).2.1 :: remG b0 b1 b2 b3 b fsb (.func gf gp gc) (logC5 fsb M.dir ms mf mm) (tabM Bs ms Rs.2.1) (tabM Bs mm M.D) C (Rs.1.steps + s.length) (markD h6.size :: F) (St (i + 1))) (h2.setIfInBounds L (rec .busy none)) := by
        rw [hst2];have H5 := (riseT_next (H4.mv 2)).bk 2;exact (sat_pur.2 ⟨(⟨he, Wi, hsi⟩ : (St i).2.2.2 = 0 ∧ (St i).1.WF ∧ (St i).1.steps ≤ Rs.1.steps + s.length), H5⟩).bk 3
       exact hgo _ Hf
   · intro h10 H14;refine ⟨.inl rfl, fun _ => ?_, fun e => by cases e⟩;rw [hRf] at H14;obtain ⟨⟨hef, _, _⟩, H15⟩ := sat_pur.1 (H14.mv 2);have H16 := (riseT_tab (H15.mv 1)).bk 1;refine VBo (H16.mv 5).get ?_;have hrem : M.remove A p = if Rf.2.2.1 = true then ((Rf.1.syncDir M.dir).1, { M with S := Rs.2.1, Fo := Rf.2.1 }, (Rf.1.syncDir M.dir).2) else (Rf.1, { M with S := Rs.2.1, Fo := Rf.2.1 }, 0) := by
      unfold AF.Meta.remove;show (if Rs.2.2.2 ≠ 0 then _ else if Rf.2.2.2 ≠ 0 then _ else _) = _;rw [if_neg (by rw [he]; exact fun h => h rfl), if_neg (by rw [hef]; exact fun h => h rfl)]
     rw [hrem]
     cases hsome : Rf.2.2.1 with
     | true =>
       rw [cond_true, if_pos rfl];refine VPt (H16.mv 2).get ?_;rw [NN'_some];refine LdPt (x := fsb) (H16.mv 6) rfl ?_;refine VPt (H16.mv 2).get ?_;rw [NN'_some];refine LdStr (x := M.dir) (H16.mv 6) rfl ?_;refine (F82_spec WF (by omega) hd (H16.mv 9)).mono ?_;rintro v h11 ⟨rfl, H17⟩;rw [DI_int];refine StCC (H17.mv 5) (by exact Nat.zero_lt_one) rfl fun h12 H18 => ?_;have H19 := H18.bk 5;refine ⟨(H19.mv 1).get, ?_⟩;have H20 := (H19.mv 1).set (.deferred none);refine ⟨(H20.mv 11).get, ?_⟩;have H21 := (H20.mv 11).set (.deferred none);refine VIn (H21.mv 6).get ?_;refine ⟨rfl, WF.syncDir _, ?_, ?_⟩
       · have := AF.syncDir_steps (A := Rf.1) M.dir;simp only [];omega
       · have H22 := H21.ordT 12 [8, 9, 3, 10, 2, 11];exact logM_shut (M := { M with S := Rs.2.1, Fo := Rf.2.1 }) H22
     | false =>
       rw [cond_false, if_neg (by decide)];refine StCC (H16.mv 4) (by exact Nat.zero_lt_one) rfl fun h12 H18 => ?_;have H19 := H18.bk 4;refine ⟨H19.get, ?_⟩;have H20 := H19.set (.deferred none);refine ⟨(H20.mv 11).get, ?_⟩;have H21 := (H20.mv 11).set (.deferred none);refine VIn (H21.mv 5).get ?_;refine ⟨rfl, WF, ?_, ?_⟩
       · simp only [];omega
       · exact logM_shut (M := { M with S := Rs.2.1, Fo := Rf.2.1 }) (H21.ordT 12 [7, 8, 2, 9, 10, 11])
   · intro j h10 H14;obtain ⟨⟨hef, _, _, rfl⟩, H15⟩ := sat_pur.1 (H14.mv 1);refine ⟨.inr rfl, (fun e => by cases e), fun _ => ?_⟩;refine ⟨H15.get, ?_⟩;have H20 := H15.set (.deferred none);refine ⟨(H20.mv 11).get, ?_⟩;have H21 := (H20.mv 11).set (.deferred none);refine VIn (H21.mv 5).get ?_;have hrem : M.remove A p = (Rf.1, { M with S := Rs.2.1, Fo := Rf.2.1 }, Rf.2.2.2) := by
      unfold AF.Meta.remove;show (if Rs.2.2.2 ≠ 0 then _ else if Rf.2.2.2 ≠ 0 then _ else _) = _;rw [if_neg (by rw [he]; exact fun h => h rfl), if_pos hef]
     rw [hrem];refine ⟨rfl, WF, ?_, ?_⟩
     · simp only [];omega
     · exact logM_shut (M := { M with S := Rs.2.1, Fo := Rf.2.1 }) (H21.ordT 12 [7, 8, 2, 9, 10, 11])
 · intro j h10 H14;obtain ⟨⟨hef, _, _, rfl⟩, H15⟩ := sat_pur.1 (H14.mv 1);refine ⟨.inr rfl, (fun e => by cases e), fun _ => ?_⟩;refine ⟨H15.get, ?_⟩;have H20 := H15.set (.deferred none);refine VIn (H20.mv 4).get ?_;have hrem : M.remove A p = (Rs.1, { M with S := Rs.2.1 }, Rs.2.2.2) := by
    unfold AF.Meta.remove;show (if Rs.2.2.2 ≠ 0 then _ else _) = _;rw [if_pos hef]
   rw [hrem];refine ⟨rfl, WR, ?_, ?_⟩
   · simp only [];omega
   · exact logM_shut (M := { M with S := Rs.2.1 }) (H20.ordT 11 [6, 1, 7, 8, 9, 10])
end
set_option maxRecDepth 20000 in
theorem or8_128 (m : Nat) : bitsI .or .u8 (IntKind.wrap .u8 (m : Int)) 128 = ((m % 128 + 128 : Nat) : Int) := by
 rw [u8_of_nat]
 have h : ∀ x : Fin 256, bitsI .or .u8 (x.val : Int) 128 = ((x.val % 128 + 128 : Nat) : Int) := by decide
 have := h ⟨m % 256, Nat.mod_lt _ (by decide)⟩
 rw [this]
 have e : m % 256 % 128 = m % 128 := Nat.mod_mod_of_dvd _ (by decide)
 simp only [e]
section
variable {F : List HProp} {h : Heap}
theorem F205_spec {n : Nat} (hn : n < 18446744073709551616) (H : sat F h) : CallsH Tryz.prog 205 [.int .u64 (n : Int)] h fun v h' => ∃ (a : Option Addr) (c : Nat), v = .slice a (numB n).length c ∧ sat (ownS 5 1 a (numB n).length c ((numB n).map nv) :: F) h' := by
 apply F205_ok.ap
 unfold F205
 refine ⟨fun (s : Int × Sl) h2 => ∃ (m : Nat) (pre : List Nat), s.1 = (m : Int) ∧ m < 18446744073709551616 ∧ pre ++ numB m = numB n ∧ s.2.l = pre.length ∧ pre.length < 64 ∧ (m < 2 ^ (64 - pre.length)) ∧ sat (ownS 5 1 s.2.a s.2.l s.2.c (pre.map nv) :: F) h2,
  fun s _ => s.1.toNat, ⟨n, [], rfl, hn, rfl, rfl, by decide, by simpa using hn, ownS_nil 5 1 H⟩, ?_⟩
 rintro ⟨s1, ⟨sa, sl, sc⟩⟩ h2 ⟨m, pre, rfl, hm, hp, rfl, hl, hm2, H2⟩
 simp only at H2 ⊢
 by_cases h128 : m < 128
 · rw [decide_eq_false (show ¬ ((m : Int) ≥ 128) by omega), cond_false];rw [numB_small h128] at hp;refine Al_sat H2 fun b1 h3 H3 => ?_;have e : IntKind.wrap .u8 (m : Int) = ((m : Nat) : Int) := by rw [u8_of_nat, Nat.mod_eq_of_lt (by omega)]
   rw [e] at H3;refine appB u40 src40 inf5b (H3.mv 1) (srcB (ys := [m]) (RdCf H3 rfl) rfl) (by omega) fun a' c' h4 _ H4 => ?_;rw [DSl_slice];rw [hp] at H4;have hlen : pre.length + 1 = (numB n).length := by rw [← hp]; simp
   rw [hlen] at H4 ⊢;exact ⟨a', c', rfl, (H4.mv 1).drop⟩
 · rw [decide_eq_true (show ((m : Int) ≥ 128) by omega), cond_true];rw [numB_big h128] at hp;refine Al_sat H2 fun b1 h3 H3 => ?_;rw [or8_128] at H3;refine appB u40 src40 inf5b (H3.mv 1) (srcB (ys := [m % 128 + 128]) (RdCf H3 rfl) rfl) (by omega) fun a' c' h4 _ H4 => ?_;rw [DSl_slice];refine ⟨by decide, ?_⟩;have e : shrI .u64 (m : Int) 7 = ((m / 128 : Nat) : Int) := shrI_nat .u64 m 7 (by decide);have hlt : pre.length + 1 < 64 := by
    rcases Nat.lt_or_ge (pre.length + 1) 64 with h | h
    · exact h
    · have : 2 ^ (64 - pre.length) ≤ 2 ^ 1 := Nat.pow_le_pow_right (by decide) (by omega);omega
   refine ⟨⟨m / 128, pre ++ [m % 128 + 128], e, by omega, ?_, by simp, by simpa using hlt, ?_, (H4.mv 1).drop⟩, ?_⟩
   · rw [List.append_assoc];exact hp
   · have h1 : 2 ^ (64 - pre.length) = 2 ^ (64 - (pre.length + 1)) * 2 := by
      rw [← Nat.pow_succ];congr 1;omega
     have : m / 128 < 2 ^ (64 - (pre.length + 1)) := by
      rw [Nat.div_lt_iff_lt_mul (by decide)];omega
     simpa using this
   · show (shrI .u64 (m : Int) 7).toNat < ((m : Int)).toNat;rw [e];omega
theorem F138_spec {s : ByteArray} (hs : s.size ≤ 1099511627776) (H : sat F h) : CallsH Tryz.prog 138 [.string s] h fun v h' => ∃ (a : Option Addr) (c : Nat), v = .slice a (wordB (sb s)).length c ∧ sat (ownS 5 1 a (wordB (sb s)).length c ((wordB (sb s)).map nv) :: F) h' := by
 apply F138_ok.ap
 unfold F138
 have e : IntKind.wrap .u64 ((s.size : Nat) : Int) = ((s.size : Nat) : Int) := IntWalk.u64_in _ (by omega)
 rw [e]
 refine (F205_spec (n := s.size) (by omega) H).mono ?_
 rintro v h1 ⟨a, c, rfl, H1⟩
 rw [DSl_slice]
 have hl := numB_length 6 s.size (by omega)
 refine appB u40 (by kernel_rfl) inf5b H1 (srcS s) (by omega) fun a' c' h2 _ H2 => ?_
 rw [DSl_slice]
 have e2 : wordB (sb s) = numB s.size ++ sb s := by unfold wordB; rw [sb_length]
 have e3 : (numB s.size).length + s.size = (wordB (sb s)).length := by rw [e2, List.length_append, sb_length]
 rw [← e2, e3] at H2
 rw [e3]
 exact ⟨a', c', rfl, H2⟩
theorem F137_spec {k x : ByteArray} (hk : k.size ≤ 1000000000) (hx : x.size ≤ 1000000000) (H : sat F h) : CallsH Tryz.prog 137 [.agg #[.string k, .string x]] h fun v h' => ∃ (a : Option Addr) (c : Nat), v = .slice a (pairB (sb k, sb x)).length c ∧ sat (ownS 5 1 a (pairB (sb k, sb x)).length c ((pairB (sb k, sb x)).map nv) :: F) h' := by
 apply F137_ok.ap
 unfold F137
 refine Al_sat H fun b0 h1 H1 => ?_
 refine LdStr (x := k) H1 rfl ?_
 refine LdStr (x := x) H1 rfl ?_
 refine (F138_spec (by omega) H1).mono ?_
 rintro v h2 ⟨a, c, rfl, H2⟩
 rw [DSl_slice]
 refine ⟨rfl, LdStr (x := x) (H2.mv 1) rfl rfl, ?_⟩
 refine (F138_spec (by omega) H2).mono ?_
 rintro v h3 ⟨a2, c2, rfl, H3⟩
 rw [DSl_slice]
 have l1 : (wordB (sb k)).length ≤ 2000000000 := by
  unfold wordB;have := numB_length 6 (sb k).length (by rw [sb_length]; omega);rw [List.length_append, sb_length] at *;omega
 have l2 : (wordB (sb x)).length ≤ 2000000000 := by
  unfold wordB;have := numB_length 6 (sb x).length (by rw [sb_length]; omega);rw [List.length_append, sb_length] at *;omega
 refine appB u40 src40 inf5b (H3.mv 1) (srcB (ownS_read H3) rfl) (by omega) fun a' c' h4 _ H4 => ?_
 rw [DSl_slice]
 have e3 : (wordB (sb k)).length + (wordB (sb x)).length = (pairB (sb k, sb x)).length := by unfold pairB; rw [List.length_append]
 rw [e3] at H4 ⊢
 exact ⟨a', c', rfl, (H4.ordT 3 [0])⟩
def pairC (p : ByteArray × ByteArray) : List Value := [.string p.1, .string p.2]
theorem pairC_len (p : ByteArray × ByteArray) : (pairC p).length = 2 := rfl
def pairsN (ps : List (ByteArray × ByteArray)) : List Nat := pairsB (ps.map fun p => (sb p.1, sb p.2))
def preN (n : Nat) (ps : List (ByteArray × ByteArray)) : List Nat := numB n ++ ps.flatMap fun p => pairB (sb p.1, sb p.2)
theorem preN_all (ps : List (ByteArray × ByteArray)) : preN ps.length ps = pairsN ps := by
 unfold preN pairsN pairsB
 rw [List.length_map, List.flatMap_map]
theorem preN_le (n : Nat) (ps : List (ByteArray × ByteArray)) (i : Nat) : (preN n (ps.take i)).length ≤ (preN n ps).length := by
 unfold preN
 rw [List.length_append, List.length_append]
 have : (ps.flatMap fun p => pairB (sb p.1, sb p.2)) = ((ps.take i).flatMap fun p => pairB (sb p.1, sb p.2)) ++ ((ps.drop i).flatMap fun p => pairB (sb p.1, sb p.2)) := by
  rw [← List.flatMap_append, List.take_append_drop]
 rw [this, List.length_append]
 omega
theorem F136_spec {la : Option Addr} {ll lc : Nat} {ps : List (ByteArray × ByteArray)} (hr : ∀ h', sat F h' → RdC h' la (ps.flatMap pairC)) (hl : ps.length = ll) (hll : ll < 1000000000) (hp : ∀ p ∈ ps, p.1.size ≤ 1000000000 ∧ p.2.size ≤ 1000000000) (hsz : (pairsN ps).length ≤ 1099511627776) (H : sat F h) :
  CallsH Tryz.prog 136 [.slice la ll lc, .func (.func 137) #[] #[]] h fun v h' => ∃ (a : Option Addr) (c : Nat), v = .slice a (pairsN ps).length c ∧ sat (ownS 5 1 a (pairsN ps).length c ((pairsN ps).map nv) :: F) h' := by
 apply F136_ok.ap
 unfold F136
 have e : IntKind.wrap .u64 ((ll : Nat) : Int) = ((ps.length : Nat) : Int) := by rw [hl]; exact IntWalk.u64_in _ (by omega)
 rw [e]
 refine (F205_spec (n := ps.length) (by omega) H).mono ?_
 rintro v h1 ⟨a, c, rfl, H1⟩
 rw [DSl_slice]
 rw [← preN_all] at hsz
 refine LoopH.upto ll (fun i (s : Sl × Int) h2 => s.2 = (i : Int) ∧ i ≤ ll ∧ s.1.l = (preN ps.length (ps.take i)).length ∧ sat (ownS 5 1 s.1.a s.1.l s.1.c ((preN ps.length (ps.take i)).map nv) :: F) h2) (fun s => ll - s.2.toNat) (fun i s h2 hh => ⟨hh.2.1, by rw [hh.1]; omega⟩)
  ⟨rfl, Nat.zero_le _, by simp [preN], by simpa [preN] using H1⟩ ?_ ?_
 · rintro i ⟨⟨sa, sl, sc⟩, s2⟩ h2 again hi ⟨rfl, _, rfl, H2⟩ go;simp only at H2 ⊢;rw [decide_eq_true (show ((i : Int) < (ll : Int)) by omega), cond_true];obtain ⟨⟨k, x⟩, hx⟩ : ∃ x, ps[i]? = some x := ⟨_, List.getElem?_eq_getElem (by omega)⟩
   have hkx : k.size ≤ 1000000000 ∧ x.size ≤ 1000000000 := hp _ (List.mem_of_getElem? hx);refine IdxC (f := pairC) (sz := 2) (x := (k, x)) pairC_len (by decide) (hr _ H2.drop) hl hx fun b hb hc => ?_;refine ⟨.string k, hc 0 _ rfl, .string x, hc 1 _ rfl, k, x, rfl, ?_⟩;refine Al_sat H2 fun b1 h3 H3 => ?_;simp only [addr_add0];refine StC_sat H3 (by decide) (nofz_zero 2 0 (by decide)) fun h4 H4 => ?_;refine StC_sat (i := 1) H4 (by simp) (nofz_zero 2 1 (by decide)) fun h5 H5 => ?_;have H6 : sat (pt b1 (.cells #[.string k, .string x] 96 (0, 0)) :: ownS 5 1 sa (preN ps.length (ps.take i)).length sc ((preN ps.length (ps.take i)).map nv) :: F) h5 := H5;refine ⟨.string k, by rw [cellAt_of H6.get]; rfl, ?_⟩;refine ⟨.string x, cell_pt (i := 1) H6 rfl, k, x, rfl, ?_⟩;refine CallV_fn ?_;refine (F137_spec hkx.1 hkx.2 H6).mono ?_;rintro v h6 ⟨a2, c2, rfl, H7⟩;rw [DSl_slice];have hpre : preN ps.length (ps.take (i + 1)) = preN ps.length (ps.take i) ++ pairB (sb k, sb x) := by
    rw [List.take_add_one, hx];unfold preN;rw [List.flatMap_append, ← List.append_assoc];simp
   have hle := preN_le ps.length ps (i + 1);rw [hpre, List.length_append] at hle;refine appB u40 src40 inf5b (H7.mv 2) (srcB (ownS_read H7) rfl) (by omega) fun a' c' h8 _ H8 => ?_;rw [DSl_slice, wrap64_succ (by omega)];refine go _ _ ⟨rfl, by omega, ?_, ?_⟩
   · rw [hpre, List.length_append]
   · rw [hpre];exact (H8.mv 1).drop.mv 1 |>.drop
 · rintro ⟨⟨sa, sl, sc⟩, s2⟩ h2 again ⟨rfl, _, rfl, H2⟩;simp only at H2 ⊢;rw [decide_eq_false (by omega), cond_false];rw [List.take_of_length_le (by omega), preN_all] at H2 ⊢;exact ⟨sa, sc, rfl, H2⟩
theorem F44_spec {la : Option Addr} {ll lc : Nat} {ps : List (ByteArray × ByteArray)} (hr : ∀ h', sat F h' → RdC h' la (ps.flatMap pairC)) (hl : ps.length = ll) (hll : ll < 1000000000) (hp : ∀ p ∈ ps, p.1.size ≤ 1000000000 ∧ p.2.size ≤ 1000000000) (hsz : (pairsN ps).length ≤ 1099511627776) (H : sat F h) :
  CallsH Tryz.prog 44 [.slice la ll lc] h fun v h' => (16777216 < (pairsN ps).length ∧ v = .tuple #[.slice none 0 0, .int .i64 42] ∧ sat F h') ∨
   ((pairsN ps).length ≤ 16777216 ∧ ∃ (a : Option Addr) (c : Nat), v = .tuple #[.slice a (pairsN ps).length c, .int .i64 0] ∧ sat (ownS 5 1 a (pairsN ps).length c ((pairsN ps).map nv) :: F) h') := by
 apply F44_ok.ap
 unfold F44
 refine (F136_spec hr hl hll hp hsz H).mono ?_
 rintro v h1 ⟨a, c, rfl, H1⟩
 rw [DSl_slice]
 apply F135_ok.ap
 unfold F135
 by_cases hb : 16777216 < (pairsN ps).length
 · rw [decide_eq_true (show (((pairsN ps).length : Int) > 16777216) by omega), cond_true];exact ⟨none, 0, 0, 42, rfl, .inl ⟨hb, rfl, H1.drop⟩⟩
 · rw [decide_eq_false (show ¬ (((pairsN ps).length : Int) > 16777216) by omega), cond_false];exact ⟨a, _, c, 0, rfl, .inr ⟨by omega, a, c, rfl, H1⟩⟩
end
def Madeat {κ : Type} (E : Keys κ) (es : Array MapEntry) (k : κ) (n : Nat) : Prop := ∃ (j : Nat) (e : MapEntry), es.toList[j]? = some e ∧ e.key = E.enc k ∧ e.born = n
theorem updM_updM {κ : Type} [DecidableEq κ] (m : List (κ × Value)) (k : κ) (v u : Value) : updM (updM m k v) k u = updM m k u := by
 unfold updM
 by_cases ha : m.any (fun p => decide (p.1 = k)) = true
 · have h2 : ((m.map fun p => if p.1 = k then (k, v) else p).any fun p => decide (p.1 = k)) = true := by
    rw [List.any_eq_true] at ha ⊢;obtain ⟨p, hp, e⟩ := ha;exact ⟨(k, v), List.mem_map.2 ⟨p, hp, if_pos (by simpa using e)⟩, by simp⟩
   simp only [ha, if_true, h2];rw [List.map_map];apply List.map_congr_left;intro p _;by_cases e : p.1 = k <;> simp [e]
 · have hf : m.any (fun p => decide (p.1 = k)) = false := by
    cases h : m.any (fun p => decide (p.1 = k)) with
    | true => exact absurd h ha
    | false => rfl
   have h2 : ((m ++ [(k, v)]).any fun p => decide (p.1 = k)) = true := by simp
   simp only [hf, Bool.false_eq_true, if_false, h2, if_true];rw [List.map_append];congr 1
   · conv => rhs; rw [← List.map_id m]
     apply List.map_congr_left;intro p hp;have : p.1 ≠ k := fun e => by
      rw [List.any_eq_false] at hf;exact hf p hp (by simpa using e)
     simp [this]
   · simp
theorem mapEntry_sat {κ : Type} [DecidableEq κ] {P : Program} {E : Keys κ} {T kt et : TypeId} {b : Nat} {m : List (κ × Value)} {F : List HProp} {h : Heap} {k : κ} {z : Value} {K : Value → Heap → Prop}
  (hT : P.underlying T = some (.map kt et)) (hd : P.underlying kt = some E.desc) (hz : ∀ w, (zeroValue et).run P w = .ok z w) (H : sat (ownM E b m :: F) h)
  (hK : ∀ v (n : Nat) es clock h', MapIs E es clock (updM m k v) → Madeat E es k n → sat (pt b (.map es clock) :: F) h' → K (.tuple #[v, .int .i64 (n : Int)]) h') :
  RunH P (Instr.mapEntry T (.map (some b)) (E.enc k)) h K := by
 intro w hw
 subst hw
 obtain ⟨es, clock, hm, H2⟩ := ownM_open H
 have hb := H2.get
 obtain ⟨f, hf, hl, hcase⟩ := hm.find k
 rcases hcase with ⟨rfl, hno, hnk⟩ | ⟨j, e, u, rfl, hj, hek, hmj⟩
 · refine ⟨.tuple #[z, .int .i64 (clock : Int)], { w with heap := w.heap.setIfInBounds b (.map (es.push { key := E.enc k, val := z, born := clock }) (clock + 1)) }, ?_, ⟨rfl, rfl, rfl⟩, hK z clock (es.push { key := E.enc k, val := z, born := clock }) (clock + 1) _ ⟨stamped_push hm.1 hnk, ?_⟩ ⟨es.size, { key := E.enc k, val := z, born := clock }, by simp, rfl, rfl⟩ (H2.set _)⟩
   · simp [Instr.mapEntry, run_underlying hT, MapKept.run_getObj_map hb, MapKept.run_checkKey hd (E.isKey k), MapKept.run_findKey hd hf, MapKept.run_setObj_map _ hb, Result.andThen, hz, goInt]
   · have hany : m.any (fun p => decide (p.1 = k)) = false := by
      rw [List.any_eq_false];intro p hp;simpa using hno p hp
     simp [updM, hany, hm.2]
 · have hj' : es[j]? = some e := by simpa using hj
   have hkey : ∀ e', es[j]? = some e' → ({ e' with key := E.enc k } : MapEntry).key = e'.key := fun e' he' => by rw [hj'] at he'; cases he'; exact hek.symm
   have hev : e.val = u := by
    obtain ⟨p, hp, _, hv⟩ := hm.at hj;rw [hmj] at hp;cases hp;exact hv
   refine ⟨.tuple #[u, .int .i64 (e.born : Int)], { w with heap := w.heap.setIfInBounds b (.map (es.modify j fun e => { e with key := E.enc k }) clock) }, ?_, ⟨rfl, rfl, rfl⟩,
    hK u e.born (es.modify j fun e => { e with key := E.enc k }) clock _ ⟨stamped_modify hm.1 _ _ (fun _ _ => rfl) (fun e' _ he' => hkey e' he'), ?_⟩ ⟨j, { e with key := E.enc k }, ?_, rfl, rfl⟩ (H2.set _)⟩
   · simp [Instr.mapEntry, run_underlying hT, MapKept.run_getObj_map hb, MapKept.run_checkKey hd (E.isKey k), MapKept.run_findKey hd hf, hj', hek, MapKept.run_keyThatStays (E.isKey k), MapKept.run_setObj_map _ hb, Result.andThen, goInt]
   · have hany : m.any (fun p => decide (p.1 = k)) = true := by
      rw [List.any_eq_true];exact ⟨(k, u), List.mem_of_getElem? hmj, by simp⟩
     have e0 : es.modify j (fun e => { e with key := E.enc k }) = es := by
      apply Array.ext_getElem?;intro i;rw [Array.getElem?_modify];by_cases h : j = i
      · subst h;rw [if_pos rfl, hj'];simp [← hek]
      · rw [if_neg h]
     rw [e0, hm.2];congr 1;simp only [updM, hany, if_true];rw [← upd_modify m j k u u hm.nodup hmj];apply List.ext_getElem?;intro i;rw [List.getElem?_modify];by_cases h : j = i
     · subst h;simp [hmj]
     · simp [h]
   · rw [Array.toList_modify, List.getElem?_modify, hj];simp
theorem entryStore_sat {κ : Type} [DecidableEq κ] {P : Program} {E : Keys κ} {T : TypeId} {b : Nat} {m : List (κ × Value)} {F : List HProp} {h : Heap} {k : κ} {u : Value} {n : Nat} {es : Array MapEntry} {clock : Nat} {K : Heap → Prop}
  (hm : MapIs E es clock m) (hat : Madeat E es k n) (H : sat (pt b (.map es clock) :: F) h) (hK : ∀ h', sat (ownM E b (updM m k u) :: F) h' → K h') : RunU P (Instr.entryStore T (.map (some b)) (.int .i64 (n : Int)) u) h K := by
 intro w hw
 subst hw
 obtain ⟨j, e, hj, hek, hen⟩ := hat
 have hj' : es[j]? = some e := by simpa using hj
 obtain ⟨p, hp, hpk, hpv⟩ := hm.at hj
 have hpe : p.1 = k := E.inj _ _ (by rw [← hpk, hek])
 have hmj : m[j]? = some (k, p.2) := by rw [hp, ← hpe]
 have hfi : es.findIdx? (fun e => (e.born : Int) == (n : Int)) = some j := by
  rw [Array.findIdx?_eq_some_iff_getElem];obtain ⟨hlt, he⟩ := Array.getElem?_eq_some_iff.1 hj';refine ⟨hlt, by rw [he, hen]; simp, fun i hi => ?_⟩;have hn := hm.1.2.1;intro hc;have h1 : (es.toList.map (·.born))[i]? = some n := by
   rw [List.getElem?_map, Array.getElem?_toList, Array.getElem?_eq_getElem (by omega)];have : (es[i].born : Int) = n := by simpa using hc
   simp only [Option.map_some];congr 1;omega
  have h2 : (es.toList.map (·.born))[j]? = some n := by rw [List.getElem?_map, hj, ← hen]; rfl
  obtain ⟨a1, b1⟩ := List.getElem?_eq_some_iff.1 h1;obtain ⟨a2, b2⟩ := List.getElem?_eq_some_iff.1 h2;have := List.pairwise_iff_getElem.1 hn i j a1 a2 hi;rw [b1, b2] at this;exact this rfl
 refine ⟨{ w with heap := w.heap.setIfInBounds b (.map (es.modify j fun e => { e with val := u }) clock) }, ?_, ⟨rfl, rfl, rfl⟩, hK _ (ownM_shut (es := es.modify j fun e => { e with val := u }) (clock := clock) ⟨stamped_modify hm.1 _ _ (fun _ _ => rfl) (fun e' _ he' => rfl), ?_⟩ (H.set _))⟩
 · simp [Instr.entryStore, MapKept.run_getObj_map H.get, asInt, asIntOf, hfi, MapKept.run_setObj_map _ H.get, Result.andThen]
 · have hany : m.any (fun p => decide (p.1 = k)) = true := by
    rw [List.any_eq_true];exact ⟨(k, p.2), List.mem_of_getElem? hmj, by simp⟩
   simp only [updM, hany, if_true];rw [← upd_modify m j k u p.2 hm.nodup hmj];rw [Array.toList_modify];apply List.ext_getElem?;intro i;have h0 : (es.toList.map fun e : MapEntry => (e.key, e.val))[i]? = (m.map fun p => (E.enc p.1, p.2))[i]? := by rw [hm.2]
   rw [List.getElem?_map, List.getElem?_map] at h0;rw [List.getElem?_map, List.getElem?_map, List.getElem?_modify, List.getElem?_modify];by_cases h : j = i
   · subst h;simp [hj, hmj, hek]
   · simp only [h, if_false, Option.map_id'];simpa using h0
namespace AF
open Frame (packN)
theorem Upd.refl {A : FS} {dir : ByteArray} {U : Dirc} (L : Live A) (H : Has A dir U) : Upd 0 0 0 A A dir U :=
 ⟨L, H, fun _ _ _ h => h, fun _ _ h => h, rfl, Nat.le_refl _, Nat.le_refl _, Nat.le_refl _⟩
theorem filter_id {β : Type} {l : List β} {p : β → Bool} (h : ∀ x ∈ l, p x = true) : l.filter p = l := List.filter_eq_self.2 h
theorem goG_ok {α : Type} (dir : ByteArray) {c : Nat} (hc : c < 256) (p : Int → Bool) : ∀ (l : List Int) (A : FS) (T : List (Int × α)) (s : Bool) (U : Dirc), Live A → Has A dir U → l.Nodup → (∀ n ∈ l, IdOk n) → (∀ n ∈ l, p n = true → ∃ x, getN U (nmI c n) = some x) →
  ∃ A', goG dir c p l A T s = (A', T.filter (fun q => !(decide (q.1 ∈ l) && p q.1)), s || l.any p, 0) ∧ Upd 0 0 l.length A A' dir (U.filter fun q => !(l.any fun n => p n && decide (q.1 = nmI c n)))
 | [], A, T, s, U, L, H, _, _, _ => by
   refine ⟨A, ?_, ?_⟩
   · simp only [goG, List.any_nil, Bool.or_false];rw [filter_id (by simp)]
   · rw [filter_id (by simp)];exact Upd.refl L H
 | n :: l, A, T, s, U, L, H, hn, hi, hg => by
   have hn2 := List.nodup_cons.1 hn;unfold goG;by_cases hp : p n = true
   · rw [if_pos hp];obtain ⟨x, hx⟩ := hg n (List.mem_cons_self ..) hp;obtain ⟨e, u⟩ := remove_ok L H hx;rw [if_pos e];obtain ⟨A', e2, u2⟩ := goG_ok dir hc p l (A.remove dir (nmI c n)).1 (delT n T) true (delN (nmI c n) U) u.live u.here hn2.2 (fun m hm => hi m (List.mem_cons_of_mem _ hm)) fun m hm hpm => by
      obtain ⟨y, hy⟩ := hg m (List.mem_cons_of_mem _ hm) hpm;refine ⟨y, ?_⟩;rw [getN_del_ne _ U]
      · exact hy
      · intro e3;have := (nmI_inj hc hc (hi n (List.mem_cons_self ..)) (hi m (List.mem_cons_of_mem _ hm)) e3).2;exact hn2.1 (by rw [this]; exact hm)
     refine ⟨A', ?_, ?_⟩
     · rw [e2];congr 1;congr 1
       · unfold delT;rw [List.filter_filter];apply List.filter_congr;intro q _;by_cases hq : q.1 = n
         · simp [hq, hp]
         · simp [hq]
       · congr 1;simp [hp]
     · have := u.trans u2;refine Upd.weak (n := 0 + 0) (k := 0 + 0) (s := 1 + l.length) ?_ (Nat.le_refl _) (Nat.le_refl _) (by simp; omega);have e4 : (delN (nmI c n) U).filter (fun q => !(l.any fun m => p m && decide (q.1 = nmI c m))) = U.filter fun q => !((n :: l).any fun m => p m && decide (q.1 = nmI c m)) := by
        unfold delN;rw [List.filter_filter];apply List.filter_congr;intro q _;simp only [List.any_cons, hp, Bool.true_and, Bool.not_or];exact Bool.and_comm _ _
       rw [← e4];exact this
   · rw [if_neg hp];obtain ⟨A', e2, u2⟩ := goG_ok dir hc p l A T s U L H hn2.2 (fun m hm => hi m (List.mem_cons_of_mem _ hm)) fun m hm hpm => hg m (List.mem_cons_of_mem _ hm) hpm;refine ⟨A', ?_, ?_⟩
     · rw [e2];congr 1;congr 1
       · apply List.filter_congr;intro q _;by_cases hq : q.1 = n
         · simp [hq, hp]
         · simp [hq]
       · congr 1;simp [hp]
     · have e4 : U.filter (fun q => !((n :: l).any fun m => p m && decide (q.1 = nmI c m))) = U.filter fun q => !(l.any fun m => p m && decide (q.1 = nmI c m)) := by
        apply List.filter_congr;intro q _;simp [hp]
       rw [e4];exact u2.weak (Nat.le_refl _) (Nat.le_refl _) (by simp)
def wt (E : Ent) : Nat := (E.map fun p => 30 + p.2.length).sum
theorem wt_filter (q : Int × List Nat → Bool) (E : Ent) : wt (E.filter q) ≤ wt E := sum_filter_le _ _ _
theorem hexN_length (n : Int) : (sb (hexN n)).length = 16 := by
 unfold hexN
 rw [sb_ofN (Hex.digs_B8 _ _), Hex.digs_length]
theorem pairsE_wt {E : Ent} (h : ∀ p ∈ E, p.2.length ≤ 5000) (hl : E.length < 34359738368) : (pairsE E).length ≤ 5 + wt E := by
 unfold pairsE pairsB
 rw [List.length_append, List.length_map]
 have h1 := numB_length 4 E.length (by omega)
 have h2 : ∀ E : Ent, (∀ p ∈ E, p.2.length ≤ 5000) → (((E.map fun p => (sb (hexN p.1), p.2)).flatMap pairB)).length ≤ wt E := by
  intro E h
  induction E with
  | nil => exact Nat.le_refl _
  | cons p E ih =>
    have := ih fun q hq => h q (List.mem_cons_of_mem _ hq);have h3 := h p (List.mem_cons_self ..);have h4 := numB_length 4 p.2.length (by omega);have h5 : (numB 16).length = 1 := by rw [numB_small (by decide)]; rfl
    have h6 : (pairB (sb (hexN p.1), p.2)).length ≤ 30 + p.2.length := by
     unfold pairB wordB;simp only [List.length_append, hexN_length, h5];omega
    unfold wt at this ⊢;rw [List.map_cons, List.flatMap_cons, List.length_append, List.map_cons, List.sum_cons];omega
 have := h2 E h
 omega
theorem hexN_B8 (n : Int) : B8 (sb (hexN n)) := sb_B8 _
theorem pairsE_B8 {E : Ent} (h : ∀ p ∈ E, B8 p.2) : B8 (pairsE E) := pairsB_B8 fun p hp => by
 obtain ⟨q, hq, rfl⟩ := List.mem_map.1 hp
 exact ⟨hexN_B8 _, h q hq⟩
section
variable {A : FS} {M : Meta} {T : Dirc}
theorem MInv.foOk (I : MInv A M T) : ∀ p ∈ M.Fo, IdOk p.1 := by
 intro p hp
 rcases I.fold with ⟨e, _⟩ | ⟨ht, e⟩
 · rw [e] at hp; cases hp
 · rw [e, List.mem_singleton] at hp;subst hp;obtain ⟨q, hq, e5⟩ := top_mem ht;simp only [← e5];exact (I.okD q hq).1
theorem MInv.foUp (I : MInv A M T) : UpT M.Fo := by
 rcases I.fold with ⟨e, _⟩ | ⟨ht, e⟩
 · rw [e]; exact List.Pairwise.nil
 · rw [e]; exact List.pairwise_singleton ..
theorem MInv.topFo (I : MInv A M T) : topT M.Fo = topT M.D := by
 rcases I.fold with ⟨e, e2⟩ | ⟨ht, e⟩
 · rw [e, e2]; rfl
 · rw [e];show max (-1) (topT M.D) = _;omega
theorem len_wt (E : Ent) : E.length ≤ wt E := by
 unfold wt
 induction E with
 | nil => exact Nat.le_refl _
 | cons p E ih => rw [List.length_cons, List.map_cons, List.sum_cons]; omega
end
end AF
open AF (Meta copyT topT nmI Ent)
theorem exi_in {α : Sort _} {A : α → HProp} {l : List HProp} {h : Heap} (x : α) (H : sat (A x :: l) h) : sat (exi A :: l) h := sat_exi.2 ⟨x, H⟩
def foldA (l_0 : Option Addr) (b1 b2 D : Nat) (h_22 : Heap) (Q : Value → Heap → Prop) : Prop :=
 Ld h_22 (Addr.mk b2 0 none) fun v9 => DSl v9 fun x16a x16l x16c =>
  CallsH Tryz.prog 44 [.slice x16a x16l x16c] h_22 fun r16 h_23 =>
  ∃ (x17a : Option Addr), ∃ (x17l : Nat), ∃ (x17c : Nat), ∃ (x18 : Int), r16 = .tuple #[.slice x17a x17l x17c, .int .i64 x18] ∧
  (bif (x18 : Int) != 0 then
   h_23[D]? = some (.deferred (some [])) ∧
   Q (.int .i64 x18) (h_23.setIfInBounds D (.deferred none))
  else
   NN' l_0 fun a2 =>
   Ld h_23 (a2.add 0) fun v10 => DP v10 fun x19 =>
   NN' l_0 fun a3 =>
   Ld h_23 (a3.add 1) fun v11 => DS v11 fun x20 =>
   Ld h_23 (Addr.mk b1 0 none) fun v12 => DI .i64 v12 fun x21 =>
   CallsH Tryz.prog 35 [.int .i64 x21] h_23 fun r17 h_24 =>
   DS r17 fun x22 =>
   (SameV (some (.pointer l_0)) (.pointer l_0)) ∧
   (NN' l_0 fun a4 =>
   SameV (some (.pointer (some a2))) (.pointer (some a4))) ∧
   (SameV (some (.pointer (some (a2.add 0)))) (.pointer (some (a2.add 0)))) ∧
   (Ld h_24 (a2.add 0) fun v13 => DP v13 fun x23 =>
   SameV (some (.pointer x19)) (.pointer x23)) ∧
   (SameV (some (.pointer l_0)) (.pointer l_0)) ∧
   (NN' l_0 fun a5 =>
   SameV (some (.pointer (some a3))) (.pointer (some a5))) ∧
   (SameV (some (.pointer (some (a3.add 1)))) (.pointer (some (a3.add 1)))) ∧
   (Ld h_24 (a3.add 1) fun v14 => DS v14 fun x24 =>
   SameV (some (.string x20)) (.string x24)) ∧
   (SameV (some (.slice x17a x17l x17c)) (.slice x17a x17l x17c)) ∧
   (⟨#[102, 46]⟩ : ByteArray).size + (x22 : ByteArray).size ≤ 9223372036854775807 ∧
   CallsH Tryz.prog 45 [.pointer x19, .string x20, .string (⟨#[102, 46]⟩ ++ x22), .slice x17a x17l x17c] h_24 fun r18 h_25 =>
   DI .i64 r18 fun e0 =>
   (bif (e0 : Int) != 0 then
    h_25[D]? = some (.deferred (some [])) ∧
    Q (.int .i64 e0) (h_25.setIfInBounds D (.deferred none))
   else
    Al h_25 (.map #[] 0) fun b4 h_26 =>
    CallsH Tryz.prog 124 [.pointer l_0] h_26 fun r20 h_27 =>
    DM r20 fun x25 =>
    RunH Tryz.prog (Instr.range 214 (.map x25)) h_27 fun r21 h_28 =>
    DP r21 fun p1 =>
    LoopH (fun again1 (s1 : Unit) h_29 =>
     RunH Tryz.prog (Instr.next (.pointer p1) false 0) h_29 fun r22 h_30 =>
     (
      r22 = .tuple #[.bool false] ∧
      NN' l_0 fun a6 =>
      Ld h_30 (a6.add 3) fun v15 => DM v15 fun x27 =>
      Ld h_30 (Addr.mk b1 0 none) fun v16 => DI .i64 v16 fun x28 =>
      RunH Tryz.prog (Instr.mapEntry 219 (.map x27) (.int .i64 x28)) h_30 fun r23 h_31 =>
      ∃ (x29 : Value), ∃ (x30 : Int), r23 = .tuple #[x29, .int .i64 x30] ∧
      (SameV (some (.pointer l_0)) (.pointer l_0)) ∧
      (SameV (some (.map (some b4))) (.map (some b4))) ∧
      RunU Tryz.prog (Instr.entryStore 219 (.map x27) (.int .i64 x30) (.bool true)) h_31 fun h_32 =>
      (SameV (some (.pointer l_0)) (.pointer l_0)) ∧
      (SameV (some (.map (some b4))) (.map (some b4))) ∧
      NN' l_0 fun a7 =>
      StC h_32 ((a7.add 4).add 0) (.map (some b4)) fun h_34 =>
      CallsH Tryz.prog 142 [.pointer l_0, .func (.func 143) #[] #[.pointer (some (Addr.mk b1 0 none))]] h_34 fun r26 h_35 =>
      DI .i64 r26 fun x31 =>
      h_35[D]? = some (.deferred (some [])) ∧
      Q (.int .i64 x31) (h_35.setIfInBounds D (.deferred none))) ∨ (
      ∃ (k1 x26 : Value), r22 = .tuple #[.bool true, k1, x26] ∧
      RunH Tryz.prog (Instr.entry (.pointer p1)) h_30 fun r27 h_36 =>
      ∃ (x32 : Int), ∃ (x33a : Option Addr), ∃ (x33l : Nat), ∃ (x33c : Nat), r27 = .tuple #[.int .i64 x32, .slice x33a x33l x33c] ∧
      Ld h_36 (Addr.mk b1 0 none) fun v17 => DI .i64 v17 fun x34 =>
      (bif decide ((x32 : Int) ≤ x34) then
       RunU Tryz.prog (Instr.mapUpdate 214 (.map (some b4)) (.int .i64 x32) (.slice x33a x33l x33c)) h_36 fun h_37 =>
       again1 () h_37
      else
       again1 () h_36))) () h_28))
def foldB (l_0 : Option Addr) (b1 b2 D : Nat) (h_18 : Heap) (Q : Value → Heap → Prop) : Prop :=
 Ld h_18 (Addr.mk b1 0 none) fun v4 => DI .i64 v4 fun x9 =>
  (bif decide ((x9 : Int) < 0) then
   h_18[D]? = some (.deferred (some [])) ∧
   Q (.int .i64 91) (h_18.setIfInBounds D (.deferred none))
  else
   Ld h_18 (Addr.mk b1 0 none) fun v5 => DI .i64 v5 fun x10 =>
   CallsH Tryz.prog 129 [.pointer l_0] h_18 fun r13 h_19 =>
   DI .i64 r13 fun x11 =>
   (Ld h_19 (Addr.mk b1 0 none) fun v6 => DI .i64 v6 fun x12 =>
   SameV (some (.int .i64 x10)) (.int .i64 x12)) ∧
   (bif (x11 : Int) == x10 then
    NN' l_0 fun a0 =>
    Ld h_19 (a0.add 3) fun v7 => DM v7 fun x13 =>
    ∃ es0, mapEs h_19 x13 es0 ∧
    NN' l_0 fun a1 =>
    Ld h_19 (a1.add 2) fun v8 => DM v8 fun x14 =>
    RunH Tryz.prog (Instr.range 214 (.map x14)) h_19 fun r14 h_20 =>
    DP r14 fun p0 =>
    LoopH (fun again0 (s0 : Bool) h_21 =>
     RunH Tryz.prog (Instr.next (.pointer p0) false 0) h_21 fun r15 h_22 =>
     (
      r15 = .tuple #[.bool false] ∧
      (bif s0 then
       h_22[D]? = some (.deferred (some [])) ∧
       Q (.int .i64 0) (h_22.setIfInBounds D (.deferred none))
      else
       Ld h_22 (Addr.mk b2 0 none) fun v9 => DSl v9 fun x16a x16l x16c =>
       CallsH Tryz.prog 44 [.slice x16a x16l x16c] h_22 fun r16 h_23 =>
       ∃ (x17a : Option Addr), ∃ (x17l : Nat), ∃ (x17c : Nat), ∃ (x18 : Int), r16 = .tuple #[.slice x17a x17l x17c, .int .i64 x18] ∧
       (bif (x18 : Int) != 0 then
        h_23[D]? = some (.deferred (some [])) ∧
        Q (.int .i64 x18) (h_23.setIfInBounds D (.deferred none))
       else
        NN' l_0 fun a2 =>
        Ld h_23 (a2.add 0) fun v10 => DP v10 fun x19 =>
        NN' l_0 fun a3 =>
        Ld h_23 (a3.add 1) fun v11 => DS v11 fun x20 =>
        Ld h_23 (Addr.mk b1 0 none) fun v12 => DI .i64 v12 fun x21 =>
        CallsH Tryz.prog 35 [.int .i64 x21] h_23 fun r17 h_24 =>
        DS r17 fun x22 =>
        (SameV (some (.pointer l_0)) (.pointer l_0)) ∧
        (NN' l_0 fun a4 =>
        SameV (some (.pointer (some a2))) (.pointer (some a4))) ∧
        (SameV (some (.pointer (some (a2.add 0)))) (.pointer (some (a2.add 0)))) ∧
        (Ld h_24 (a2.add 0) fun v13 => DP v13 fun x23 =>
        SameV (some (.pointer x19)) (.pointer x23)) ∧
        (SameV (some (.pointer l_0)) (.pointer l_0)) ∧
        (NN' l_0 fun a5 =>
        SameV (some (.pointer (some a3))) (.pointer (some a5))) ∧
        (SameV (some (.pointer (some (a3.add 1)))) (.pointer (some (a3.add 1)))) ∧
        (Ld h_24 (a3.add 1) fun v14 => DS v14 fun x24 =>
        SameV (some (.string x20)) (.string x24)) ∧
        (SameV (some (.slice x17a x17l x17c)) (.slice x17a x17l x17c)) ∧
        (⟨#[102, 46]⟩ : ByteArray).size + (x22 : ByteArray).size ≤ 9223372036854775807 ∧
        CallsH Tryz.prog 45 [.pointer x19, .string x20, .string (⟨#[102, 46]⟩ ++ x22), .slice x17a x17l x17c] h_24 fun r18 h_25 =>
        DI .i64 r18 fun e0 =>
        (bif (e0 : Int) != 0 then
         h_25[D]? = some (.deferred (some [])) ∧
         Q (.int .i64 e0) (h_25.setIfInBounds D (.deferred none))
        else
         Al h_25 (.map #[] 0) fun b4 h_26 =>
         CallsH Tryz.prog 124 [.pointer l_0] h_26 fun r20 h_27 =>
         DM r20 fun x25 =>
         RunH Tryz.prog (Instr.range 214 (.map x25)) h_27 fun r21 h_28 =>
         DP r21 fun p1 =>
         LoopH (fun again1 (s1 : Unit) h_29 =>
          RunH Tryz.prog (Instr.next (.pointer p1) false 0) h_29 fun r22 h_30 =>
          (
           r22 = .tuple #[.bool false] ∧
           NN' l_0 fun a6 =>
           Ld h_30 (a6.add 3) fun v15 => DM v15 fun x27 =>
           Ld h_30 (Addr.mk b1 0 none) fun v16 => DI .i64 v16 fun x28 =>
           RunH Tryz.prog (Instr.mapEntry 219 (.map x27) (.int .i64 x28)) h_30 fun r23 h_31 =>
           ∃ (x29 : Value), ∃ (x30 : Int), r23 = .tuple #[x29, .int .i64 x30] ∧
           (SameV (some (.pointer l_0)) (.pointer l_0)) ∧
           (SameV (some (.map (some b4))) (.map (some b4))) ∧
           RunU Tryz.prog (Instr.entryStore 219 (.map x27) (.int .i64 x30) (.bool true)) h_31 fun h_32 =>
           (SameV (some (.pointer l_0)) (.pointer l_0)) ∧
           (SameV (some (.map (some b4))) (.map (some b4))) ∧
           NN' l_0 fun a7 =>
           StC h_32 ((a7.add 4).add 0) (.map (some b4)) fun h_34 =>
           CallsH Tryz.prog 142 [.pointer l_0, .func (.func 143) #[] #[.pointer (some (Addr.mk b1 0 none))]] h_34 fun r26 h_35 =>
           DI .i64 r26 fun x31 =>
           h_35[D]? = some (.deferred (some [])) ∧
           Q (.int .i64 x31) (h_35.setIfInBounds D (.deferred none))) ∨ (
           ∃ (k1 x26 : Value), r22 = .tuple #[.bool true, k1, x26] ∧
           RunH Tryz.prog (Instr.entry (.pointer p1)) h_30 fun r27 h_36 =>
           ∃ (x32 : Int), ∃ (x33a : Option Addr), ∃ (x33l : Nat), ∃ (x33c : Nat), r27 = .tuple #[.int .i64 x32, .slice x33a x33l x33c] ∧
           Ld h_36 (Addr.mk b1 0 none) fun v17 => DI .i64 v17 fun x34 =>
           (bif decide ((x32 : Int) ≤ x34) then
            RunU Tryz.prog (Instr.mapUpdate 214 (.map (some b4)) (.int .i64 x32) (.slice x33a x33l x33c)) h_36 fun h_37 =>
            again1 () h_37
           else
            again1 () h_36))) () h_28)))) ∨ (
      ∃ (k0 x15 : Value), r15 = .tuple #[.bool true, k0, x15] ∧
      RunH Tryz.prog (Instr.entry (.pointer p0)) h_22 fun r29 h_38 =>
      ∃ (x35 : Int), ∃ (x36 : Value), r29 = .tuple #[.int .i64 x35, x36] ∧
      (bif s0 then
       Ld h_38 (Addr.mk b1 0 none) fun v18 => DI .i64 v18 fun x37 =>
       again0 (decide ((x35 : Int) > x37)) h_38
      else
       again0 false h_38))) ((((es0 : Array MapEntry).size : Int) : Int) == 1) h_20
   else
    NN' l_0 fun a8 =>
    Ld h_19 (a8.add 2) fun v19 => DM v19 fun x38 =>
    RunH Tryz.prog (Instr.range 214 (.map x38)) h_19 fun r30 h_39 =>
    DP r30 fun p2 =>
    LoopH (fun again2 (s2 : Bool) h_40 =>
     RunH Tryz.prog (Instr.next (.pointer p2) false 0) h_40 fun r31 h_41 =>
     (
      r31 = .tuple #[.bool false] ∧
      (bif s2 then
       h_41[D]? = some (.deferred (some [])) ∧
       Q (.int .i64 0) (h_41.setIfInBounds D (.deferred none))
      else
       Ld h_41 (Addr.mk b2 0 none) fun v20 => DSl v20 fun x40a x40l x40c =>
       CallsH Tryz.prog 44 [.slice x40a x40l x40c] h_41 fun r32 h_42 =>
       ∃ (x41a : Option Addr), ∃ (x41l : Nat), ∃ (x41c : Nat), ∃ (x42 : Int), r32 = .tuple #[.slice x41a x41l x41c, .int .i64 x42] ∧
       (bif (x42 : Int) != 0 then
        h_42[D]? = some (.deferred (some [])) ∧
        Q (.int .i64 x42) (h_42.setIfInBounds D (.deferred none))
       else
        NN' l_0 fun a9 =>
        Ld h_42 (a9.add 0) fun v21 => DP v21 fun x43 =>
        NN' l_0 fun a10 =>
        Ld h_42 (a10.add 1) fun v22 => DS v22 fun x44 =>
        Ld h_42 (Addr.mk b1 0 none) fun v23 => DI .i64 v23 fun x45 =>
        CallsH Tryz.prog 35 [.int .i64 x45] h_42 fun r33 h_43 =>
        DS r33 fun x46 =>
        (SameV (some (.pointer l_0)) (.pointer l_0)) ∧
        (NN' l_0 fun a11 =>
        SameV (some (.pointer (some a9))) (.pointer (some a11))) ∧
        (SameV (some (.pointer (some (a9.add 0)))) (.pointer (some (a9.add 0)))) ∧
        (Ld h_43 (a9.add 0) fun v24 => DP v24 fun x47 =>
        SameV (some (.pointer x43)) (.pointer x47)) ∧
        (SameV (some (.pointer l_0)) (.pointer l_0)) ∧
        (NN' l_0 fun a12 =>
        SameV (some (.pointer (some a10))) (.pointer (some a12))) ∧
        (SameV (some (.pointer (some (a10.add 1)))) (.pointer (some (a10.add 1)))) ∧
        (Ld h_43 (a10.add 1) fun v25 => DS v25 fun x48 =>
        SameV (some (.string x44)) (.string x48)) ∧
        (SameV (some (.slice x41a x41l x41c)) (.slice x41a x41l x41c)) ∧
        (⟨#[102, 46]⟩ : ByteArray).size + (x46 : ByteArray).size ≤ 9223372036854775807 ∧
        CallsH Tryz.prog 45 [.pointer x43, .string x44, .string (⟨#[102, 46]⟩ ++ x46), .slice x41a x41l x41c] h_43 fun r34 h_44 =>
        DI .i64 r34 fun e1 =>
        (bif (e1 : Int) != 0 then
         h_44[D]? = some (.deferred (some [])) ∧
         Q (.int .i64 e1) (h_44.setIfInBounds D (.deferred none))
        else
         Al h_44 (.map #[] 0) fun b5 h_45 =>
         CallsH Tryz.prog 124 [.pointer l_0] h_45 fun r36 h_46 =>
         DM r36 fun x49 =>
         RunH Tryz.prog (Instr.range 214 (.map x49)) h_46 fun r37 h_47 =>
         DP r37 fun p3 =>
         LoopH (fun again3 (s3 : Unit) h_48 =>
          RunH Tryz.prog (Instr.next (.pointer p3) false 0) h_48 fun r38 h_49 =>
          (
           r38 = .tuple #[.bool false] ∧
           NN' l_0 fun a13 =>
           Ld h_49 (a13.add 3) fun v26 => DM v26 fun x51 =>
           Ld h_49 (Addr.mk b1 0 none) fun v27 => DI .i64 v27 fun x52 =>
           RunH Tryz.prog (Instr.mapEntry 219 (.map x51) (.int .i64 x52)) h_49 fun r39 h_50 =>
           ∃ (x53 : Value), ∃ (x54 : Int), r39 = .tuple #[x53, .int .i64 x54] ∧
           (SameV (some (.pointer l_0)) (.pointer l_0)) ∧
           (SameV (some (.map (some b5))) (.map (some b5))) ∧
           RunU Tryz.prog (Instr.entryStore 219 (.map x51) (.int .i64 x54) (.bool true)) h_50 fun h_51 =>
           (SameV (some (.pointer l_0)) (.pointer l_0)) ∧
           (SameV (some (.map (some b5))) (.map (some b5))) ∧
           NN' l_0 fun a14 =>
           StC h_51 ((a14.add 4).add 0) (.map (some b5)) fun h_53 =>
           CallsH Tryz.prog 142 [.pointer l_0, .func (.func 143) #[] #[.pointer (some (Addr.mk b1 0 none))]] h_53 fun r42 h_54 =>
           DI .i64 r42 fun x55 =>
           h_54[D]? = some (.deferred (some [])) ∧
           Q (.int .i64 x55) (h_54.setIfInBounds D (.deferred none))) ∨ (
           ∃ (k3 x50 : Value), r38 = .tuple #[.bool true, k3, x50] ∧
           RunH Tryz.prog (Instr.entry (.pointer p3)) h_49 fun r43 h_55 =>
           ∃ (x56 : Int), ∃ (x57a : Option Addr), ∃ (x57l : Nat), ∃ (x57c : Nat), r43 = .tuple #[.int .i64 x56, .slice x57a x57l x57c] ∧
           Ld h_55 (Addr.mk b1 0 none) fun v28 => DI .i64 v28 fun x58 =>
           (bif decide ((x56 : Int) ≤ x58) then
            RunU Tryz.prog (Instr.mapUpdate 214 (.map (some b5)) (.int .i64 x56) (.slice x57a x57l x57c)) h_55 fun h_56 =>
            again3 () h_56
           else
            again3 () h_55))) () h_47)))) ∨ (
      ∃ (k2 x39 : Value), r31 = .tuple #[.bool true, k2, x39] ∧
      RunH Tryz.prog (Instr.entry (.pointer p2)) h_41 fun r45 h_57 =>
      ∃ (x59 : Int), ∃ (x60 : Value), r45 = .tuple #[.int .i64 x59, x60] ∧
      (bif s2 then
       Ld h_57 (Addr.mk b1 0 none) fun v29 => DI .i64 v29 fun x61 =>
       again2 (decide ((x59 : Int) > x61)) h_57
      else
       again2 false h_57))) false h_39))
def psE (E : Ent) : List (ByteArray × ByteArray) := E.map fun p => (AF.hexN p.1, ofN p.2)
theorem psE_pairs {E : Ent} (h : ∀ p ∈ E, B8 p.2) : pairsN (psE E) = AF.pairsE E := by
 unfold pairsN psE AF.pairsE
 congr 1
 rw [List.map_map]
 apply List.map_congr_left
 intro p hp
 simp only [Function.comp]
 rw [sb_ofN (h p hp)]
def upTo (E : Ent) (m : Int) : Ent := E.filter fun p => decide (p.1 ≤ m)
theorem getT_upTo (E : Ent) (m k : Int) : getT (upTo E m) k = if k ≤ m then getT E k else none := by
 unfold upTo
 rw [getT_filter (fun n => decide (n ≤ m)) E k]
 simp
def foldR (M : Meta) (A : AF.FS) (last : Int) : AF.FS × Meta × Nat :=
 if 16777216 < (AF.pairsE (upTo M.entries last)).length then (A, M, 42) else
 if (A.put M.dir (nmI 102 last) (AF.pairsE (upTo M.entries last))).2 ≠ 0 then ((A.put M.dir (nmI 102 last) (AF.pairsE (upTo M.entries last))).1, M, (A.put M.dir (nmI 102 last) (AF.pairsE (upTo M.entries last))).2) else
 Meta.remove { M with Fo := setT last () M.Fo, D := upTo M.entries last } (A.put M.dir (nmI 102 last) (AF.pairsE (upTo M.entries last))).1
  fun c n => if c = 98 then decide (n ≤ last) else decide (n ≠ last)
section
variable {F : List HProp} {h : Heap} {b fsb : Nat} {M : Meta} {A : AF.FS}
theorem F143_call {b1 : Nat} {last : Int} {F' : List HProp} {h' : Heap} (c : Nat) (n : Int) (hc : c = 98 ∨ c = 102) (H : sat (pt b1 (.cells #[.int .i64 last] 2 (0, 0)) :: F') h') :
  CallV Tryz.prog (.func (.func 143) #[] #[ptrV b1]) [.int .u8 (c : Int), .int .i64 n] h' fun v h'' => v = .bool (if c = 98 then decide (n ≤ last) else decide (n ≠ last)) ∧ h'' = h' := by
 refine CallV_fn ?_
 apply F143_ok.ap
 unfold F143
 rcases hc with rfl | rfl
 · rw [show ((((98 : Nat) : Int)) == 98) = true from rfl, cond_true];refine VIn H.get ?_;by_cases h : n ≤ last
   · rw [decide_eq_true h, cond_true];exact ⟨rfl, rfl⟩
   · rw [decide_eq_false h, cond_false, show ((((98 : Nat) : Int)) == 102) = false from rfl, cond_false];exact ⟨rfl, rfl⟩
 · rw [show ((((102 : Nat) : Int)) == 98) = false from rfl, cond_false, show ((((102 : Nat) : Int)) == 102) = true from rfl, cond_true];refine VIn H.get ?_;refine ⟨?_, rfl⟩;rw [if_neg (by decide)];by_cases h : n = last
   · rw [decide_eq_false (fun hh => hh h), h];simp
   · rw [decide_eq_true h];simp [h]
set_option maxHeartbeats 1000000 in
theorem foldA_spec {b1 b2 D : Nat} {last : Int} {pa : Option Addr} {pc : Nat} {Q : Value → Heap → Prop} (W : A.WF) (hs : A.steps + M.S.length + M.Fo.length + 30 < 1099511627776) (hd : M.dir.size < 4611686018427387904)
  (hE : ∀ p ∈ M.entries, B8 p.2 ∧ p.2.length ≤ 1000000000) (hEl : M.entries.length < 1000000000) (hsz : (AF.pairsE (upTo M.entries last)).length ≤ 1099511627776)
  (H : sat (pt b1 (.cells #[.int .i64 last] 2 (0, 0)) :: pt b2 (.cells #[.slice pa (upTo M.entries last).length pc] 91 (0, 0)) :: ownS 96 2 pa (upTo M.entries last).length pc ((psE (upTo M.entries last)).flatMap pairC) :: markD D :: logM b fsb M :: fsP fsb A :: F) h)
  (hQ : ∀ v h', Came b fsb A (M.S.length + M.Fo.length + 10) (foldR M A last) F v h' → Q v h') : foldA (some ⟨b, 0, none⟩) b1 b2 D h Q := by
 unfold foldA
 generalize hU : upTo M.entries last = U at *
 have hUm : ∀ p ∈ U, p ∈ M.entries := fun p hp => by rw [← hU] at hp; exact (List.mem_filter.1 hp).1
 have hUl : U.length < 1000000000 := by
  have : (upTo M.entries last).length ≤ M.entries.length := List.length_filter_le _ _;rw [hU] at this;omega
 have hpU : pairsN (psE U) = AF.pairsE U := psE_pairs fun p hp => (hE p (hUm p hp)).1
 have hplen : (psE U).length = U.length := List.length_map _
 refine VSl (H.mv 1).get ?_
 have hr : ∀ h', sat (pt b1 (.cells #[.int .i64 last] 2 (0, 0)) :: pt b2 (.cells #[.slice pa U.length pc] 91 (0, 0)) :: ownS 96 2 pa U.length pc ((psE U).flatMap pairC) :: markD D :: logM b fsb M :: fsP fsb A :: F) h' → RdC h' pa ((psE U).flatMap pairC) := fun h' hh => ownS_read (hh.mv 2)
 refine (F44_spec hr hplen (by omega) (fun p hp => ?_) (by rw [hpU]; exact hsz) H).mono ?_
 · obtain ⟨q, hq, rfl⟩ := List.mem_map.1 hp;have h1 := hE q (hUm q hq);have h2 : (ofN q.2).size = q.2.length := by rw [← sb_length, sb_ofN h1.1]
   have h3 := AF.hexN_length q.1;rw [sb_length] at h3;exact ⟨by simp only []; omega, by simp only []; omega⟩
 rw [hpU]
 rintro v h1 (⟨hbig, rfl, H1⟩ | ⟨hbig, a, c, rfl, H1⟩)
 · refine ⟨none, 0, 0, 42, rfl, ?_⟩;rw [show ((42 : Int) != 0) = true from rfl, cond_true];refine ⟨(H1.mv 3).get, hQ _ _ ?_⟩;have H2 := (H1.mv 3).set (.deferred none);unfold foldR;rw [hU, if_pos hbig];exact ⟨rfl, W, Nat.le_add_right _ _, H2.ordT 6 [4, 5]⟩
 refine ⟨a, _, c, 0, rfl, ?_⟩
 rw [show ((0 : Int) != 0) = false from rfl, cond_false, NN'_some]
 obtain ⟨ms, mf, mm, H2⟩ := logM_open (H1.mv 5)
 refine LdPt (x := fsb) H2 rfl ?_
 rw [NN'_some]
 refine LdStr (x := M.dir) H2 rfl ?_
 refine VIn (H2.mv 5).get ?_
 refine (F35_spec (n := last) H2).mono ?_
 rintro v h2 ⟨rfl, H3⟩
 rw [DS_string]
 refine ⟨rfl, rfl, rfl, LdPt (x := fsb) H3 rfl rfl, rfl, rfl, rfl, LdStr (x := M.dir) H3 rfl rfl, rfl, ?_, ?_⟩
 · have := size_nmI 102 last;rw [show (nmI 102 last).size = ((⟨#[102, 46]⟩ : ByteArray) ++ ofN (digs 16 (natOf last))).size from rfl, ByteArray.size_append] at this;omega
 have hrb : ∀ h', sat (pt b (.cells (logC5 fsb M.dir ms mf mm) 221 (0, 0)) :: tabM Bs ms M.S :: tabM Bb mf M.Fo :: tabM Bs mm M.D :: ownS 5 1 a (AF.pairsE U).length c ((AF.pairsE U).map nv) :: pt b1 (.cells #[.int .i64 last] 2 (0, 0)) :: pt b2 (.cells #[.slice pa U.length pc] 91 (0, 0)) :: ownS 96 2 pa U.length pc ((psE U).flatMap pairC) :: markD D :: F) h' → RdC h' a ((AF.pairsE U).map nv) := fun h' hh => ownS_read (hh.mv 4)
 refine (F45_spec (bs := AF.pairsE U) (name := nmI 102 last) W (by omega) hd (by rw [size_nmI]; decide) hrb (AF.pairsE_B8 fun p hp => (hE p (hUm p hp)).1) rfl (by omega) (H3.mv 9)).mono ?_
 rintro v h3 ⟨rfl, W3, hs3, H4⟩
 rw [DI_int]
 by_cases he0 : (A.put M.dir (nmI 102 last) (AF.pairsE U)).2 ≠ 0
 · have he := he0;rw [err_bne he, cond_true];refine ⟨(H4.mv 9).get, hQ _ _ ?_⟩;have H5 := (H4.mv 9).set (.deferred none);unfold foldR;rw [hU, if_neg (by omega), if_pos he];refine ⟨rfl, W3, by simp only []; omega, ?_⟩;exact logM_shut (H5.ordT 10 [2, 3, 4, 5, 1])
 have he : (A.put M.dir (nmI 102 last) (AF.pairsE U)).2 = 0 := by omega
 rw [he, show (((0 : Nat) : Int) != 0) = false from rfl, cond_false]
 refine Al_sat H4 fun b4 h4 H5 => ?_
 have H6 := tabM_new (R := Bs) H5
 have H7 : sat (logM b fsb M :: tabM Bs b4 [] :: fsP fsb (A.put M.dir (nmI 102 last) (AF.pairsE U)).1 :: pt b1 (.cells #[.int .i64 last] 2 (0, 0)) :: markD D :: F) h4 := logM_shut (H6.ordT 11 [2, 3, 4, 5, 0, 1, 7, 10])
 refine (F124_spec H7).mono ?_
 rintro v h5 ⟨eb, rfl, H8⟩
 rw [DM_map]
 obtain ⟨m, H9⟩ := tabM_open H8
 obtain ⟨es, clock, hm, H10⟩ := ownM_open H9
 have I := roP_get (H10.mv 1)
 have hSu := I.up
 have hperm := I.perm hm.nodup
 refine range_sat (k := 2) (e := 85) (by kernel_rfl) H10 H10.get fun r h6 H11 => ?_
 rw [DP_pointer]
 generalize hA1 : (A.put M.dir (nmI 102 last) (AF.pairsE U)).1 = A1 at *
 refine mapLoopI (mb := eb) hm (fun _ => ()) (G := fun done => [exi fun T' : Ent => Many [pur (∀ k, getT T' k = if k ∈ done.map (·.1) ∧ k ≤ last then getT M.entries k else none), tabM Bs b4 T'], roP (TabIs Bs m M.entries), pt b1 (.cells #[.int .i64 last] 2 (0, 0)), logM b fsb M, fsP fsb A1, markD D] ++ F) ?_ ?_ ?_
 · have H12 := H11.ordT 8 [4, 0, 1, 2, 6, 3, 5, 7];have P : ∀ k, getT ([] : Ent) k = if k ∈ ([] : List (Int × Value)).map (·.1) ∧ k ≤ last then getT M.entries k else none := fun k => by simp [getT]
   have H13 := exi_in (A := fun T' : Ent => Many [pur (∀ k, getT T' k = if k ∈ ([] : List (Int × Value)).map (·.1) ∧ k ≤ last then getT M.entries k else none), tabM Bs b4 T']) [] (sat.shut (m := [_, _]) (sat_pur.2 ⟨P, H12⟩));exact H13.bk 2
 · intro done h7 hp H12;obtain ⟨T', H13⟩ := sat_exi.1 (H12.mv 1);obtain ⟨hk, H14⟩ := sat_pur.1 H13.open;have hT' := tabM_up H14;have eT : T' = U := by
    refine tab_ext2 hT' (by rw [← hU]; exact filter_up hSu) fun k => ?_;rw [hk, ← hU, getT_upTo];have h1 : k ∈ done.map (·.1) ↔ k ∈ M.entries.map (·.1) := (hp.map (·.1)).mem_iff.trans hperm.mem_iff;by_cases hkl : k ≤ last
    · simp only [hkl, and_true, if_true]
      cases hg : getT M.entries k with
      | none => simp
      | some x => rw [if_pos (h1.2 (List.mem_map.2 ⟨_, getT_mem hg, rfl⟩))]
    · simp [hkl]
   subst eT;rw [NN'_some];obtain ⟨ms, mf, mm, H15⟩ := logM_open (H14.mv 4);refine LdMp (x := mf) H15 rfl ?_;refine VIn (H15.mv 7).get ?_;obtain ⟨fm, H16⟩ := tabM_open (H15.mv 2);refine mapEntry_sat (E := intKeys .i64) (k := last) (kt := 2) (et := 4) (by kernel_rfl) (by kernel_rfl) Tryz.zeroValue4 H16 fun v n es2 clock2 h8 hm2 hat H17 => ?_;refine ⟨v, (n : Int), rfl, rfl, rfl, ?_⟩;refine entryStore_sat hm2 hat H17 fun h9 H18 => ?_;rw [updM_updM] at H18;refine ⟨rfl, rfl, ?_⟩;rw [NN'_some, addr_add0];have H19 : sat (tabM Bb mf (setT last () M.Fo) :: _) h9 := tabM_shut (m := updM fm last (.bool true)) ((roP_mono (fun _ hh => TabIs.set (x := ()) hh (show Bb () (.bool true) _ from rfl)) (H18.mv 1)).mv 1);refine StCC (c' := logC5 fsb M.dir ms mf b4) (H19.mv 1) (show 4 < 5 by decide) rfl fun h10 H20 => ?_;have H21 : sat (logM b fsb { M with Fo := setT last () M.Fo, D := T' } :: fsP fsb A1 :: pt b1 (.cells #[.int .i64 last] 2 (0, 0)) :: markD D :: F) h10 := logM_shut (M := { M with Fo := setT last () M.Fo, D := T' }) (H20.ordT 10 [0, 2, 1, 4, 8, 7, 9]);have hfl : (setT last () M.Fo).length ≤ M.Fo.length + 1 := (AF.setT_length _ _ _).1;refine (F142_spec (M := { M with Fo := setT last () M.Fo, D := T' }) (A := A1) (p := fun c n => if c = 98 then decide (n ≤ last) else decide (n ≠ last)) (fun c n F' h' hc hh => F143_call c n hc hh) W3 (by simp only []; omega) hd H21).mono ?_;rintro v h11 ⟨rfl, W4, hs4, H22⟩;rw [DI_int];refine ⟨(H22.mv 3).get, hQ _ _ ?_⟩;have H23 := (H22.mv 3).set (.deferred none);unfold foldR;rw [hU, if_neg (by omega), he, if_neg (fun hh => hh rfl), hA1];refine ⟨rfl, W4, ?_, H23.ordT 4 [1, 2]⟩;simp only [] at hs4 ⊢;omega
 · rintro o done k v h7 again ⟨rest, hp⟩ H12 hag;obtain ⟨T', H13⟩ := sat_exi.1 (H12.mv 2);obtain ⟨hk, H14⟩ := sat_pur.1 H13.open;have hmem : (k, v) ∈ m := hp.mem_iff.1 (by simp);have H15 := roP_dup (H14.mv 3);have I2 := roP_get H15;obtain ⟨x, hx, a, c, rfl, hR⟩ := I2.vals k v hmem;refine ⟨k, a, x.length, c, rfl, ?_⟩;refine VIn (H14.mv 4).get ?_;have hgx := mem_getT hSu hx;by_cases hkl : k ≤ last
   · rw [decide_eq_true hkl, cond_true];have H16 := roP_mono (S := Bs x (.slice a x.length c)) (fun h I => by
      obtain ⟨y, hy, hr⟩ := I.vals k _ hmem;have : y = x := by
       have h1 := hgx;rw [mem_getT hSu hy] at h1;cases h1
       rfl
      rw [← this] at hr ⊢;exact hr) H15
     refine tab_set (kt := 2) (et := 85) (x := x) (by kernel_rfl) (by kernel_rfl) (H16.ordT 9 [2, 0, 3, 4, 1, 5, 6, 7, 8]) fun h8 H17 => ?_;refine hag h8 ?_;have P : ∀ j, getT (setT k x T') j = if j ∈ (done ++ [(k, Value.slice a x.length c)]).map (·.1) ∧ j ≤ last then getT M.entries j else none := by
      intro j;by_cases e : j = k
      · subst e;rw [getT_set_self, if_pos ⟨by simp, hkl⟩, hgx]
      · have hm2 : j ∈ (done ++ [(k, Value.slice a x.length c)]).map (·.1) ↔ j ∈ done.map (·.1) := by
         rw [List.map_append, List.mem_append];exact ⟨fun h => h.elim id fun h => absurd (by simpa using h) e, .inl⟩
        rw [getT_set_ne _ (Ne.symm e), hk];simp only [hm2]
     have H18 := exi_in (A := fun T' : Ent => Many [pur (∀ j, getT T' j = if j ∈ (done ++ [(k, Value.slice a x.length c)]).map (·.1) ∧ j ≤ last then getT M.entries j else none), tabM Bs b4 T']) (setT k x T') (sat.shut (m := [_, _]) (sat_pur.2 ⟨P, H17⟩));exact H18.bk 2
   · rw [decide_eq_false hkl, cond_false];refine hag h7 ?_;have P : ∀ j, getT T' j = if j ∈ (done ++ [(k, Value.slice a x.length c)]).map (·.1) ∧ j ≤ last then getT M.entries j else none := by
      intro j;rw [hk];by_cases e : j = k
      · subst e;simp [hkl]
      · have hm2 : j ∈ (done ++ [(k, Value.slice a x.length c)]).map (·.1) ↔ j ∈ done.map (·.1) := by
         rw [List.map_append, List.mem_append];exact ⟨fun h => h.elim id fun h => absurd (by simpa using h) e, .inl⟩
        simp only [hm2]
     have H18 := exi_in (A := fun T' : Ent => Many [pur (∀ j, getT T' j = if j ∈ (done ++ [(k, Value.slice a x.length c)]).map (·.1) ∧ j ≤ last then getT M.entries j else none), tabM Bs b4 T']) T' (sat.shut (m := [_, _]) (sat_pur.2 ⟨P, H14⟩));exact H18.bk 2
end
theorem inf146 : infoSz Tryz.prog 96 2 32 = true := by kernel_rfl
theorem u144 : Tryz.prog.underlying 91 = some (.slice 96) := by kernel_rfl
theorem src144 : srcTy Tryz.prog 91 = true := by kernel_rfl
section
variable {F : List HProp} {h : Heap} {b fsb : Nat} {M : Meta} {A : AF.FS}
def foldS (M : Meta) (A : AF.FS) (last : Int) : AF.FS × Meta × Nat :=
 if last < 0 then (A, M, 91) else if topT M.Fo = last ∧ M.Fo.length = 1 ∧ ∀ p ∈ M.S, last < p.1 then (A, M, 0) else foldR M A last
theorem fold_eq (upto : Int) : M.fold A upto = foldS M A (topT (upTo M.entries (max upto (topT M.Fo)))) := by
 unfold AF.Meta.fold foldS foldR
 have e : M.entries.filter (fun p => decide (p.1 ≤ max upto (topT M.Fo))) = upTo M.entries (max upto (topT M.Fo)) := rfl
 simp only [e]
 generalize hs : upTo M.entries (max upto (topT M.Fo)) = some
 have hsm : ∀ p ∈ some, p ∈ M.entries ∧ p.1 ≤ max upto (topT M.Fo) := fun p hp => by rw [← hs] at hp; have := List.mem_filter.1 hp; exact ⟨this.1, by simpa using this.2⟩
 have hms : ∀ p ∈ M.entries, p.1 ≤ max upto (topT M.Fo) → p ∈ some := fun p hp hl => by rw [← hs]; exact List.mem_filter.2 ⟨hp, by simpa using hl⟩
 by_cases h0 : topT some < 0
 · rw [if_pos h0, if_pos h0]
 rw [if_neg h0, if_neg h0]
 obtain ⟨pl, hpl, epl⟩ := AF.top_mem (T := some) (by omega)
 have hfil : M.entries.filter (fun p => decide (p.1 ≤ topT some)) = some := by
  conv => rhs; rw [← hs]; unfold upTo
  apply List.filter_congr;intro p hp;have h1 : topT some ≤ max upto (topT M.Fo) := by rw [← epl]; exact (hsm pl hpl).2
  by_cases h : p.1 ≤ max upto (topT M.Fo)
  · have := AF.le_top (hms p hp h);simp [h, this]
  · have : ¬ p.1 ≤ topT some := by omega
    simp [h, this]
 have hfil2 : upTo M.entries (topT some) = some := hfil
 rw [hfil2, hfil]
set_option maxHeartbeats 1000000 in
theorem foldB_spec {b1 b2 D : Nat} {last : Int} {pa : Option Addr} {pc : Nat} {Q : Value → Heap → Prop} (W : A.WF) (hs : A.steps + M.S.length + M.Fo.length + 30 < 1099511627776) (hd : M.dir.size < 4611686018427387904)
  (hE : ∀ p ∈ M.entries, B8 p.2 ∧ p.2.length ≤ 1000000000) (hEl : M.entries.length < 1000000000) (hsz : (AF.pairsE (upTo M.entries last)).length ≤ 1099511627776)
  (H : sat (pt b1 (.cells #[.int .i64 last] 2 (0, 0)) :: pt b2 (.cells #[.slice pa (upTo M.entries last).length pc] 91 (0, 0)) :: ownS 96 2 pa (upTo M.entries last).length pc ((psE (upTo M.entries last)).flatMap pairC) :: markD D :: logM b fsb M :: fsP fsb A :: F) h)
  (hQ : ∀ v h', Came b fsb A (M.S.length + M.Fo.length + 10) (foldS M A last) F v h' → Q v h') : foldB (some ⟨b, 0, none⟩) b1 b2 D h Q := by
 unfold foldB
 refine VIn H.get ?_
 by_cases hneg : last < 0
 · rw [decide_eq_true hneg, cond_true];refine ⟨(H.mv 3).get, hQ _ _ ?_⟩;have H2 := (H.mv 3).set (.deferred none);unfold foldS;rw [if_pos hneg];exact ⟨rfl, W, Nat.le_add_right _ _, H2.ordT 6 [4, 5]⟩
 rw [decide_eq_false hneg, cond_false]
 refine VIn H.get ?_
 refine (F129_spec (H.mv 4)).mono ?_
 rintro v h1 ⟨rfl, H1⟩
 rw [DI_int]
 refine ⟨VIn (H1.mv 1).get rfl, ?_⟩
 have loop : ∀ (s0 : Bool) (h2 : Heap) (r : Nat) (ms mf mm : Nat) (m : List (Int × Value)) (es : Array MapEntry) (clock : Nat) (hm : MapIs (intKeys .i64) es clock m) (hc : s0 = true → topT M.Fo = last ∧ M.Fo.length = 1) (hc2 : s0 = false → ¬ (topT M.Fo = last ∧ M.Fo.length = 1))
   (H2 : sat (pt r (.mapIter (some ms) clock #[] clock) :: pt ms (.map es clock) :: roP (TabIs Bs m M.S) :: pt b (.cells (logC5 fsb M.dir ms mf mm) 221 (0, 0)) :: tabM Bb mf M.Fo :: tabM Bs mm M.D :: pt b1 (.cells #[.int .i64 last] 2 (0, 0)) :: pt b2 (.cells #[.slice pa (upTo M.entries last).length pc] 91 (0, 0)) :: ownS 96 2 pa (upTo M.entries last).length pc ((psE (upTo M.entries last)).flatMap pairC) :: markD D :: fsP fsb A :: F) h2),
   LoopH (fun again0 (s0 : Bool) h_21 =>
    RunH Tryz.prog (Instr.next (.pointer (some ⟨r, 0, none⟩)) false 0) h_21 fun r15 h_22 =>
    (r15 = .tuple #[.bool false] ∧
     (bif s0 then h_22[D]? = some (.deferred (some [])) ∧ Q (.int .i64 0) (h_22.setIfInBounds D (.deferred none)) else foldA (some ⟨b, 0, none⟩) b1 b2 D h_22 Q)) ∨
    (∃ (k0 x15 : Value), r15 = .tuple #[.bool true, k0, x15] ∧
     RunH Tryz.prog (Instr.entry (.pointer (some ⟨r, 0, none⟩))) h_22 fun r29 h_38 =>
     ∃ (x35 : Int), ∃ (x36 : Value), r29 = .tuple #[.int .i64 x35, x36] ∧
     (bif s0 then
      Ld h_38 (Addr.mk b1 0 none) fun v18 => DI .i64 v18 fun x37 =>
      again0 (decide ((x35 : Int) > x37)) h_38
     else again0 false h_38))) s0 h2 := by
  intro s0 h2 r ms mf mm m es clock hm hc hc2 H2;have I := roP_get (H2.mv 2);have hperm := I.perm hm.nodup;have hst : s0 = (s0 && ([] : List (Int × Value)).all fun p => decide (last < p.1)) := by simp
  rw [hst];refine mapLoopI hm (fun done => s0 && done.all fun p => decide (last < p.1)) (G := fun _ => roP (TabIs Bs m M.S) :: pt b (.cells (logC5 fsb M.dir ms mf mm) 221 (0, 0)) :: tabM Bb mf M.Fo :: tabM Bs mm M.D :: pt b1 (.cells #[.int .i64 last] 2 (0, 0)) :: pt b2 (.cells #[.slice pa (upTo M.entries last).length pc] 91 (0, 0)) :: ownS 96 2 pa (upTo M.entries last).length pc ((psE (upTo M.entries last)).flatMap pairC) :: markD D :: fsP fsb A :: F) H2 ?_ ?_
  · intro done h3 hp H3;have hall : (done.all fun p => decide (last < p.1)) = true ↔ ∀ p ∈ M.S, last < p.1 := by
     rw [List.all_eq_true];have hmem : ∀ k, k ∈ done.map (·.1) ↔ k ∈ M.S.map (·.1) := fun k => (hp.map (·.1)).mem_iff.trans hperm.mem_iff;constructor
     · intro h p hp2;obtain ⟨q, hq, e⟩ := List.mem_map.1 ((hmem p.1).2 (List.mem_map.2 ⟨p, hp2, rfl⟩));have := h q hq;rw [e] at this;simpa using this
     · intro h p hp2;obtain ⟨q, hq, e⟩ := List.mem_map.1 ((hmem p.1).1 (List.mem_map.2 ⟨p, hp2, rfl⟩));have := h q hq;rw [e] at this;simpa using this
    have H4 : sat (tabM Bs ms M.S :: pt b (.cells (logC5 fsb M.dir ms mf mm) 221 (0, 0)) :: tabM Bb mf M.Fo :: tabM Bs mm M.D :: pt b1 (.cells #[.int .i64 last] 2 (0, 0)) :: pt b2 (.cells #[.slice pa (upTo M.entries last).length pc] 91 (0, 0)) :: ownS 96 2 pa (upTo M.entries last).length pc ((psE (upTo M.entries last)).flatMap pairC) :: markD D :: fsP fsb A :: F) h3 := tabM_shut (ownM_shut hm H3);have H5 : sat (logM b fsb M :: pt b1 (.cells #[.int .i64 last] 2 (0, 0)) :: pt b2 (.cells #[.slice pa (upTo M.entries last).length pc] 91 (0, 0)) :: ownS 96 2 pa (upTo M.entries last).length pc ((psE (upTo M.entries last)).flatMap pairC) :: markD D :: fsP fsb A :: F) h3 := logM_shut (H4.ordT 4 [1, 0, 2, 3])
    cases hb : (s0 && done.all fun p => decide (last < p.1)) with
    | true =>
      rw [cond_true];rw [Bool.and_eq_true] at hb;obtain ⟨c1, c2⟩ := hc hb.1;refine ⟨(H5.mv 4).get, hQ _ _ ?_⟩;have H6 := (H5.mv 4).set (.deferred none);unfold foldS;rw [if_neg hneg, if_pos ⟨c1, c2, hall.1 hb.2⟩];exact ⟨rfl, W, Nat.le_add_right _ _, H6.ordT 6 [1, 5]⟩
    | false =>
      rw [cond_false];refine foldA_spec W hs hd hE hEl hsz (H5.ordT 6 [1, 2, 3, 4, 0, 5]) fun v h' hc3 => hQ v h' ?_;have hno : ¬ (topT M.Fo = last ∧ M.Fo.length = 1 ∧ ∀ p ∈ M.S, last < p.1) := by
       rintro ⟨c1, c2, c3⟩
       cases s0 with
       | true =>
         rw [Bool.true_and, hall.2 c3] at hb;cases hb
       | false => exact hc2 rfl ⟨c1, c2⟩
      unfold foldS;rw [if_neg hneg, if_neg hno];exact hc3
  · rintro o done k v h3 again ⟨rest, hp⟩ H3 hag;refine ⟨k, v, rfl, ?_⟩;have e : (s0 && (done ++ [(k, v)]).all fun p => decide (last < p.1)) = ((s0 && done.all fun p => decide (last < p.1)) && decide (last < k)) := by
     rw [List.all_append, Bool.and_assoc];simp
    have h4 := hag h3 H3;rw [e] at h4
    cases hb : (s0 && done.all fun p => decide (last < p.1)) with
    | true =>
      rw [cond_true];refine VIn (H3.mv 6).get ?_;rw [hb, Bool.true_and] at h4;exact h4
    | false =>
      rw [cond_false];rw [hb, Bool.false_and] at h4;exact h4
 obtain ⟨ms, mf, mm, H2⟩ := logM_open H1
 by_cases hx : topT M.Fo = last
 · rw [show (topT M.Fo == last) = true from by rw [hx]; exact beq_self_eq_true _, cond_true, NN'_some];refine LdMp (x := mf) H2 rfl ?_;obtain ⟨es0, f0, he0, hsz0, _⟩ := tab_look (H2.mv 2) 0;refine ⟨es0, he0, ?_⟩;rw [NN'_some];refine LdMp (x := ms) H2 rfl ?_;obtain ⟨m, H3⟩ := tabM_open (H2.mv 1);obtain ⟨es, clock, hm, H4⟩ := ownM_open H3;refine range_sat (k := 2) (e := 85) (by kernel_rfl) H4 H4.get fun r h2 H5 => ?_;rw [DP_pointer];refine loop _ h2 r ms mf mm m es clock hm ?_ ?_ H5
   · intro hh;refine ⟨hx, ?_⟩;rw [hsz0] at hh;have : (M.Fo.length : Int) = 1 := by simpa using hh
     omega
   · rintro hh ⟨_, c2⟩;rw [hsz0, c2] at hh;exact absurd hh (by decide)
 · rw [show (topT M.Fo == last) = false from beq_eq_false_iff_ne.2 hx, cond_false, NN'_some];refine LdMp (x := ms) H2 rfl ?_;obtain ⟨m, H3⟩ := tabM_open (H2.mv 1);obtain ⟨es, clock, hm, H4⟩ := ownM_open H3;refine range_sat (k := 2) (e := 85) (by kernel_rfl) H4 H4.get fun r h2 H5 => ?_;rw [DP_pointer];exact loop _ h2 r ms mf mm m es clock hm (fun hh => by cases hh) (fun _ hh => hx hh.1) H5
end
section
variable {F : List HProp} {h : Heap} {b fsb : Nat} {M : Meta} {A : AF.FS}
theorem topT_snoc {α : Type} {l : List (Int × α)} {p : Int × α} (hu : UpT (l ++ [p])) (h0 : 0 ≤ p.1) : topT (l ++ [p]) = p.1 := by
 have e : topT (l ++ [p]) = max (topT l) p.1 := by
  unfold AF.topT;rw [List.map_append, List.foldl_append]
  rfl
 rw [e]
 have h1 : topT l < p.1 := by
  rcases Int.lt_or_le (-1) (topT l) with h | h
  · obtain ⟨q, hq, e2⟩ := AF.top_mem h;rw [← e2];exact (List.pairwise_append.1 hu).2.2 q hq p (by simp)
  · omega
 omega
theorem upTo_take {E : Ent} {m : Int} (hu : UpT E) {i : Nat} (h1 : ∀ j p, j < i → E[j]? = some p → p.1 ≤ m) (h2 : ∀ j p, i ≤ j → E[j]? = some p → m < p.1) : upTo E m = E.take i := by
 unfold upTo
 conv => lhs; rw [← List.take_append_drop i E]
 rw [List.filter_append]
 have e1 : (E.take i).filter (fun p => decide (p.1 ≤ m)) = E.take i := by
  apply List.filter_eq_self.2;intro p hp;obtain ⟨j, hj⟩ := List.mem_iff_getElem?.1 hp;have hji : j < i := by
   have := (List.getElem?_eq_some_iff.1 hj).1;rw [List.length_take] at this;omega
  rw [List.getElem?_take_of_lt hji] at hj;exact decide_eq_true (h1 j p hji hj)
 have e2 : (E.drop i).filter (fun p => decide (p.1 ≤ m)) = [] := by
  apply List.filter_eq_nil_iff.2;intro p hp;obtain ⟨j, hj⟩ := List.mem_iff_getElem?.1 hp;rw [List.getElem?_drop] at hj;have := h2 (i + j) p (by omega) hj;simp;omega
 rw [e1, e2, List.append_nil]
def foldG (b0 b1 b2 b fsb : Nat) (m : Int) (M : Meta) (A : AF.FS) (F : List HProp) (U : Ent) : List HProp :=
 pt b0 (.cells #[.int .i64 m] 2 (0, 0)) :: pt b1 (.cells #[.int .i64 (topT U)] 2 (0, 0)) :: (exi fun q : Option Addr × Nat => Many [pt b2 (.cells #[.slice q.1 U.length q.2] 91 (0, 0)), ownS 96 2 q.1 U.length q.2 ((psE U).flatMap pairC)]) :: logM b fsb M :: fsP fsb A :: F
set_option maxHeartbeats 1000000 in
theorem F48_spec {upto : Int} (W : A.WF) (hs : A.steps + M.S.length + M.Fo.length + 30 < 1099511627776) (hd : M.dir.size < 4611686018427387904)
  (hE : ∀ p ∈ M.entries, 0 ≤ p.1 ∧ B8 p.2 ∧ p.2.length ≤ 1000000000) (hEl : M.entries.length < 1000000000) (hsz : ∀ m, (AF.pairsE (upTo M.entries m)).length ≤ 1099511627776)
  (H : sat (logM b fsb M :: fsP fsb A :: F) h) : CallsH Tryz.prog 48 [ptrV b, .int .i64 upto] h (Came b fsb A (M.S.length + M.Fo.length + 10) (M.fold A upto) F) := by
 apply F48_ok.ap
 unfold F48
 rw [show (some (⟨b, 0, none⟩ : Addr)).isNone = false from rfl, cond_false]
 refine (F129_spec H).mono ?_
 rintro v h1 ⟨rfl, H1⟩
 rw [DI_int]
 generalize hm : max upto (topT M.Fo) = m
 have em : (if topT M.Fo > upto then topT M.Fo else upto) = m := by rw [← hm]; split <;> omega
 rw [em]
 refine Al_sat H1 fun b0 h2 H2 => ?_
 refine StCC H2 (show 0 < 1 by decide) rfl fun h3 H3 => ?_
 refine Al_sat H3 fun b1 h4 H4 => ?_
 refine StCC H4 (show 0 < 1 by decide) rfl fun h5 H5 => ?_
 refine Al_sat H5 fun b2 h6 H6 => ?_
 refine (F124_spec (H6.mv 3)).mono ?_
 rintro v h7 ⟨eb, rfl, H7⟩
 rw [DM_map]
 have hu := tabM_up H7
 refine (F126_rise H7 (by omega)).mono ?_
 rintro v h8 ⟨kb, tb, a, c, s, rfl, hsk, hnd, H8⟩
 have hsl : s.length = M.entries.length := by
  have := congrArg List.length hsk;simpa using this
 refine ⟨_, rfl, ?_⟩
 have H9 : sat (riseT Bs kb tb eb a c 214 s 0 M.entries :: pur (∀ j p, j < 0 → M.entries[j]? = some p → p.1 ≤ m) :: foldG b0 b1 b2 b fsb m M A F (M.entries.take 0)) h8 := by
  have K1 := ownS_nil 96 2 (H8.ordT 6 [2, 4, 3, 1, 5, 0]);have K2 := exi_in (A := fun q : Option Addr × Nat => Many [pt b2 (.cells #[.slice q.1 (M.entries.take 0).length q.2] 91 (0, 0)), ownS 96 2 q.1 (M.entries.take 0).length q.2 ((psE (M.entries.take 0)).flatMap pairC)]) (none, 0) (sat.shut (m := [_, _]) (K1.mv 1));have K3 : sat (pur (∀ j p, j < 0 → M.entries[j]? = some p → p.1 ≤ m) :: _) h8 := sat_pur.2 ⟨fun j p hj => absurd hj (by omega), K2⟩;exact K3.ordT 7 [6, 0, 2, 3, 1, 4, 5]
 have tail : ∀ (U : Ent) (h9 : Heap), upTo M.entries m = U → sat (markD h8.size :: foldG b0 b1 b2 b fsb m M A F U) h9 → foldB (some ⟨b, 0, none⟩) b1 b2 h8.size h9 (Came b fsb A (M.S.length + M.Fo.length + 10) (M.fold A upto) F) := by
  intro U h9 hU K;obtain ⟨⟨pa, pc⟩, K2⟩ := sat_exi.1 (K.mv 3);have K3 := K2.open;have hU2 : upTo M.entries (topT U) = U := by
   rw [← hU];unfold upTo;apply List.filter_congr;intro p hp;by_cases h : p.1 ≤ m
   · have hin : p ∈ M.entries.filter (fun p => decide (p.1 ≤ m)) := List.mem_filter.2 ⟨hp, by simpa using h⟩;have := AF.le_top hin;simp [h, this]
   · have : ¬ p.1 ≤ topT (M.entries.filter fun p => decide (p.1 ≤ m)) := by
      intro hh;have h0 := (hE p hp).1;obtain ⟨q, hq, e⟩ := AF.top_mem (T := M.entries.filter fun p => decide (p.1 ≤ m)) (by omega);have := (List.mem_filter.1 hq).2;simp only [decide_eq_true_eq] at this;omega
     simp [h, this]
  refine foldB_spec (F := F) (fsb := fsb) (last := topT U) (pa := pa) (pc := pc) W hs hd (fun p hp => (hE p hp).2) hEl (hsz _) ?_ ?_
  · rw [hU2];exact K3.ordT 7 [4, 0, 1, 2, 5, 6]
  · intro v h' hc;have e : M.fold A upto = foldS M A (topT U) := by rw [fold_eq, hm, hU]
    rw [e];exact hc
 refine range_iterK s (fun x => [.int .i64 x.1, x.2]) (fun i => riseT Bs kb tb eb a c 214 s i M.entries) (fun i => pur (∀ j p, j < i → M.entries[j]? = some p → p.1 ≤ m) :: foldG b0 b1 b2 b fsb m M A F (M.entries.take i))
  (fun j => pur (j = .exit 0) :: foldG b0 b1 b2 b fsb m M A F (upTo M.entries m)) H9 (fun _ => rfl)
  (fun yv G' Out h1 hh r f => F195_rise (by omega) (fun _ => M.entries) bs_slice yv G' Out h1 hh r f) ?_ ?_ ?_
 · intro i x L rec h9 Q hx K hgo hstop;obtain ⟨n, v⟩ := x;have hi := (List.getElem?_eq_some_iff.1 hx).1;have HL := K.get;obtain ⟨hle, K1⟩ := sat_pur.1 (K.mv 3);obtain ⟨x, hgx, va, vc, rfl, hR⟩ := riseT_val (K1.mv 2) hx;have hki : (M.entries.map (·.1))[i]? = some n := by rw [← hsk, List.getElem?_map, hx]; rfl
   have hei : M.entries[i]? = some (n, x) := by
    rw [List.getElem?_map] at hki
    cases he : M.entries[i]? with
    | none => rw [he] at hki; cases hki
    | some p =>
      obtain ⟨p1, p2⟩ := p;rw [he] at hki;simp only [Option.map_some, Option.some.injEq] at hki;subst hki;have := mem_getT hu (List.mem_of_getElem? he);rw [hgx] at this;cases this
      rfl
   refine ⟨n, va, x.length, vc, rfl, HL, ?_⟩;have K2 := K1.set (rec .busy none);refine VIn (K2.mv 3).get ?_;by_cases hn : n > m
   · rw [decide_eq_true hn, cond_true];have hU : upTo M.entries m = M.entries.take i := by
      refine upTo_take hu hle fun j p hj hp => ?_
      rcases Nat.lt_or_ge i j with hij | hij
      · have hp1 := List.pairwise_iff_getElem.1 hu;obtain ⟨a1, b1⟩ := List.getElem?_eq_some_iff.1 hei;obtain ⟨a2, b2⟩ := List.getElem?_eq_some_iff.1 hp;have := hp1 i j a1 a2 hij;rw [b1, b2] at this;simp only at this;omega
      · have : j = i := by omega
        subst this;rw [hei] at hp;cases hp;exact hn
     refine hstop (.exit 0) _ ?_;rw [hU];have K3 := (K2.mv 2).drop;exact (sat_pur.2 ⟨rfl, K3⟩ : sat (pur (Code.exit 0 = .exit 0) :: _) _).bk 2
   · rw [decide_eq_false hn, cond_false];refine StCC (K2.mv 4) (show 0 < 1 by decide) rfl fun h10 K3 => ?_;have K4 := K3.bk 4;obtain ⟨⟨pa, pc⟩, K5⟩ := sat_exi.1 (K4.mv 5);have K6 := K5.open;refine VSl K6.get ?_;have hx8 := hE (n, x) (List.mem_of_getElem? hei);have K7 := riseT_keep (K6.mv 4) hx hgx;have rd : ∀ {h' : Heap} {F' : List HProp}, sat (roP (Bs x (.slice va x.length vc)) :: F') h' → RdC h' va (x.map nv) := fun hh => by
      obtain ⟨a', c', e, hr⟩ := roP_get hh;cases e;exact hr
     refine ⟨ofN x, bytesIn_of (rd K7) rfl hx8.2.1, ?_⟩;refine (F35_spec (n := n) K7).mono ?_;rintro v h11 ⟨rfl, K8⟩;rw [DS_string];refine ⟨VSl (K8.mv 2).get rfl, rfl, ⟨ofN x, bytesIn_of (rd K8) rfl hx8.2.1, rfl⟩, ?_⟩;refine Al_sat K8 fun b3 h12 K9 => ?_;refine ⟨VSl (K9.mv 3).get rfl, ?_⟩;have hil : (M.entries.take i).length = i := by rw [List.length_take]; omega
     rw [hil] at K9 ⊢;refine appendN u144 src144 inf146 (K9.mv 4) (n := 1) (ys := pairC (AF.hexN n, ofN x)) (srcOf_slice (RdCf K9 rfl) rfl) (by intro u hu; simp [pairC] at hu; rcases hu with rfl | rfl <;> rfl) (by omega) fun a' c' h13 _ K10 => ?_;rw [DSl_slice];refine StCC (K10.mv 4) (show 0 < 1 by decide) rfl fun h14 K11 => ?_;have htk : M.entries.take (i + 1) = M.entries.take i ++ [(n, x)] := by rw [List.take_add_one, hei]; rfl
     have htl : (M.entries.take (i + 1)).length = i + 1 := by rw [List.length_take]; omega
     have hps : (psE (M.entries.take (i + 1))).flatMap pairC = (psE (M.entries.take i)).flatMap pairC ++ pairC (AF.hexN n, ofN x) := by
      rw [htk];unfold psE;rw [List.map_append, List.flatMap_append];simp
     have htop : topT (M.entries.take (i + 1)) = n := by
      rw [htk];exact topT_snoc (by rw [← htk]; exact List.Pairwise.sublist (List.take_sublist _ _) hu) hx8.1
     have K12 := exi_in (A := fun q : Option Addr × Nat => Many [pt b2 (.cells #[.slice q.1 (M.entries.take (i + 1)).length q.2] 91 (0, 0)), ownS 96 2 q.1 (M.entries.take (i + 1)).length q.2 ((psE (M.entries.take (i + 1))).flatMap pairC)]) (a', c') (sat.shut (m := [_, _]) (by rw [htl, hps]; exact K11));have K13 := riseT_next (K12.mv 3);have P : ∀ j p, j < i + 1 → M.entries[j]? = some p → p.1 ≤ m := fun j p hj hp => by
      rcases Nat.lt_or_ge j i with h | h
      · exact hle j p h hp
      · have : j = i := by omega
        subst this;rw [hei] at hp;cases hp;simp only;omega
     have K14 := sat_pur.2 ⟨P, K13⟩;refine hgo h14 ?_;have K15 : sat (pt L (rec .busy none) :: markD h8.size :: riseT Bs kb tb eb a c 214 s (i + 1) M.entries :: pur (∀ j p, j < i + 1 → M.entries[j]? = some p → p.1 ≤ m) :: pt b0 (.cells #[.int .i64 m] 2 (0, 0)) :: pt b1 (.cells #[.int .i64 n] 2 (0, 0)) :: (exi fun q : Option Addr × Nat => Many [pt b2 (.cells #[.slice q.1 (M.entries.take (i + 1)).length q.2] 91 (0, 0)), ownS 96 2 q.1 (M.entries.take (i + 1)).length q.2 ((psE (M.entries.take (i + 1))).flatMap pairC)]) :: logM b fsb M :: fsP fsb A :: F) h14 := K14.ordT 11 [5, 6, 1, 0, 7, 8, 2, 9, 10];unfold foldG;rw [htop];exact K15
 · intro h9 K;refine ⟨.inl rfl, fun _ => ?_, fun e => by cases e⟩;obtain ⟨hle, K1⟩ := sat_pur.1 (K.mv 2);have K2 := (K1.mv 1).drop;refine tail (M.entries.take s.length) h9 ?_ K2;refine upTo_take hu hle fun j p hj hp => ?_;have := (List.getElem?_eq_some_iff.1 hp).1;omega
 · intro j h9 K;obtain ⟨rfl, K1⟩ := sat_pur.1 (K.mv 1);refine ⟨.inr rfl, (fun e => by cases e), fun _ => ?_⟩;exact tail (upTo M.entries m) h9 rfl K1
end
end Go.Proofs.YtibdiikcigokjaaGreatDoor
