/- What was proved of metalog and code in seat Z and serves other layers: code.Num .. Unpairs, tables of numbers, names of files (printed out of wip/meta by shake.py). -/
import Derived.Test.YtibdiikcigokjaaGreatSkLvX
import Derived.Test.YtibdiikcigokjaaGreatSkMt0
import Derived.Test.YtibdiikcigokjaaGreatSkMt1
import Derived.Test.YtibdiikcigokjaaGreatSkPlA
import Derived.Test.YtibdiikcigokjaaGreatSkPh1
import Derived.Test.YtibdiikcigokjaaGreatSkTs
import Derived.Tactics
import Derived.Tactics2
import Derived.Defers
import Derived.Recover
import Derived.Laws.Pointers
import Derived.TacticsInMore
import Derived.RegionIn
import Derived.RecoverIn
namespace Go.Proofs.YtibdiikcigokjaaGreat
open Go Go.RowKit
set_option linter.unusedVariables false
set_option linter.unusedSimpArgs false

section
variable {α : Type}
theorem tab_ext2 {T U : List (Int × α)} (hT : UpT T) (hU : UpT U) (h : ∀ k, getT T k = getT U k) : T = U :=
  tab_ext hT hU fun p => ⟨fun hp => getT_mem (by rw [← h]; exact mem_getT hT hp), fun hp => getT_mem (by rw [h]; exact mem_getT hU hp)⟩
theorem filter_up {p : Int × α → Bool} {T : List (Int × α)} (h : UpT T) : UpT (T.filter p) := List.Pairwise.filter _ h
end
namespace AF
section
variable {α : Type}
theorem foldl_max (l : List Int) : ∀ a : Int, a ≤ l.foldl max a ∧ (∀ x ∈ l, x ≤ l.foldl max a) ∧ (l.foldl max a = a ∨ l.foldl max a ∈ l) := by
  induction l with
  | nil => intro a; simp
  | cons y l ih =>
    intro a
    obtain ⟨h1, h2, h3⟩ := ih (max a y)
    rw [List.foldl_cons]
    refine ⟨by omega, fun x hx => ?_, ?_⟩
    · rcases List.mem_cons.1 hx with rfl | hx
      · omega
      · exact h2 x hx
    · rcases h3 with h3 | h3
      · rw [h3]
        by_cases h : a ≤ y
        · right; rw [show max a y = y by omega]; exact List.mem_cons_self ..
        · left; omega
      · exact .inr (List.mem_cons_of_mem _ h3)
theorem top_mem {T : List (Int × α)} (h : -1 < topT T) : ∃ p ∈ T, p.1 = topT T := by
  rcases (foldl_max (T.map (·.1)) (-1)).2.2 with h2 | h2
  · exact absurd (show topT T = -1 from h2) (by omega)
  · obtain ⟨p, hp, e⟩ := List.mem_map.1 h2
    exact ⟨p, hp, e⟩
end
theorem mem_setN_iff {k : ByteArray} {x : List Nat} {T : Dirc} (hu : UpN T) {p : ByteArray × List Nat} (hu2 : UpN (setN k x T)) : p ∈ setN k x T ↔ p = (k, x) ∨ (p.1 ≠ k ∧ p ∈ T) := by
  obtain ⟨j, y⟩ := p
  by_cases h : j = k
  · subst h
    constructor
    · intro hm
      have h1 := mem_getN hu2 hm
      rw [getN_set_self] at h1
      cases h1
      exact .inl rfl
    · rintro (h | ⟨h, _⟩)
      · rw [h]; exact getN_mem (getN_set_self _ _ _)
      · exact absurd rfl h
  · constructor
    · intro hm
      have h1 := mem_getN hu2 hm
      rw [getN_set_ne _ (Ne.symm h)] at h1
      exact .inr ⟨h, getN_mem h1⟩
    · rintro (h1 | ⟨_, h1⟩)
      · cases h1; exact absurd rfl h
      · refine getN_mem ?_
        rw [getN_set_ne _ (Ne.symm h)]
        exact mem_getN hu h1
theorem natOf_id {n : Int} (h0 : 0 ≤ n) (h : n ≤ 1099511627776) : natOf n = n.toNat := by
  have : n = (n.toNat : Int) := by omega
  rw [this, natOf_nat (by omega)]
  omega
def IdOk (n : Int) : Prop := 0 ≤ n ∧ n ≤ 1099511627776
theorem nmI_inj {c d : Nat} {m n : Int} (hc : c < 256) (hd : d < 256) (hm : IdOk m) (hn : IdOk n) (h : nmI c m = nmI d n) : c = d ∧ m = n := by
  unfold nmI at h
  rw [natOf_id hm.1 hm.2, natOf_id hn.1 hn.2] at h
  have := Fnm.nm_inj hc hd (by have := hm.2; omega) (by have := hn.2; omega) h
  have h1 := hm.1; have h2 := hn.1
  exact ⟨this.1, by omega⟩
open Frame (packN)
open Fnm (nm)
structure MInv (A : FS) (M : Meta) (T : Dirc) : Prop where
  live : Live A
  has : Has A M.dir T
  upS : UpT M.S
  upD : UpT M.D
  okS : ∀ p ∈ M.S, IdOk p.1 ∧ B8 p.2 ∧ p.2.length ≤ 5000
  okD : ∀ p ∈ M.D, IdOk p.1 ∧ B8 p.2 ∧ p.2.length ≤ 5000
  lenD : (pairsE M.D).length ≤ 16777208
  fold : (M.Fo = [] ∧ M.D = []) ∨ (-1 < topT M.D ∧ M.Fo = [(topT M.D, ())])
  files : ∀ k x, (k, x) ∈ T ↔ (∃ p ∈ M.S, k = nmI 98 p.1 ∧ x = packN p.2) ∨ (∃ p ∈ M.Fo, k = nmI 102 p.1 ∧ x = packN (pairsE M.D))
section
variable {A : FS} {M : Meta} {T : Dirc}
theorem MInv.names (I : MInv A M T) {p : ByteArray × List Nat} (hp : p ∈ T) : ∃ c n, p.1 = nm c n ∧ c < 256 := by
  rcases (I.files p.1 p.2).1 hp with ⟨q, _, e, _⟩ | ⟨q, _, e, _⟩
  · exact ⟨98, _, e, by decide⟩
  · exact ⟨102, _, e, by decide⟩
theorem nodup_len {β : Type} [DecidableEq β] : ∀ {l m : List β}, l.Nodup → (∀ x ∈ l, x ∈ m) → l.length ≤ m.length
  | [], _, _, _ => Nat.zero_le _
  | a :: l, m, hn, hs => by
    have hn2 := List.nodup_cons.1 hn
    have ha := hs a (List.mem_cons_self ..)
    have := nodup_len (l := l) (m := m.erase a) hn2.2 fun x hx => (List.mem_erase_of_ne fun e => hn2.1 (by rw [← e]; exact hx)).2 (hs x (List.mem_cons_of_mem _ hx))
    rw [List.length_erase_of_mem ha] at this
    have : 0 < m.length := List.length_pos_of_mem ha
    rw [List.length_cons]
    omega
theorem UpN.nodup {T : Dirc} (h : UpN T) : (T.map (·.1)).Nodup := by
  rw [List.Nodup, List.pairwise_map]
  refine List.Pairwise.imp ?_ h
  intro a b hab e
  rw [← e] at hab
  exact strLt_irrefl a.1 hab
theorem MInv.few (I : MInv A M T) : T.length ≤ M.S.length + M.Fo.length := by
  have h := nodup_len (has_up I.live I.has).nodup (m := M.S.map (fun p => nmI 98 p.1) ++ M.Fo.map fun p => nmI 102 p.1) fun k hk => by
    obtain ⟨p, hp, rfl⟩ := List.mem_map.1 hk
    rcases (I.files p.1 p.2).1 hp with ⟨q, hq, e, _⟩ | ⟨q, hq, e, _⟩
    · exact List.mem_append.2 (.inl (List.mem_map.2 ⟨q, hq, e.symm⟩))
    · exact List.mem_append.2 (.inr (List.mem_map.2 ⟨q, hq, e.symm⟩))
  simpa using h
theorem MInv.noTmp (I : MInv A M T) (name : ByteArray) : getN T (tmpN ++ name) = none := by
  rw [getN_none]
  intro p hp e
  obtain ⟨c, n, e2, hc⟩ := I.names hp
  exact Fnm.nm_tmpne c n name hc (by rw [← e, e2])
theorem setT_length {α : Type} (k : Int) (x : α) : ∀ T : List (Int × α), (setT k x T).length ≤ T.length + 1 ∧ T.length ≤ (setT k x T).length
  | [] => by simp [setT]
  | p :: l => by
    have := setT_length k x l
    unfold setT
    split
    · simp
    · split
      · simp
      · simp; omega
theorem MInv.put (I : MInv A M T) {id : Int} {b : List Nat} (hid : IdOk id) (hg : M.get id = none) (h8 : B8 b) (hb : b.length ≤ 5000) (hu : A.used + (8 + b.length) ≤ A.room) (hf : M.S.length < 4000) :
    ∃ A' T', M.put A id b = (A', { M with S := setT id b M.S }, 0) ∧ MInv A' { M with S := setT id b M.S } T' ∧ Upd 0 (8 + b.length) 5 A A' M.dir T' := by
  have hfo : M.Fo.length ≤ 1 := by rcases I.fold with ⟨e, _⟩ | ⟨_, e⟩ <;> rw [e] <;> simp
  obtain ⟨e, u⟩ := put_ok (name := nmI 98 id) (x := b) I.live I.has (Fnm.nm_right (by decide) (by decide) _) (by unfold nmI; rw [Fnm.nm_size]; decide) (I.noTmp _) (by have := I.few; omega) h8 (by omega) hu
  have hgS : getT M.S id = none := by
    unfold Meta.get at hg
    cases hd : getT M.D id with
    | some b => rw [hd] at hg; cases hg
    | none => rw [hd] at hg; exact hg
  refine ⟨_, _, ?_, ?_, u⟩
  · unfold Meta.put
    rw [if_neg (by have := hid.1; have := hid.2; omega), hg]
    simp only []
    rw [if_pos e]
  · have hup := has_up I.live I.has
    have hup2 := has_up u.live u.here
    refine ⟨u.live, u.here, setT_up I.upS, I.upD, ?_, I.okD, I.lenD, I.fold, ?_⟩
    · intro p hp
      rcases (mem_setT I.upS).1 hp with rfl | ⟨_, hp⟩
      · exact ⟨hid, h8, hb⟩
      · exact I.okS p hp
    · intro k x
      show _ ↔ _
      rw [mem_setN_iff hup hup2]
      constructor
      · rintro (h | ⟨hne, hm⟩)
        · cases h
          exact .inl ⟨(id, b), (mem_setT I.upS).2 (.inl rfl), rfl, rfl⟩
        · rcases (I.files k x).1 hm with ⟨p, hp, e1, e2⟩ | h
          · refine .inl ⟨p, (mem_setT I.upS).2 (.inr ⟨fun e3 => hne ?_, hp⟩), e1, e2⟩
            simp only [e1, e3]
          · exact .inr h
      · rintro (⟨p, hp, e1, e2⟩ | ⟨p, hp, e1, e2⟩)
        · rcases (mem_setT I.upS).1 hp with rfl | ⟨hne, hp⟩
          · exact .inl (by rw [e1, e2])
          · refine .inr ⟨fun e3 => hne ?_, (I.files k x).2 (.inl ⟨p, hp, e1, e2⟩)⟩
            simp only [e1] at e3
            exact (nmI_inj (by decide) (by decide) (I.okS p hp).1 hid e3).2
        · refine .inr ⟨fun e3 => ?_, (I.files k x).2 (.inr ⟨p, hp, e1, e2⟩)⟩
          simp only [e1] at e3
          have hid2 : IdOk p.1 := by
            rcases I.fold with ⟨e4, _⟩ | ⟨ht, e4⟩
            · rw [e4] at hp; cases hp
            · rw [e4, List.mem_singleton] at hp
              subst hp
              obtain ⟨q, hq, e5⟩ := top_mem ht
              simp only [← e5]
              exact (I.okD q hq).1
          have := (nmI_inj (by decide) (by decide) hid2 hid e3).1
          omega
end
end AF

end Go.Proofs.YtibdiikcigokjaaGreat
namespace Go.Proofs.YtibdiikcigokjaaGreat
open Go Go.RowKit Go.MapKept
set_option linter.unusedVariables false
set_option linter.unusedSimpArgs false
open AF (Meta copyT topT)

theorem RdC.push {h : Heap} {a : Option Addr} {xs : List Value} (H : RdC h a xs) (o : Obj) : RdC (h.push o) a xs := by
  cases a with
  | none => exact H
  | some a =>
    intro j v hv
    have h1 := H j v hv
    unfold cellAt at h1 ⊢
    cases hb : h[(a.add j).block]? with
    | none => rw [hb] at h1; cases h1
    | some x =>
      have hlt := (Array.getElem?_eq_some_iff.1 hb).1
      rw [Array.getElem?_push, if_neg (by omega), hb]
      rw [hb] at h1
      exact h1
section
variable {F : List HProp} {h : Heap} {b fsb : Nat} {M : Meta}
theorem u40 : Tryz.prog.underlying 35 = some (.slice 5) := by kernel_rfl
theorem src40 : srcTy Tryz.prog 35 = true := by kernel_rfl
theorem inf5b : infoOk Tryz.prog 5 1 = true := by kernel_rfl
end
end Go.Proofs.YtibdiikcigokjaaGreat
namespace Go.Proofs.YtibdiikcigokjaaGreat
open Go Go.RowKit Go.MapKept
set_option linter.unusedVariables false
set_option linter.unusedSimpArgs false
open AF (Meta copyT topT nmI goG)
open Hex (digs)

namespace AF
section
variable {α : Type} {dir : ByteArray} {c : Nat} {p : Int → Bool}
end
end AF
section
variable {α : Type}
theorem VPt {h : Heap} {b x : Nat} {e : TypeId} {fr : Nat × Nat} {K : Option Addr → Prop} (hb : h[b]? = some (.cells #[ptrV x] e fr)) (hK : K (some ⟨x, 0, none⟩)) : Ld h ⟨b, 0, none⟩ fun v => DP v K := LdV hb rfl ⟨_, rfl, hK⟩
theorem VIn {h : Heap} {b : Nat} {e : TypeId} {fr : Nat × Nat} {k : IntKind} {x : Int} {K : Int → Prop} (hb : h[b]? = some (.cells #[.int k x] e fr)) (hK : K x) : Ld h ⟨b, 0, none⟩ fun v => DI k v K := LdV hb rfl ⟨_, rfl, hK⟩
theorem VSl {h : Heap} {b : Nat} {e : TypeId} {fr : Nat × Nat} {a : Option Addr} {l m : Nat} {K : Option Addr → Nat → Nat → Prop} (hb : h[b]? = some (.cells #[.slice a l m] e fr)) (hK : K a l m) : Ld h ⟨b, 0, none⟩ fun v => DSl v K := LdV hb rfl (by show DSl (.slice a l m) K; rw [DSl_slice]; exact hK)
end
section
variable {F : List HProp} {h : Heap} {b fsb : Nat} {M : Meta} {A : AF.FS}
end

end Go.Proofs.YtibdiikcigokjaaGreat
namespace Go.Proofs.YtibdiikcigokjaaGreat
open Go Go.RowKit Go.MapKept
set_option linter.unusedVariables false
set_option linter.unusedSimpArgs false

set_option maxRecDepth 20000 in
theorem or8_128 (m : Nat) : bitsI .or .u8 (IntKind.wrap .u8 (m : Int)) 128 = ((m % 128 + 128 : Nat) : Int) := by
  rw [u8_of_nat]
  have h : ∀ x : Fin 256, bitsI .or .u8 (x.val : Int) 128 = ((x.val % 128 + 128 : Nat) : Int) := by decide
  have := h ⟨m % 256, Nat.mod_lt _ (by decide)⟩
  rw [this]
  have e : m % 256 % 128 = m % 128 := Nat.mod_mod_of_dvd _ (by decide)
  simp only [e]
section
variable {F : List HProp} {h : Heap}
theorem F203_spec {n : Nat} (hn : n < 18446744073709551616) (H : sat F h) : CallsH Tryz.prog 203 [.int .u64 (n : Int)] h fun v h' => ∃ (a : Option Addr) (c : Nat), v = .slice a (numB n).length c ∧ sat (ownS 5 1 a (numB n).length c ((numB n).map nv) :: F) h' := by
  apply F203_ok
  unfold F203
  refine ⟨fun (s : Int × Sl) h2 => ∃ (m : Nat) (pre : List Nat), s.1 = (m : Int) ∧ m < 18446744073709551616 ∧ pre ++ numB m = numB n ∧ s.2.l = pre.length ∧ pre.length < 64 ∧ (m < 2 ^ (64 - pre.length)) ∧ sat (ownS 5 1 s.2.a s.2.l s.2.c (pre.map nv) :: F) h2,
    fun s _ => s.1.toNat, ⟨n, [], rfl, hn, rfl, rfl, by decide, by simpa using hn, ownS_nil 5 1 H⟩, ?_⟩
  rintro ⟨s1, ⟨sa, sl, sc⟩⟩ h2 ⟨m, pre, rfl, hm, hp, rfl, hl, hm2, H2⟩
  simp only at H2 ⊢
  by_cases h128 : m < 128
  · rw [decide_eq_false (show ¬ ((m : Int) ≥ 128) by omega), cond_false]
    rw [numB_small h128] at hp
    refine Al_sat H2 fun b1 h3 H3 => ?_
    have e : IntKind.wrap .u8 (m : Int) = ((m : Nat) : Int) := by rw [u8_of_nat, Nat.mod_eq_of_lt (by omega)]
    rw [e] at H3
    refine appB u40 src40 inf5b (H3.mv 1) (srcB (ys := [m]) (RdCf H3 rfl) rfl) (by omega) fun a' c' h4 _ H4 => ?_
    rw [DSl_slice]
    rw [hp] at H4
    have hlen : pre.length + 1 = (numB n).length := by rw [← hp]; simp
    rw [hlen] at H4 ⊢
    exact ⟨a', c', rfl, (H4.mv 1).drop⟩
  · rw [decide_eq_true (show ((m : Int) ≥ 128) by omega), cond_true]
    rw [numB_big h128] at hp
    refine Al_sat H2 fun b1 h3 H3 => ?_
    rw [or8_128] at H3
    refine appB u40 src40 inf5b (H3.mv 1) (srcB (ys := [m % 128 + 128]) (RdCf H3 rfl) rfl) (by omega) fun a' c' h4 _ H4 => ?_
    rw [DSl_slice]
    refine ⟨by decide, ?_⟩
    have e : shrI .u64 (m : Int) 7 = ((m / 128 : Nat) : Int) := shrI_nat .u64 m 7 (by decide)
    have hlt : pre.length + 1 < 64 := by
      rcases Nat.lt_or_ge (pre.length + 1) 64 with h | h
      · exact h
      · have : 2 ^ (64 - pre.length) ≤ 2 ^ 1 := Nat.pow_le_pow_right (by decide) (by omega)
        omega
    refine ⟨⟨m / 128, pre ++ [m % 128 + 128], e, by omega, ?_, by simp, by simpa using hlt, ?_, (H4.mv 1).drop⟩, ?_⟩
    · rw [List.append_assoc]
      exact hp
    · have h1 : 2 ^ (64 - pre.length) = 2 ^ (64 - (pre.length + 1)) * 2 := by
        rw [← Nat.pow_succ]
        congr 1
        omega
      have : m / 128 < 2 ^ (64 - (pre.length + 1)) := by
        rw [Nat.div_lt_iff_lt_mul (by decide)]
        omega
      simpa using this
    · show (shrI .u64 (m : Int) 7).toNat < ((m : Int)).toNat
      rw [e]
      omega
theorem F164_spec {s : ByteArray} (hs : s.size ≤ 1099511627776) (H : sat F h) : CallsH Tryz.prog 164 [.string s] h fun v h' => ∃ (a : Option Addr) (c : Nat), v = .slice a (wordB (sb s)).length c ∧ sat (ownS 5 1 a (wordB (sb s)).length c ((wordB (sb s)).map nv) :: F) h' := by
  apply F164_ok
  unfold F164
  have e : IntKind.wrap .u64 ((s.size : Nat) : Int) = ((s.size : Nat) : Int) := IntWalk.u64_in _ (by omega)
  rw [e]
  refine (F203_spec (n := s.size) (by omega) H).mono ?_
  rintro v h1 ⟨a, c, rfl, H1⟩
  rw [DSl_slice]
  have hl := numB_length 6 s.size (by omega)
  refine appB u40 (by kernel_rfl) inf5b H1 (srcS s) (by omega) fun a' c' h2 _ H2 => ?_
  rw [DSl_slice]
  have e2 : wordB (sb s) = numB s.size ++ sb s := by unfold wordB; rw [sb_length]
  have e3 : (numB s.size).length + s.size = (wordB (sb s)).length := by rw [e2, List.length_append, sb_length]
  rw [← e2, e3] at H2
  rw [e3]
  exact ⟨a', c', rfl, H2⟩
theorem F163_spec {k x : ByteArray} (hk : k.size ≤ 1000000000) (hx : x.size ≤ 1000000000) (H : sat F h) : CallsH Tryz.prog 163 [.agg #[.string k, .string x]] h fun v h' => ∃ (a : Option Addr) (c : Nat), v = .slice a (pairB (sb k, sb x)).length c ∧ sat (ownS 5 1 a (pairB (sb k, sb x)).length c ((pairB (sb k, sb x)).map nv) :: F) h' := by
  apply F163_ok
  unfold F163
  refine Al_sat H fun b0 h1 H1 => ?_
  refine LdStr (x := k) H1 rfl ?_
  refine LdStr (x := x) H1 rfl ?_
  refine (F164_spec (by omega) H1).mono ?_
  rintro v h2 ⟨a, c, rfl, H2⟩
  rw [DSl_slice]
  refine ⟨rfl, LdStr (x := x) (H2.mv 1) rfl rfl, ?_⟩
  refine (F164_spec (by omega) H2).mono ?_
  rintro v h3 ⟨a2, c2, rfl, H3⟩
  rw [DSl_slice]
  have l1 : (wordB (sb k)).length ≤ 2000000000 := by
    unfold wordB
    have := numB_length 6 (sb k).length (by rw [sb_length]; omega)
    rw [List.length_append, sb_length] at *
    omega
  have l2 : (wordB (sb x)).length ≤ 2000000000 := by
    unfold wordB
    have := numB_length 6 (sb x).length (by rw [sb_length]; omega)
    rw [List.length_append, sb_length] at *
    omega
  refine appB u40 src40 inf5b (H3.mv 1) (srcB (ownS_read H3) rfl) (by omega) fun a' c' h4 _ H4 => ?_
  rw [DSl_slice]
  have e3 : (wordB (sb k)).length + (wordB (sb x)).length = (pairB (sb k, sb x)).length := by unfold pairB; rw [List.length_append]
  rw [e3] at H4 ⊢
  exact ⟨a', c', rfl, (H4.ordT 3 [0])⟩
def pairC (p : ByteArray × ByteArray) : List Value := [.string p.1, .string p.2]
theorem pairC_len (p : ByteArray × ByteArray) : (pairC p).length = 2 := rfl
def pairsN (ps : List (ByteArray × ByteArray)) : List Nat := pairsB (ps.map fun p => (sb p.1, sb p.2))
def preN (n : Nat) (ps : List (ByteArray × ByteArray)) : List Nat := numB n ++ ps.flatMap fun p => pairB (sb p.1, sb p.2)
theorem preN_all (ps : List (ByteArray × ByteArray)) : preN ps.length ps = pairsN ps := by
  unfold preN pairsN pairsB
  rw [List.length_map, List.flatMap_map]
theorem preN_le (n : Nat) (ps : List (ByteArray × ByteArray)) (i : Nat) : (preN n (ps.take i)).length ≤ (preN n ps).length := by
  unfold preN
  rw [List.length_append, List.length_append]
  have : (ps.flatMap fun p => pairB (sb p.1, sb p.2)) = ((ps.take i).flatMap fun p => pairB (sb p.1, sb p.2)) ++ ((ps.drop i).flatMap fun p => pairB (sb p.1, sb p.2)) := by
    rw [← List.flatMap_append, List.take_append_drop]
  rw [this, List.length_append]
  omega
theorem F162_spec {la : Option Addr} {ll lc : Nat} {ps : List (ByteArray × ByteArray)} (hr : ∀ h', sat F h' → RdC h' la (ps.flatMap pairC)) (hl : ps.length = ll) (hll : ll < 1000000000) (hp : ∀ p ∈ ps, p.1.size ≤ 1000000000 ∧ p.2.size ≤ 1000000000) (hsz : (pairsN ps).length ≤ 1099511627776) (H : sat F h) :
    CallsH Tryz.prog 162 [.slice la ll lc, .func (.func 163) #[] #[]] h fun v h' => ∃ (a : Option Addr) (c : Nat), v = .slice a (pairsN ps).length c ∧ sat (ownS 5 1 a (pairsN ps).length c ((pairsN ps).map nv) :: F) h' := by
  apply F162_ok
  unfold F162
  have e : IntKind.wrap .u64 ((ll : Nat) : Int) = ((ps.length : Nat) : Int) := by rw [hl]; exact IntWalk.u64_in _ (by omega)
  rw [e]
  refine (F203_spec (n := ps.length) (by omega) H).mono ?_
  rintro v h1 ⟨a, c, rfl, H1⟩
  rw [DSl_slice]
  rw [← preN_all] at hsz
  refine LoopH.upto ll (fun i (s : Sl × Int) h2 => s.2 = (i : Int) ∧ i ≤ ll ∧ s.1.l = (preN ps.length (ps.take i)).length ∧ sat (ownS 5 1 s.1.a s.1.l s.1.c ((preN ps.length (ps.take i)).map nv) :: F) h2) (fun s => ll - s.2.toNat) (fun i s h2 hh => ⟨hh.2.1, by rw [hh.1]; omega⟩)
    ⟨rfl, Nat.zero_le _, by simp [preN], by simpa [preN] using H1⟩ ?_ ?_
  · rintro i ⟨⟨sa, sl, sc⟩, s2⟩ h2 again hi ⟨rfl, _, rfl, H2⟩ go
    simp only at H2 ⊢
    rw [decide_eq_true (show ((i : Int) < (ll : Int)) by omega), cond_true]
    obtain ⟨⟨k, x⟩, hx⟩ : ∃ x, ps[i]? = some x := ⟨_, List.getElem?_eq_getElem (by omega)⟩
    have hkx : k.size ≤ 1000000000 ∧ x.size ≤ 1000000000 := hp _ (List.mem_of_getElem? hx)
    refine IdxC (f := pairC) (sz := 2) (x := (k, x)) pairC_len (by decide) (hr _ H2.drop) hl hx fun b hb hc => ?_
    refine ⟨.string k, hc 0 _ rfl, .string x, hc 1 _ rfl, k, x, rfl, ?_⟩
    refine Al_sat H2 fun b1 h3 H3 => ?_
    simp only [addr_add0]
    refine StC_sat H3 (by decide) (nofz_zero 2 0 (by decide)) fun h4 H4 => ?_
    refine StC_sat (i := 1) H4 (by simp) (nofz_zero 2 1 (by decide)) fun h5 H5 => ?_
    have H6 : sat (pt b1 (.cells #[.string k, .string x] 50 (0, 0)) :: ownS 5 1 sa (preN ps.length (ps.take i)).length sc ((preN ps.length (ps.take i)).map nv) :: F) h5 := H5
    refine ⟨.string k, by rw [cellAt_of H6.get]; rfl, ?_⟩
    refine ⟨.string x, cell_pt (i := 1) H6 rfl, k, x, rfl, ?_⟩
    refine CallV_fn ?_
    refine (F163_spec hkx.1 hkx.2 H6).mono ?_
    rintro v h6 ⟨a2, c2, rfl, H7⟩
    rw [DSl_slice]
    have hpre : preN ps.length (ps.take (i + 1)) = preN ps.length (ps.take i) ++ pairB (sb k, sb x) := by
      rw [List.take_add_one, hx]
      unfold preN
      rw [List.flatMap_append, ← List.append_assoc]
      simp
    have hle := preN_le ps.length ps (i + 1)
    rw [hpre, List.length_append] at hle
    refine appB u40 src40 inf5b (H7.mv 2) (srcB (ownS_read H7) rfl) (by omega) fun a' c' h8 _ H8 => ?_
    rw [DSl_slice, wrap64_succ (by omega)]
    refine go _ _ ⟨rfl, by omega, ?_, ?_⟩
    · rw [hpre, List.length_append]
    · rw [hpre]
      exact (H8.mv 1).drop.mv 1 |>.drop
  · rintro ⟨⟨sa, sl, sc⟩, s2⟩ h2 again ⟨rfl, _, rfl, H2⟩
    simp only at H2 ⊢
    rw [decide_eq_false (by omega), cond_false]
    rw [List.take_of_length_le (by omega), preN_all] at H2 ⊢
    exact ⟨sa, sc, rfl, H2⟩
theorem F113_spec {la : Option Addr} {ll lc : Nat} {ps : List (ByteArray × ByteArray)} (hr : ∀ h', sat F h' → RdC h' la (ps.flatMap pairC)) (hl : ps.length = ll) (hll : ll < 1000000000) (hp : ∀ p ∈ ps, p.1.size ≤ 1000000000 ∧ p.2.size ≤ 1000000000) (hsz : (pairsN ps).length ≤ 1099511627776) (H : sat F h) :
    CallsH Tryz.prog 113 [.slice la ll lc] h fun v h' => (16777216 < (pairsN ps).length ∧ v = .tuple #[.slice none 0 0, .int .i64 42] ∧ sat F h') ∨
      ((pairsN ps).length ≤ 16777216 ∧ ∃ (a : Option Addr) (c : Nat), v = .tuple #[.slice a (pairsN ps).length c, .int .i64 0] ∧ sat (ownS 5 1 a (pairsN ps).length c ((pairsN ps).map nv) :: F) h') := by
  apply F113_ok
  unfold F113
  refine (F162_spec hr hl hll hp hsz H).mono ?_
  rintro v h1 ⟨a, c, rfl, H1⟩
  rw [DSl_slice]
  apply F161_ok
  unfold F161
  by_cases hb : 16777216 < (pairsN ps).length
  · rw [decide_eq_true (show (((pairsN ps).length : Int) > 16777216) by omega), cond_true]
    exact ⟨none, 0, 0, 42, rfl, .inl ⟨hb, rfl, H1.drop⟩⟩
  · rw [decide_eq_false (show ¬ (((pairsN ps).length : Int) > 16777216) by omega), cond_false]
    exact ⟨a, _, c, 0, rfl, .inr ⟨by omega, a, c, rfl, H1⟩⟩
end

end Go.Proofs.YtibdiikcigokjaaGreat
namespace Go.Proofs.YtibdiikcigokjaaGreat
open Go Go.RowKit
set_option linter.unusedVariables false
set_option linter.unusedSimpArgs false
namespace AF
open Frame (packN)
theorem Upd.refl {A : FS} {dir : ByteArray} {U : Dirc} (L : Live A) (H : Has A dir U) : Upd 0 0 0 A A dir U :=
  ⟨L, H, fun _ _ _ h => h, fun _ _ h => h, rfl, Nat.le_refl _, Nat.le_refl _, Nat.le_refl _⟩
/-! ### how long a fold is -/
def wt (E : Ent) : Nat := (E.map fun p => 30 + p.2.length).sum
section
variable {A : FS} {M : Meta} {T : Dirc}
end
end AF

end Go.Proofs.YtibdiikcigokjaaGreat
namespace Go.Proofs.YtibdiikcigokjaaGreat
open Go Go.RowKit Go.MapKept
set_option linter.unusedVariables false
set_option linter.unusedSimpArgs false
open AF (Meta copyT topT nmI Ent)
open Hex (digs)

theorem inf146 : infoSz Tryz.prog 50 2 32 = true := by kernel_rfl
theorem u144 : Tryz.prog.underlying 41 = some (.slice 50) := by kernel_rfl
theorem src144 : srcTy Tryz.prog 41 = true := by kernel_rfl
section
variable {F : List HProp} {h : Heap} {b fsb : Nat} {M : Meta} {A : AF.FS}
end

end Go.Proofs.YtibdiikcigokjaaGreat
namespace Go.Proofs.YtibdiikcigokjaaGreat
open Go Go.RowKit
set_option linter.unusedVariables false
set_option linter.unusedSimpArgs false
namespace AF
open Frame (packN)
open Hex (digs)
def readS (A : FS) (dir : ByteArray) : List Int → Ent → Except Nat Ent
  | [], T => .ok T
  | n :: l, T => match A.get dir (nmI 98 n) with
    | .error e => .error e
    | .ok b => readS A dir l (setT n b T)
section
variable {A : FS} {M : Meta} {T : Dirc}
theorem map_up {T : Ent} (h : UpT T) : UpT (T.map fun p => (p.1, ([] : List Nat))) := List.pairwise_map.2 h
theorem MInv.getS (I : MInv A M T) {p : Int × List Nat} (hp : p ∈ M.S) : A.get M.dir (nmI 98 p.1) = .ok p.2 :=
  get_ok I.live I.has (mem_getN (has_up I.live I.has) ((I.files _ _).2 (.inl ⟨p, hp, rfl, rfl⟩))) (I.okS p hp).2.1 (by have := (I.okS p hp).2.2; omega)
theorem readS_all (A : FS) (dir : ByteArray) {S : Ent} (hu : UpT S) (hg : ∀ p ∈ S, A.get dir (nmI 98 p.1) = .ok p.2) : ∀ (l : List Int) (U : Ent), UpT U → (∀ n ∈ l, n ∈ S.map (·.1)) →
    ∃ V, readS A dir l U = .ok V ∧ UpT V ∧ ∀ k, getT V k = if k ∈ l then getT S k else getT U k
  | [], U, hU, _ => ⟨U, rfl, hU, fun k => by simp⟩
  | n :: l, U, hU, hl => by
    obtain ⟨p, hp, rfl⟩ := List.mem_map.1 (hl n (List.mem_cons_self ..))
    unfold readS
    rw [hg p hp]
    simp only []
    obtain ⟨V, e, hV, hk⟩ := readS_all A dir hu hg l (setT p.1 p.2 U) (setT_up hU) fun m hm => hl m (List.mem_cons_of_mem _ hm)
    refine ⟨V, e, hV, fun k => ?_⟩
    rw [hk]
    by_cases h : k ∈ l
    · simp [h]
    · by_cases h2 : k = p.1
      · subst h2
        simp only [h, if_false, List.mem_cons, true_or, if_true]
        rw [getT_set_self, mem_getT hu (show (p.1, p.2) ∈ S from hp)]
      · simp only [h, h2, if_false, List.mem_cons, or_self]
        rw [getT_set_ne _ (Ne.symm h2)]
theorem MInv.reads (I : MInv A M T) : readS A M.dir (M.S.map (·.1)) (M.S.map fun p => (p.1, [])) = .ok M.S := by
  obtain ⟨V, e, hV, hk⟩ := readS_all A M.dir I.upS (fun p hp => I.getS hp) (M.S.map (·.1)) (M.S.map fun p => (p.1, [])) (map_up I.upS) fun n hn => hn
  rw [e]
  congr 1
  refine tab_ext2 hV I.upS fun k => ?_
  rw [hk]
  by_cases h : k ∈ M.S.map (·.1)
  · rw [if_pos h]
  · rw [if_neg h]
    have h1 : getT M.S k = none := getT_none.2 fun p hp e => h (List.mem_map.2 ⟨p, hp, e⟩)
    rw [h1, getT_none]
    intro q hq e
    obtain ⟨p, hp, rfl⟩ := List.mem_map.1 hq
    exact h (List.mem_map.2 ⟨p, hp, e⟩)
end
/-- What a log is that opens on nothing. -/
theorem MInv.new {A : FS} {dir : ByteArray} (L : Live A) (H : Has A dir []) : MInv A ⟨dir, [], [], []⟩ [] :=
  ⟨L, H, List.Pairwise.nil, List.Pairwise.nil, by simp, by simp, by unfold pairsE pairsB; rw [List.map_nil, List.length_append, List.length_nil, numB_small (by decide)]; decide, .inl ⟨rfl, rfl⟩, by simp⟩
end AF

end Go.Proofs.YtibdiikcigokjaaGreat
namespace Go.Proofs.YtibdiikcigokjaaGreat
open Go Go.RowKit Go.MapKept
set_option linter.unusedVariables false
set_option linter.unusedSimpArgs false
open AF (Meta copyT topT nmI Ent IdOk)
open Hex (digs)

theorem idle187 (a b : Option Addr) (w : World) : CallsDIn Fence.wide 0 Tryz.prog 197 #[.pointer a, .pointer b] .returning w fun e u' w' => e = .returned (.tuple #[]) ∧ u' = .returning ∧ w' = w := by
  refine callsDIn_of_wpSIn Tryz.func197 rfl trivial fun c₀ cs hu => ?_
  apply wpSIn_seq
  apply wpSIn_region
  simp [wpOpsSIn, go_sem, recoverD, hu, Exit.thenS]
  apply wpSIn_seq
  apply wpSIn_region
  simp [wpOpsSIn, go_sem, Exit.thenS]
  refine wpSIn_cond (t := false) (by simp [Act.eval, Array.replicate]) ?_
  simp only [Bool.false_eq_true, if_false]
  refine wpSIn_of_wpIn rfl (wpIn_skip ?_)
  cases c₀
  simp_all [bodyPostS, results]
theorem F197_idle {a b : Option Addr} {h : Heap} {K : Heap → Prop} (H : K h) : DeferH Tryz.prog 197 [.pointer a, .pointer b] h K := by
  refine ⟨by kernel_rfl, fun w hw => ?_⟩
  refine (idle187 a b w).mono ?_
  rintro e u' w' ⟨rfl, rfl, rfl⟩
  exact ⟨⟨_, rfl⟩, rfl, by rw [hw]; exact H, ⟨rfl, rfl, rfl⟩⟩

theorem or64 {a b : Nat} (ha : a < 18446744073709551616) (hb : b < 18446744073709551616) : bitsI .or .u64 (a : Int) (b : Int) = ((a ||| b : Nat) : Int) := by
  unfold bitsI
  simp only []
  have e : (BitVec.ofInt (IntKind.u64).bits (a : Int) ||| BitVec.ofInt (IntKind.u64).bits (b : Int)).toNat = a ||| b := by
    rw [BitVec.ofInt_natCast, BitVec.ofInt_natCast, BitVec.toNat_or, BitVec.toNat_ofNat, BitVec.toNat_ofNat, Nat.mod_eq_of_lt (show a < 2 ^ IntKind.u64.bits from ha), Nat.mod_eq_of_lt (show b < 2 ^ IntKind.u64.bits from hb)]
  rw [e]
  have : a ||| b < 2 ^ 64 := Nat.or_lt_two_pow ha hb
  rw [IntWalk.u64_in _ (by omega)]
theorem or_shl {i a d : Nat} (ha : a < 2 ^ i) : a ||| d * 2 ^ i = a + d * 2 ^ i := by
  rw [Nat.or_comm, Nat.mul_comm, ← Nat.two_pow_add_eq_or_of_lt ha, Nat.add_comm]
theorem LoopH.by {S : Type} {F : (S → Heap → Prop) → S → Heap → Prop} {s0 : S} {h0 : Heap} (I : S → Heap → Prop) (μ : S → Nat) (start : I s0 h0)
    (step : ∀ s h again, I s h → (∀ s' h', I s' h' → μ s' < μ s → again s' h') → F again s h) : LoopH F s0 h0 :=
  ⟨I, fun s _ => μ s, start, fun s h hi => step s h _ hi fun s' h' h1 h2 => ⟨h1, h2⟩⟩
set_option maxRecDepth 20000 in
theorem and127 {c : Nat} (hc : c < 256) : bitsI .and .u8 (c : Int) 127 = ((c % 128 : Nat) : Int) := by
  have h : ∀ x : Fin 256, bitsI .and .u8 (x.val : Int) 127 = ((x.val % 128 : Nat) : Int) := by decide
  exact h ⟨c, hc⟩
theorem shl64 {d i : Nat} (hi : i ≤ 64) (h : d * 2 ^ i < 18446744073709551616) : shlI .u64 (d : Int) (i : Int) = ((d * 2 ^ i : Nat) : Int) := by
  unfold shlI
  rw [Int.toNat_natCast, show min i IntKind.u64.bits = i from Nat.min_eq_left hi]
  have e : (d : Int) * 2 ^ i = ((d * 2 ^ i : Nat) : Int) := by
    rw [Int.natCast_mul, Int.natCast_pow]
    rfl
  rw [e]
  exact IntWalk.u64_in _ (by omega)
/-- What one byte brings. -/
theorem digit_step {acc c i n : Nat} (hc : c < 256) (hi : i ≤ 7) (ha : acc < 2 ^ (7 * i)) (hn : acc + c % 128 * 2 ^ (7 * i) ≤ n) (hb : n < 72057594037927936) :
    bitsI .or .u64 (acc : Int) (shlI .u64 (IntKind.wrap .u64 (bitsI .and .u8 (c : Int) 127)) (IntKind.wrap .i64 (7 * (i : Int)))) = ((acc + c % 128 * 2 ^ (7 * i) : Nat) : Int) := by
  rw [and127 hc, IntWalk.u64_in _ (by omega)]
  have e : IntKind.wrap .i64 (7 * (i : Int)) = ((7 * i : Nat) : Int) := by rw [IntWalk.i64_in _ (by omega)]; omega
  rw [e, shl64 (by omega) (by omega), or64 (by omega) (by omega), or_shl ha]
/-- The head of a number's bytes. -/
theorem numB_head (m : Nat) : ∃ c t, numB m = c :: t ∧ c < 256 ∧ c % 128 = m % 128 ∧ ((m < 128 ∧ c = m ∧ t = []) ∨ (¬ m < 128 ∧ 128 ≤ c ∧ t = numB (m / 128))) := by
  by_cases h : m < 128
  · exact ⟨m, [], numB_small h, by omega, rfl, .inl ⟨h, rfl, rfl⟩⟩
  · exact ⟨m % 128 + 128, _, numB_big h, by omega, by omega, .inr ⟨h, by omega, rfl⟩⟩
section
variable {F : List HProp} {h : Heap}
set_option maxHeartbeats 1000000 in
set_option maxRecDepth 20000 in
theorem F241_spec {a : Option Addr} {c n : Nat} {rest : List Nat} (hn : n < 72057594037927936) (hl : (numB n ++ rest).length ≤ 1099511627776) (hR : RdC h a ((numB n ++ rest).map nv)) :
    CallsH Tryz.prog 241 [.slice a (numB n ++ rest).length c] h fun v h' => h' = h ∧ v = .tuple #[.int .u64 (n : Int), .int .i64 ((numB n).length : Int), .int .i64 0] := by
  apply F241_ok
  unfold F241
  have hnl : (numB n).length ≤ 8 := numB_length 7 n hn
  refine LoopH.by (fun s h2 => h2 = h ∧ ∃ (i acc m : Nat) (pre : List Nat), s = ((acc : Int), (i : Int)) ∧ numB n = pre ++ numB m ∧ pre.length = i ∧ acc < 2 ^ (7 * i) ∧ acc + m * 2 ^ (7 * i) = n ∧ (0 < i → 0 < m)) (fun s => 9 - s.2.toNat) ⟨rfl, 0, 0, n, [], rfl, (List.nil_append _).symm, rfl, Nat.zero_lt_one, by rw [Nat.mul_zero, Nat.pow_zero, Nat.mul_one, Nat.zero_add], fun h => absurd h (Nat.lt_irrefl 0)⟩ ?_
  rintro s h2 again ⟨rfl, i, acc, m, pre, rfl, hp, hi, ha, hm, hz⟩ go
  obtain ⟨cc, t, ht, hc8, hcm, hcase⟩ := numB_head m
  have hlen : (numB n).length = i + 1 + t.length := by rw [hp, ht, List.length_append, List.length_cons]; omega
  have hi7 : i ≤ 7 := by omega
  have hget : ((numB n ++ rest).map nv)[i]? = some (nv cc) := by
    rw [hp, ht, List.append_assoc, List.map_append, List.getElem?_append_right (by rw [List.length_map]; omega), List.length_map, hi, Nat.sub_self]
    rfl
  have hil : i < (numB n ++ rest).length := by rw [List.length_append]; omega
  rw [decide_eq_true (show (i : Int) < ((numB n ++ rest).length : Int) by omega), cond_true]
  refine IdxA_nat hR (by rw [List.length_map]) hget fun b hb hcell => ?_
  refine ⟨nv cc, hcell, (cc : Int), rfl, ?_⟩
  have h9 : ((i : Int) == 9) = false := by
    rw [beq_eq_false_iff_ne]
    omega
  have hdig : acc + cc % 128 * 2 ^ (7 * i) ≤ n := by
    rw [hcm, ← hm]
    exact Nat.add_le_add_left (Nat.mul_le_mul_right _ (Nat.mod_le _ _)) _
  have hstep := digit_step hc8 hi7 ha hdig hn
  have hwr : IntKind.wrap .i64 ((i : Int) + 1) = ((i + 1 : Nat) : Int) := by rw [IntWalk.i64_in _ (by omega)]; omega
  have h7 : (0 : Int) ≤ IntKind.wrap .i64 (7 * (i : Int)) := by rw [IntWalk.i64_in _ (by omega)]; omega
  have tail : (0 : Int) ≤ IntKind.wrap .i64 (7 * (i : Int)) ∧ (bif decide ((cc : Int) < 128) then
      h2 = h2 ∧ Value.tuple #[.int .u64 ((acc + cc % 128 * 2 ^ (7 * i) : Nat) : Int), .int .i64 ((i + 1 : Nat) : Int), .int .i64 0] = Value.tuple #[.int .u64 (n : Int), .int .i64 ((numB n).length : Int), .int .i64 0]
      else again (((acc + cc % 128 * 2 ^ (7 * i) : Nat) : Int), ((i + 1 : Nat) : Int)) h2) := by
    refine ⟨h7, ?_⟩
    refine hcase.elim (fun hh => ?_) (fun hh => ?_)
    · have hm1 := hh.1
      have ht1 := hh.2.2
      have hcm1 := hh.2.1
      rw [decide_eq_true (show (cc : Int) < 128 by omega), cond_true]
      refine ⟨rfl, ?_⟩
      rw [hlen, hcm, Nat.mod_eq_of_lt hm1, hm, ht1]
      rfl
    · have hm1 := hh.1
      have ht1 := hh.2.2
      have hc1 := hh.2.1
      rw [decide_eq_false (show ¬ (cc : Int) < 128 by omega), cond_false]
      refine go _ _ ⟨rfl, i + 1, _, m / 128, pre ++ [cc], rfl, by rw [hp, ht, ht1, List.append_assoc]; rfl, by rw [List.length_append, hi]; rfl, ?_, ?_, fun _ => Nat.div_pos (by omega) (by decide)⟩ (by simp only [Int.toNat_natCast]; omega)
      · have e1 : 2 ^ (7 * (i + 1)) = 128 * 2 ^ (7 * i) := by rw [Nat.mul_add, Nat.pow_add, Nat.mul_comm]
        have e2 : cc % 128 * 2 ^ (7 * i) ≤ 127 * 2 ^ (7 * i) := Nat.mul_le_mul_right _ (by omega)
        rw [e1]
        omega
      · have e1 : 2 ^ (7 * (i + 1)) = 128 * 2 ^ (7 * i) := by rw [Nat.mul_add, Nat.pow_add, Nat.mul_comm]
        rw [e1, ← Nat.mul_assoc, Nat.add_assoc, ← Nat.add_mul, hcm, ← hm]
        congr 2
        omega
  rw [← hstep, ← hwr] at tail
  dsimp only
  rw [h9, cond_false]
  by_cases h0 : 0 < i
  · rw [decide_eq_true (show (i : Int) > 0 by omega), cond_true]
    have hcz : ((cc : Int) == 0) = false := by
      rw [beq_eq_false_iff_ne]
      have := hz h0
      rcases hcase with ⟨_, h, _⟩ | ⟨_, h, _⟩ <;> omega
    rw [hcz, cond_false]
    exact tail
  · rw [decide_eq_false (show ¬ (i : Int) > 0 by omega), cond_false]
    exact tail

/-- A reader over these bytes. -/
def readerP (rb : Nat) (xs : List Nat) : HProp := exi fun q : Option Addr × Nat => Many [pur (xs.length ≤ q.2 ∧ xs.length ≤ 1099511627776), pt rb (.cells #[.slice q.1 xs.length q.2] 271 (0, 0)), roP (fun h => RdC h q.1 (xs.map nv))]
theorem readerP_open {rb : Nat} {xs : List Nat} (H : sat (readerP rb xs :: F) h) : ∃ a c, xs.length ≤ c ∧ xs.length ≤ 1099511627776 ∧ sat (pt rb (.cells #[.slice a xs.length c] 271 (0, 0)) :: roP (fun h => RdC h a (xs.map nv)) :: F) h := by
  obtain ⟨⟨a, c⟩, H2⟩ := sat_exi.1 H
  obtain ⟨⟨h1, h2⟩, H3⟩ := sat_pur.1 H2.open
  exact ⟨a, c, h1, h2, H3⟩
theorem readerP_shut {rb c : Nat} {a : Option Addr} {xs : List Nat} (h1 : xs.length ≤ c) (h2 : xs.length ≤ 1099511627776) (H : sat (pt rb (.cells #[.slice a xs.length c] 271 (0, 0)) :: roP (fun h => RdC h a (xs.map nv)) :: F) h) : sat (readerP rb xs :: F) h :=
  sat_exi.2 ⟨(a, c), sat.shut (m := [_, _, _]) (sat_pur.2 ⟨⟨h1, h2⟩, H⟩)⟩
theorem drop_pre (p t : List Nat) : (p ++ t).drop p.length = t := by simp
/-- The next number. -/
theorem F198_spec {rb n : Nat} {rest : List Nat} (hn : n < 72057594037927936) (H : sat (readerP rb (numB n ++ rest) :: F) h) :
    CallsH Tryz.prog 198 [ptrV rb] h fun v h' => v = .int .u64 (n : Int) ∧ sat (readerP rb rest :: F) h' := by
  apply F198_ok
  unfold F198
  obtain ⟨a, c, hc, hl, H2⟩ := readerP_open H
  rw [NN'_some]
  refine LdSl H2 rfl ?_
  refine (F241_spec (c := c) hn hl (roP_get (H2.mv 1))).mono ?_
  rintro v h1 ⟨rfl, rfl⟩
  refine ⟨(n : Int), ((numB n).length : Int), 0, rfl, ?_⟩
  rw [show ((0 : Int) != 0) = false from rfl, cond_false, NN'_some]
  refine LdSl H2 rfl ?_
  have hlen : (numB n ++ rest).length = (numB n).length + rest.length := List.length_append
  refine SlV_nat (lo := (numB n).length) (hi := (numB n ++ rest).length) (mx := c) (by omega) hc (Nat.le_refl _) ?_
  rw [NN'_some, addr_add0]
  have e : (numB n ++ rest).length - (numB n).length = rest.length := by omega
  rw [e]
  refine StCC H2 (by exact Nat.zero_lt_one) rfl fun h2 H3 => ?_
  refine ⟨rfl, readerP_shut (a := subA a (numB n).length c 1) (c := c - (numB n).length) (by omega) (by omega) ?_⟩
  refine (roP_mono (fun h hh => ?_) (H3.mv 1)).mv 1
  have := RdC.sub hh (numB n).length rest.length c (by omega)
  rw [← List.map_drop, drop_pre, List.take_of_length_le (by rw [List.length_map]; exact Nat.le_refl _)] at this
  exact this
/-- So many bytes. -/
theorem F199_spec {rb : Nat} {w rest : List Nat} (H : sat (readerP rb (w ++ rest) :: F) h) :
    CallsH Tryz.prog 199 [ptrV rb, .int .u64 (w.length : Int)] h fun v h' => ∃ a c, v = .slice a w.length c ∧ sat (roP (fun h => RdC h a (w.map nv)) :: readerP rb rest :: F) h' := by
  apply F199_ok
  unfold F199
  obtain ⟨a, c, hc, hl, H2⟩ := readerP_open H
  have hlen : (w ++ rest).length = w.length + rest.length := List.length_append
  rw [NN'_some]
  refine LdSl H2 rfl ?_
  rw [IntWalk.u64_in _ (by omega), decide_eq_false (show ¬ ((w.length : Int) > ((w ++ rest).length : Int)) by omega), cond_false, NN'_some]
  refine LdSl H2 rfl ?_
  refine SlV_nat (lo := 0) (hi := w.length) (mx := c) (Nat.zero_le _) (by omega) (Nat.le_refl _) ?_
  rw [NN'_some]
  refine LdSl H2 rfl ?_
  refine SlV_nat (lo := w.length) (hi := (w ++ rest).length) (mx := c) (by omega) hc (Nat.le_refl _) ?_
  rw [NN'_some, addr_add0]
  have e : (w ++ rest).length - w.length = rest.length := by omega
  rw [e, Nat.sub_zero]
  refine StCC H2 (by exact Nat.zero_lt_one) rfl fun h2 H3 => ?_
  refine ⟨_, _, rfl, ?_⟩
  -- rb, ro, F
  have H4 := roP_dup (H3.mv 1)
  have H5 := roP_mono (S := fun h => RdC h (subA a 0 c 1) (w.map nv)) (fun h hh => by
    have := RdC.sub hh 0 w.length c (by omega)
    rw [List.drop_zero, ← List.map_take, List.take_left'] at this
    · exact this
    · rfl) H4
  -- w, ro, rb, F
  have H8 := roP_mono (S := fun h => RdC h (subA a w.length c 1) (rest.map nv)) (fun h hh => by
    have := RdC.sub hh w.length rest.length c (by omega)
    rw [← List.map_drop, drop_pre, List.take_of_length_le (by rw [List.length_map]; exact Nat.le_refl _)] at this
    exact this) (H5.mv 1)
  exact (readerP_shut (a := subA a w.length c 1) (c := c - w.length) (by omega) (by omega) (H8.ordT 3 [2, 0, 1])).mv 1
theorem F157_spec {rb : Nat} {w rest : List Nat} (h8 : B8 w) (hw : w.length < 72057594037927936) (H : sat (readerP rb (wordB w ++ rest) :: F) h) :
    CallsH Tryz.prog 157 [ptrV rb] h fun v h' => v = .string (ofN w) ∧ sat (readerP rb rest :: F) h' := by
  apply F157_ok
  unfold F157
  unfold wordB at H
  rw [List.append_assoc] at H
  refine (F198_spec hw H).mono ?_
  rintro v h1 ⟨rfl, H1⟩
  refine ⟨_, rfl, ?_⟩
  refine (F199_spec H1).mono ?_
  rintro v h2 ⟨a, c, rfl, H2⟩
  rw [DSl_slice]
  exact ⟨ofN w, bytesIn_of (roP_get H2) rfl h8, rfl, H2.drop⟩
end
end Go.Proofs.YtibdiikcigokjaaGreat
namespace Go.Proofs.YtibdiikcigokjaaGreat
open Go Go.RowKit Go.MapKept
set_option linter.unusedVariables false
set_option linter.unusedSimpArgs false
open AF (Meta copyT topT nmI Ent IdOk)
open Hex (digs)

section
variable {F : List HProp} {h : Heap}
theorem word_lt {s : ByteArray} {rest : List Nat} (hl : (wordB (sb s) ++ rest).length ≤ 1099511627776) : (sb s).length < 72057594037927936 := by
  unfold wordB at hl
  simp only [List.length_append] at hl
  omega
theorem F157_text {rb : Nat} {s : ByteArray} {rest : List Nat} (H : sat (readerP rb (wordB (sb s) ++ rest) :: F) h) :
    CallsH Tryz.prog 157 [ptrV rb] h fun v h' => v = .string s ∧ sat (readerP rb rest :: F) h' := by
  obtain ⟨a, c, _, hl, _⟩ := readerP_open H
  have := F157_spec (sb_B8 s) (word_lt hl) H
  rwa [ofN_sb] at this
theorem F156_spec {cb rb : Nat} {p : ByteArray × ByteArray} {rest : List Nat} (H : sat (pt cb (.cells #[ptrV rb] 230 (0, 0)) :: readerP rb (pairB (sb p.1, sb p.2) ++ rest) :: F) h) :
    CallsH Tryz.prog 156 [.pointer (some ⟨cb, 0, none⟩)] h fun v h' => v = .agg #[.string p.1, .string p.2] ∧ sat (pt cb (.cells #[ptrV rb] 230 (0, 0)) :: readerP rb rest :: F) h' := by
  apply F156_ok
  unfold F156
  refine Al_sat H fun b0 h1 H1 => ?_
  refine VPt (H1.mv 1).get ?_
  refine VPt (H1.mv 1).get ?_
  unfold pairB at H1
  rw [List.append_assoc] at H1
  refine (F157_text (H1.mv 2)).mono ?_
  rintro v h2 ⟨rfl, H2⟩
  -- reader, b0, cb, F
  rw [DS_string]
  refine ⟨VPt (H2.mv 2).get rfl, ?_⟩
  refine (F157_text H2).mono ?_
  rintro v h3 ⟨rfl, H3⟩
  rw [DS_string]
  simp only [addr_add0]
  refine StC_sat (H3.mv 1) (by decide) (nofz_zero 2 0 (by decide)) fun h4 H4 => ?_
  refine StC_sat (i := 1) H4 (by simp) (nofz_zero 2 1 (by decide)) fun h5 H5 => ?_
  have H6 : sat (pt b0 (.cells #[.string p.1, .string p.2] 50 (0, 0)) :: readerP rb rest :: pt cb (.cells #[ptrV rb] 230 (0, 0)) :: F) h5 := H5
  refine ⟨.string p.1, by rw [cellAt_of H6.get]; rfl, ?_⟩
  refine ⟨.string p.2, cell_pt (i := 1) H6 rfl, p.1, p.2, rfl, rfl, ?_⟩
  exact (H6.drop).mv 1
theorem numB_pos (n : Nat) : 0 < (numB n).length := by
  obtain ⟨c, t, h, _⟩ := numB_head n
  rw [h, List.length_cons]
  omega
theorem pairs_long (ps : List (ByteArray × ByteArray)) : ps.length ≤ (ps.flatMap fun p => pairB (sb p.1, sb p.2)).length := by
  induction ps with
  | nil => exact Nat.le_refl _
  | cons p ps ih =>
    rw [List.flatMap_cons, List.length_append, List.length_cons]
    have : 0 < (pairB (sb p.1, sb p.2)).length := by
      unfold pairB wordB
      simp only [List.length_append]
      have := numB_pos (sb p.1).length
      omega
    omega
set_option maxHeartbeats 1000000 in
theorem F155_spec {cb rb : Nat} {ps : List (ByteArray × ByteArray)} (H : sat (pt cb (.cells #[ptrV rb] 230 (0, 0)) :: readerP rb (pairsN ps) :: F) h) :
    CallsH Tryz.prog 155 [ptrV rb, .func (.func 156) #[] #[.pointer (some ⟨cb, 0, none⟩)]] h fun v h' => ∃ a c, v = .slice a ps.length c ∧ sat (ownS 50 2 a ps.length c (ps.flatMap pairC) :: pt cb (.cells #[ptrV rb] 230 (0, 0)) :: readerP rb [] :: F) h' := by
  apply F155_ok
  unfold F155
  obtain ⟨_, _, _, hl, _⟩ := readerP_open (H.mv 1)
  rw [← preN_all] at H hl
  unfold preN at H hl
  have hlong := pairs_long ps
  have hlt : ps.length ≤ 1099511627776 := by rw [List.length_append] at hl; omega
  refine (F198_spec (by omega) (H.mv 1)).mono ?_
  rintro v h1 ⟨rfl, H1⟩
  refine ⟨_, rfl, ?_⟩
  obtain ⟨a, c, hc, hl2, H2⟩ := readerP_open H1
  rw [NN'_some]
  refine LdSl H2 rfl ?_
  rw [IntWalk.u64_in _ (by omega), decide_eq_false (show ¬ ((ps.length : Int) > _) by omega), cond_false]
  refine LoopH.upto ps.length (fun i (s : Sl × Int) h2 => s.2 = (i : Int) ∧ i ≤ ps.length ∧ s.1.l = i ∧ sat (ownS 50 2 s.1.a i s.1.c ((ps.take i).flatMap pairC) :: pt cb (.cells #[ptrV rb] 230 (0, 0)) :: readerP rb ((ps.drop i).flatMap fun p => pairB (sb p.1, sb p.2)) :: F) h2) (fun s => ps.length - s.2.toNat) (fun i s h2 hh => ⟨hh.2.1, by rw [hh.1]; omega⟩)
    ⟨rfl, Nat.zero_le _, rfl, ownS_nil 50 2 (H1.mv 1)⟩ ?_ ?_
  · rintro i ⟨⟨sa, sl, sc⟩, s2⟩ h2 again hi ⟨rfl, _, hsl, H3⟩ go
    dsimp only at hsl H3 ⊢
    subst hsl
    rw [decide_eq_true (show ((sl : Int) < (ps.length : Int)) by omega), cond_true]
    obtain ⟨p, hp⟩ : ∃ x, ps[sl]? = some x := ⟨_, List.getElem?_eq_getElem hi⟩
    have hd : ps.drop sl = p :: ps.drop (sl + 1) := by
      rw [List.drop_eq_getElem_cons hi]
      congr 1
      have := List.getElem?_eq_getElem hi
      rw [hp] at this
      exact (Option.some.inj this).symm
    rw [hd, List.flatMap_cons] at H3
    refine CallV_fn ?_
    refine (F156_spec (p := p) (H3.mv 1 |>.ordT 3 [0, 2, 1])).mono ?_
    rintro v h3 ⟨rfl, H4⟩
    -- cb, reader, own, F
    refine ⟨p.1, p.2, rfl, ?_⟩
    refine Al_sat H4 fun b0 h4 H5 => ?_
    refine appendN u144 src144 inf146 (H5.mv 3) (n := 1) (ys := pairC p) (srcOf_slice (RdCf H5 rfl) rfl) (by intro u hu; simp [pairC] at hu; rcases hu with rfl | rfl <;> rfl) (by omega) fun a' c' h5 _ H6 => ?_
    rw [DSl_slice]
    -- own, b0, cb, reader, F
    have e : IntKind.wrap .u64 ((sl : Int) + 1) = ((sl + 1 : Nat) : Int) := by rw [IntWalk.u64_in _ (by omega)]; omega
    rw [e]
    refine go _ _ ⟨rfl, by omega, rfl, ?_⟩
    dsimp only
    have e2 : (ps.take (sl + 1)).flatMap pairC = (ps.take sl).flatMap pairC ++ pairC p := by
      rw [List.take_add_one, hp, List.flatMap_append]
      simp
    rw [e2]
    exact H6.ordT 4 [0, 2, 3]
  · rintro ⟨⟨sa, sl, sc⟩, s2⟩ h2 again ⟨rfl, _, hsl, H3⟩
    dsimp only at hsl H3 ⊢
    subst hsl
    rw [decide_eq_false (by omega), cond_false]
    rw [List.take_length, List.drop_length] at H3
    exact ⟨sa, sc, rfl, H3⟩
theorem F154_spec {rb : Nat} {ps : List (ByteArray × ByteArray)} (H : sat (readerP rb (pairsN ps) :: F) h) :
    CallsH Tryz.prog 154 [ptrV rb] h fun v h' => ∃ a c, v = .slice a ps.length c ∧ sat (ownS 50 2 a ps.length c (ps.flatMap pairC) :: readerP rb [] :: F) h' := by
  apply F154_ok
  unfold F154
  refine Al_sat H fun b0 h1 H1 => ?_
  refine VPt H1.get ?_
  refine (F155_spec H1).mono ?_
  rintro v h2 ⟨a, c, rfl, H2⟩
  rw [DSl_slice]
  exact ⟨a, c, rfl, H2.ordT 3 [0, 2]⟩
theorem F105_spec {a : Option Addr} {c : Nat} {ps : List (ByteArray × ByteArray)} (hc : (pairsN ps).length ≤ c) (hl : (pairsN ps).length ≤ 16777216) (hR : RdC h a ((pairsN ps).map nv)) (H : sat (roP (fun h => RdC h a ((pairsN ps).map nv)) :: F) h) :
    CallsH Tryz.prog 105 [.slice a (pairsN ps).length c] h fun v h' => ∃ a' c', v = .tuple #[.slice a' ps.length c', .int .i64 0] ∧ sat (ownS 50 2 a' ps.length c' (ps.flatMap pairC) :: F) h' := by
  apply F105_ok
  unfold F105
  refine CallsH.mono (Q := fun v h' => ∃ a' c', v = .tuple #[.slice a' ps.length c', .int .i64 0] ∧ sat (ownS 50 2 a' ps.length c' (ps.flatMap pairC) :: F) h') ?_ ?_
  · apply F153_ok
    unfold F153
    refine Al_sat H fun b1 h1 H1 => ?_
    refine Al_sat H1 fun b2 h2 H2 => ?_
    refine Al_sat H2 fun b3 h3 H3 => ?_
    -- b3, b2, b1, ro, F
    have H4 : sat (readerP b3 (pairsN ps) :: pt b2 (.cells #[.int .i64 0] 25 (0, 0)) :: pt b1 (.cells #[.slice none 0 0] 41 (0, 0)) :: F) h3 := readerP_shut (a := a) hc (by omega) (H3.ordT 4 [0, 3, 1, 2])
    refine CallV_fn ?_
    refine (F154_spec H4).mono ?_
    rintro v h4 ⟨a4, c4, rfl, H5⟩
    rw [DSl_slice]
    -- own, reader, b2, b1, F
    refine StCC (H5.mv 3) (by exact Nat.zero_lt_one) rfl fun h5 H6 => ?_
    -- b1, own, reader, b2, F
    obtain ⟨a5, c5, _, _, H7⟩ := readerP_open (H6.mv 2)
    refine LdSl H7 rfl ?_
    rw [show decide ((([] : List Nat).length : Int) > 0) = false from rfl, cond_false, decide_eq_false (show ¬ (((pairsN ps).length : Int) > 16777216) by omega), cond_false]
    -- reader cell, ro, b1, own, b2, F
    refine VSl (H7.mv 2).get ?_
    refine StCC (H7.mv 2) (by exact Nat.zero_lt_one) rfl fun h6 H8 => ?_
    refine StCC (H8.mv 4) (by exact Nat.zero_lt_one) rfl fun h7 H9 => ?_
    refine F197_idle ?_
    -- b2, b1, cell, ro, own, F
    refine VSl (H9.mv 1).get ?_
    refine VIn H9.get ?_
    exact ⟨a4, c4, rfl, H9.ordT 5 [4]⟩
  · rintro v h' ⟨a', c', rfl, H'⟩
    exact ⟨a', _, c', 0, rfl, a', c', rfl, H'⟩
end
end Go.Proofs.YtibdiikcigokjaaGreat
