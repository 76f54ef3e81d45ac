/- Places in file systems that are on and have no fuse: put, get, ready; names of numbers. -/
import Derived.Test.YtibdiikcigokjaaGreatDoorKsLv1
namespace Go.Proofs.YtibdiikcigokjaaGreatDoor
open Go Go.RowKit
set_option linter.unusedVariables false
set_option linter.unusedSimpArgs false
namespace AF
open Frame (packN firstN packN_length packN_B8)
section
variable {k j : ByteArray} {x y : List Nat}
theorem getN_cons (p : ByteArray × List Nat) (l : Dirc) (j : ByteArray) : getN (p :: l) j = if p.1 = j then some p.2 else getN l j := by
 unfold getN
 rw [List.find?_cons]
 by_cases h : p.1 = j <;> simp [h]
theorem getN_set_self (k : ByteArray) (x : List Nat) : ∀ T : Dirc, getN (setN k x T) k = some x
 | [] => by simp [setN, getN_cons]
 | p :: l => by
   unfold setN;split
   · simp [getN_cons]
   · split
     · simp [getN_cons]
     · rename_i h _;rw [getN_cons, if_neg h, getN_set_self k x l]
theorem getN_set_ne (x : List Nat) (h : k ≠ j) : ∀ T : Dirc, getN (setN k x T) j = getN T j
 | [] => by simp [setN, getN_cons, h]
 | p :: l => by
   unfold setN;split
   · rename_i e;rw [getN_cons, getN_cons, if_neg h, if_neg (by rw [e]; exact h)]
   · split
     · rw [getN_cons, if_neg h]
     · rw [getN_cons, getN_cons, getN_set_ne x h l]
theorem getN_none {T : Dirc} : getN T k = none ↔ ∀ p ∈ T, p.1 ≠ k := by
 unfold getN
 simp [List.find?_eq_none]
theorem getN_mem {T : Dirc} (h : getN T k = some x) : (k, x) ∈ T := by
 unfold getN at h
 cases hf : T.find? (fun p => decide (p.1 = k)) with
 | none => rw [hf] at h; cases h
 | some p =>
   rw [hf] at h;have h1 := List.mem_of_find?_eq_some hf;have h2 := List.find?_some hf;simp at h h2;rw [← h, ← h2];exact h1
theorem mem_getN {T : Dirc} (hu : UpN T) (h : (k, x) ∈ T) : getN T k = some x := by
 induction T with
 | nil => cases h
 | cons p T ih =>
   have hu2 := List.pairwise_cons.1 hu;rw [getN_cons]
   rcases List.mem_cons.1 h with rfl | h
   · rw [if_pos rfl]
   · have : p.1 ≠ k := fun e => strLt_irrefl k (by have := hu2.1 _ h; rw [e] at this; exact this);rw [if_neg this, ih hu2.2 h]
theorem getN_del_ne (h : k ≠ j) (T : Dirc) : getN (delN k T) j = getN T j := by
 induction T with
 | nil => rfl
 | cons p T ih =>
   unfold delN at ih ⊢;rw [List.filter_cons];by_cases hk : p.1 = k
   · simp only [hk, decide_true, Bool.not_true, Bool.false_eq_true, if_false];rw [ih, getN_cons, if_neg (by rw [hk]; exact h)]
   · simp only [hk, decide_false, Bool.not_false, if_true];rw [getN_cons, getN_cons, ih]
theorem delN_none {T : Dirc} (h : getN T k = none) : delN k T = T := by
 rw [getN_none] at h
 exact List.filter_eq_self.2 fun p hp => by simpa using h p hp
theorem del_set (x : List Nat) : ∀ {T : Dirc}, getN T k = none → delN k (setN k x T) = T
 | [], _ => by simp [setN, delN]
 | p :: l, h => by
   rw [getN_cons] at h;split at h
   · cases h
   · rename_i hk;unfold setN;rw [if_neg hk];split
     · unfold delN;rw [List.filter_cons];simp only [decide_true, Bool.not_true, Bool.false_eq_true, if_false];exact delN_none (by rw [getN_cons, if_neg hk]; exact h)
     · have := del_set x h;unfold delN at this ⊢;rw [List.filter_cons];simp only [hk, decide_false, Bool.not_false, if_true, this]
theorem set_set (x y : List Nat) : ∀ T : Dirc, setN k y (setN k x T) = setN k y T
 | [] => by simp [setN]
 | p :: l => by
   have ih := set_set x y l;by_cases h : p.1 = k
   · simp [setN, h]
   · by_cases h2 : ltB k p.1 = true
     · simp [setN, h, h2]
     · simp [setN, h, h2, ih]
theorem setN_length (k : ByteArray) (x : List Nat) : ∀ T : Dirc, (setN k x T).length ≤ T.length + 1
 | [] => by simp [setN]
 | p :: l => by
   have := setN_length k x l;unfold setN;split
   · simp
   · split <;> simp <;> omega
theorem mem_setN {p : ByteArray × List Nat} : ∀ {T : Dirc}, p ∈ setN k x T → p = (k, x) ∨ p ∈ T
 | [], h => by simp [setN] at h; exact .inl h
 | q :: l, h => by
   unfold setN at h;split at h
   · rcases List.mem_cons.1 h with h | h
     · exact .inl h
     · exact .inr (List.mem_cons_of_mem _ h)
   · split at h
     · rcases List.mem_cons.1 h with h | h
       · exact .inl h
       · exact .inr h
     · rcases List.mem_cons.1 h with h | h
       · exact .inr (by rw [h]; exact List.mem_cons_self ..)
       · rcases mem_setN h with h | h
         · exact .inl h
         · exact .inr (List.mem_cons_of_mem _ h)
end
theorem right_tmp {name : ByteArray} (h : right name = true) (hs : name.size ≤ 28) : right (tmpN ++ name) = true := by
 unfold right at h ⊢
 simp only [Bool.and_eq_true, decide_eq_true_eq] at h ⊢
 rw [ByteArray.size_append, ByteArray.data_append, Array.toList_append, List.all_append]
 refine ⟨⟨?_, ?_⟩, ?_⟩
 · have : tmpN.size = 4 := rfl;omega
 · have : tmpN.size = 4 := rfl;omega
 · rw [h.2, Bool.and_true];decide
theorem isTmp_tmp (name : ByteArray) : isTmp (tmpN ++ name) = true := by
 unfold isTmp
 rw [ByteArray.size_append]
 have h1 : tmpN.size = 4 := rfl
 have h2 : sb (tmpN ++ name) = sb tmpN ++ sb name := by
  unfold sb nb;rw [ByteArray.data_append, Array.toList_append, List.map_append]
 rw [h2, List.take_append_of_le_length (by decide)]
 have h3 : (sb tmpN).take 4 = sb tmpN := by decide
 rw [h3]
 simp [h1]
theorem seqF_cons {g : FS → FS × Nat} {gs : List (FS → FS × Nat)} {A : FS} (h : (g A).2 = 0) : seqF (g :: gs) A = seqF gs (g A).1 := by
 conv => lhs; unfold seqF
 rw [if_pos h]
section
variable {A : FS} {dir name : ByteArray} {T : Dirc} {x : List Nat}
theorem put_ok (L : Live A) (H : Has A dir T) (hr : right name = true) (hs : name.size ≤ 28) (ht : getN T (tmpN ++ name) = none) (hl : T.length < 4096) (h8 : B8 x) (hx : x.length ≤ 16777208) (hu : A.used + (8 + x.length) ≤ A.room) :
  (A.put dir name x).2 = 0 ∧ Upd 0 (8 + x.length) 5 A (A.put dir name x).1 dir (setN name (packN x) T) := by
 have e : A.put dir name x = seqF (rawSteps dir name (packN x)) A := by
  unfold FS.put FS.raw;rw [if_neg (by omega), if_neg (by omega), list_ok L H];simp only [];unfold rawAll;rw [if_neg];intro h;rw [List.any_eq_true] at h;obtain ⟨s, hs, he⟩ := h;obtain ⟨p, hp, rfl⟩ := List.mem_map.1 hs;exact getN_none.1 ht p hp (by simpa using he)
 rw [e]
 unfold rawSteps
 obtain ⟨e1, u1⟩ := create_ok L H (right_tmp hr hs) ht hl
 rw [seqF_cons e1]
 obtain ⟨e2, u2⟩ := append_ok u1.live u1.here (getN_set_self _ _ _) (packN_B8 h8) (by rw [packN_length]; simp; omega) (by have := u1.used; rw [u1.room, packN_length]; omega)
 rw [seqF_cons e2]
 rw [List.nil_append, set_set] at u2
 obtain ⟨e3, u3⟩ := sync_ok u2.live u2.here (getN_set_self _ _ _)
 rw [seqF_cons e3]
 obtain ⟨e4, u4⟩ := rename_ok u3.live u3.here (getN_set_self _ _ _) hr
 rw [seqF_cons e4]
 rw [del_set _ ht] at u4
 obtain ⟨e5, u5⟩ := syncDir_ok u4.live u4.here
 rw [seqF_cons e5]
 refine ⟨rfl, ?_⟩
 have := (((u1.trans u2).trans u3).trans u4).trans u5
 rw [packN_length] at this
 exact this.weak (by omega) (by omega) (by omega)
theorem get_gen {p : List Nat} (h2 : x.length + 8 = p.length) (h3 : firstN p = some x) (hr : A.read dir name = .ok p) : A.get dir name = .ok x := by
 unfold FS.get
 rw [hr]
 simp only [h3]
 rw [if_pos h2]
theorem get_ok (L : Live A) (H : Has A dir T) (hn : getN T name = some (packN x)) (h8 : B8 x) (hx : x.length ≤ 16777208) : A.get dir name = .ok x := by
 have h1 := Frame.firstN_pack h8 hx []
 rw [List.append_nil] at h1
 have h2 : x.length + 8 = (packN x).length := by rw [packN_length, Nat.add_comm]
 exact get_gen h2 h1 (read_ok L H hn)
theorem cleanGo_none (dir : ByteArray) : ∀ (l : List ByteArray) (A : FS) (n : Nat), (∀ s ∈ l, isTmp s = false) → cleanGo dir l A n = (A, .ok n)
 | [], A, n, _ => rfl
 | s :: l, A, n, h => by
   unfold cleanGo;rw [h s (by simp)];simp only [Bool.false_eq_true, if_false];exact cleanGo_none dir l A n fun t ht => h t (List.mem_cons_of_mem _ ht)
theorem tidy_ok (L : Live A) (H : Has A dir T) (ht : ∀ p ∈ T, isTmp p.1 = false) : A.tidy dir = (A, .ok (T.map (·.1))) := by
 have hl := list_ok L H
 unfold FS.tidy FS.clean
 rw [hl]
 simp only []
 rw [cleanGo_none dir _ A 0 fun s hs => by obtain ⟨p, hp, rfl⟩ := List.mem_map.1 hs; exact ht p hp]
 simp only [Nat.lt_irrefl, if_false, hl]
theorem prep_new (L : Live A) (hr : right dir = true) (ha : A.at dir = none) (hf : A.dirs.length < 64) : Upd 1 0 1 A (A.prep dir).1 dir [] ∧ (A.prep dir).2 = .ok [] := by
 obtain ⟨e, u⟩ := mkdir_ok L hr ha hf
 have hl : A.list dir = .error 61 := by
  unfold FS.list FS.ready FS.named;rw [L.off, if_neg (by decide), hr];simp [ha]
 have e2 : A.prep dir = ((A.mkdir dir).1, .ok []) := by
  unfold FS.prep;rw [hl];simp only [];rw [if_pos e, tidy_ok u.live u.here (by simp)]
  rfl
 rw [e2]
 exact ⟨u, rfl⟩
end
theorem live_new {room : Nat} (h : room ≤ 1073741824) : Live ⟨room, 0, none, false, [], []⟩ :=
 ⟨⟨h, List.Pairwise.nil, by simp, List.Pairwise.nil, by simp, by simp, by simp⟩, rfl, rfl⟩
namespace Fnm
open Hex (digs hexd)
def nm (c : Nat) (n : Nat) : ByteArray := ofN [c, 46] ++ ofN (digs 16 n)
theorem sb_app (a b : ByteArray) : sb (a ++ b) = sb a ++ sb b := by
 unfold sb nb
 rw [ByteArray.data_append, Array.toList_append, List.map_append]
theorem nm_sb {c : Nat} (hc : c < 256) (n : Nat) : sb (nm c n) = c :: 46 :: digs 16 n := by
 unfold nm
 rw [sb_app, sb_ofN (fun x hx => by simp at hx; omega), sb_ofN (Hex.digs_B8 16 n)]
 rfl
theorem nm_size (c n : Nat) : (nm c n).size = 18 := by
 unfold nm
 rw [ByteArray.size_append]
 have : (ofN (digs 16 n)).size = 16 := by
  rw [← sb_length, sb_ofN (Hex.digs_B8 16 n), Hex.digs_length]
 rw [this]
 rfl
theorem hexd_right {x : Nat} (h : x < 16) : (decide (97 ≤ hexd x) && decide (hexd x ≤ 122) || (decide (48 ≤ hexd x) && decide (hexd x ≤ 57)) || decide (hexd x = 46)) = true := by
 have : ∀ x : Fin 16, (decide (97 ≤ hexd x.val) && decide (hexd x.val ≤ 122) || (decide (48 ≤ hexd x.val) && decide (hexd x.val ≤ 57)) || decide (hexd x.val = 46)) = true := by decide
 exact this ⟨x, h⟩
theorem digs_mem : ∀ (k m c : Nat), c ∈ digs k m → ∃ x, x < 16 ∧ c = hexd x
 | 0, m, c, h => by cases h
 | k + 1, m, c, h => by
   rw [digs] at h
   rcases List.mem_cons.1 h with rfl | h
   · exact ⟨_, Nat.mod_lt _ (by decide), rfl⟩
   · exact digs_mem k m c h
theorem nm_right {c : Nat} (h1 : 97 ≤ c) (h2 : c ≤ 122) (n : Nat) : right (nm c n) = true := by
 unfold right
 rw [nm_size]
 have : (nm c n).data.toList.all (fun c => (decide (97 ≤ c.toNat) && decide (c.toNat ≤ 122)) || (decide (48 ≤ c.toNat) && decide (c.toNat ≤ 57)) || decide (c.toNat = 46)) = true := by
  rw [List.all_eq_true];intro u hu;have hm : u.toNat ∈ sb (nm c n) := List.mem_map.2 ⟨u, hu, rfl⟩;rw [nm_sb (by omega)] at hm
  rcases List.mem_cons.1 hm with h | h
  · rw [h];simp [h1, h2]
  · rcases List.mem_cons.1 h with h | h
    · rw [h]; decide
    · obtain ⟨x, hx, hc⟩ := digs_mem 16 n _ h;rw [hc];exact hexd_right hx
 rw [this]
 rfl
theorem nm_tmp {c : Nat} (hc : c < 256) (n : Nat) : isTmp (nm c n) = false := by
 unfold isTmp
 rw [nm_sb hc]
 have : ¬ ((c :: 46 :: digs 16 n).take 4 = sb tmpN) := fun h => by
  have := congrArg (fun l => l[1]?) h;simp [show sb tmpN = [116, 109, 112, 46] from by decide] at this
 rw [decide_eq_false this, Bool.and_false]
theorem digs_inj {a b : Nat} (ha : a < 18446744073709551616) (hb : b < 18446744073709551616) (h : digs 16 a = digs 16 b) : a = b := by
 have h1 := Hex.digs_lt 16 a b
 have h2 := Hex.digs_lt 16 b a
 rw [h] at h1 h2
 have e1 : ¬ (((digs 16 b).map UInt8.ofNat) < ((digs 16 b).map UInt8.ofNat)) := List.lt_irrefl _
 have p : (16 : Nat) ^ 16 = 18446744073709551616 := by decide
 rw [p, Nat.mod_eq_of_lt ha, Nat.mod_eq_of_lt hb] at h1
 rw [p, Nat.mod_eq_of_lt ha, Nat.mod_eq_of_lt hb] at h2
 have a1 : ¬ a < b := fun hh => e1 (h1.2 hh)
 have a2 : ¬ b < a := fun hh => e1 (h2.2 hh)
 omega
theorem nm_inj {c d a b : Nat} (hc : c < 256) (hd : d < 256) (ha : a < 18446744073709551616) (hb : b < 18446744073709551616) (h : nm c a = nm d b) : c = d ∧ a = b := by
 have := congrArg sb h
 rw [nm_sb hc, nm_sb hd] at this
 simp only [List.cons.injEq, true_and] at this
 exact ⟨this.1, digs_inj ha hb this.2⟩
theorem nm_tmpne (c n : Nat) (name : ByteArray) (hc : c < 256) : tmpN ++ name ≠ nm c n := fun h => by
 have h1 := isTmp_tmp name
 rw [h, nm_tmp hc] at h1
 cases h1
end Fnm
end AF
end Go.Proofs.YtibdiikcigokjaaGreatDoor
