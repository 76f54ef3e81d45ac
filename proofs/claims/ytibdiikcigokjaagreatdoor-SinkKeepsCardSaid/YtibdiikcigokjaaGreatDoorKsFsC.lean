/- The file system's own block: steps, fuses, what is told of it. How a file system lies in memory. Names, and the closures that a pending operation is. The closures that a pending operation is. Directories found by their names. Maps as lists, in whatever order; directories and entries found by their names. A file found by its directory and name; steps; pending operations done. What is used, counted. A pending operation: done among the entries, kept for later. Mkdir. Create. -/
import Derived.Test.YtibdiikcigokjaaGreatDoorKsFsA
import Derived.Test.YtibdiikcigokjaaGreatDoorKsFsB
import Derived.Test.YtibdiikcigokjaaGreatDoorKsFwB
import Derived.Test.YtibdiikcigokjaaGreatDoorKsTa
namespace Go.Proofs.YtibdiikcigokjaaGreatDoor
open Go Go.RowKit
set_option linter.unusedVariables false
set_option linter.unusedSimpArgs false
def rawFS (b : Nat) (room used steps fuse : Int) (off : Bool) (md : Nat) : HProp :=
 pt b (.cells #[.int .i64 room, .int .i64 used, .int .i64 steps, .int .i64 fuse, .bool off, .map (some md)] 120 (0, 0))
theorem F170_spec {b md : Nat} {room used steps fuse : Int} {off : Bool} {F : List HProp} {h : Heap} (H : sat (rawFS b room used steps fuse off md :: F) h) (hf : -1 ≤ fuse ∧ fuse ≤ 9223372036854775807) (hs : 0 ≤ steps ∧ steps < 9223372036854775807) :
  CallsH Tryz.prog 170 [.pointer (some ⟨b, 0, none⟩)] h fun v h' =>
   (fuse = 0 ∧ v = .int .i64 60 ∧ sat (rawFS b room used steps fuse true md :: F) h') ∨
   (fuse ≠ 0 ∧ v = .int .i64 0 ∧ sat (rawFS b room used (steps + 1) (if fuse < 0 then -1 else fuse - 1) off md :: F) h') := by
 apply F170_ok.ap
 unfold F170
 simp only [NN'_some', addr_add0]
 refine LdC (v := .int .i64 fuse) H rfl ?_
 rw [DI_int]
 by_cases h0 : fuse = 0
 · subst h0;rw [show ((0 : Int) == 0) = true from rfl, cond_true];refine StCC (i := 4) (c' := #[.int .i64 room, .int .i64 used, .int .i64 steps, .int .i64 0, .bool true, .map (some md)]) H (by show 4 < 6; decide) rfl fun h1 H1 => ?_;exact .inl ⟨rfl, by trivial, H1⟩
 · have hb : (fuse == 0) = false := by simpa using h0
   rw [hb, cond_false];refine LdC (v := .int .i64 fuse) H rfl ?_;rw [DI_int];have w : (if (-1 : Int) > IntKind.wrap .i64 (fuse - 1) then (-1) else IntKind.wrap .i64 (fuse - 1)) = (if fuse < 0 then -1 else fuse - 1) := by
    rw [IntWalk.i64_in _ (by omega)];split <;> split <;> omega
   rw [w];refine StCC (c' := #[.int .i64 room, .int .i64 used, .int .i64 steps, .int .i64 (if fuse < 0 then -1 else fuse - 1), .bool off, .map (some md)]) H (by show 3 < 6; decide) rfl fun h1 H1 => ?_;refine LdC (v := .int .i64 steps) H1 rfl ?_;rw [DI_int, IntWalk.i64_in (steps + 1) (by omega)];refine StCC (c' := #[.int .i64 room, .int .i64 used, .int .i64 (steps + 1), .int .i64 (if fuse < 0 then -1 else fuse - 1), .bool off, .map (some md)]) H1 (by show 2 < 6; decide) rfl fun h2 H2 => ?_;exact .inr ⟨h0, by trivial, H2⟩
open Go Go.RowKit Go.MapKept
def fileP (x : AF.File) (xb : Nat) : HProp := exi fun q : Option Addr × Nat => Many [pt xb (.cells #[.slice q.1 x.b.length q.2, .int .i64 (x.safe : Int)] 141 (0, 0)), ownS 5 1 q.1 x.b.length q.2 (x.b.map nv)]
def namesP (xbs : List Nat) (mb : Nat) (l : AF.Names) : HProp := exi fun m : List (ByteArray × Value) => Many [ownM strKeys mb m, pur (m.Perm (l.map fun p => (p.1, ptrV (xbs.getD p.2 0))))]
def opP (xbs : List Nat) : AF.Op → Value → HProp
 | .create n f, v => exi fun q : Nat × Nat => Many [pur (v = .func (.func 172) #[] #[ptrV q.1, ptrV q.2]), ro q.1 (.cells #[ptrV (xbs.getD f 0)] 131 (0, 0)), ro q.2 (.cells #[.string n] 9 (0, 0))]
 | .rename a b, v => exi fun q : Nat × Nat => Many [pur (v = .func (.func 174) #[] #[ptrV q.1, ptrV q.2]), ro q.1 (.cells #[.string a] 9 (0, 0)), ro q.2 (.cells #[.string b] 9 (0, 0))]
 | .remove a, v => exi fun q : Nat => Many [pur (v = .func (.func 175) #[] #[ptrV q]), ro q (.cells #[.string a] 9 (0, 0))]
structure DirQ where
 nb : Nat
 bb : Nat
 a : Option Addr
 c : Nat
def dirP (xbs : List Nat) (d : AF.Dir) (fb : Nat) : HProp := exi fun q : DirQ => Many [pt fb (.cells #[.map (some q.nb), .map (some q.bb), .slice q.a d.pend.length q.c] 134 (0, 0)), namesP xbs q.nb d.now, namesP xbs q.bb d.base, ownL (opP xbs) 138 q.a d.pend.length q.c d.pend]
def fuseI : Option Nat → Int
 | some n => (n : Int)
 | none => -1
structure FsQ where
 md : Nat
 fbs : List Nat
 xbs : List Nat
 m : List (ByteArray × Value)
def filesP (xbs : List Nat) (fs : List AF.File) : HProp := Many (List.zipWith fileP fs xbs)
def dirsP (xbs fbs : List Nat) (ds : List AF.Dir) : HProp := Many (List.zipWith (dirP xbs) ds fbs)
def fsQ (A : AF.FS) (q : FsQ) : Prop := q.m.Perm (List.zipWith (fun (d : AF.Dir) fb => (d.name, ptrV fb)) A.dirs q.fbs) ∧ q.fbs.length = A.dirs.length ∧ q.xbs.length = A.files.length
def rawOf (b : Nat) (A : AF.FS) (md : Nat) : HProp := rawFS b (A.room : Int) (A.used : Int) (A.steps : Int) (fuseI A.fuse) A.off md
def fsO (b : Nat) (A : AF.FS) (q : FsQ) : HProp := Many [rawOf b A q.md, ownM strKeys q.md q.m, filesP q.xbs A.files, dirsP q.xbs q.fbs A.dirs]
def fsP (b : Nat) (A : AF.FS) : HProp := exi fun q : FsQ => Many [pur (fsQ A q), fsO b A q]
section
variable {b : Nat} {A : AF.FS} {F : List HProp} {h : Heap}
theorem fsP_open (H : sat (fsP b A :: F) h) : ∃ q : FsQ, fsQ A q ∧ sat (rawOf b A q.md :: ownM strKeys q.md q.m :: filesP q.xbs A.files :: dirsP q.xbs q.fbs A.dirs :: F) h := by
 obtain ⟨q, H⟩ := sat_exi.1 H
 obtain ⟨hq, H2⟩ := sat_pur.1 H.open
 exact ⟨q, hq, H2.open⟩
theorem fsP_shut (q : FsQ) (hq : fsQ A q) (H : sat (rawOf b A q.md :: ownM strKeys q.md q.m :: filesP q.xbs A.files :: dirsP q.xbs q.fbs A.dirs :: F) h) : sat (fsP b A :: F) h := by
 have H2 : sat (fsO b A q :: F) h := sat.shut (m := [rawOf b A q.md, ownM strKeys q.md q.m, filesP q.xbs A.files, dirsP q.xbs q.fbs A.dirs]) (l := F) H
 have H3 : sat (pur (fsQ A q) :: fsO b A q :: F) h := sat_pur.2 ⟨hq, H2⟩
 exact sat_exi.2 ⟨q, sat.shut (m := [pur (fsQ A q), fsO b A q]) (l := F) H3⟩
end
theorem many_nil {F : List HProp} {h : Heap} (H : sat F h) : sat (Many [] :: F) h := sat.shut (m := []) H
theorem F14_spec {room : Nat} {h : Heap} {F : List HProp} (H : sat F h) (hr : room ≤ 1073741824) :
  CallsH Tryz.prog 14 [.int .i64 (room : Int)] h fun v h' => ∃ b, v = .tuple #[ptrV b, .int .i64 0] ∧ sat (fsP b ⟨room, 0, none, false, [], []⟩ :: F) h' := by
 apply F14_ok.ap
 unfold F14
 rw [decide_eq_false (show ¬ ((room : Int) < 0) by omega), cond_false, decide_eq_false (show ¬ ((room : Int) > 1073741824) by omega), cond_false]
 refine Al_sat H fun b0 h1 H1 => Al_sat H1 fun b1 h2 H2 => ?_
 refine ⟨b1, rfl, ?_⟩
 have H3 := (ownM_new strKeys (H2.mv 1)).mv 1
 refine fsP_shut ⟨b0, [], [], []⟩ ⟨.refl _, rfl, rfl⟩ ?_
 have H4 : sat (filesP [] [] :: rawOf b1 ⟨room, 0, none, false, [], []⟩ b0 :: ownM strKeys b0 [] :: F) h2 := many_nil H3
 have H5 : sat (dirsP [] [] [] :: filesP [] [] :: rawOf b1 ⟨room, 0, none, false, [], []⟩ b0 :: ownM strKeys b0 [] :: F) h2 := many_nil H4
 exact H5.ordT 4 [2, 3, 1, 0]
def goodC (n : Nat) : Bool := (decide (97 ≤ n) && decide (n ≤ 122)) || (decide (48 ≤ n) && decide (n ≤ 57)) || decide (n = 46)
theorem right_eq (s : ByteArray) : AF.right s = (decide (1 ≤ s.size) && decide (s.size ≤ 32) && (sb s).all goodC) := by
 unfold AF.right sb nb
 rw [List.all_map]
 rfl
theorem F215_spec {s : ByteArray} {h : Heap} (hs : s.size < 4611686018427387904) : CallsH Tryz.prog 215 [.string s] h fun v h' => v = .bool (AF.right s) ∧ h' = h := by
 apply F215_ok.ap
 unfold F215
 have hsl := sb_length s
 refine ⟨fun st h1 => h1 = h ∧ ∃ i : Nat, st = (i : Int) ∧ i ≤ s.size ∧ ((sb s).take i).all goodC = true, fun st _ => ((s.size : Int) - st).toNat, ⟨rfl, 0, rfl, Nat.zero_le _, by simp⟩, ?_⟩
 rintro st h1 ⟨rfl, i, rfl, hi, hg⟩
 by_cases hlt : i < s.size
 · rw [decide_eq_true (show ((i : Int) < (s.size : Int)) by omega), cond_true];refine ⟨by omega, by omega, ?_⟩;obtain ⟨x, hx⟩ : ∃ x, (sb s)[i]? = some x := ⟨_, List.getElem?_eq_getElem (by omega)⟩
   rw [bt_sb hx];have bad : goodC x = false → AF.right s = false := fun hb => by
    rw [right_eq, Bool.and_eq_false_iff];right;rw [List.all_eq_false];exact ⟨x, List.mem_of_getElem? hx, by rw [hb]; simp⟩
   have on : goodC x = true → (h1 = h1 ∧ ∃ j : Nat, IntKind.wrap .i64 ((i : Int) + 1) = (j : Int) ∧ j ≤ s.size ∧ ((sb s).take j).all goodC = true) ∧ ((s.size : Int) - IntKind.wrap .i64 ((i : Int) + 1)).toNat < ((s.size : Int) - (i : Int)).toNat := fun hb => by
    rw [wrap64_succ (by omega)];refine ⟨⟨rfl, i + 1, rfl, by omega, ?_⟩, by omega⟩;rw [List.take_add_one, hx, List.all_append, hg];simp [hb]
   by_cases h97 : x < 97
   · rw [decide_eq_true (show ((x : Int) < 97) by omega), cond_true];by_cases h48 : x < 48
     · rw [decide_eq_true (show ((x : Int) < 48) by omega), cond_true];by_cases h46 : x = 46
       · subst h46;exact on rfl
       · rw [show (((x : Int)) != 46) = true by rw [bne_iff_ne]; omega, cond_true, bad (by simp [goodC]; omega)];exact ⟨rfl, rfl⟩
     · rw [decide_eq_false (show ¬ ((x : Int) < 48) by omega), cond_false];by_cases h57 : x > 57
       · rw [decide_eq_true (show ((x : Int) > 57) by omega), cond_true, show (((x : Int)) != 46) = true by rw [bne_iff_ne]; omega, cond_true, bad (by simp [goodC]; omega)];exact ⟨rfl, rfl⟩
       · rw [decide_eq_false (show ¬ ((x : Int) > 57) by omega), cond_false];exact on (by simp [goodC]; omega)
   · rw [decide_eq_false (show ¬ ((x : Int) < 97) by omega), cond_false];by_cases h122 : x > 122
     · rw [decide_eq_true (show ((x : Int) > 122) by omega), cond_true, decide_eq_false (show ¬ ((x : Int) < 48) by omega), cond_false,
        decide_eq_true (show ((x : Int) > 57) by omega), cond_true, show (((x : Int)) != 46) = true by rw [bne_iff_ne]; omega, cond_true, bad (by simp [goodC]; omega)]
       exact ⟨rfl, rfl⟩
     · rw [decide_eq_false (show ¬ ((x : Int) > 122) by omega), cond_false];exact on (by simp [goodC]; omega)
 · have e : i = s.size := by omega
   subst e;rw [decide_eq_false (by omega), cond_false];rw [List.take_of_length_le (by omega)] at hg;rw [right_eq, hg, Bool.and_true, strEq_eq, sb_empty];by_cases h0 : s.size = 0
   · have : sb s = [] := List.eq_nil_of_length_eq_zero (by omega);rw [decide_eq_true this, h0];exact ⟨rfl, rfl⟩
   · have : ¬ sb s = [] := fun e => h0 (by rw [← hsl, e]; rfl);rw [decide_eq_false this, Bool.not_false, cond_true, decide_eq_true (show 1 ≤ s.size by omega), Bool.true_and];refine ⟨congrArg Value.bool ?_, rfl⟩;by_cases h32 : s.size ≤ 32
     · rw [decide_eq_true h32, decide_eq_true (show ((s.size : Int) ≤ 32) by omega)]
     · rw [decide_eq_false h32, decide_eq_false (show ¬ ((s.size : Int) ≤ 32) by omega)]
theorem u88 : Tryz.prog.underlying 130 = some (.map 9 131) := by kernel_rfl
theorem u9 : Tryz.prog.underlying 9 = some strKeys.desc := by kernel_rfl
theorem F172_spec {mb bx bn xb : Nat} {m : List (ByteArray × Value)} {n : ByteArray} {ex en : TypeId} {h : Heap} {F : List HProp} (H : sat (ownM strKeys mb m :: F) h) (hx : h[bx]? = some (.cells #[ptrV xb] ex (0, 0))) (hn : h[bn]? = some (.cells #[.string n] en (0, 0))) :
  CallsH Tryz.prog 172 [.map (some mb), ptrV bx, ptrV bn] h fun v h' => v = .tuple #[] ∧ sat (ownM strKeys mb (updM m n (ptrV xb)) :: F) h' := by
 apply F172_ok (n0 := some mb) (c0 := ⟨bx, 0, none⟩) (c1 := ⟨bn, 0, none⟩)
 unfold F172
 refine LdB hn ?_
 rw [DS_string]
 refine LdB hx ?_
 show DP (.pointer (some ⟨xb, 0, none⟩)) _
 rw [DP_pointer]
 exact mapUpdate_sat (E := strKeys) (k := n) u88 u9 H fun h' H' => ⟨rfl, H'⟩
theorem F175_spec {mb bn : Nat} {m : List (ByteArray × Value)} {n : ByteArray} {en : TypeId} {h : Heap} {F : List HProp} (H : sat (ownM strKeys mb m :: F) h) (hn : h[bn]? = some (.cells #[.string n] en (0, 0))) :
  CallsH Tryz.prog 175 [.map (some mb), ptrV bn] h fun v h' => v = .tuple #[] ∧ sat (ownM strKeys mb (delM m n) :: F) h' := by
 apply F175_ok (n0 := some mb) (c0 := ⟨bn, 0, none⟩)
 unfold F175
 refine LdB hn ?_
 rw [DS_string]
 exact delete_sat (E := strKeys) (k := n) u88 u9 H fun h' H' => ⟨rfl, H'⟩
theorem F174_spec {mb ba bb : Nat} {m : List (ByteArray × Value)} {a b : ByteArray} {ea eb : TypeId} {p : Option Addr} {h : Heap} {F : List HProp} (H : sat (ownM strKeys mb m :: F) h) (ha : h[ba]? = some (.cells #[.string a] ea (0, 0)))
  (hb : ∀ h', sat (ownM strKeys mb (delM m a) :: F) h' → h'[bb]? = some (.cells #[.string b] eb (0, 0))) (hp : (lkM m a).getD (.pointer none) = .pointer p) :
  CallsH Tryz.prog 174 [.map (some mb), ptrV ba, ptrV bb] h fun v h' => v = .tuple #[] ∧ sat (ownM strKeys mb (updM (delM m a) b (.pointer p)) :: F) h' := by
 apply F174_ok (n0 := some mb) (c0 := ⟨ba, 0, none⟩) (c1 := ⟨bb, 0, none⟩)
 unfold F174
 refine LdB ha ?_
 rw [DS_string]
 obtain ⟨es, clock, hm, hes⟩ := mapEs_ownM H
 obtain ⟨f, hf, hl, _⟩ := hm.find a
 refine ⟨es, hes, f, hf, ?_⟩
 rw [hl, hp, DP_pointer]
 refine LdB ha ?_
 rw [DS_string]
 refine delete_sat (E := strKeys) (k := a) u88 u9 H fun h1 H1 => ?_
 refine LdB (hb h1 H1) ?_
 rw [DS_string]
 exact mapUpdate_sat (E := strKeys) (k := b) u88 u9 H1 fun h' H' => ⟨rfl, H'⟩
def foundV (m : List (ByteArray × Value)) (dir : ByteArray) (ss : List ByteArray) : Value :=
 if AF.right dir && ss.all AF.right then match lkM m dir with
  | some v => .tuple #[v, .int .i64 0]
  | none => .tuple #[.pointer none, .int .i64 61]
 else .tuple #[.pointer none, .int .i64 65]
theorem F144_spec {b md : Nat} {room used steps fuse : Int} {off : Bool} {m : List (ByteArray × Value)} {dir : ByteArray} {a : Option Addr} {l c : Nat} {ss : List ByteArray} {h : Heap} {F : List HProp}
  (H : sat (rawFS b room used steps fuse off md :: ownM strKeys md m :: F) h) (hp : ∀ k v, lkM m k = some v → ∃ fb, v = ptrV fb) (hr : RdC h a (ss.map Value.string)) (hl : ss.length = l) (hlb : l < 1000)
  (hd : dir.size < 4611686018427387904) (hss : ∀ s ∈ ss, s.size < 4611686018427387904) :
  CallsH Tryz.prog 144 [.pointer (some ⟨b, 0, none⟩), .string dir, .slice a l c] h fun v h' => v = foundV m dir ss ∧ h' = h := by
 apply F144_ok.ap
 unfold F144
 refine (F215_spec hd).mono ?_
 rintro v h1 ⟨rfl, rfl⟩
 rw [DB_bool]
 cases hrd : AF.right dir with
 | false => exact ⟨by unfold foundV; rw [hrd]; rfl, rfl⟩
 | true =>
   rw [Bool.not_true, cond_false];refine ⟨fun st h2 => h2 = h1 ∧ ∃ i : Nat, st = (i : Int) ∧ i ≤ l ∧ (ss.take i).all AF.right = true, fun st _ => ((l : Int) - st).toNat, ⟨rfl, 0, rfl, Nat.zero_le _, by simp⟩, ?_⟩;rintro st h2 ⟨rfl, i, rfl, hi, hg⟩;by_cases hlt : i < l
   · rw [decide_eq_true (show ((i : Int) < (l : Int)) by omega), cond_true];obtain ⟨s, hs⟩ : ∃ s, ss[i]? = some s := ⟨_, List.getElem?_eq_getElem (by omega)⟩
     refine IdxA_nat (v := .string s) hr (by rw [List.length_map]; exact hl) (by rw [List.getElem?_map, hs]; rfl) fun b hb hc => ⟨_, hc, ?_⟩
     show DS (.string s) _;rw [DS_string];refine (F215_spec (hss s (List.mem_of_getElem? hs))).mono ?_;rintro v h3 ⟨rfl, rfl⟩;rw [DB_bool]
     cases hrs : AF.right s with
     | false =>
       refine ⟨?_, rfl⟩;have : ss.all AF.right = false := by
        rw [List.all_eq_false];exact ⟨s, List.mem_of_getElem? hs, by rw [hrs]; simp⟩
       unfold foundV;rw [hrd, this]
       rfl
     | true =>
       rw [Bool.not_true, cond_false, wrap64_succ (by omega)];refine ⟨⟨rfl, i + 1, rfl, by omega, ?_⟩, by show ((l : Int) - ((i + 1 : Nat) : Int)).toNat < ((l : Int) - (i : Int)).toNat; omega⟩;rw [List.take_add_one, hs, List.all_append, hg];simp [hrs]
   · have e : i = l := by omega
     subst e;rw [decide_eq_false (by omega), cond_false];rw [List.take_of_length_le (by omega)] at hg;simp only [NN'_some'];refine LdC (v := .map (some md)) H rfl ?_;rw [DM_map];obtain ⟨es, clock, hm, hes⟩ := mapEs_ownM (H.mv 1);obtain ⟨f, hf, hlk, _⟩ := hm.find dir;refine ⟨es, hes, f, hf, ?_⟩;rw [hlk]
     cases hk : lkM m dir with
     | none =>
       show DP (.pointer none) _;rw [DP_pointer];exact ⟨by unfold foundV; rw [hrd, hg, hk]; rfl, by trivial⟩
     | some v =>
       obtain ⟨fb, rfl⟩ := hp dir v hk;show DP (.pointer (some ⟨fb, 0, none⟩)) _;rw [DP_pointer];exact ⟨by unfold foundV; rw [hrd, hg, hk]; rfl, by trivial⟩
def readyV (off : Bool) (m : List (ByteArray × Value)) (dir : ByteArray) (ss : List ByteArray) : Value := if off then .tuple #[.pointer none, .int .i64 60] else foundV m dir ss
theorem foundV_form {m : List (ByteArray × Value)} (hp : ∀ k v, lkM m k = some v → ∃ fb, v = ptrV fb) (dir : ByteArray) (ss : List ByteArray) : ∃ (p : Option Addr) (e : Int), foundV m dir ss = .tuple #[.pointer p, .int .i64 e] := by
 unfold foundV
 split
 · cases hk : lkM m dir with
   | none => exact ⟨none, 61, rfl⟩
   | some v =>
     obtain ⟨fb, rfl⟩ := hp dir v hk;exact ⟨some ⟨fb, 0, none⟩, 0, rfl⟩
 · exact ⟨none, 65, rfl⟩
theorem F50_spec {b md : Nat} {room used steps fuse : Int} {off : Bool} {m : List (ByteArray × Value)} {dir : ByteArray} {a : Option Addr} {l c : Nat} {ss : List ByteArray} {h : Heap} {F : List HProp}
  (H : sat (rawFS b room used steps fuse off md :: ownM strKeys md m :: F) h) (hp : ∀ k v, lkM m k = some v → ∃ fb, v = ptrV fb) (hr : RdC h a (ss.map Value.string)) (hl : ss.length = l) (hlb : l < 1000)
  (hd : dir.size < 4611686018427387904) (hss : ∀ s ∈ ss, s.size < 4611686018427387904) :
  CallsH Tryz.prog 50 [.pointer (some ⟨b, 0, none⟩), .string dir, .slice a l c] h fun v h' => v = readyV off m dir ss ∧ h' = h := by
 apply F50_ok.ap
 unfold F50
 simp only [Option.isNone_some, cond_false, NN'_some']
 refine LdC (v := .bool off) H rfl ?_
 rw [DB_bool]
 cases off with
 | true => exact ⟨rfl, by trivial⟩
 | false =>
   rw [cond_false];refine (F144_spec H hp hr hl hlb hd hss).mono ?_;rintro v h1 ⟨rfl, rfl⟩;obtain ⟨p, e, hf⟩ := foundV_form hp dir ss;exact ⟨p, e, hf, by rw [← hf]; rfl, by trivial⟩
section
variable {κ : Type} [DecidableEq κ] {m n : List (κ × Value)}
theorem lkM_mem {k : κ} {v : Value} (h : lkM m k = some v) : (k, v) ∈ m := by
 unfold lkM at h
 cases hf : m.find? (fun p => decide (p.1 = k)) with
 | none => rw [hf] at h; cases h
 | some p =>
   rw [hf] at h;simp only [Option.map_some, Option.some.injEq] at h;have h1 := List.find?_some hf;simp only [decide_eq_true_eq] at h1;have h2 := List.mem_of_find?_eq_some hf;rw [← h, ← h1];exact h2
theorem mem_lkM (hu : (m.map (·.1)).Nodup) {k : κ} {v : Value} (h : (k, v) ∈ m) : lkM m k = some v := by
 induction m with
 | nil => cases h
 | cons q m ih =>
   simp only [List.map_cons, List.nodup_cons] at hu;unfold lkM;rw [List.find?_cons]
   rcases List.mem_cons.1 h with rfl | h
   · simp
   · have hne : q.1 ≠ k := fun e => hu.1 (by rw [e]; exact List.mem_map.2 ⟨(k, v), h, rfl⟩);simp only [hne, decide_false];exact ih hu.2 h
theorem lkM_none {k : κ} (h : ∀ p ∈ m, p.1 ≠ k) : lkM m k = none := by
 unfold lkM
 rw [List.find?_eq_none.2 fun p hp => by simpa using h p hp]
 rfl
theorem delM_none {k : κ} (h : ∀ p ∈ m, p.1 ≠ k) : delM m k = m := List.filter_eq_self.2 fun p hp => by simpa using h p hp
theorem updM_perm {k : κ} {v : Value} (hu : (m.map (·.1)).Nodup) : (updM m k v).Perm ((k, v) :: delM m k) := by
 unfold updM
 split
 · rename_i ha
   induction m with
   | nil => simp at ha
   | cons q m ih =>
     simp only [List.map_cons, List.nodup_cons] at hu;by_cases hq : q.1 = k
     · have hno : ∀ p ∈ m, p.1 ≠ k := fun p hp e => hu.1 (by rw [hq, ← e]; exact List.mem_map.2 ⟨p, hp, rfl⟩);have h1 : m.map (fun p => if p.1 = k then (k, v) else p) = m := by
        conv => rhs; rw [← List.map_id m]
        exact List.map_congr_left fun p hp => by simp [hno p hp]
       have h2 : delM (q :: m) k = m := by
        unfold delM;rw [List.filter_cons, if_neg (by simp [hq])];exact delM_none hno
       rw [List.map_cons, if_pos hq, h1, h2]
     · have h2 : delM (q :: m) k = q :: delM m k := by
        unfold delM;rw [List.filter_cons, if_pos (by simp [hq])]
       have ha2 : m.any (fun p => decide (p.1 = k)) = true := by simpa [hq] using ha
       rw [List.map_cons, if_neg hq, h2];exact ((ih hu.2 ha2).cons q).trans (.swap _ _ _)
 · rename_i ha;rw [delM_none fun p hp e => ha (List.any_eq_true.2 ⟨p, hp, by simpa using e⟩)];exact List.perm_append_comm
theorem delM_perm (h : m.Perm n) (k : κ) : (delM m k).Perm (delM n k) := h.filter _
end
def entV (xbs : List Nat) (p : ByteArray × Nat) : ByteArray × Value := (p.1, ptrV (xbs.getD p.2 0))
section
variable {xbs : List Nat} {m : List (ByteArray × Value)} {l : AF.Names}
theorem ent_keys : (l.map (entV xbs)).map (·.1) = l.map (·.1) := by rw [List.map_map]; rfl
theorem ent_nodup (hp : m.Perm (l.map (entV xbs))) (hu : AF.Up l) : (m.map (·.1)).Nodup := by
 rw [(hp.map (·.1)).nodup_iff, ent_keys]
 exact hu.nodup
theorem ent_lk (hp : m.Perm (l.map (entV xbs))) (hu : AF.Up l) (n : ByteArray) : lkM m n = (AF.of l n).map fun x => ptrV (xbs.getD x 0) := by
 cases ho : AF.of l n with
 | none =>
   refine lkM_none fun p hm => ?_;obtain ⟨p', hp', rfl⟩ := List.mem_map.1 (hp.mem_iff.1 hm);exact AF.of_none ho p' hp'
 | some x => exact mem_lkM (ent_nodup hp hu) (hp.mem_iff.2 (List.mem_map.2 ⟨(n, x), AF.of_mem ho, rfl⟩))
theorem ent_del (hp : m.Perm (l.map (entV xbs))) (n : ByteArray) : (delM m n).Perm ((AF.drop l n).map (entV xbs)) := by
 have h := delM_perm hp n
 have e : delM (l.map (entV xbs)) n = (AF.drop l n).map (entV xbs) := by
  unfold delM AF.drop;rw [List.filter_map]
  rfl
 rwa [e] at h
theorem ent_upd (hp : m.Perm (l.map (entV xbs))) (hu : AF.Up l) (n : ByteArray) (x : Nat) : (updM m n (ptrV (xbs.getD x 0))).Perm ((AF.ins n x l).map (entV xbs)) := by
 refine (updM_perm (ent_nodup hp hu)).trans ?_
 refine ((ent_del hp n).cons _).trans ?_
 exact ((AF.ins_perm (f := x) hu).map (entV xbs)).symm
end
section
variable {A : AF.FS} {q : FsQ}
theorem dirs_mem (hq : fsQ A q) {k : ByteArray} {v : Value} : (k, v) ∈ q.m ↔ ∃ (i : Nat) (d : AF.Dir) (fb : Nat), A.dirs[i]? = some d ∧ q.fbs[i]? = some fb ∧ k = d.name ∧ v = ptrV fb := by
 rw [hq.1.mem_iff]
 constructor
 · intro h;obtain ⟨i, hi⟩ := List.getElem?_of_mem h;rw [List.getElem?_zipWith] at hi
   cases h1 : A.dirs[i]? with
   | none => rw [h1] at hi; simp at hi
   | some d =>
     cases h2 : q.fbs[i]? with
     | none => rw [h1, h2] at hi; simp at hi
     | some fb =>
       rw [h1, h2] at hi;simp only [Option.some.injEq, Prod.mk.injEq] at hi;exact ⟨i, d, fb, h1, h2, hi.1.symm, hi.2.symm⟩
 · rintro ⟨i, d, fb, h1, h2, rfl, rfl⟩;refine List.mem_of_getElem? (i := i) ?_;rw [List.getElem?_zipWith, h1, h2]
theorem dirs_keys (hq : fsQ A q) : (q.m.map (·.1)).Perm (A.dirs.map (·.name)) := by
 refine (hq.1.map _).trans (.of_eq ?_)
 apply List.ext_getElem?
 intro i
 rw [List.getElem?_map, List.getElem?_map, List.getElem?_zipWith]
 cases h1 : A.dirs[i]? with
 | none => simp
 | some d =>
   have : i < q.fbs.length := by rw [hq.2.1]; exact (List.getElem?_eq_some_iff.1 h1).1
   rw [List.getElem?_eq_getElem this]
   rfl
theorem names_nodup (W : A.WF) : (A.dirs.map (·.name)).Nodup := by
 rw [List.Nodup, List.pairwise_map]
 refine List.Pairwise.imp ?_ W.up
 intro a b h e
 rw [← e] at h
 exact AF.strLt_irrefl a.name h
theorem dirs_nodup (W : A.WF) (hq : fsQ A q) : (q.m.map (·.1)).Nodup := (dirs_keys hq).nodup_iff.2 (names_nodup W)
theorem fb_of (hq : fsQ A q) {i : Nat} {d : AF.Dir} (hd : A.dirs[i]? = some d) : ∃ fb, q.fbs[i]? = some fb :=
 ⟨_, List.getElem?_eq_getElem (by rw [hq.2.1]; exact (List.getElem?_eq_some_iff.1 hd).1)⟩
theorem xb_of (hq : fsQ A q) {x : Nat} (hx : x < A.files.length) : ∃ y xb, A.files[x]? = some y ∧ q.xbs[x]? = some xb ∧ q.xbs.getD x 0 = xb :=
 ⟨_, _, List.getElem?_eq_getElem hx, List.getElem?_eq_getElem (by rw [hq.2.2]; exact hx), by rw [List.getD_eq_getElem?_getD, List.getElem?_eq_getElem (by rw [hq.2.2]; exact hx)]; rfl⟩
theorem dirs_ptr (hq : fsQ A q) (k : ByteArray) (v : Value) (hk : lkM q.m k = some v) : ∃ fb, v = ptrV fb := by
 obtain ⟨i, d, fb, _, _, _, h⟩ := (dirs_mem hq).1 (lkM_mem hk)
 exact ⟨fb, h⟩
theorem dirs_lk (W : A.WF) (hq : fsQ A q) (dir : ByteArray) : (A.at dir = none ∧ lkM q.m dir = none) ∨ ∃ (i : Nat) (d : AF.Dir) (fb : Nat), A.at dir = some i ∧ A.dirs[i]? = some d ∧ d.name = dir ∧ q.fbs[i]? = some fb ∧ lkM q.m dir = some (ptrV fb) := by
 cases ha : A.at dir with
 | none =>
   refine .inl ⟨rfl, lkM_none fun p hp e => ?_⟩;obtain ⟨i, d, fb, h1, _, h2, _⟩ := (dirs_mem hq (k := p.1) (v := p.2)).1 hp;exact AF.at_none ha d (List.mem_of_getElem? h1) (by rw [← h2, e])
 | some i =>
   obtain ⟨d, hd, hn⟩ := AF.at_some ha;obtain ⟨fb, hf⟩ := fb_of hq hd;exact .inr ⟨i, d, fb, rfl, hd, hn, hf, mem_lkM (dirs_nodup W hq) ((dirs_mem hq).2 ⟨i, d, fb, hd, hf, hn.symm, rfl⟩)⟩
theorem found_eq (W : A.WF) (hq : fsQ A q) (dir : ByteArray) (ss : List ByteArray) : (∃ (i : Nat) (d : AF.Dir) (fb : Nat), A.named dir ss = .ok i ∧ A.dirs[i]? = some d ∧ q.fbs[i]? = some fb ∧ foundV q.m dir ss = .tuple #[ptrV fb, .int .i64 0]) ∨
  ∃ e : Nat, A.named dir ss = .error e ∧ (e = 61 ∨ e = 65) ∧ foundV q.m dir ss = .tuple #[.pointer none, .int .i64 (e : Int)] := by
 unfold foundV AF.FS.named
 split
 · rcases dirs_lk W hq dir with ⟨h1, h2⟩ | ⟨i, d, fb, h1, h2, h3, h4, h5⟩
   · rw [h1, h2]; exact .inr ⟨61, rfl, .inl rfl, rfl⟩
   · rw [h1, h5]; exact .inl ⟨i, d, fb, rfl, h2, h4, rfl⟩
 · exact .inr ⟨65, rfl, .inr rfl, rfl⟩
end
abbrev fs4 (b : Nat) (A : AF.FS) (q : FsQ) (F : List HProp) : List HProp := rawOf b A q.md :: ownM strKeys q.md q.m :: filesP q.xbs A.files :: dirsP q.xbs q.fbs A.dirs :: F
section
variable {b : Nat} {A : AF.FS} {q : FsQ} {F : List HProp} {h : Heap}
theorem ready_spec {dir : ByteArray} {a : Option Addr} {l c : Nat} {ss : List ByteArray} (W : A.WF) (hq : fsQ A q) (H : sat (rawOf b A q.md :: ownM strKeys q.md q.m :: F) h) (hr : RdC h a (ss.map Value.string)) (hl : ss.length = l) (hlb : l < 1000)
  (hd : dir.size < 4611686018427387904) (hss : ∀ s ∈ ss, s.size < 4611686018427387904) :
  CallsH Tryz.prog 50 [ptrV b, .string dir, .slice a l c] h fun v h' => h' = h ∧ ((∃ (i : Nat) (d : AF.Dir) (fb : Nat), A.ready dir ss = .ok i ∧ A.dirs[i]? = some d ∧ q.fbs[i]? = some fb ∧ v = .tuple #[ptrV fb, .int .i64 0]) ∨
   ∃ e : Nat, A.ready dir ss = .error e ∧ (e = 60 ∨ e = 61 ∨ e = 65) ∧ v = .tuple #[.pointer none, .int .i64 (e : Int)]) := by
 refine (F50_spec H (dirs_ptr hq) hr hl hlb hd hss).mono ?_
 rintro v h1 ⟨rfl, rfl⟩
 refine ⟨rfl, ?_⟩
 unfold readyV AF.FS.ready
 cases A.off with
 | true => exact .inr ⟨60, rfl, .inl rfl, rfl⟩
 | false =>
   rcases found_eq W hq dir ss with ⟨i, d, fb, h1, h2, h3, h4⟩ | ⟨e, h1, h2, h3⟩
   · exact .inl ⟨i, d, fb, h1, h2, h3, h4⟩
   · exact .inr ⟨e, h1, .inr h2, h3⟩
def dirR (xbs fbs : List Nat) (ds : List AF.Dir) (i : Nat) : HProp := butP (dirP xbs) ds fbs i
def dirC (nb bb : Nat) (a : Option Addr) (l c : Nat) : Obj := .cells #[.map (some nb), .map (some bb), .slice a l c] 134 (0, 0)
theorem dir_out {xbs fbs : List Nat} {ds : List AF.Dir} {i : Nat} {d : AF.Dir} {fb : Nat} (H : sat (dirsP xbs fbs ds :: F) h) (hd : ds[i]? = some d) (hf : fbs[i]? = some fb) :
  ∃ (nb bb : Nat) (a : Option Addr) (c : Nat), sat (pt fb (dirC nb bb a d.pend.length c) :: namesP xbs nb d.now :: namesP xbs bb d.base :: ownL (opP xbs) 138 a d.pend.length c d.pend :: dirR xbs fbs ds i :: F) h := by
 obtain ⟨r, H2⟩ := sat_exi.1 (many_out H hd hf)
 exact ⟨r.nb, r.bb, r.a, r.c, H2.open⟩
theorem dir_in {xbs fbs : List Nat} {ds : List AF.Dir} {i : Nat} {d d' : AF.Dir} {fb nb bb : Nat} {a : Option Addr} {c : Nat} (hd : ds[i]? = some d') (hf : fbs[i]? = some fb)
  (H : sat (pt fb (dirC nb bb a d.pend.length c) :: namesP xbs nb d.now :: namesP xbs bb d.base :: ownL (opP xbs) 138 a d.pend.length c d.pend :: dirR xbs fbs ds i :: F) h) : sat (dirsP xbs fbs (ds.set i d) :: F) h := by
 refine many_in hf (List.getElem?_eq_some_iff.1 hd).1 (sat_exi.2 ⟨⟨nb, bb, a, c⟩, ?_⟩)
 exact sat.shut (m := [pt fb (dirC nb bb a d.pend.length c), namesP xbs nb d.now, namesP xbs bb d.base, ownL (opP xbs) 138 a d.pend.length c d.pend]) H
theorem modify_set {α : Type} {l : List α} {i : Nat} {x : α} (g : α → α) (hx : l[i]? = some x) : l.modify i g = l.set i (g x) := by
 apply List.ext_getElem?
 intro j
 rw [get_modify, List.getElem?_set]
 have hl := (List.getElem?_eq_some_iff.1 hx).1
 by_cases h : i = j
 · subst h;rw [hx, if_pos rfl, if_pos hl];simp
 · simp [h]
theorem names_open {xbs : List Nat} {mb : Nat} {l : AF.Names} (H : sat (namesP xbs mb l :: F) h) : ∃ m : List (ByteArray × Value), m.Perm (l.map (entV xbs)) ∧ sat (ownM strKeys mb m :: F) h := by
 obtain ⟨m, H2⟩ := sat_exi.1 H
 have H3 := H2.open
 obtain ⟨hp, H4⟩ := sat_pur.1 (H3.mv 1)
 exact ⟨m, hp, H4⟩
theorem names_shut {xbs : List Nat} {mb : Nat} {l : AF.Names} {m : List (ByteArray × Value)} (hp : m.Perm (l.map (entV xbs))) (H : sat (ownM strKeys mb m :: F) h) : sat (namesP xbs mb l :: F) h := by
 refine sat_exi.2 ⟨m, sat.shut (m := [ownM strKeys mb m, pur (m.Perm (l.map (entV xbs)))]) ?_⟩
 have H2 : sat (pur (m.Perm (l.map (entV xbs))) :: ownM strKeys mb m :: F) h := sat_pur.2 ⟨hp, H⟩
 exact H2.mv 1
theorem dir_read {xbs fbs : List Nat} {ds : List AF.Dir} {i : Nat} {d : AF.Dir} {fb : Nat} (H : sat (dirsP xbs fbs ds :: F) h) (hd : ds[i]? = some d) (hf : fbs[i]? = some fb) (hu : AF.Up d.now) :
  ∃ (nb bb : Nat) (a : Option Addr) (c : Nat) (es : Array MapEntry), h[fb]? = some (dirC nb bb a d.pend.length c) ∧ mapEs h (some nb) es ∧ es.size = d.now.length ∧
    ∀ n : ByteArray, ∃ f, Instr.findNow .string (.string n) es.toList 0 = some f ∧ f.map (·.2) = (AF.of d.now n).map fun x => ptrV (xbs.getD x 0) := by
 obtain ⟨nb, bb, a, c, H2⟩ := dir_out H hd hf
 obtain ⟨m, hp, H3⟩ := names_open (H2.mv 1)
 obtain ⟨es, clock, hm, hes⟩ := mapEs_ownM H3
 refine ⟨nb, bb, a, c, es, H2.get, hes, ?_, fun n => ?_⟩
 · rw [hm.size, hp.length_eq, List.length_map]
 · obtain ⟨f, hf, hl, _⟩ := hm.find n;exact ⟨f, hf, by rw [hl, ent_lk hp hu]⟩
end
section
variable {b : Nat} {A : AF.FS} {q : FsQ} {F : List HProp} {h : Heap}
theorem DP_ent {xs : List Nat} {o : Option Nat} {f : Option (Nat × Value)} {K : Option Addr → Prop} (hl : f.map (·.2) = o.map fun x => ptrV (xs.getD x 0)) (hK : K (o.map fun x => ⟨xs.getD x 0, 0, none⟩)) :
  DP ((Option.map (fun x => x.2) f).getD (.pointer none)) K := by
 rw [hl]
 cases o with
 | none => exact ⟨none, rfl, hK⟩
 | some x => exact ⟨_, rfl, hK⟩
theorem F173_spec {dir name : ByteArray} (W : A.WF) (hq : fsQ A q) (H : sat (fs4 b A q F) h) (hd : dir.size < 4611686018427387904) (hn : name.size < 4611686018427387904) :
  CallsH Tryz.prog 173 [ptrV b, .string dir, .string name] h fun v h' => sat (fs4 b A q F) h' ∧
   ((∃ (i x : Nat) (d : AF.Dir) (y : AF.File) (fb xb : Nat), A.entry dir name = .ok (i, x) ∧ A.dirs[i]? = some d ∧ q.fbs[i]? = some fb ∧ A.files[x]? = some y ∧ q.xbs[x]? = some xb ∧ v = .tuple #[ptrV fb, ptrV xb, .int .i64 0]) ∨
    ∃ e : Nat, A.entry dir name = .error e ∧ e ≠ 0 ∧ v = .tuple #[.pointer none, .pointer none, .int .i64 (e : Int)]) := by
 apply F173_ok.ap
 unfold F173
 refine Al_sat H fun b0 h1 H1 => ?_
 have hr : RdC h1 (some ⟨b0, 0, none⟩) ([name].map Value.string) := by
  intro j v hv;rw [cell_of_pt H1.get]
  cases j with
  | zero => exact hv
  | succ j => simp at hv
 refine (ready_spec (ss := [name]) W hq (H1.drop) hr rfl (show 1 < 1000 by omega) hd (fun s hs => by simp at hs; rw [hs]; exact hn)).mono ?_
 rintro v h2 ⟨rfl, hcase⟩
 have H2 := H1.drop
 rcases hcase with ⟨i, d, fb, he, hdi, hfi, rfl⟩ | ⟨e, he, hne, rfl⟩
 · have w := W.each d (List.mem_of_getElem? hdi);obtain ⟨nb, bb, a, c, es, hfb, hes, hsz, hlk⟩ := dir_read (H2.mv 3) hdi hfi w.ok.up;obtain ⟨f, hf, hl⟩ := hlk name;refine ⟨some ⟨fb, 0, none⟩, 0, rfl, ?_⟩;rw [show ((0 : Int) == 0) = true from rfl, cond_true];simp only [NN'_some', addr_add0];have rd : ∀ K : Value → Prop, K (.map (some nb)) → Ld h2 ⟨fb, 0, none⟩ K := fun K hK => ⟨_, by rw [cellAt_of hfb]; rfl, hK⟩
   refine rd _ ?_;rw [DM_map];refine ⟨es, hes, f, hf, DP_ent hl ?_⟩
   cases ho : AF.of d.now name with
   | none =>
     refine ⟨H2, .inr ⟨62, ?_, by omega, rfl⟩⟩;unfold AF.FS.entry;rw [he];simp only [AF.D_of hdi, ho]
   | some x =>
     show bif (false : Bool) then _ else _
     rw [cond_false, show ((0 : Int) != 0) = false from rfl, cond_false];refine rd _ ?_;rw [DM_map];refine ⟨es, hes, f, hf, DP_ent hl ?_⟩;rw [ho];have hx := (w.ok.each _ (AF.of_mem ho)).1;obtain ⟨y, xb, h1, h3, h4⟩ := xb_of hq hx;refine ⟨H2, .inl ⟨i, x, d, y, fb, xb, ?_, hdi, hfi, h1, h3, ?_⟩⟩
     · unfold AF.FS.entry;rw [he];simp only [AF.D_of hdi, ho]
     · show Value.tuple #[ptrV fb, ptrV (q.xbs.getD x 0), .int .i64 0] = _;rw [h4]
 · refine ⟨none, (e : Int), rfl, ?_⟩;have e0 : ((e : Int) == 0) = false := by
    rw [beq_eq_false_iff_ne]
    rcases hne with rfl | rfl | rfl <;> decide
   have e1 : ((e : Int) != 0) = true := by rw [bne, e0]; rfl
   rw [e0, cond_false, e1, cond_true];refine ⟨H2, .inr ⟨e, ?_, by omega, rfl⟩⟩;unfold AF.FS.entry;rw [he]
theorem fuse_bound (W : A.WF) : -1 ≤ fuseI A.fuse ∧ fuseI A.fuse ≤ 9223372036854775807 := by
 unfold fuseI
 cases hf : A.fuse with
 | none => exact ⟨by decide, by decide⟩
 | some n =>
   have := W.fuse n hf;simp only;omega
theorem step_spec {md : Nat} (W : A.WF) (hs : A.steps < 1099511627776) (H : sat (rawOf b A md :: F) h) : CallsH Tryz.prog 170 [ptrV b] h fun v h' =>
  (A.fuse = some 0 ∧ v = .int .i64 60 ∧ sat (rawOf b { A with off := true } md :: F) h') ∨ (A.fuse ≠ some 0 ∧ v = .int .i64 0 ∧ sat (rawOf b A.stepOn md :: F) h') := by
 refine (F170_spec H (fuse_bound W) ⟨by omega, by omega⟩).mono ?_
 rintro v h1 (⟨h0, rfl, H1⟩ | ⟨h0, rfl, H1⟩)
 · refine .inl ⟨?_, rfl, ?_⟩
   · unfold fuseI at h0
     cases hf : A.fuse with
     | none => rw [hf] at h0; cases h0
     | some n => rw [hf] at h0; simp only at h0; congr; omega
   · exact H1
 · refine .inr ⟨?_, rfl, ?_⟩
   · intro hf;rw [hf] at h0;exact h0 rfl
   · have e1 : (if fuseI A.fuse < 0 then -1 else fuseI A.fuse - 1) = fuseI (A.fuse.map (· - 1)) := by
      cases hf : A.fuse with
      | none => rfl
      | some n =>
        rw [hf] at h0;have h2 : (n : Int) ≠ 0 := h0;rw [if_neg (show ¬ fuseI (some n) < 0 from by show ¬ ((n : Int) < 0); omega)];show (n : Int) - 1 = ((n - 1 : Nat) : Int)
        omega
     rw [e1] at H1;exact H1
end
theorem opP_pers (xbs : List Nat) (o : AF.Op) (v : Value) : Pers (opP xbs o v) := by
 cases o with
 | create n f =>
   refine Pers.exi fun q => Pers.many fun A hA => ?_;simp only [List.mem_cons, List.not_mem_nil, or_false] at hA
   rcases hA with rfl | rfl | rfl
   · exact Pers.pur _
   · exact ro_pers _ _
   · exact ro_pers _ _
 | rename a b =>
   refine Pers.exi fun q => Pers.many fun A hA => ?_;simp only [List.mem_cons, List.not_mem_nil, or_false] at hA
   rcases hA with rfl | rfl | rfl
   · exact Pers.pur _
   · exact ro_pers _ _
   · exact ro_pers _ _
 | remove a =>
   refine Pers.exi fun q => Pers.many fun A hA => ?_;simp only [List.mem_cons, List.not_mem_nil, or_false] at hA
   rcases hA with rfl | rfl
   · exact Pers.pur _
   · exact ro_pers _ _
theorem op_call {xbs : List Nat} {mb n : Nat} {l : AF.Names} {o : AF.Op} {v : Value} {F : List HProp} {h : Heap} (H : sat (namesP xbs mb l :: opP xbs o v :: F) h) (hk : AF.Ok n l) (hf : AF.Fits n l o) :
  CallV Tryz.prog v [.map (some mb)] h fun r h' => r = .tuple #[] ∧ sat (namesP xbs mb (AF.does l o) :: opP xbs o v :: F) h' := by
 have Hd := ((H.mv 1).dup (opP_pers xbs o v)).mv 2
 obtain ⟨m, hp, H1⟩ := names_open Hd
 cases o with
 | create k x =>
   obtain ⟨⟨b1, b2⟩, H2⟩ := sat_exi.1 (H1.mv 1);obtain ⟨hv, H3⟩ := sat_pur.1 H2.open;subst hv;have H4 : sat (ownM strKeys mb m :: ro b1 (.cells #[ptrV (xbs.getD x 0)] 131 (0, 0)) :: ro b2 (.cells #[.string k] 9 (0, 0)) :: _) h := H3.mv 2;refine CallV_fn ?_;refine CallsH.mono (F172_spec (bx := b1) (bn := b2) H4 (H4.mv 1).getRo (H4.mv 2).getRo) ?_;rintro r h' ⟨rfl, H5⟩;exact ⟨rfl, names_shut (ent_upd hp hk.up k x) ((H5.mv 1).drop.mv 1).drop⟩
 | remove k =>
   obtain ⟨b2, H2⟩ := sat_exi.1 (H1.mv 1);obtain ⟨hv, H3⟩ := sat_pur.1 H2.open;subst hv;have H4 : sat (ownM strKeys mb m :: ro b2 (.cells #[.string k] 9 (0, 0)) :: _) h := H3.mv 1;refine CallV_fn ?_;refine CallsH.mono (F175_spec (bn := b2) H4 (H4.mv 1).getRo) ?_;rintro r h' ⟨rfl, H5⟩;exact ⟨rfl, names_shut (ent_del hp k) (H5.mv 1).drop⟩
 | rename k k2 =>
   obtain ⟨⟨b1, b2⟩, H2⟩ := sat_exi.1 (H1.mv 1);obtain ⟨hv, H3⟩ := sat_pur.1 H2.open;subst hv;have H4 : sat (ownM strKeys mb m :: ro b1 (.cells #[.string k] 9 (0, 0)) :: ro b2 (.cells #[.string k2] 9 (0, 0)) :: _) h := H3.mv 2;obtain ⟨x, hx⟩ := Option.isSome_iff_exists.1 hf.2.2;refine CallV_fn ?_;refine CallsH.mono (F174_spec (ba := b1) (bb := b2) (a := k) (b := k2) (p := some ⟨xbs.getD x 0, 0, none⟩) H4 (H4.mv 1).getRo (fun h' H' => (H'.mv 2).getRo) (by rw [ent_lk hp hk.up, hx]; rfl)) ?_;rintro r h' ⟨rfl, H5⟩;have hp2 := ent_upd (ent_del hp k) (hk.up.drop k) k2 x;refine ⟨rfl, ?_⟩;have e : AF.does l (.rename k k2) = AF.ins k2 x (AF.drop l k) := by
    simp only [AF.does, hx]
   rw [e];exact names_shut hp2 ((H5.mv 1).drop.mv 1).drop
theorem MapIs.pairs {es : Array MapEntry} {clock : Nat} {m : List (ByteArray × Value)} (hm : MapIs strKeys es clock m) : es.toList.map (fun e : MapEntry => (kS e.key, e.val)) = m := by
 have := congrArg (List.map fun p : Value × Value => (kS p.1, p.2)) hm.2
 simpa [List.map_map, Function.comp_def, strKeys, kS] using this
theorem mapLoop {P : Program} {ty : TypeId} {p mb : Nat} {m : List (ByteArray × Value)} {es : Array MapEntry} {clock : Nat} (hm : MapIs strKeys es clock m) {G : List (ByteArray × Value) → List HProp} {End : Heap → Prop} {Body : (Unit → Heap → Prop) → Value → Heap → Prop} {h : Heap}
  (start : sat (pt p (.mapIter (some mb) clock #[] clock) :: pt mb (.map es clock) :: G []) h)
  (fin : ∀ done h', done.Perm m → sat (pt mb (.map es clock) :: G done) h' → End h')
  (body : ∀ (o : Obj) done k v h' (again : Unit → Heap → Prop), (∃ rest, (done ++ (k, v) :: rest).Perm m) → sat (pt p o :: pt mb (.map es clock) :: G done) h' →
   (∀ h'', sat (pt p o :: pt mb (.map es clock) :: G (done ++ [(k, v)])) h'' → again () h'') → Body again (.tuple #[.string k, v]) h') :
  LoopH (fun again (_ : Unit) h3 => RunH P (Instr.next (.pointer (some ⟨p, 0, none⟩)) false ty) h3 fun r2 h4 => (r2 = .tuple #[.bool false] ∧ End h4) ∨
   (∃ k0 x1 : Value, r2 = .tuple #[.bool true, k0, x1] ∧ RunH P (Instr.entry (.pointer (some ⟨p, 0, none⟩))) h4 fun r3 h5 => Body again r3 h5)) () h := by
 have hn := hm.1.2.1
 refine ⟨fun _ h2 => ∃ seen done c0, sat (pt p (.mapIter (some mb) clock seen c0) :: pt mb (.map es clock) :: G (done.map fun e : MapEntry => (kS e.key, e.val))) h2 ∧ Walked es seen done ∧ clock ≤ c0,
  fun _ h2 => leftAt ⟨p, 0, none⟩ h2, ⟨#[], [], clock, start, Walked.start es, Nat.le_refl _⟩, ?_⟩
 rintro _ h2 ⟨seen, done, c0, H2, hw, hc⟩
 have hmb := (H2.mv 1).get
 refine next_sat H2 hmb hm.1.1 hc ?_ ?_
 · intro h0;refine .inl ⟨rfl, fin (done.map fun e : MapEntry => (kS e.key, e.val)) h2 ?_ H2.drop⟩;rw [← hm.pairs];exact (hw.fin h0).map _
 · intro e he h3 H3;have hmb3 := (H3.mv 1).get;have hee := Walked.mem he;refine .inr ⟨_, _, rfl, ?_⟩;refine entry_sat H3 hmb3 hee hn ?_;rw [hm.strKey hee];refine body (.mapIter (some mb) clock (seen.push e.born) clock) (done.map fun e : MapEntry => (kS e.key, e.val)) (kS e.key) e.val h3 _ ?_ H3 fun h4 H4 => ⟨⟨seen.push e.born, done ++ [e], clock, ?_, hw.step hn he, Nat.le_refl _⟩, ?_⟩
   · refine ⟨(leftOf es (seen.push e.born)).toList.map fun e : MapEntry => (kS e.key, e.val), ?_⟩;have hp := (hw.step hn he).perm.map fun e : MapEntry => (kS e.key, e.val)
     rw [hm.pairs] at hp;simpa using hp
   · rw [List.map_append];exact H4
   · have a1 : leftAt ⟨p, 0, none⟩ h4 = (leftOf es (seen.push e.born)).size := by
      unfold leftAt;simp only [H4.get, (H4.mv 1).get]
     have a2 : leftAt ⟨p, 0, none⟩ h2 = (leftOf es seen).size := by
      unfold leftAt;simp only [H2.get, hmb]
     show leftAt ⟨p, 0, none⟩ h4 < leftAt ⟨p, 0, none⟩ h2;rw [a1, a2];exact Walked.less hn he
theorem perm_sum {l m : List Nat} (h : l.Perm m) : l.sum = m.sum := by
 induction h with
 | nil => rfl
 | cons x _ ih => simp [ih]
 | swap x y l => simp; omega
 | trans _ _ h1 h2 => exact h1.trans h2
theorem sum_flatMap {α : Type} (f : α → List Nat) (g : Nat → Nat) : ∀ l : List α, ((l.flatMap f).map g).sum = (l.map fun d => ((f d).map g).sum).sum
 | [] => rfl
 | a :: l => by rw [List.flatMap_cons, List.map_append, List.sum_append, sum_flatMap f g l, List.map_cons, List.sum_cons]
def lenN (A : AF.FS) (l : AF.Names) (k : ByteArray) : Nat := match AF.of l k with
 | some x => (A.X x).b.length
 | none => 0
def sumN (A : AF.FS) (l : AF.Names) : Nat := (l.map fun p => (A.X p.2).b.length).sum
def sumD (A : AF.FS) (k : ByteArray) : Nat := match A.at k with
 | some i => sumN A (A.D i).now
 | none => 0
theorem nodup_inj {α : Type} {l : List α} (hn : l.Nodup) {i j : Nat} {x : α} (h1 : l[i]? = some x) (h2 : l[j]? = some x) : i = j := by
 obtain ⟨hi, e1⟩ := List.getElem?_eq_some_iff.1 h1
 obtain ⟨hj, e2⟩ := List.getElem?_eq_some_iff.1 h2
 have := List.pairwise_iff_getElem.1 hn
 rcases Nat.lt_trichotomy i j with h | h | h
 · exact absurd (e1.trans e2.symm) (this i j hi hj h)
 · exact h
 · exact absurd (e2.trans e1.symm) (this j i hj hi h)
theorem at_of {A : AF.FS} (W : A.WF) {i : Nat} {d : AF.Dir} (hd : A.dirs[i]? = some d) : A.at d.name = some i := by
 cases ha : A.at d.name with
 | none => exact absurd rfl (AF.at_none ha d (List.mem_of_getElem? hd))
 | some j =>
   obtain ⟨e, he, hn⟩ := AF.at_some ha;have hnd := names_nodup W;have h1 : (A.dirs.map (·.name))[i]? = some d.name := by rw [List.getElem?_map, hd]; rfl
   have h2 : (A.dirs.map (·.name))[j]? = some d.name := by rw [List.getElem?_map, he, ← hn]; rfl
   rw [nodup_inj hnd h1 h2]
theorem sumD_of {A : AF.FS} (W : A.WF) {i : Nat} {d : AF.Dir} (hd : A.dirs[i]? = some d) : sumD A d.name = sumN A d.now := by
 unfold sumD
 rw [at_of W hd]
 simp only [AF.D_of hd]
theorem used_eq {A : AF.FS} (W : A.WF) : A.used = ((A.dirs.map (·.name)).map (sumD A)).sum := by
 unfold AF.FS.used AF.FS.idx
 rw [sum_flatMap, List.map_map]
 congr 1
 apply List.map_congr_left
 intro d hd
 obtain ⟨i, hi⟩ := List.getElem?_of_mem hd
 show _ = sumD A d.name
 rw [sumD_of W hi, List.map_map]
 rfl
theorem used_m {A : AF.FS} {q : FsQ} (W : A.WF) (hq : fsQ A q) : (q.m.map fun e => sumD A e.1).sum = A.used := by
 rw [used_eq W, ← perm_sum ((dirs_keys hq).map (sumD A)), List.map_map]
 rfl
theorem sumN_keys {A : AF.FS} {l : AF.Names} (hu : AF.Up l) : ((l.map (·.1)).map (lenN A l)).sum = sumN A l := by
 unfold sumN
 rw [List.map_map]
 congr 1
 apply List.map_congr_left
 intro p hp
 show lenN A l p.1 = _
 unfold lenN
 rw [AF.mem_of hu.nodup (f := p.2) hp]
theorem sumN_m {A : AF.FS} {xbs : List Nat} {l : AF.Names} {m : List (ByteArray × Value)} (hu : AF.Up l) (hp : m.Perm (l.map (entV xbs))) : (m.map fun e => lenN A l e.1).sum = sumN A l := by
 rw [← sumN_keys hu, perm_sum (hp.map fun e => lenN A l e.1), List.map_map, List.map_map]
 rfl
section
variable {b : Nat} {A : AF.FS} {q : FsQ} {F : List HProp} {h : Heap}
theorem file_read {xbs : List Nat} {fs : List AF.File} {x : Nat} {y : AF.File} {xb : Nat} (H : sat (filesP xbs fs :: F) h) (hx : fs[x]? = some y) (hb : xbs[x]? = some xb) : ∃ (a : Option Addr) (c : Nat), h[xb]? = some (.cells #[.slice a y.b.length c, .int .i64 (y.safe : Int)] 141 (0, 0)) ∧ RdC h a (y.b.map nv) := by
 obtain ⟨r, H2⟩ := sat_exi.1 (many_out H hx hb)
 have H3 := H2.open
 exact ⟨r.1, r.2, H3.get, ownS_read (H3.mv 1)⟩
theorem F57_spec {room used0 steps fuse : Int} {off : Bool} (W : A.WF) (hq : fsQ A q) (H : sat (rawFS b room used0 steps fuse off q.md :: ownM strKeys q.md q.m :: filesP q.xbs A.files :: dirsP q.xbs q.fbs A.dirs :: F) h) :
  CallsH Tryz.prog 57 [ptrV b] h fun v h' => v = .tuple #[] ∧ sat (rawFS b room (A.used : Int) steps fuse off q.md :: ownM strKeys q.md q.m :: filesP q.xbs A.files :: dirsP q.xbs q.fbs A.dirs :: F) h' := by
 apply F57_ok.ap
 unfold F57
 simp only [NN'_some', addr_add0]
 have hu := W.used_le
 refine StCC (i := 1) (v := .int .i64 0) (c' := #[.int .i64 room, .int .i64 0, .int .i64 steps, .int .i64 fuse, .bool off, .map (some q.md)]) H (by show 1 < 6; decide) rfl fun h1 H1 => ?_
 refine LdC (v := .map (some q.md)) H1 rfl ?_
 rw [DM_map]
 obtain ⟨es, clock, hm, H2⟩ := ownM_open (H1.mv 1)
 refine range_sat (k := 9) (e := 122) (by kernel_rfl) H2 H2.get fun p h2 H3 => ?_
 rw [DP_pointer]
 refine mapLoop (mb := q.md) hm (G := fun done => rawFS b room (((done.map fun e : ByteArray × Value => sumD A e.1).sum : Nat) : Int) steps fuse off q.md :: filesP q.xbs A.files :: dirsP q.xbs q.fbs A.dirs :: F) ?_ ?_ ?_
 · exact H3
 · intro done h3 hp H4;refine ⟨trivial, ?_⟩;have e : (done.map fun e : ByteArray × Value => sumD A e.1).sum = A.used := by rw [perm_sum (hp.map fun e => sumD A e.1), used_m W hq]
   rw [e] at H4;exact (ownM_shut hm H4).mv 1
 · intro o done k v h3 again ⟨rest, hrest⟩ H4 hagain;have hmem : (k, v) ∈ q.m := hrest.mem_iff.1 (by simp);obtain ⟨i, d, fb, hdi, hfi, rfl, rfl⟩ := (dirs_mem hq).1 hmem;have w := W.each d (List.mem_of_getElem? hdi);have htot : (done.map fun e : ByteArray × Value => sumD A e.1).sum + sumN A d.now ≤ A.used := by
    have := perm_sum (hrest.map fun e : ByteArray × Value => sumD A e.1);rw [used_m W hq, List.map_append, List.sum_append, List.map_cons, List.sum_cons, sumD_of W hdi] at this;omega
   refine ⟨_, some ⟨fb, 0, none⟩, rfl, ?_⟩;simp only [NN'_some', addr_add0];obtain ⟨nb, bb, a, c, H5⟩ := dir_out (H4.mv 4) hdi hfi;refine LdV (v := .map (some nb)) H5.get rfl ?_;rw [DM_map];obtain ⟨m2, hp2, H6⟩ := names_open (H5.mv 1);obtain ⟨es2, clock2, hm2, H7⟩ := ownM_open H6;refine range_sat (k := 9) (e := 131) u88 H7 H7.get fun p2 h4 H8 => ?_;rw [DP_pointer];refine mapLoop (mb := nb) hm2 (G := fun done2 => rawFS b room (((done.map fun e : ByteArray × Value => sumD A e.1).sum + (done2.map fun e : ByteArray × Value => lenN A d.now e.1).sum : Nat) : Int) steps fuse off q.md :: filesP q.xbs A.files ::
    pt fb (dirC nb bb a d.pend.length c) :: namesP q.xbs bb d.base :: ownL (opP q.xbs) 138 a d.pend.length c d.pend :: dirR q.xbs q.fbs A.dirs i :: pt p o :: pt q.md (.map es clock) :: F) ?_ ?_ ?_
   · exact H8.ordT 10 [0, 1, 8, 9, 2, 3, 4, 5, 6, 7]
   · intro done2 h5 hp3 H9;have e : (done2.map fun e : ByteArray × Value => lenN A d.now e.1).sum = sumD A d.name := by
      rw [perm_sum (hp3.map fun e => lenN A d.now e.1), sumN_m w.ok.up hp2, sumD_of W hdi]
     rw [e] at H9;refine hagain h5 ?_;rw [List.map_append, List.sum_append, List.map_cons, List.map_nil, List.sum_cons, List.sum_nil, Nat.add_zero];have H10 := names_shut hp2 (ownM_shut hm2 H9);have H11 := dir_in (d := d) hdi hfi (H10.ordT 9 [3, 0, 4, 5, 6, 7, 8, 1, 2]);rw [set_self hdi] at H11;exact H11.ordT 5 [1, 2, 3, 4, 0]
   · intro o2 done2 k2 v2 h5 again2 ⟨rest2, hrest2⟩ H9 hagain2;have hmem2 : (k2, v2) ∈ d.now.map (entV q.xbs) := hp2.mem_iff.1 (hrest2.mem_iff.1 (by simp));obtain ⟨pr, hpr, epr⟩ := List.mem_map.1 hmem2;obtain ⟨k3, x⟩ := pr;simp only [entV, Prod.mk.injEq] at epr;obtain ⟨rfl, rfl⟩ := epr;obtain ⟨y, xb, hy, hxb, hgd⟩ := xb_of hq (w.ok.each _ hpr).1;have hlen : lenN A d.now k3 = y.b.length := by
      unfold lenN;rw [AF.mem_of w.ok.up.nodup hpr];simp only [AF.X_of hy]
     have htot2 : (done2.map fun e : ByteArray × Value => lenN A d.now e.1).sum + y.b.length ≤ sumN A d.now := by
      have := perm_sum (hrest2.map fun e : ByteArray × Value => lenN A d.now e.1);rw [sumN_m w.ok.up hp2, List.map_append, List.sum_append, List.map_cons, List.sum_cons, hlen] at this;omega
     refine ⟨_, some ⟨xb, 0, none⟩, by rw [hgd]; rfl, ?_⟩;simp only [NN'_some', addr_add0];refine LdC (v := .int .i64 (((done.map fun e : ByteArray × Value => sumD A e.1).sum + (done2.map fun e : ByteArray × Value => lenN A d.now e.1).sum : Nat) : Int)) (H9.mv 2) rfl ?_;rw [DI_int];obtain ⟨ya, yc, hyb, _⟩ := file_read (H9.mv 3) hy hxb;refine LdV (v := .slice ya y.b.length yc) hyb rfl ?_;rw [DSl_slice, ← Int.natCast_add, wrap64_nat (by omega)];refine StCC (i := 1) (c' := #[.int .i64 room, .int .i64 (((done.map fun e : ByteArray × Value => sumD A e.1).sum + (done2.map fun e : ByteArray × Value => lenN A d.now e.1).sum + y.b.length : Nat) : Int), .int .i64 steps, .int .i64 fuse, .bool off, .map (some q.md)]) (H9.mv 2) (by show 1 < 6; decide) rfl fun h6 H10 => ?_;refine hagain2 h6 ?_;rw [List.map_append, List.sum_append, List.map_cons, List.map_nil, List.sum_cons, List.sum_nil, Nat.add_zero, hlen, ← Nat.add_assoc];exact H10.ordT 3 [1, 2, 0]
end
theorem u89 : Tryz.prog.underlying 132 = some (.slice 138) := by kernel_rfl
theorem src89 : srcTy Tryz.prog 132 = true := by kernel_rfl
theorem inf96 : infoOk Tryz.prog 138 8 = true := by kernel_rfl
section
variable {b : Nat} {A : AF.FS} {q : FsQ} {F : List HProp} {h : Heap}
theorem fsQ_of {B : AF.FS} (hq : fsQ A q) (hn : B.dirs.map (·.name) = A.dirs.map (·.name)) (hf : B.files.length = A.files.length) : fsQ B q := by
 have hl : B.dirs.length = A.dirs.length := by have := congrArg List.length hn; simpa using this
 refine ⟨hq.1.trans (.of_eq ?_), by rw [hq.2.1, hl], by rw [hq.2.2, hf]⟩
 apply List.ext_getElem?
 intro i
 rw [List.getElem?_zipWith, List.getElem?_zipWith]
 have h1 : (B.dirs.map (·.name))[i]? = (A.dirs.map (·.name))[i]? := by rw [hn]
 rw [List.getElem?_map, List.getElem?_map] at h1
 cases ha : A.dirs[i]? with
 | none =>
   rw [ha] at h1
   cases hb : B.dirs[i]? with
   | none => rfl
   | some d => rw [hb] at h1; cases h1
 | some e =>
   rw [ha] at h1
   cases hb : B.dirs[i]? with
   | none => rw [hb] at h1; cases h1
   | some d =>
     rw [hb] at h1;simp only [Option.map_some, Option.some.injEq] at h1
     cases q.fbs[i]? with
     | none => rfl
     | some fb => simp only [h1]
theorem names_modify {ds : List AF.Dir} {i : Nat} {g : AF.Dir → AF.Dir} (hg : ∀ d, (g d).name = d.name) : (ds.modify i g).map (·.name) = ds.map (·.name) := by
 apply List.ext_getElem?
 intro j
 rw [List.getElem?_map, List.getElem?_map, get_modify]
 cases ds[j]? with
 | none => rfl
 | some d =>
   by_cases h : i = j
   · simp [h, hg]
   · simp [h]
theorem fsQ_did (hq : fsQ A q) (i : Nat) (o : AF.Op) : fsQ (A.did i o) q := fsQ_of hq (names_modify fun d => rfl) rfl
theorem F171_spec {i : Nat} {d : AF.Dir} {fb : Nat} {o : AF.Op} {fv : Fn} {fp fc : Array Value} (W : A.WF) (W2 : (A.stepOn.did i o).WF) (hq : fsQ A q) (hd : A.dirs[i]? = some d) (hf : q.fbs[i]? = some fb) (hfit : AF.Fits A.files.length d.now o) (hs : A.steps < 1099511627776)
  (H : sat (fs4 b A q (opP q.xbs o (.func fv fp fc) :: F)) h) :
  CallsH Tryz.prog 171 [ptrV b, ptrV fb, .func fv fp fc] h fun v h' => v = .int .i64 ((A.step fun g => g.did i o).2 : Int) ∧ sat (fs4 b (A.step fun g => g.did i o).1 q F) h' := by
 apply F171_ok.ap
 unfold F171
 refine (step_spec W hs H).mono ?_
 rintro v h1 (⟨h0, rfl, H1⟩ | ⟨h0, rfl, H1⟩)
 · rw [DI_int, show ((60 : Int) != 0) = true from rfl, cond_true];have e : (A.step fun g => g.did i o) = ({ A with off := true }, 60) := by unfold AF.FS.step; rw [if_pos h0]
   rw [e];exact ⟨rfl, (H1.mv 4).drop⟩
 · rw [DI_int, show ((0 : Int) != 0) = false from rfl, cond_false];simp only [NN'_some', addr_add0];have e : (A.step fun g => g.did i o) = (A.stepOn.did i o, 0) := by unfold AF.FS.step; rw [if_neg h0]
   rw [e];have w := W.each d (List.mem_of_getElem? hd);obtain ⟨nb, bb, a, c, H2⟩ := dir_out (H1.mv 3) hd hf;refine LdV (v := .map (some nb)) H2.get rfl ?_;rw [DM_map];have H3 : sat (namesP q.xbs nb d.now :: opP q.xbs o (.func fv fp fc) :: pt fb (dirC nb bb a d.pend.length c) :: namesP q.xbs bb d.base :: ownL (opP q.xbs) 138 a d.pend.length c d.pend :: dirR q.xbs q.fbs A.dirs i ::
    rawOf b A.stepOn q.md :: ownM strKeys q.md q.m :: filesP q.xbs A.files :: F) h1 := H2.ordT 9 [1, 8, 0, 2, 3, 4, 5, 6, 7]
   refine (op_call H3 w.ok hfit).mono ?_;rintro r h2 ⟨rfl, H4⟩;refine ⟨rfl, ?_⟩;refine LdC (i := 2) (v := .slice a d.pend.length c) (H4.mv 2) rfl ?_;rw [DSl_slice];refine Al_sat H4 fun b0 h3 H5 => ?_;have hpl := w.pend;have hr : RdC h3 (some ⟨b0, 0, none⟩) [.func fv fp fc] := by
    intro j v hv;rw [cell_of_pt H5.get]
    cases j with
    | zero => exact hv
    | succ j => simp at hv
   have H6 : sat (ownL (opP q.xbs) 138 a d.pend.length c d.pend :: opP q.xbs o (.func fv fp fc) :: pt b0 (.cells #[.func fv fp fc] 138 (0, 0)) :: namesP q.xbs nb (AF.does d.now o) :: pt fb (dirC nb bb a d.pend.length c) :: namesP q.xbs bb d.base :: dirR q.xbs q.fbs A.dirs i ::
    rawOf b A.stepOn q.md :: ownM strKeys q.md q.m :: filesP q.xbs A.files :: F) h3 := H5.ordT 10 [5, 2, 0, 1, 3, 4, 6, 7, 8, 9]
   refine pushL (b := 8) u89 src89 inf96 (by omega) H6 rfl hr fun a2 c2 h4 H7 => ?_;rw [DSl_slice];refine StCC (b := fb) (i := 2) (c' := #[.map (some nb), .map (some bb), .slice a2 (d.pend.length + 1) c2]) (H7.mv 3) (by show 2 < 3; decide) rfl fun h5 H8 => ?_;have H9 : sat (pt fb (dirC nb bb a2 (d.did o).pend.length c2) :: namesP q.xbs nb (d.did o).now :: namesP q.xbs bb (d.did o).base :: ownL (opP q.xbs) 138 a2 (d.did o).pend.length c2 (d.did o).pend :: dirR q.xbs q.fbs A.dirs i ::
    rawOf b A.stepOn q.md :: ownM strKeys q.md q.m :: filesP q.xbs A.files :: F) h5 := by
    have e2 : (d.did o).pend.length = d.pend.length + 1 := by
     show (d.pend ++ [o]).length = _;simp
    rw [e2];exact ((H8.mv 2).drop).ordT 8 [0, 2, 3, 1, 4, 5, 6, 7]
   have H10 := dir_in hd hf H9;have e3 : A.dirs.set i (d.did o) = (A.stepOn.did i o).dirs := (modify_set (l := A.dirs) (fun d : AF.Dir => d.did o) hd).symm;rw [e3] at H10;refine (F57_spec (A := A.stepOn.did i o) W2 (fsQ_did hq i o) (H10.ordT 4 [1, 2, 3, 0])).mono ?_;rintro r h6 ⟨rfl, H11⟩;exact ⟨rfl, rfl, H11⟩
end
theorem star_perm {l m : List HProp} (h : l.Perm m) {r : PHeap} (H : star l r) : star m r := by
 induction h generalizing r with
 | nil => exact H
 | cons x _ ih => exact sep_mono (fun _ h => h) (fun _ h => ih h) H
 | swap x y l => exact sep_swap H
 | trans _ _ h1 h2 => exact h2 (h1 H)
theorem many_perm {l m F : List HProp} {h : Heap} (hp : l.Perm m) (H : sat (Many l :: F) h) : sat (Many m :: F) h := H.imp fun r hr => star_perm hp hr
theorem insDir_split (d : AF.Dir) : ∀ ds : List AF.Dir, ∃ k, k ≤ ds.length ∧ AF.insDir d ds = ds.take k ++ d :: ds.drop k
 | [] => ⟨0, Nat.le_refl _, rfl⟩
 | e :: ds => by
   unfold AF.insDir;split
   · exact ⟨0, Nat.zero_le _, rfl⟩
   · obtain ⟨k, hk, he⟩ := insDir_split d ds;exact ⟨k + 1, by simp only [List.length_cons]; omega, by rw [he]; rfl⟩
theorem zip_split {α β γ : Type} (E : α → β → γ) (x : α) (y : β) (xs : List α) (ys : List β) (k : Nat) (hl : xs.length = ys.length) : (List.zipWith E (xs.take k ++ x :: xs.drop k) (ys.take k ++ y :: ys.drop k)).Perm (E x y :: List.zipWith E xs ys) := by
 rw [List.zipWith_append (by rw [List.length_take, List.length_take, hl]), List.zipWith_cons_cons]
 refine List.perm_middle.trans (.cons _ (.of_eq ?_))
 conv => rhs; rw [← List.take_append_drop k xs, ← List.take_append_drop k ys]
 rw [List.zipWith_append (by rw [List.length_take, List.length_take, hl])]
theorem u81 : Tryz.prog.underlying 118 = some (.map 9 122) := by kernel_rfl
section
variable {b : Nat} {A : AF.FS} {q : FsQ} {F : List HProp} {h : Heap}
theorem names_new {xbs : List Nat} {mb : Nat} (H : sat (pt mb (.map #[] 0) :: F) h) : sat (namesP xbs mb [] :: F) h := names_shut (m := []) (.refl _) (ownM_new strKeys H)
theorem F78_spec {dir : ByteArray} (W : A.WF) (hs : A.steps < 1099511627776) (hd : dir.size < 4611686018427387904) (H : sat (fsP b A :: F) h) :
  CallsH Tryz.prog 78 [ptrV b, .string dir] h fun v h' => v = .int .i64 ((A.mkdir dir).2 : Int) ∧ sat (fsP b (A.mkdir dir).1 :: F) h' := by
 obtain ⟨q, hq, H1⟩ := fsP_open H
 apply F78_ok.ap
 unfold F78
 refine (ready_spec (ss := []) (a := none) (c := 0) W hq H1 rfl rfl (show 0 < 1000 by omega) hd (by simp)).mono ?_
 rintro v h1 ⟨rfl, hcase⟩
 rcases hcase with ⟨i, d, fb, he, hdi, hfi, rfl⟩ | ⟨e, he, hne, rfl⟩
 · refine ⟨_, 0, rfl, ?_⟩;rw [show ((0 : Int) == 0) = true from rfl, cond_true];unfold AF.FS.mkdir;rw [he];exact ⟨rfl, fsP_shut q hq H1⟩
 · refine ⟨none, (e : Int), rfl, ?_⟩;have e0 : e ≠ 0 := by omega
   rw [err_beq e0, cond_false];by_cases h61 : e = 61
   · subst h61;rw [show (((61 : Nat) : Int) != 61) = false from rfl, cond_false];simp only [NN'_some'];refine LdC (v := .map (some q.md)) H1 rfl ?_;rw [DM_map];obtain ⟨es, clock, hm, hes⟩ := mapEs_ownM (H1.mv 1);refine ⟨es, hes, ?_⟩;have hml : q.m.length = A.dirs.length := by have := (dirs_keys hq).length_eq; simpa using this
     rw [hm.size, hml];by_cases h64 : 64 ≤ A.dirs.length
     · rw [decide_eq_true (show ((A.dirs.length : Int) ≥ 64) by omega), cond_true];unfold AF.FS.mkdir;rw [he];simp only [if_true, if_pos h64];exact ⟨rfl, fsP_shut q hq H1⟩
     · rw [decide_eq_false (show ¬ ((A.dirs.length : Int) ≥ 64) by omega), cond_false];have em : A.mkdir dir = A.step fun g => { g with dirs := AF.insDir ⟨dir, [], [], []⟩ g.dirs } := by
        unfold AF.FS.mkdir;rw [he];simp only [if_true, if_neg h64]
       have W2 := W.mkdir dir;rw [em] at W2 ⊢;refine (step_spec W hs H1).mono ?_;rintro v h2 (⟨h0, rfl, H2⟩ | ⟨h0, rfl, H2⟩)
       · rw [DI_int, show ((60 : Int) != 0) = true from rfl, cond_true];unfold AF.FS.step;rw [if_pos h0];exact ⟨rfl, fsP_shut (A := { A with off := true }) q hq H2⟩
       · rw [DI_int, show ((0 : Int) != 0) = false from rfl, cond_false];unfold AF.FS.step at W2 ⊢;rw [if_neg h0] at W2 ⊢;refine LdC (v := .map (some q.md)) H2 rfl ?_;rw [DM_map];refine Al_sat H2 fun b0 h3 H3 => Al_sat H3 fun b1 h4 H4 => Al_sat H4 fun b2 h5 H5 => ?_;refine mapUpdate_sat (E := strKeys) (k := dir) u81 u9 (H5.mv 4) fun h6 H6 => ?_;obtain ⟨k, hk, hins⟩ := insDir_split ⟨dir, [], [], []⟩ A.dirs;have hfl : A.dirs.length = q.fbs.length := hq.2.1.symm;refine ⟨rfl, fsP_shut (A := { A.stepOn with dirs := AF.insDir ⟨dir, [], [], []⟩ A.stepOn.dirs }) ⟨q.md, q.fbs.take k ++ b2 :: q.fbs.drop k, q.xbs, updM q.m dir (ptrV b2)⟩ ⟨?_, ?_, hq.2.2⟩ ?_⟩
         · show (updM q.m dir (ptrV b2)).Perm (List.zipWith _ (AF.insDir ⟨dir, [], [], []⟩ A.dirs) _);rw [hins];have hno : ∀ p ∈ q.m, p.1 ≠ dir := by
            rintro ⟨k, v⟩ hp e;obtain ⟨i, d, fb, h1, _, h2, _⟩ := (dirs_mem hq).1 hp;exact AF.at_none (AF.ready_61 he).2 d (List.mem_of_getElem? h1) (by rw [← h2]; exact e)
           refine (updM_perm (dirs_nodup W hq)).trans ?_;rw [delM_none hno];exact (hq.1.cons _).trans (zip_split (fun (d : AF.Dir) fb => (d.name, ptrV fb)) ⟨dir, [], [], []⟩ b2 A.dirs q.fbs k hfl).symm
         · show (q.fbs.take k ++ b2 :: q.fbs.drop k).length = (AF.insDir ⟨dir, [], [], []⟩ A.dirs).length;rw [(AF.insDir_perm _ _).length_eq];simp only [List.length_append, List.length_take, List.length_cons, List.length_drop];omega
         · have hdir : sat (dirsP q.xbs (q.fbs.take k ++ b2 :: q.fbs.drop k) (AF.insDir ⟨dir, [], [], []⟩ A.dirs) :: ownM strKeys q.md (updM q.m dir (ptrV b2)) :: rawOf b A.stepOn q.md :: filesP q.xbs A.files :: F) h6 := by
            have H7 : sat (pt b0 (.map #[] 0) :: pt b1 (.map #[] 0) :: pt b2 (dirC b0 b1 none 0 0) :: dirsP q.xbs q.fbs A.dirs :: ownM strKeys q.md (updM q.m dir (ptrV b2)) :: rawOf b A.stepOn q.md :: filesP q.xbs A.files :: F) h6 := H6.ordT 7 [3, 2, 1, 6, 0, 4, 5];have H8 := names_new (xbs := q.xbs) ((names_new (xbs := q.xbs) H7).mv 1);have H9 := ownL_nil (opP q.xbs) 138 H8;have H10 : sat (dirP q.xbs ⟨dir, [], [], []⟩ b2 :: dirsP q.xbs q.fbs A.dirs :: ownM strKeys q.md (updM q.m dir (ptrV b2)) :: rawOf b A.stepOn q.md :: filesP q.xbs A.files :: F) h6 := by
             refine sat_exi.2 ⟨⟨b0, b1, none, 0⟩, sat.shut (m := [pt b2 (dirC b0 b1 none 0 0), namesP q.xbs b0 [], namesP q.xbs b1 [], ownL (opP q.xbs) 138 none 0 0 []]) ?_⟩;exact H9.ordT 4 [3, 2, 1, 0]
            have H11 : sat (Many (dirP q.xbs ⟨dir, [], [], []⟩ b2 :: List.zipWith (dirP q.xbs) A.dirs q.fbs) :: ownM strKeys q.md (updM q.m dir (ptrV b2)) :: rawOf b A.stepOn q.md :: filesP q.xbs A.files :: F) h6 := by
             exact H10.consMany
            rw [hins];exact many_perm (zip_split (dirP q.xbs) ⟨dir, [], [], []⟩ b2 A.dirs q.fbs k hfl).symm H11
           have eu : AF.FS.used { A.stepOn with dirs := AF.insDir ⟨dir, [], [], []⟩ A.stepOn.dirs } = A.used := by
            have : (AF.FS.idx { A.stepOn with dirs := AF.insDir ⟨dir, [], [], []⟩ A.stepOn.dirs }).Perm A.idx := by
             show ((AF.insDir ⟨dir, [], [], []⟩ A.dirs).flatMap _).Perm _;exact ((AF.insDir_perm _ _).flatMap_right _).trans (.of_eq rfl)
            exact perm_sum (this.map _)
           unfold rawOf;rw [eu];exact hdir.ordT 4 [2, 1, 3, 0]
   · have : ((e : Int) != 61) = true := by rw [bne_iff_ne]; omega
     rw [this, cond_true];unfold AF.FS.mkdir;rw [he];simp only [if_neg h61];exact ⟨by trivial, fsP_shut q hq H1⟩
end
def sameB (n : Nat) (xs ys : List Nat) : Prop := ∀ x, x < n → xs.getD x 0 = ys.getD x 0
theorem names_same {n : Nat} {xs ys : List Nat} (hs : sameB n xs ys) {mb : Nat} {l : AF.Names} (hk : ∀ p ∈ l, p.2 < n) : namesP xs mb l = namesP ys mb l := by
 have e : l.map (entV xs) = l.map (entV ys) := List.map_congr_left fun p hp => by unfold entV; rw [hs p.2 (hk p hp)]
 have e2 : (l.map fun p => (p.1, ptrV (xs.getD p.2 0))) = l.map fun p => (p.1, ptrV (ys.getD p.2 0)) := e
 unfold namesP
 rw [e2]
theorem op_same {n : Nat} {xs ys : List Nat} (hs : sameB n xs ys) {o : AF.Op} (hk : ∀ x ∈ AF.opFiles o, x < n) (v : Value) : opP xs o v = opP ys o v := by
 cases o with
 | create k f => simp only [opP, hs f (hk f (by simp [AF.opFiles]))]
 | rename a b => rfl
 | remove a => rfl
theorem zip_congr {α β γ : Type} {E G : α → β → γ} : ∀ {xs : List α} {ys : List β}, (∀ x ∈ xs, ∀ y, E x y = G x y) → List.zipWith E xs ys = List.zipWith G xs ys
 | [], ys, h => by simp
 | x :: xs, [], h => by simp
 | x :: xs, y :: ys, h => by
   rw [List.zipWith_cons_cons, List.zipWith_cons_cons, h x (by simp), zip_congr fun z hz => h z (List.mem_cons_of_mem _ hz)]
theorem ownL_congr {α : Type} {E G : α → Value → HProp} {e : TypeId} {a : Option Addr} {l c : Nat} {xs : List α} (h : ∀ x ∈ xs, ∀ v, E x v = G x v) : ownL E e a l c xs = ownL G e a l c xs := by
 unfold ownL
 congr 1
 funext vs
 rw [zip_congr h]
theorem speaks_op {d : AF.Dir} {o : AF.Op} (ho : o ∈ d.pend) {x : Nat} (hx : x ∈ AF.opFiles o) : x ∈ d.speaks := List.mem_append.2 (.inr (List.mem_flatMap.2 ⟨o, ho, hx⟩))
theorem dir_same {n s : Nat} {xs ys : List Nat} (hs : sameB n xs ys) {d : AF.Dir} (w : d.WF n s) (fb : Nat) : dirP xs d fb = dirP ys d fb := by
 unfold dirP
 congr 1
 funext r
 rw [names_same hs fun p hp => (w.ok.each p hp).1, names_same hs fun p hp => (w.runs.first.each p hp).1, ownL_congr fun o ho v => op_same hs (fun x hx => AF.speaks_of w (speaks_op ho hx)) v]
theorem dirs_same {n s : Nat} {xs ys fbs : List Nat} (hs : sameB n xs ys) {ds : List AF.Dir} (w : ∀ d ∈ ds, d.WF n s) : dirsP xs fbs ds = dirsP ys fbs ds := by
 unfold dirsP
 rw [zip_congr fun d hd fb => dir_same hs (w d hd) fb]
theorem sameB_snoc (xs : List Nat) (x : Nat) : sameB xs.length xs (xs ++ [x]) := fun i hi => by
 rw [List.getD_eq_getElem?_getD, List.getD_eq_getElem?_getD, List.getElem?_append_left hi]
theorem used_newFile {A : AF.FS} (W : A.WF) (y : AF.File) : AF.FS.used { A with files := A.files ++ [y] } = A.used := by
 unfold AF.FS.used
 congr 1
 apply List.map_congr_left
 intro x hx
 have := W.idx_lt hx
 show ((A.files ++ [y]).getD x default).b.length = (A.files.getD x default).b.length
 rw [List.getD_eq_getElem?_getD, List.getD_eq_getElem?_getD, List.getElem?_append_left this]
section
variable {b : Nat} {A : AF.FS} {q : FsQ} {F : List HProp} {h : Heap}
theorem file_new {xb : Nat} (H : sat (pt xb (.cells #[.slice none 0 0, .int .i64 0] 141 (0, 0)) :: F) h) : sat (fileP ⟨[], 0⟩ xb :: F) h := by
 refine sat_exi.2 ⟨(none, 0), sat.shut (m := [pt xb (.cells #[.slice none 0 0, .int .i64 ((0 : Nat) : Int)] 141 (0, 0)), ownS 5 1 none 0 0 []]) ?_⟩
 exact (ownS_nil 5 1 H).mv 1
theorem RdC1 {b0 : Nat} {e : TypeId} {v : Value} (H : sat (pt b0 (.cells #[v] e (0, 0)) :: F) h) : RdC h (some ⟨b0, 0, none⟩) [v] := by
 intro j u hv
 rw [cell_of_pt H.get]
 cases j with
 | zero => exact hv
 | succ j => simp at hv
theorem F79_spec {dir name : ByteArray} (W : A.WF) (hs : A.steps < 1099511627776) (hd : dir.size < 4611686018427387904) (hn : name.size < 4611686018427387904) (H : sat (fsP b A :: F) h) :
  CallsH Tryz.prog 79 [ptrV b, .string dir, .string name] h fun v h' => v = .int .i64 ((A.create dir name).2 : Int) ∧ sat (fsP b (A.create dir name).1 :: F) h' := by
 obtain ⟨q, hq, H0⟩ := fsP_open H
 apply F79_ok.ap
 unfold F79
 refine Al_sat H0 fun b0 h1 H1 => ?_
 refine LdV (v := .string name) H1.get rfl ?_
 rw [DS_string]
 refine Al_sat H1 fun b1 h2 H2 => ?_
 have H3 : sat (fs4 b A q (pt b0 (.cells #[.string name] 9 (0, 0)) :: pt b1 (.cells #[.string name] 9 (0, 0)) :: F)) h2 := H2.ordT 6 [2, 3, 4, 5, 1, 0]
 refine (ready_spec (ss := [name]) W hq H3 (RdC1 H2) rfl (show 1 < 1000 by omega) hd (fun s hs => by simp at hs; rw [hs]; exact hn)).mono ?_
 rintro v h3 ⟨rfl, hcase⟩
 have Hd : sat (fs4 b A q F) h3 := (((H3.mv 5).drop).mv 4).drop
 rcases hcase with ⟨i, d, fb, he, hdi, hfi, rfl⟩ | ⟨e, he, hne, rfl⟩
 · have w := W.each d (List.mem_of_getElem? hdi);obtain ⟨nb, bb, a, c, es, hfb, hes, hsz, hlk⟩ := dir_read (H3.mv 3) hdi hfi w.ok.up;obtain ⟨f, hf, hl⟩ := hlk name;refine ⟨some ⟨fb, 0, none⟩, 0, rfl, ?_⟩;rw [show ((0 : Int) != 0) = false from rfl, cond_false];simp only [NN'_some', addr_add0];have rd : ∀ K : Value → Prop, K (.map (some nb)) → Ld h3 ⟨fb, 0, none⟩ K := fun K hK => ⟨_, by rw [cellAt_of hfb]; rfl, hK⟩
   refine rd _ ?_;rw [DM_map];refine LdV (v := .string name) (H3.mv 4).get rfl ?_;rw [DS_string];refine ⟨es, hes, f, hf, DP_ent hl ?_⟩;have hD := AF.D_of hdi
   cases ho : AF.of d.now name with
   | some x =>
     show bif (true : Bool) then _ else _
     rw [cond_true];have e : A.create dir name = (A, 63) := by
      unfold AF.FS.create;rw [he];simp only [hD, ho, Option.isSome_some, if_true]
     rw [e];exact ⟨rfl, fsP_shut q hq Hd⟩
   | none =>
     show bif (false : Bool) then _ else _
     rw [cond_false];refine rd _ ?_;rw [DM_map];refine ⟨es, hes, ?_⟩;rw [hsz];by_cases h64 : 4096 ≤ d.now.length
     · rw [decide_eq_true (show ((d.now.length : Int) ≥ 4096) by omega), cond_true];have e : A.create dir name = (A, 66) := by
        unfold AF.FS.create;rw [he];simp only [hD, ho, Option.isSome_none, Bool.false_eq_true, if_false, if_pos h64]
       rw [e];exact ⟨rfl, fsP_shut q hq Hd⟩
     · rw [decide_eq_false (show ¬ ((d.now.length : Int) ≥ 4096) by omega), cond_false];have e : A.create dir name = A.step fun g => AF.FS.did { g with files := g.files ++ [⟨[], 0⟩] } i (.create name g.files.length) := by
        unfold AF.FS.create;rw [he];simp only [hD, ho, Option.isSome_none, Bool.false_eq_true, if_false, if_neg h64]
       refine Al_sat H3 fun b2 h4 H4 => Al_sat H4 fun b3 h5 H5 => ?_;refine stV (v := ptrV b2) H5 fun h6 H6 => ?_;obtain ⟨_, hdr, hr, _, _⟩ := AF.ready_ok he;have hrn := hr name (by simp);have hx : (q.xbs ++ [b2]).getD A.files.length 0 = b2 := by
        rw [← hq.2.2, List.getD_eq_getElem?_getD, List.getElem?_append_right (Nat.le_refl _)];simp
       have H7 := (H6.freeze.mv 6).freeze;have H8 : sat (rawOf b A q.md :: ownM strKeys q.md q.m :: filesP (q.xbs ++ [b2]) (A.files ++ [⟨[], 0⟩]) :: dirsP (q.xbs ++ [b2]) q.fbs A.dirs :: opP (q.xbs ++ [b2]) (.create name A.files.length) (.func (.func 172) #[] #[ptrV b3, ptrV b0]) :: F) h6 := by
        have K1 := file_new (H7.mv 2);have K2 : sat (filesP q.xbs A.files :: fileP ⟨[], 0⟩ b2 :: ro b0 (.cells #[.string name] 9 (0, 0)) :: ro b3 (.cells #[ptrV b2] 131 (0, 0)) :: rawOf b A q.md :: ownM strKeys q.md q.m :: dirsP q.xbs q.fbs A.dirs :: F) h6 := (((K1.mv 7).drop).mv 5)
        have K3 := many_new hq.2.2.symm K2;have K4 : sat (Many [pur ((Value.func (.func 172) #[] #[ptrV b3, ptrV b0]) = .func (.func 172) #[] #[ptrV b3, ptrV b0]), ro b3 (.cells #[ptrV ((q.xbs ++ [b2]).getD A.files.length 0)] 131 (0, 0)), ro b0 (.cells #[.string name] 9 (0, 0))] ::
         filesP (q.xbs ++ [b2]) (A.files ++ [⟨[], 0⟩]) :: rawOf b A q.md :: ownM strKeys q.md q.m :: dirsP q.xbs q.fbs A.dirs :: F) h6 := by
         refine sat.shut ?_;refine sat_pur.2 ⟨rfl, ?_⟩;rw [hx];exact K3.ordT 6 [2, 1, 0, 3, 4, 5]
        have K5 : sat (opP (q.xbs ++ [b2]) (.create name A.files.length) (.func (.func 172) #[] #[ptrV b3, ptrV b0]) :: filesP (q.xbs ++ [b2]) (A.files ++ [⟨[], 0⟩]) :: rawOf b A q.md :: ownM strKeys q.md q.m :: dirsP q.xbs q.fbs A.dirs :: F) h6 := sat_exi.2 ⟨(b3, b0), K4⟩;have es : dirsP q.xbs q.fbs A.dirs = dirsP (q.xbs ++ [b2]) q.fbs A.dirs := dirs_same (n := A.files.length) (s := A.steps) (by rw [← hq.2.2]; exact sameB_snoc _ _) W.each;rw [es] at K5;exact K5.ordT 5 [2, 3, 1, 4, 0]
       have eu := used_newFile W ⟨[], 0⟩;have eraw : rawOf b A q.md = rawOf b { A with files := A.files ++ [⟨[], 0⟩] } q.md := by unfold rawOf; rw [eu]
       rw [eraw] at H8;have W1 : AF.FS.WF { A with files := A.files ++ [⟨[], 0⟩] } := W.newFile;have hq1 : fsQ { A with files := A.files ++ [⟨[], 0⟩] } ⟨q.md, q.fbs, q.xbs ++ [b2], q.m⟩ := ⟨hq.1, hq.2.1, by simp [hq.2.2]⟩
       have hfit : AF.Fits (A.files ++ [(⟨[], 0⟩ : AF.File)]).length d.now (.create name A.files.length) := by
        rw [List.length_append];exact AF.create_fits W hdi hrn (by omega)
       refine (F171_spec (A := { A with files := A.files ++ [⟨[], 0⟩] }) (q := ⟨q.md, q.fbs, q.xbs ++ [b2], q.m⟩) (i := i) (o := .create name A.files.length) W1 (AF.create_wf W hdi hrn (by omega)) hq1 hdi hfi hfit hs H8).mono ?_;rintro v h7 ⟨rfl, H9⟩;rw [DI_int, e];unfold AF.FS.step at H9 ⊢;by_cases h0 : A.fuse = some 0
       · rw [if_pos h0] at H9 ⊢;rw [if_pos h0];refine ⟨rfl, fsP_shut (A := { A with off := true }) q hq ?_⟩;have es : dirsP (q.xbs ++ [b2]) q.fbs A.dirs = dirsP q.xbs q.fbs A.dirs := (dirs_same (n := A.files.length) (s := A.steps) (by rw [← hq.2.2]; exact sameB_snoc _ _) W.each).symm;have eraw2 : rawOf b { ({ A with files := A.files ++ [⟨[], 0⟩] } : AF.FS) with off := true } q.md = rawOf b { A with off := true } q.md := by
          have : AF.FS.used { ({ A with files := A.files ++ [⟨[], 0⟩] } : AF.FS) with off := true } = AF.FS.used { A with off := true } := eu;unfold rawOf;rw [this]
         have K1 : sat (filesP (q.xbs ++ [b2]) (A.files ++ [⟨[], 0⟩]) :: rawOf b { A with off := true } q.md :: ownM strKeys q.md q.m :: dirsP q.xbs q.fbs A.dirs :: F) h7 := by
          rw [← eraw2, ← es];exact H9.ordT 4 [2, 0, 1, 3]
         have K2 : sat (filesP q.xbs A.files :: rawOf b { A with off := true } q.md :: ownM strKeys q.md q.m :: dirsP q.xbs q.fbs A.dirs :: F) h7 := by
          have K3 := K1.open;rw [List.zipWith_append hq.2.2.symm, List.append_assoc] at K3;have K4 := K3.shut;exact (K4.mv 1).drop
         exact K2.ordT 4 [1, 2, 0, 3]
       · rw [if_neg h0] at H9 ⊢;rw [if_neg h0];exact ⟨rfl, fsP_shut ⟨q.md, q.fbs, q.xbs ++ [b2], q.m⟩ (fsQ_did hq1 i _) H9⟩
 · refine ⟨none, (e : Int), rfl, ?_⟩;have e0 : e ≠ 0 := by omega
   rw [err_bne e0, cond_true];unfold AF.FS.create;rw [he];exact ⟨rfl, fsP_shut q hq Hd⟩
end
end Go.Proofs.YtibdiikcigokjaaGreatDoor
