/- Files by their places: plain. Raw: the walk. Raw and Put: the walks. Get, Clean: the walks. Ready, Hex: the walks. Hex: what it computes, and that digits stand as numbers do. The chapter's examples; PlaceNil, PlaceSorts. -/
import Derived.Test.YtibdiikcigokjaaGreatDoorKsFpA
import Derived.Test.YtibdiikcigokjaaGreatDoorKsCrA
import Derived.Test.YtibdiikcigokjaaGreatDoorKsTd
namespace Go.Proofs.YtibdiikcigokjaaGreatDoor
open Go
set_option linter.unusedVariables false
set_option linter.unusedSimpArgs false
namespace AF
open Frame (packN firstN)
def tmpN : ByteArray := ⟨#[116, 109, 112, 46]⟩
def seqF : List (FS → FS × Nat) → FS → FS × Nat
 | [], A => (A, 0)
 | g :: gs, A => if (g A).2 = 0 then seqF gs (g A).1 else g A
def rawSteps (dir name : ByteArray) (bs : List Nat) : List (FS → FS × Nat) :=
 [fun A => A.create dir (tmpN ++ name), fun A => A.append dir (tmpN ++ name) bs, fun A => A.sync dir (tmpN ++ name), fun A => A.rename dir (tmpN ++ name) name, fun A => A.syncDir dir]
def rawAll (dir name : ByteArray) (bs : List Nat) (l : List ByteArray) : List (FS → FS × Nat) :=
 if (l.any fun s => decide (s = tmpN ++ name)) = true then (fun A : FS => A.remove dir (tmpN ++ name)) :: rawSteps dir name bs else rawSteps dir name bs
def FS.raw (A : FS) (dir name : ByteArray) (bs : List Nat) : FS × Nat :=
 if 28 < name.size then (A, 65) else match A.list dir with
  | .error e => (A, e)
  | .ok l => seqF (rawAll dir name bs l) A
def FS.put (A : FS) (dir name : ByteArray) (bs : List Nat) : FS × Nat := if 16777208 < bs.length then (A, 50) else A.raw dir name (packN bs)
def FS.get (A : FS) (dir name : ByteArray) : Except Nat (List Nat) := match A.read dir name with
 | .error e => .error e
 | .ok b => match firstN b with
   | some x => if x.length + 8 = b.length then .ok x else .error 70
   | none => .error 70
def isTmp (s : ByteArray) : Bool := decide (4 ≤ s.size) && decide ((sb s).take 4 = sb tmpN)
def cleanGo (dir : ByteArray) : List ByteArray → FS → Nat → FS × Except Nat Nat
 | [], A, n => (A, .ok n)
 | s :: l, A, n => if isTmp s then (if (A.remove dir s).2 = 0 then cleanGo dir l (A.remove dir s).1 (n + 1) else ((A.remove dir s).1, .error (A.remove dir s).2)) else cleanGo dir l A n
def FS.clean (A : FS) (dir : ByteArray) : FS × Except Nat Nat := match A.list dir with
 | .error e => (A, .error e)
 | .ok l => match cleanGo dir l A 0 with
   | (B, .error e) => (B, .error e)
   | (B, .ok n) => if 0 < n then (if (B.syncDir dir).2 = 0 then ((B.syncDir dir).1, .ok n) else ((B.syncDir dir).1, .error (B.syncDir dir).2)) else (B, .ok n)
def FS.tidy (A : FS) (dir : ByteArray) : FS × Except Nat (List ByteArray) :=
 match A.clean dir with
 | (B, .error e) => (B, .error e)
 | (B, .ok _) => (B, B.list dir)
def FS.prep (A : FS) (dir : ByteArray) : FS × Except Nat (List ByteArray) :=
 match A.list dir with
 | .error 61 => if (A.mkdir dir).2 = 0 then (A.mkdir dir).1.tidy dir else ((A.mkdir dir).1, .error (A.mkdir dir).2)
 | _ => A.tidy dir
variable {A : FS}
theorem step_steps {g : FS → FS} (hg : (g A.stepOn).steps = A.stepOn.steps) : (A.step g).1.steps ≤ A.steps + 1 := by
 unfold FS.step
 split
 · exact Nat.le_succ _
 · rw [hg];exact Nat.le_refl _
theorem mkdir_steps (dir : ByteArray) : (A.mkdir dir).1.steps ≤ A.steps + 1 := by
 unfold FS.mkdir
 split
 · exact Nat.le_succ _
 · split
   · split
     · exact Nat.le_succ _
     · exact step_steps rfl
   · exact Nat.le_succ _
theorem create_steps (dir name : ByteArray) : (A.create dir name).1.steps ≤ A.steps + 1 := by
 unfold FS.create
 split
 · exact Nat.le_succ _
 · split
   · exact Nat.le_succ _
   · split
     · exact Nat.le_succ _
     · exact step_steps rfl
theorem append_steps (dir name : ByteArray) (b : List Nat) : (A.append dir name b).1.steps ≤ A.steps + 1 := by
 unfold FS.append
 split
 · exact Nat.le_succ _
 · split
   · exact Nat.le_succ _
   · split
     · exact Nat.le_succ _
     · exact step_steps rfl
theorem sync_steps (dir name : ByteArray) : (A.sync dir name).1.steps ≤ A.steps + 1 := by
 unfold FS.sync
 split
 · exact Nat.le_succ _
 · exact step_steps rfl
theorem syncDir_steps (dir : ByteArray) : (A.syncDir dir).1.steps ≤ A.steps + 1 := by
 unfold FS.syncDir
 split
 · exact Nat.le_succ _
 · exact step_steps rfl
theorem rename_steps (dir a b : ByteArray) : (A.rename dir a b).1.steps ≤ A.steps + 1 := by
 unfold FS.rename
 split
 · exact Nat.le_succ _
 · split
   · exact Nat.le_succ _
   · exact step_steps rfl
theorem remove_steps (dir a : ByteArray) : (A.remove dir a).1.steps ≤ A.steps + 1 := by
 unfold FS.remove
 split
 · exact Nat.le_succ _
 · exact step_steps rfl
end AF
open Go Go.RowKit
section
variable {b : Nat} {A : AF.FS} {F C : List HProp} {h : Heap}
theorem F238_spec {s : ByteArray} {ss : List ByteArray} {a : Option Addr} {l c : Nat} (hr : RdC h a (ss.map Value.string)) (hl : ss.length = l) (hm : l < 4611686018427387904) :
  CallsH Tryz.prog 238 [.slice a l c, .string s] h fun v h' => h' = h ∧ v = .int .i64 (idxI (ss.findIdx? fun k => decide (k = s))) := by
 apply F238_ok.ap
 unfold F238
 refine ⟨fun st hh => hh = h ∧ ∃ i : Nat, st = (i : Int) ∧ i ≤ l ∧ ∀ (j : Nat) (k : ByteArray), j < i → ss[j]? = some k → k ≠ s, fun st _ => ((l : Int) - st).toNat, ⟨rfl, 0, rfl, Nat.zero_le _, fun j k hj => by omega⟩, ?_⟩
 rintro st h1 ⟨rfl, i, rfl, hi, hno⟩
 by_cases hlt : i < l
 · rw [decide_eq_true (show ((i : Int) < (l : Int)) by omega), cond_true];obtain ⟨k, hk⟩ : ∃ k, ss[i]? = some k := ⟨_, List.getElem?_eq_getElem (by omega)⟩
   refine IdxA_nat (v := .string k) hr (by rw [List.length_map]; omega) (by rw [List.getElem?_map, hk]; rfl) fun b2 hb hc => ⟨_, hc, ?_⟩
   show DS (.string k) _;rw [DS_string, strEq_eq];by_cases hks : k = s
   · rw [decide_eq_true (by rw [hks]), cond_true];refine ⟨by trivial, ?_⟩;have : ss.findIdx? (fun k => decide (k = s)) = some i := by
      rw [List.findIdx?_eq_some_iff_getElem];obtain ⟨hil, he⟩ := List.getElem?_eq_some_iff.1 hk;refine ⟨hil, by simp [he, hks], fun j hj => ?_⟩;have := hno j ss[j] hj (List.getElem?_eq_getElem (by omega));simpa using this
     rw [this]
     rfl
   · rw [decide_eq_false (fun e => hks (sb_inj e.symm)), cond_false, wrap64_succ (by omega)];refine ⟨⟨by trivial, i + 1, rfl, by omega, fun j k' hj hk' => ?_⟩, by show ((l : Int) - ((i + 1 : Nat) : Int)).toNat < ((l : Int) - (i : Int)).toNat; omega⟩;by_cases hji : j = i
     · subst hji;rw [hk] at hk';cases hk';exact hks
     · exact hno j k' (by omega) hk'
 · rw [decide_eq_false (by omega), cond_false];refine ⟨by trivial, ?_⟩;have : ss.findIdx? (fun k => decide (k = s)) = none := by
    rw [List.findIdx?_eq_none_iff];intro k hk;obtain ⟨j, hj⟩ := List.getElem?_of_mem hk;have := hno j k (by have := (List.getElem?_eq_some_iff.1 hj).1; omega) hj;simpa using this
   rw [this]
   rfl
theorem F212_spec {s : ByteArray} {ss : List ByteArray} {a : Option Addr} {l c : Nat} (hr : RdC h a (ss.map Value.string)) (hl : ss.length = l) (hm : l < 4611686018427387904) :
  CallsH Tryz.prog 212 [.slice a l c, .string s] h fun v h' => h' = h ∧ v = .bool (ss.any fun k => decide (k = s)) := by
 apply F212_ok.ap
 unfold F212
 refine (F238_spec hr hl hm).mono ?_
 rintro v h1 ⟨rfl, rfl⟩
 rw [DI_int]
 refine ⟨by trivial, ?_⟩
 cases hf : ss.findIdx? (fun k => decide (k = s)) with
 | none =>
   rw [List.findIdx?_eq_none_iff] at hf;have : (ss.any fun k => decide (k = s)) = false := by
    rw [List.any_eq_false];intro k hk;simpa using hf k hk
   rw [this]
   rfl
 | some i =>
   rw [List.findIdx?_eq_some_iff_getElem] at hf;obtain ⟨hi, he, _⟩ := hf;have : (ss.any fun k => decide (k = s)) = true := List.any_eq_true.2 ⟨ss[i], List.getElem_mem hi, he⟩;rw [this];show Value.bool (decide ((i : Int) ≥ 0)) = _;rw [decide_eq_true (by omega)]
def Doer (b : Nat) (C : List HProp) (v : Value) (g : AF.FS → AF.FS × Nat) : Prop :=
 ∀ (A : AF.FS) (h : Heap), A.WF → A.steps < 1099511627776 → sat (fsP b A :: C) h → CallV Tryz.prog v [] h fun r h' => r = .int .i64 ((g A).2 : Int) ∧ (g A).1.WF ∧ (g A).1.steps ≤ A.steps + 1 ∧ sat (fsP b (g A).1 :: C) h'
theorem seqF_take {gs : List (AF.FS → AF.FS × Nat)} : ∀ {i : Nat} {A B : AF.FS} {g : AF.FS → AF.FS × Nat}, AF.seqF (gs.take i) A = (B, 0) → gs[i]? = some g → AF.seqF (gs.take (i + 1)) A = g B := by
 induction gs with
 | nil => intro i A B g _ h; simp at h
 | cons g0 gs ih =>
   intro i A B g h1 h2
   cases i with
   | zero =>
     simp only [List.getElem?_cons_zero, Option.some.injEq] at h2;subst h2;simp only [List.take_zero, AF.seqF, Prod.mk.injEq, and_true] at h1;subst h1;simp only [List.take_succ_cons, List.take_zero, AF.seqF];split
     · rename_i e;exact Prod.ext rfl e.symm
     · rfl
   | succ i =>
     simp only [List.take_succ_cons, AF.seqF] at h1 ⊢;split at h1
     · rename_i e;rw [if_pos e];exact ih h1 (by simpa using h2)
     · rename_i e;rw [h1] at e;exact absurd rfl e
theorem seqF_fail {gs : List (AF.FS → AF.FS × Nat)} : ∀ {i : Nat} {A : AF.FS}, (AF.seqF (gs.take i) A).2 ≠ 0 → AF.seqF gs A = AF.seqF (gs.take i) A := by
 induction gs with
 | nil => intro i A h; simp
 | cons g0 gs ih =>
   intro i A h
   cases i with
   | zero => exact absurd rfl h
   | succ i =>
     simp only [List.take_succ_cons, AF.seqF] at h ⊢;split
     · rename_i e;rw [if_pos e] at h;exact ih h
     · rfl
theorem steps_loop {cl : List Value} {gs : List (AF.FS → AF.FS × Nat)} {a : Option Addr} {n : Nat} {Q : Value → Heap → Prop} (hn : cl.length = n) (hg : gs.length = n) (hm : n < 1000) (hd : ∀ (j : Nat) (v : Value) (g : AF.FS → AF.FS × Nat), cl[j]? = some v → gs[j]? = some g → Doer b C v g)
  (hr : ∀ h', sat C h' → RdC h' a cl) (W : A.WF) (hs : A.steps + n < 1099511627776) (H : sat (fsP b A :: C) h)
  (hQ : ∀ h', (AF.seqF gs A).1.WF → (AF.seqF gs A).1.steps ≤ A.steps + n → sat (fsP b (AF.seqF gs A).1 :: C) h' → Q (.int .i64 ((AF.seqF gs A).2 : Int)) h') :
  LoopH (fun again0 (s0 : Int) h_12 =>
   (bif decide ((s0 : Int) < (n : Int)) then
    IdxA a n s0 1 fun a0 =>
    Ld h_12 a0 fun v6 => ∃ (s1 : Value), v6 = s1 ∧
    CallV Tryz.prog s1 [] h_12 fun r11 h_13 =>
    DI .i64 r11 fun e0 =>
    (bif (e0 : Int) != 0 then
     Q (.int .i64 e0) h_13
    else
     again0 (IntKind.wrap .i64 (s0 + 1)) h_13)
   else
    Q (.int .i64 0) h_12)) 0 h := by
 refine ⟨fun st hh => ∃ (i : Nat) (B : AF.FS), st = (i : Int) ∧ i ≤ n ∧ AF.seqF (gs.take i) A = (B, 0) ∧ B.WF ∧ B.steps ≤ A.steps + i ∧ sat (fsP b B :: C) hh, fun st _ => ((n : Int) - st).toNat, ⟨0, A, rfl, Nat.zero_le _, rfl, W, Nat.le_refl _, H⟩, ?_⟩
 rintro st h1 ⟨i, B, rfl, hi, hB, WB, hBs, H1⟩
 by_cases hlt : i < n
 · rw [decide_eq_true (show ((i : Int) < (n : Int)) by omega), cond_true];obtain ⟨v, hv⟩ : ∃ v, cl[i]? = some v := ⟨_, List.getElem?_eq_getElem (by omega)⟩
   obtain ⟨g, hgi⟩ : ∃ g, gs[i]? = some g := ⟨_, List.getElem?_eq_getElem (by omega)⟩
   refine IdxA_nat (v := v) (hr h1 H1.drop) hn hv fun ba hba hc => ⟨_, hc, v, rfl, ?_⟩
   refine (hd i v g hv hgi B h1 WB (by omega) H1).mono ?_;rintro r h2 ⟨rfl, W2, hs2, H2⟩;rw [DI_int];have ht := seqF_take hB hgi;by_cases he : (g B).2 = 0
   · rw [he, show (((0 : Nat) : Int) != 0) = false from rfl, cond_false, wrap64_succ (by omega)];refine ⟨⟨i + 1, (g B).1, rfl, by omega, by rw [ht]; exact Prod.ext rfl he, W2, by omega, H2⟩, by show ((n : Int) - ((i + 1 : Nat) : Int)).toNat < ((n : Int) - (i : Int)).toNat; omega⟩
   · rw [err_bne he, cond_true];have hf := seqF_fail (gs := gs) (i := i + 1) (A := A) (by rw [ht]; exact he);rw [ht] at hf;have := hQ h2;rw [hf] at this;exact this W2 (by omega) H2
 · rw [decide_eq_false (by omega), cond_false];have ei : i = n := by omega
   subst ei;rw [List.take_of_length_le (by omega)] at hB;have := hQ h1;rw [hB] at this;exact this WB hBs H1
end
theorem u129 : Tryz.prog.underlying 306 = some (.slice 35) := by kernel_rfl
theorem src129 : srcTy Tryz.prog 306 = true := by kernel_rfl
theorem inf78 : infoOk Tryz.prog 35 8 = true := by kernel_rfl
section
variable {b b1 b2 b3 b4 b5 : Nat} {A : AF.FS} {F C : List HProp} {h : Heap} {dir name t : ByteArray} {ba : Option Addr} {bl bc : Nat} {bs : List Nat}
theorem doer91 (r1 : ∀ h', sat C h' → h'[b1]? = some (.cells #[ptrV b] 39 (0, 0))) (r2 : ∀ h', sat C h' → h'[b2]? = some (.cells #[.string dir] 9 (0, 0))) (r5 : ∀ h', sat C h' → h'[b5]? = some (.cells #[.string t] 9 (0, 0)))
  (hd : dir.size < 4611686018427387904) (ht : t.size < 4611686018427387904) : Doer b C (.func (.func 207) #[] #[ptrV b1, ptrV b2, ptrV b5]) fun A => A.create dir t := by
 intro A h W hs H
 refine CallV_fn ?_
 refine F207_ok (c0 := ⟨b1, 0, none⟩) (c1 := ⟨b2, 0, none⟩) (c2 := ⟨b5, 0, none⟩) ?_
 unfold F207
 refine LdB (r1 h H.drop) ?_
 show DP (.pointer (some ⟨b, 0, none⟩)) _
 rw [DP_pointer]
 refine LdB (r2 h H.drop) ?_
 rw [DS_string]
 refine LdB (r5 h H.drop) ?_
 rw [DS_string]
 refine (F79_spec W hs hd ht H).mono ?_
 rintro v h1 ⟨rfl, H1⟩
 rw [DI_int]
 exact ⟨rfl, W.create dir t, AF.create_steps dir t, H1⟩
theorem doer92 (r1 : ∀ h', sat C h' → h'[b1]? = some (.cells #[ptrV b] 39 (0, 0))) (r2 : ∀ h', sat C h' → h'[b2]? = some (.cells #[.string dir] 9 (0, 0))) (r5 : ∀ h', sat C h' → h'[b5]? = some (.cells #[.string t] 9 (0, 0)))
  (r4 : ∀ h', sat C h' → h'[b4]? = some (.cells #[.slice ba bl bc] 85 (0, 0))) (hr : ∀ h', sat C h' → RdC h' ba (bs.map nv)) (h8 : B8 bs) (hl : bs.length = bl) (hlb : bl < 4611686018427387904)
  (hd : dir.size < 4611686018427387904) (ht : t.size < 4611686018427387904) : Doer b C (.func (.func 208) #[] #[ptrV b1, ptrV b2, ptrV b5, ptrV b4]) fun A => A.append dir t bs := by
 intro A h W hs H
 refine CallV_fn ?_
 refine F208_ok (c0 := ⟨b1, 0, none⟩) (c1 := ⟨b2, 0, none⟩) (c2 := ⟨b5, 0, none⟩) (c3 := ⟨b4, 0, none⟩) ?_
 unfold F208
 refine LdB (r1 h H.drop) ?_
 show DP (.pointer (some ⟨b, 0, none⟩)) _
 rw [DP_pointer]
 refine LdB (r2 h H.drop) ?_
 rw [DS_string]
 refine LdB (r5 h H.drop) ?_
 rw [DS_string]
 refine LdB (r4 h H.drop) ?_
 rw [DSl_slice]
 refine (F80_spec W hs hd ht hr hl hlb H).mono ?_
 rintro v h1 ⟨rfl, H1⟩
 rw [DI_int]
 exact ⟨rfl, W.append dir t h8, AF.append_steps dir t bs, H1⟩
theorem doer93 (r1 : ∀ h', sat C h' → h'[b1]? = some (.cells #[ptrV b] 39 (0, 0))) (r2 : ∀ h', sat C h' → h'[b2]? = some (.cells #[.string dir] 9 (0, 0))) (r5 : ∀ h', sat C h' → h'[b5]? = some (.cells #[.string t] 9 (0, 0)))
  (hd : dir.size < 4611686018427387904) (ht : t.size < 4611686018427387904) : Doer b C (.func (.func 209) #[] #[ptrV b1, ptrV b2, ptrV b5]) fun A => A.sync dir t := by
 intro A h W hs H
 refine CallV_fn ?_
 refine F209_ok (c0 := ⟨b1, 0, none⟩) (c1 := ⟨b2, 0, none⟩) (c2 := ⟨b5, 0, none⟩) ?_
 unfold F209
 refine LdB (r1 h H.drop) ?_
 show DP (.pointer (some ⟨b, 0, none⟩)) _
 rw [DP_pointer]
 refine LdB (r2 h H.drop) ?_
 rw [DS_string]
 refine LdB (r5 h H.drop) ?_
 rw [DS_string]
 refine (F81_spec W hs hd ht H).mono ?_
 rintro v h1 ⟨rfl, H1⟩
 rw [DI_int]
 exact ⟨rfl, W.sync dir t, AF.sync_steps dir t, H1⟩
theorem doer94 (r1 : ∀ h', sat C h' → h'[b1]? = some (.cells #[ptrV b] 39 (0, 0))) (r2 : ∀ h', sat C h' → h'[b2]? = some (.cells #[.string dir] 9 (0, 0))) (r5 : ∀ h', sat C h' → h'[b5]? = some (.cells #[.string t] 9 (0, 0)))
  (r3 : ∀ h', sat C h' → h'[b3]? = some (.cells #[.string name] 9 (0, 0))) (hd : dir.size < 4611686018427387904) (ht : t.size < 4611686018427387904) (hn : name.size < 4611686018427387904) :
  Doer b C (.func (.func 210) #[] #[ptrV b1, ptrV b2, ptrV b5, ptrV b3]) fun A => A.rename dir t name := by
 intro A h W hs H
 refine CallV_fn ?_
 refine F210_ok (c0 := ⟨b1, 0, none⟩) (c1 := ⟨b2, 0, none⟩) (c2 := ⟨b5, 0, none⟩) (c3 := ⟨b3, 0, none⟩) ?_
 unfold F210
 refine LdB (r1 h H.drop) ?_
 show DP (.pointer (some ⟨b, 0, none⟩)) _
 rw [DP_pointer]
 refine LdB (r2 h H.drop) ?_
 rw [DS_string]
 refine LdB (r5 h H.drop) ?_
 rw [DS_string]
 refine LdB (r3 h H.drop) ?_
 rw [DS_string]
 refine (F83_spec W hs hd ht hn H).mono ?_
 rintro v h1 ⟨rfl, H1⟩
 rw [DI_int]
 exact ⟨rfl, W.rename dir t name, AF.rename_steps dir t name, H1⟩
theorem doer95 (r1 : ∀ h', sat C h' → h'[b1]? = some (.cells #[ptrV b] 39 (0, 0))) (r2 : ∀ h', sat C h' → h'[b2]? = some (.cells #[.string dir] 9 (0, 0)))
  (hd : dir.size < 4611686018427387904) : Doer b C (.func (.func 211) #[] #[ptrV b1, ptrV b2]) fun A => A.syncDir dir := by
 intro A h W hs H
 refine CallV_fn ?_
 refine F211_ok (c0 := ⟨b1, 0, none⟩) (c1 := ⟨b2, 0, none⟩) ?_
 unfold F211
 refine LdB (r1 h H.drop) ?_
 show DP (.pointer (some ⟨b, 0, none⟩)) _
 rw [DP_pointer]
 refine LdB (r2 h H.drop) ?_
 rw [DS_string]
 refine (F82_spec W hs hd H).mono ?_
 rintro v h1 ⟨rfl, H1⟩
 rw [DI_int]
 exact ⟨rfl, W.syncDir dir, AF.syncDir_steps dir, H1⟩
theorem doer97 (r1 : ∀ h', sat C h' → h'[b1]? = some (.cells #[ptrV b] 39 (0, 0))) (r2 : ∀ h', sat C h' → h'[b2]? = some (.cells #[.string dir] 9 (0, 0))) (r5 : ∀ h', sat C h' → h'[b5]? = some (.cells #[.string t] 9 (0, 0)))
  (hd : dir.size < 4611686018427387904) (ht : t.size < 4611686018427387904) : Doer b C (.func (.func 213) #[] #[ptrV b1, ptrV b2, ptrV b5]) fun A => A.remove dir t := by
 intro A h W hs H
 refine CallV_fn ?_
 refine F213_ok (c0 := ⟨b1, 0, none⟩) (c1 := ⟨b2, 0, none⟩) (c2 := ⟨b5, 0, none⟩) ?_
 unfold F213
 refine LdB (r1 h H.drop) ?_
 show DP (.pointer (some ⟨b, 0, none⟩)) _
 rw [DP_pointer]
 refine LdB (r2 h H.drop) ?_
 rw [DS_string]
 refine LdB (r5 h H.drop) ?_
 rw [DS_string]
 refine (F84_spec W hs hd ht H).mono ?_
 rintro v h1 ⟨rfl, H1⟩
 rw [DI_int]
 exact ⟨rfl, W.remove dir t, AF.remove_steps dir t, H1⟩
theorem tmp_size (name : ByteArray) : (AF.tmpN ++ name).size = 4 + name.size := by rw [ByteArray.size_append]; rfl
abbrev Went (b : Nat) (A : AF.FS) (k : Nat) (r : AF.FS × Nat) (F : List HProp) : Value → Heap → Prop := fun v h' => v = .int .i64 (r.2 : Int) ∧ r.1.WF ∧ r.1.steps ≤ A.steps + k ∧ sat (fsP b r.1 :: F) h'
theorem F140_spec (W : A.WF) (hs : A.steps + 10 < 1099511627776) (hd : dir.size < 4611686018427387904) (hn : name.size < 4611686018427387904)
  (hr : ∀ h', sat F h' → RdC h' ba (bs.map nv)) (h8 : B8 bs) (hl : bs.length = bl) (hlb : bl < 4611686018427387904) (H : sat (fsP b A :: F) h) :
  CallsH Tryz.prog 140 [ptrV b, .string dir, .string name, .slice ba bl bc] h (Went b A 6 (A.raw dir name bs) F) := by
 apply F140_ok.ap
 unfold F140
 refine Al_sat H fun b1 h1 H1 => Al_sat H1 fun b2 h2 H2 => Al_sat H2 fun b3 h3 H3 => Al_sat H3 fun b4 h4 H4 => ?_
 refine LdV (v := ptrV b) (H4.mv 3).get rfl ?_
 show DP (.pointer (some ⟨b, 0, none⟩)) _
 rw [DP_pointer, show (some (⟨b, 0, none⟩ : Addr)).isNone = false from rfl, cond_false]
 refine LdV (v := .string name) (H4.mv 1).get rfl ?_
 rw [DS_string]
 by_cases hbig : 28 < name.size
 · rw [decide_eq_true (by omega), cond_true];have e : A.raw dir name bs = (A, 65) := by unfold AF.FS.raw; rw [if_pos hbig]
   rw [e];exact ⟨rfl, W, Nat.le_add_right _ _, H4.rest 4⟩
 rw [decide_eq_false (by omega), cond_false]
 refine LdV (v := .string name) (H4.mv 1).get rfl ?_
 rw [DS_string]
 refine ⟨by show 4 + name.size ≤ _; omega, ?_⟩
 refine Al_sat H4 fun b5 h5 H5 => ?_
 rw [addr_add0]
 refine stV H5 fun h6 H6 => ?_
 have hts := tmp_size name
 refine LdV (v := ptrV b) (H6.mv 4).get rfl ?_
 show DP (.pointer (some ⟨b, 0, none⟩)) _
 rw [DP_pointer]
 refine LdV (v := .string dir) (H6.mv 3).get rfl ?_
 rw [DS_string]
 refine (F16_spec W hd (H6.ordT 6 [5, 0, 1, 2, 3, 4])).mono ?_
 rintro v h7 (⟨ks, ka, kc, hli, _, hkl, rfl, H7⟩ | ⟨e, hli, e0, rfl, H7⟩)
 · refine ⟨ka, ks.length, kc, 0, rfl, ?_⟩;rw [show ((0 : Int) != 0) = false from rfl, cond_false];refine Al_sat H7 fun b6 h8' H8 => ?_;refine LdV (v := .string (AF.tmpN ++ name)) (H8.mv 3).get rfl ?_;rw [DS_string];refine (F212_spec (ownS_read (H8.mv 1)) rfl (by omega)).mono ?_;rintro v h9 ⟨rfl, rfl⟩;rw [DB_bool];have eraw : A.raw dir name bs = AF.seqF (AF.rawAll dir name bs ks) A := by unfold AF.FS.raw; rw [if_neg hbig, hli]
   rw [eraw]
   cases hc : ks.any fun k => decide (k = AF.tmpN ++ name) with
   | false =>
     rw [cond_false];have eall : AF.rawAll dir name bs ks = AF.rawSteps dir name bs := by unfold AF.rawAll; rw [hc, if_neg (by decide)]
     rw [eall];have G0 := H8.ordT 8 [2, 0, 3, 4, 5, 6, 7];refine steps_loop (b := b) (A := A) (C := pt b6 (.cells #[.func (.func 207) #[] #[ptrV b1, ptrV b2, ptrV b5], .func (.func 208) #[] #[ptrV b1, ptrV b2, ptrV b5, ptrV b4], .func (.func 209) #[] #[ptrV b1, ptrV b2, ptrV b5], .func (.func 210) #[] #[ptrV b1, ptrV b2, ptrV b5, ptrV b3], .func (.func 211) #[] #[ptrV b1, ptrV b2]] 35 (0, 0)) :: pt b5 (.cells #[.string (AF.tmpN ++ name)] 9 (0, 0)) :: pt b4 (.cells #[.slice ba bl bc] 85 (0, 0)) :: pt b3 (.cells #[.string name] 9 (0, 0)) :: pt b2 (.cells #[.string dir] 9 (0, 0)) :: pt b1 (.cells #[ptrV b] 39 (0, 0)) :: F)
      (cl := [.func (.func 207) #[] #[ptrV b1, ptrV b2, ptrV b5], .func (.func 208) #[] #[ptrV b1, ptrV b2, ptrV b5, ptrV b4], .func (.func 209) #[] #[ptrV b1, ptrV b2, ptrV b5], .func (.func 210) #[] #[ptrV b1, ptrV b2, ptrV b5, ptrV b3], .func (.func 211) #[] #[ptrV b1, ptrV b2]])
      (gs := AF.rawSteps dir name bs) (n := 5) rfl rfl (by omega) ?_ (fun h' hh => RdCf hh rfl) W (by omega) G0 ?_
     · intro j v g hv hg;have hj : j < 5 := (List.getElem?_eq_some_iff.1 hv).1
       match j, hj with
       | 0, _ => cases hv; cases hg; exact doer91 (fun h' hh => (hh.mv 5).get) (fun h' hh => (hh.mv 4).get) (fun h' hh => (hh.mv 1).get) hd (by omega)
       | 1, _ => cases hv; cases hg; exact doer92 (fun h' hh => (hh.mv 5).get) (fun h' hh => (hh.mv 4).get) (fun h' hh => (hh.mv 1).get) (fun h' hh => (hh.mv 2).get) (fun h' hh => hr h' (hh.rest 6)) h8 hl hlb hd (by omega)
       | 2, _ => cases hv; cases hg; exact doer93 (fun h' hh => (hh.mv 5).get) (fun h' hh => (hh.mv 4).get) (fun h' hh => (hh.mv 1).get) hd (by omega)
       | 3, _ => cases hv; cases hg; exact doer94 (fun h' hh => (hh.mv 5).get) (fun h' hh => (hh.mv 4).get) (fun h' hh => (hh.mv 1).get) (fun h' hh => (hh.mv 3).get) hd (by omega) hn
       | 4, _ => cases hv; cases hg; exact doer95 (fun h' hh => (hh.mv 5).get) (fun h' hh => (hh.mv 4).get) hd
     · intro h' W' hs' H';exact ⟨rfl, W', by omega, H'.ordT 7 [0]⟩
   | true =>
     rw [cond_true];have eall : AF.rawAll dir name bs ks = (fun A : AF.FS => A.remove dir (AF.tmpN ++ name)) :: AF.rawSteps dir name bs := by unfold AF.rawAll; rw [hc, if_pos rfl]
     rw [eall];refine Al_sat H8 fun b7 h10 H10 => ?_;have K1 : sat (ownS 35 1 (some ⟨b7, 0, none⟩) 1 1 [.func (.func 213) #[] #[ptrV b1, ptrV b2, ptrV b5]] :: _) h10 := ownS_mk H10 (nofz_zero _) (Nat.le_refl _) (by decide) rfl rfl;refine append1 (b := 8) (ys := [.func (.func 207) #[] #[ptrV b1, ptrV b2, ptrV b5], .func (.func 208) #[] #[ptrV b1, ptrV b2, ptrV b5, ptrV b4], .func (.func 209) #[] #[ptrV b1, ptrV b2, ptrV b5], .func (.func 210) #[] #[ptrV b1, ptrV b2, ptrV b5, ptrV b3], .func (.func 211) #[] #[ptrV b1, ptrV b2]])
      u129 src129 inf78 K1 (srcOf_slice (n := 5) (c := 5) (RdCf (H10.mv 1) rfl) rfl) (by intro u hu; simp at hu; rcases hu with rfl | rfl | rfl | rfl | rfl <;> rfl) (by omega) fun sa sc h11 _ H11 => ?_
     rw [DSl_slice];have G0 := H11.ordT 9 [3, 0, 4, 5, 6, 7, 8];refine steps_loop (b := b) (A := A) (C := ownS 35 1 sa (1 + 5) sc [.func (.func 213) #[] #[ptrV b1, ptrV b2, ptrV b5], .func (.func 207) #[] #[ptrV b1, ptrV b2, ptrV b5], .func (.func 208) #[] #[ptrV b1, ptrV b2, ptrV b5, ptrV b4], .func (.func 209) #[] #[ptrV b1, ptrV b2, ptrV b5], .func (.func 210) #[] #[ptrV b1, ptrV b2, ptrV b5, ptrV b3], .func (.func 211) #[] #[ptrV b1, ptrV b2]] ::
      pt b5 (.cells #[.string (AF.tmpN ++ name)] 9 (0, 0)) :: pt b4 (.cells #[.slice ba bl bc] 85 (0, 0)) :: pt b3 (.cells #[.string name] 9 (0, 0)) :: pt b2 (.cells #[.string dir] 9 (0, 0)) :: pt b1 (.cells #[ptrV b] 39 (0, 0)) :: F)
      (cl := [.func (.func 213) #[] #[ptrV b1, ptrV b2, ptrV b5], .func (.func 207) #[] #[ptrV b1, ptrV b2, ptrV b5], .func (.func 208) #[] #[ptrV b1, ptrV b2, ptrV b5, ptrV b4], .func (.func 209) #[] #[ptrV b1, ptrV b2, ptrV b5], .func (.func 210) #[] #[ptrV b1, ptrV b2, ptrV b5, ptrV b3], .func (.func 211) #[] #[ptrV b1, ptrV b2]])
      (gs := (fun A : AF.FS => A.remove dir (AF.tmpN ++ name)) :: AF.rawSteps dir name bs) (n := 1 + 5) rfl rfl (by omega) ?_ (fun h' hh => ownS_read hh) W (by omega) G0 ?_
     · intro j v g hv hg;have hj : j < 6 := (List.getElem?_eq_some_iff.1 hv).1
       match j, hj with
       | 0, _ => cases hv; cases hg; exact doer97 (fun h' hh => (hh.mv 5).get) (fun h' hh => (hh.mv 4).get) (fun h' hh => (hh.mv 1).get) hd (by omega)
       | 1, _ => cases hv; cases hg; exact doer91 (fun h' hh => (hh.mv 5).get) (fun h' hh => (hh.mv 4).get) (fun h' hh => (hh.mv 1).get) hd (by omega)
       | 2, _ => cases hv; cases hg; exact doer92 (fun h' hh => (hh.mv 5).get) (fun h' hh => (hh.mv 4).get) (fun h' hh => (hh.mv 1).get) (fun h' hh => (hh.mv 2).get) (fun h' hh => hr h' (hh.rest 6)) h8 hl hlb hd (by omega)
       | 3, _ => cases hv; cases hg; exact doer93 (fun h' hh => (hh.mv 5).get) (fun h' hh => (hh.mv 4).get) (fun h' hh => (hh.mv 1).get) hd (by omega)
       | 4, _ => cases hv; cases hg; exact doer94 (fun h' hh => (hh.mv 5).get) (fun h' hh => (hh.mv 4).get) (fun h' hh => (hh.mv 1).get) (fun h' hh => (hh.mv 3).get) hd (by omega) hn
       | 5, _ => cases hv; cases hg; exact doer95 (fun h' hh => (hh.mv 5).get) (fun h' hh => (hh.mv 4).get) hd
     · intro h' W' hs' H';exact ⟨rfl, W', by omega, H'.ordT 7 [0]⟩
 · refine ⟨none, 0, 0, (e : Int), rfl, ?_⟩;rw [err_bne e0, cond_true];have er : A.raw dir name bs = (A, e) := by unfold AF.FS.raw; rw [if_neg hbig, hli]
   rw [er];exact ⟨rfl, W, Nat.le_add_right _ _, H7.ordT 6 [0]⟩
theorem F139_long {a : Option Addr} {l c : Nat} (hl : 16777208 < l) : CallsH Tryz.prog 139 [.slice a l c] h fun v h' => v = .tuple #[.slice none 0 0, .int .i64 50] ∧ h' = h := by
 apply F139_ok.ap
 unfold F139
 rw [decide_eq_true (show ((l : Int) > 16777208) by omega), cond_true]
 exact ⟨rfl, rfl⟩
theorem F45_spec (W : A.WF) (hs : A.steps + 10 < 1099511627776) (hd : dir.size < 4611686018427387904) (hn : name.size < 4611686018427387904)
  (hr : ∀ h', sat F h' → RdC h' ba (bs.map nv)) (h8 : B8 bs) (hl : bs.length = bl) (hlb : bl < 4611686018427387904) (H : sat (fsP b A :: F) h) :
  CallsH Tryz.prog 45 [ptrV b, .string dir, .string name, .slice ba bl bc] h (Went b A 6 (A.put dir name bs) F) := by
 apply F45_ok.ap
 unfold F45
 rw [show (some (⟨b, 0, none⟩ : Addr)).isNone = false from rfl, cond_false]
 by_cases hbig : 16777208 < bs.length
 · refine (F139_long (by omega)).mono ?_;rintro v h1 ⟨rfl, rfl⟩;refine ⟨none, 0, 0, 50, rfl, ?_⟩;rw [show ((50 : Int) != 0) = true from rfl, cond_true];have e : A.put dir name bs = (A, 50) := by unfold AF.FS.put; rw [if_pos hbig]
   rw [e];exact ⟨rfl, W, Nat.le_add_right _ _, H⟩
 · refine (F139_spec (F := fsP b A :: F) H (fun h' hh => hr h' hh.drop) h8 hl (by omega)).mono ?_;rintro v h1 ⟨pa, pc, rfl, H1⟩;refine ⟨some pa, 8 + bl, pc, 0, rfl, ?_⟩;rw [show ((0 : Int) != 0) = false from rfl, cond_false];refine (F140_spec (bs := Frame.packN bs) W hs hd hn (fun h' hh => ownS_read hh) (Frame.packN_B8 h8) (by rw [Frame.packN_length, hl]) (by omega) (H1.mv 1)).mono ?_;rintro v h2 ⟨rfl, W2, hs2, H2⟩;rw [DI_int];have e : A.put dir name bs = A.raw dir name (Frame.packN bs) := by unfold AF.FS.put; rw [if_neg hbig]
   rw [e];exact ⟨rfl, W2, hs2, (H2.mv 1).drop⟩
end
section
variable {b : Nat} {A : AF.FS} {F C : List HProp} {h : Heap} {dir name : ByteArray}
theorem F34_spec (W : A.WF) (hd : dir.size < 4611686018427387904) (hn : name.size < 4611686018427387904) (H : sat (fsP b A :: F) h) :
  CallsH Tryz.prog 34 [ptrV b, .string dir, .string name] h fun v h' =>
   (∃ (bs : List Nat) (a : Option Addr) (c : Nat), A.get dir name = .ok bs ∧ B8 bs ∧ bs.length ≤ 16777216 ∧ v = .tuple #[.slice a bs.length c, .int .i64 0] ∧ sat (ownS 5 1 a bs.length c (bs.map nv) :: fsP b A :: F) h') ∨
   (∃ e : Nat, A.get dir name = .error e ∧ e ≠ 0 ∧ v = .tuple #[.slice none 0 0, .int .i64 (e : Int)] ∧ sat (fsP b A :: F) h') := by
 apply F34_ok.ap
 unfold F34
 refine (F103_spec W hd hn H).mono ?_
 rintro v h1 (⟨bs, a, c, hr, hb8, hbl, rfl, H1⟩ | ⟨e, hr, e0, rfl, H1⟩)
 · refine ⟨a, bs.length, c, 0, rfl, ?_⟩;rw [show ((0 : Int) != 0) = false from rfl, cond_false];obtain ⟨_, hlc, hcm⟩ := ownS_len H1;refine (F114_spec H1 (ownS_read H1) hb8 rfl hlc hcm (by omega)).mono ?_;rintro v h2 ⟨a2, l2, c2, e, rfl, hcase⟩;refine ⟨a2, l2, c2, e, rfl, ?_⟩
   rcases hcase with ⟨body, hf, hbl2, rfl, rfl, H2⟩ | ⟨hno, rfl, rfl, H2⟩
   · rw [show ((0 : Int) != 0) = false from rfl, cond_false];refine .inl ⟨body, a2, c2, ?_, ?_, by omega, rfl, (H2.mv 1).drop⟩
     · unfold AF.FS.get;rw [hr];simp only [hf, if_pos hbl2]
     · obtain ⟨_, _, _, hx, _⟩ := Frame.firstN_some hb8 hf;intro n hn;rw [hx] at hn;exact hb8 n (List.mem_of_mem_drop (List.mem_of_mem_take hn))
   · rw [show ((52 : Int) != 0) = true from rfl, cond_true];refine .inr ⟨70, ?_, by decide, rfl, H2.rest 2⟩;unfold AF.FS.get;rw [hr]
     cases hf : Frame.firstN bs with
     | none => simp only [hf]
     | some x => simp only [hf, if_neg (hno x hf)]
 · refine ⟨none, 0, 0, (e : Int), rfl, ?_⟩;rw [err_bne e0, cond_true];refine .inr ⟨e, ?_, e0, rfl, H1⟩;unfold AF.FS.get;rw [hr]
theorem F255_spec {s : ByteArray} : CallsH Tryz.prog 255 [.string s, .string ⟨#[116, 109, 112, 46]⟩] h fun v h' => v = .bool (AF.isTmp s) ∧ h' = h := by
 apply F255_ok.ap
 unfold F255
 have in141 : CallsH Tryz.prog 278 [.string s, .string ⟨#[116, 109, 112, 46]⟩] h fun v h' => v = .bool (AF.isTmp s) ∧ h' = h := by
  apply F278_ok.ap;unfold F278;have e4 : (⟨#[116, 109, 112, 46]⟩ : ByteArray).size = 4 := rfl;rw [e4];by_cases h4 : 4 ≤ s.size
  · rw [decide_eq_true (by omega), cond_true];refine ⟨by omega, by omega, by omega, ?_⟩;refine ⟨congrArg Value.bool ?_, rfl⟩;unfold AF.isTmp;rw [decide_eq_true h4, Bool.true_and, strEq_eq, sb_extract]
    rfl
  · rw [decide_eq_false (by omega), cond_false];refine ⟨congrArg Value.bool ?_, rfl⟩;unfold AF.isTmp;rw [decide_eq_false h4, Bool.false_and]
 refine in141.mono ?_
 rintro v h1 ⟨rfl, rfl⟩
 rw [DB_bool]
 exact ⟨rfl, rfl⟩
theorem F254_spec {yv : Value} {cb l c : Nat} {a : Option Addr} {ss : List ByteArray} (J : Nat → Heap → Prop) (Out : Heap → Prop) (hl : ss.length = l) (hm : l < 4611686018427387904)
  (hcell : ∀ i h2, J i h2 → h2[cb]? = some (.cells #[.slice a l c] 44 (0, 0)) ∧ RdC h2 a (ss.map Value.string)) (start : J 0 h)
  (skip : ∀ i s h2, ss[i]? = some s → AF.isTmp s = false → J i h2 → J (i + 1) h2)
  (round : ∀ i s h2, ss[i]? = some s → AF.isTmp s = true → J i h2 → CallV Tryz.prog yv [.string s] h2 fun r h3 => ∃ go, r = .bool go ∧ (go = true → J (i + 1) h3) ∧ (go = false → Out h3))
  (fin : ∀ h2, J l h2 → Out h2) : CallsH Tryz.prog 254 [yv, ptrV cb] h fun v h' => v = .tuple #[] ∧ Out h' := by
 refine F254_ok (c0 := ⟨cb, 0, none⟩) ?_
 unfold F254
 refine LdB (hcell 0 h start).1 ?_
 rw [DSl_slice]
 refine ⟨fun st hh => ∃ i : Nat, st = (i : Int) ∧ i ≤ l ∧ J i hh, fun st _ => ((l : Int) - st).toNat, ⟨0, rfl, Nat.zero_le _, start⟩, ?_⟩
 rintro st h1 ⟨i, rfl, hi, HJ⟩
 by_cases hlt : i < l
 · rw [decide_eq_true (show ((i : Int) < (l : Int)) by omega), cond_true];obtain ⟨s, hs⟩ : ∃ s, ss[i]? = some s := ⟨_, List.getElem?_eq_getElem (by omega)⟩
   refine IdxA_nat (v := .string s) (hcell i h1 HJ).2 (by rw [List.length_map]; exact hl) (by rw [List.getElem?_map, hs]; rfl) fun ba hba hc => ⟨_, hc, ?_⟩
   show DS (.string s) _;rw [DS_string];refine F255_spec.mono ?_;rintro v h2 ⟨rfl, rfl⟩;rw [DB_bool];have on : ∀ hx, J (i + 1) hx → (∃ i_1 : Nat, IntKind.wrap .i64 ((i : Int) + 1) = (i_1 : Int) ∧ i_1 ≤ l ∧ J i_1 hx) ∧ ((l : Int) - IntKind.wrap .i64 ((i : Int) + 1)).toNat < ((l : Int) - (i : Int)).toNat := by
    intro hx hj;rw [wrap64_succ (by omega)];exact ⟨⟨i + 1, rfl, by omega, hj⟩, by omega⟩
   cases ht : AF.isTmp s with
   | false =>
     rw [cond_false];exact on h2 (skip i s h2 hs ht HJ)
   | true =>
     rw [cond_true];refine (round i s h2 hs ht HJ).mono ?_;rintro r h3 ⟨go, rfl, hgo, hstop⟩;rw [DB_bool]
     cases go with
     | false => exact ⟨rfl, hstop rfl⟩
     | true => exact on h3 (hgo rfl)
 · rw [decide_eq_false (by omega), cond_false];have ei : i = l := by omega
   subst ei;exact ⟨rfl, fin h1 HJ⟩
end
namespace AF
theorem cleanGo_append (dir : ByteArray) : ∀ (l1 l2 : List ByteArray) (A : FS) (n : Nat), cleanGo dir (l1 ++ l2) A n = match cleanGo dir l1 A n with
  | (B, .ok m) => cleanGo dir l2 B m
  | (B, .error e) => (B, .error e)
 | [], l2, A, n => rfl
 | s :: l1, l2, A, n => by
   simp only [List.cons_append, cleanGo];split
   · split
     · exact cleanGo_append dir l1 l2 _ _
     · rfl
   · exact cleanGo_append dir l1 l2 _ _
end AF
section
variable {b : Nat} {A : AF.FS} {F C : List HProp} {h : Heap} {dir name : ByteArray}
def cleanV : Except Nat Nat → Value
 | .ok n => .tuple #[.int .i64 (n : Int), .int .i64 0]
 | .error e => .tuple #[.int .i64 0, .int .i64 (e : Int)]
abbrev cI3 (b : Nat) (n : Int) : HProp := pt b (.cells #[.int .i64 n] 3 (0, 0))
abbrev cI25 (b : Nat) (n : Int) : HProp := pt b (.cells #[.int .i64 n] 25 (0, 0))
theorem F196_spec (W : A.WF) (hs : A.steps + 10000 < 1099511627776) (hd : dir.size < 4611686018427387904) (H : sat (fsP b A :: F) h) :
  CallsH Tryz.prog 196 [ptrV b, .string dir] h fun v h' => v = cleanV (A.clean dir).2 ∧ (∀ e, (A.clean dir).2 = .error e → e ≠ 0) ∧ (A.clean dir).1.WF ∧ (A.clean dir).1.steps ≤ A.steps + 5000 ∧ sat (fsP b (A.clean dir).1 :: F) h' := by
 apply F196_ok.ap
 unfold F196
 refine Al_sat H fun b0 h1 H1 => Al_sat H1 fun b1 h2 H2 => Al_sat H2 fun b2 h3 H3 => Al_sat H3 fun b3 h4 H4 => ?_
 refine LdV (v := ptrV b) (H4.mv 3).get rfl ?_
 show DP (.pointer (some ⟨b, 0, none⟩)) _
 rw [DP_pointer]
 refine LdV (v := .string dir) (H4.mv 2).get rfl ?_
 rw [DS_string]
 refine (F16_spec W hd (H4.mv 4)).mono ?_
 rintro v h5 (⟨ks, ka, kc, hli, hright, hkl, rfl, H5⟩ | ⟨e, hli, e0, rfl, H5⟩)
 · refine ⟨ka, ks.length, kc, 0, rfl, ?_⟩;rw [show ((0 : Int) != 0) = false from rfl, cond_false];refine Al_sat H5 fun b4 h6 H6 => ?_;rw [addr_add0];refine stV (v := .int .i64 0) H6 fun h7 H7 => ?_;have in89 : CallsH Tryz.prog 234 [.slice ka ks.length kc] h7 fun v h' => ∃ cb, v = .func (.func 254) #[] #[ptrV cb] ∧ sat (pt cb (.cells #[.slice ka ks.length kc] 44 (0, 0)) :: cI3 b4 0 :: ownS 9 1 ka ks.length kc (ks.map Value.string) :: fsP b A :: cI25 b3 0 :: cI3 b2 0 :: pt b1 (.cells #[.string dir] 9 (0, 0)) :: pt b0 (.cells #[ptrV b] 39 (0, 0)) :: F) h' := by
    apply F234_ok.ap;unfold F234;refine Al_sat H7 fun cb h8 H8 => ?_;exact ⟨cb, rfl, H8⟩
   refine in89.mono ?_;rintro v h8 ⟨cb, rfl, H8⟩;refine ⟨_, rfl, ?_⟩;have eclean : A.clean dir = match AF.cleanGo dir ks A 0 with
    | (B, .error e) => (B, .error e)
    | (B, .ok n) => if 0 < n then (if (B.syncDir dir).2 = 0 then ((B.syncDir dir).1, .ok n) else ((B.syncDir dir).1, .error (B.syncDir dir).2)) else (B, .ok n) := by
    unfold AF.FS.clean;simp only [hli]
    try rfl
   intro rec hrec hy;refine CallF_fn ?_;have H9 := (H8.push (.deferred (some []))).push (rec .ready none);rw [Array.size_push] at H9;refine (F254_spec (l := ks.length) (a := ka) (c := kc) (fun i h2 => ∃ (B : AF.FS) (n : Nat), AF.cleanGo dir (ks.take i) A 0 = (B, .ok n) ∧ n ≤ i ∧ B.WF ∧ B.steps ≤ A.steps + i ∧ sat (pt (h8.size + 1) (rec .ready none) :: pt h8.size (.deferred (some [])) ::
     pt cb (.cells #[.slice ka ks.length kc] 44 (0, 0)) :: cI3 b4 (n : Int) :: ownS 9 1 ka ks.length kc (ks.map Value.string) :: fsP b B :: cI25 b3 0 :: cI3 b2 0 :: pt b1 (.cells #[.string dir] 9 (0, 0)) :: pt b0 (.cells #[ptrV b] 39 (0, 0)) :: F) h2)
    (fun h2 => (∃ (B : AF.FS) (n : Nat), AF.cleanGo dir ks A 0 = (B, .ok n) ∧ n ≤ ks.length ∧ B.WF ∧ B.steps ≤ A.steps + 4096 ∧ sat (pt (h8.size + 1) (rec .ready none) :: pt h8.size (.deferred (some [])) :: cI3 b4 (n : Int) :: fsP b B :: cI25 b3 0 :: cI3 b2 0 :: pt b1 (.cells #[.string dir] 9 (0, 0)) :: pt b0 (.cells #[ptrV b] 39 (0, 0)) :: F) h2) ∨
     ∃ (B : AF.FS) (e : Nat), AF.cleanGo dir ks A 0 = (B, .error e) ∧ e ≠ 0 ∧ B.WF ∧ B.steps ≤ A.steps + 4097 ∧ sat (pt (h8.size + 1) (rec .done (some .ret)) :: pt h8.size (.deferred (some [])) :: fsP b B :: cI25 b3 (e : Int) :: cI3 b2 0 :: F) h2)
    rfl (by omega) ?_ ?_ ?_ ?_ ?_).mono ?_
   · rintro i h2 ⟨B, n, _, _, _, _, H⟩;exact ⟨(H.mv 2).get, ownS_read (H.mv 4)⟩
   · exact ⟨A, 0, rfl, Nat.le_refl _, W, Nat.le_refl _, H9⟩
   · rintro i s h2 hsi ht ⟨B, n, hc, hn, WB, hBs, H⟩;refine ⟨B, n, ?_, by omega, WB, by omega, H⟩;rw [List.take_add_one, hsi];show AF.cleanGo dir (ks.take i ++ [s]) A 0 = _;rw [AF.cleanGo_append, hc];simp only [AF.cleanGo, ht, Bool.false_eq_true, if_false]
   · rintro i s h2 hsi ht ⟨B, n, hc, hn, WB, hBs, H⟩;have hil := (List.getElem?_eq_some_iff.1 hsi).1;refine CallV_yield ?_;have hL := H.get;refine hy _ _ _ rfl hL ⟨s, rfl, hL, ?_⟩;have K := H.set (rec .busy none);refine LdV (v := ptrV b) (K.mv 9).get rfl ?_;show DP (.pointer (some ⟨b, 0, none⟩)) _;rw [DP_pointer];refine LdV (v := .string dir) (K.mv 8).get rfl ?_;rw [DS_string];have hsr := right_size (hright s (List.mem_of_getElem? hsi));refine (F84_spec WB (by omega) hd (k := s) (by omega) (K.mv 5)).mono ?_;rintro v h3 ⟨rfl, K2⟩;rw [DI_int];have htake : AF.cleanGo dir (ks.take (i + 1)) A 0 = AF.cleanGo dir [s] B n := by
      rw [List.take_add_one, hsi];show AF.cleanGo dir (ks.take i ++ [s]) A 0 = _;rw [AF.cleanGo_append, hc]
     have hst := AF.remove_steps (A := B) dir s;by_cases he : (B.remove dir s).2 = 0
     · rw [he, show (((0 : Nat) : Int) != 0) = false from rfl, cond_false];refine LdV (v := .int .i64 (n : Int)) (K2.mv 4).get rfl ?_;rw [DI_int, wrap64_succ (by omega)];refine stV (v := .int .i64 ((n + 1 : Nat) : Int)) (K2.mv 4) fun h4 K3 => ?_;have hL3 := (K3.mv 2).get;refine ⟨hL3, true, rfl, fun _ => ?_, fun e => by cases e⟩;have K4 := (K3.mv 2).set (rec .ready none);refine ⟨(B.remove dir s).1, n + 1, ?_, by omega, WB.remove dir s, by omega, K4.ordT 10 [0, 3, 4, 1, 5, 2, 6, 7, 8, 9]⟩;rw [htake];simp only [AF.cleanGo, ht, he, if_true]
     · rw [err_bne he, cond_true, addr_add0];refine stV (v := .int .i64 0) (K2.mv 7) fun h4 K3 => ?_;refine stV (v := .int .i64 ((B.remove dir s).2 : Int)) (K3.mv 7) fun h5 K4 => ?_;refine ⟨(K4.mv 3).get, false, rfl, fun e => (by cases e), fun _ => ?_⟩;have K5 := (K4.mv 3).set (rec .done (some .ret));refine .inr ⟨(B.remove dir s).1, (B.remove dir s).2, ?_, he, WB.remove dir s, by omega, K5.ordT 10 [0, 4, 3, 1, 2]⟩;have e2 : ks = ks.take (i + 1) ++ ks.drop (i + 1) := (List.take_append_drop (i + 1) ks).symm;rw [e2, AF.cleanGo_append, htake];simp only [AF.cleanGo, ht, he, if_true, if_false]
   · rintro h2 ⟨B, n, hc, hn, WB, hBs, H⟩;rw [List.take_length] at hc;exact .inl ⟨B, n, hc, hn, WB, by omega, H.ordT 10 [0, 1, 3, 5, 6, 7, 8, 9]⟩
   · rintro v h9 ⟨_, ⟨B, n, hc, hn, WB, hBs, H⟩ | ⟨B, e, hc, e0, WB, hBs, H⟩⟩
     · refine ⟨.ready, none, H.get, by decide, ?_⟩;have K := H.set (rec .exhausted none);rw [hc] at eclean;simp only at eclean;refine ⟨.inl rfl, fun _ => ?_, fun e => by cases e⟩;refine LdV (v := .int .i64 (n : Int)) (K.mv 2).get rfl ?_;rw [DI_int];by_cases hn0 : 0 < n
       · rw [decide_eq_true (by omega), cond_true];rw [if_pos hn0] at eclean;refine LdV (v := ptrV b) (K.mv 7).get rfl ?_;show DP (.pointer (some ⟨b, 0, none⟩)) _;rw [DP_pointer];refine LdV (v := .string dir) (K.mv 6).get rfl ?_;rw [DS_string];refine (F82_spec WB (by omega) hd (K.mv 3)).mono ?_;rintro v h10 ⟨rfl, K2⟩;rw [DI_int];have hst := AF.syncDir_steps (A := B) dir;by_cases he : (B.syncDir dir).2 = 0
         · rw [he, show (((0 : Nat) : Int) != 0) = false from rfl, cond_false];rw [if_pos he] at eclean;rw [eclean];refine LdV (v := .int .i64 (n : Int)) (K2.mv 3).get rfl ?_;rw [DI_int, addr_add0, addr_add0];refine stV (v := .int .i64 (n : Int)) (K2.mv 5) fun h11 K3 => ?_;refine stV (v := .int .i64 0) (K3.mv 5) fun h12 K4 => ?_;have K5 := (K4.mv 4).set (.deferred none);refine ⟨(K4.mv 4).get, ?_⟩;refine LdV (v := .int .i64 (n : Int)) (K5.mv 2).get rfl ?_;rw [DI_int];refine LdV (v := .int .i64 0) (K5.mv 1).get rfl ?_;rw [DI_int];exact ⟨rfl, fun e he => (by cases he), WB.syncDir dir, by show (B.syncDir dir).1.steps ≤ _; omega, K5.ordT 8 [3]⟩
         · rw [err_bne he, cond_true];rw [if_neg he] at eclean;rw [eclean, addr_add0, addr_add0];refine stV (v := .int .i64 0) (K2.mv 5) fun h11 K3 => ?_;refine stV (v := .int .i64 ((B.syncDir dir).2 : Int)) (K3.mv 5) fun h12 K4 => ?_;have K5 := (K4.mv 4).set (.deferred none);refine ⟨(K4.mv 4).get, ?_⟩;refine LdV (v := .int .i64 0) (K5.mv 2).get rfl ?_;rw [DI_int];refine LdV (v := .int .i64 ((B.syncDir dir).2 : Int)) (K5.mv 1).get rfl ?_;rw [DI_int];exact ⟨rfl, fun e he' => by cases he'; exact he, WB.syncDir dir, by show (B.syncDir dir).1.steps ≤ _; omega, K5.ordT 8 [3]⟩
       · rw [decide_eq_false (by omega), cond_false];rw [if_neg hn0] at eclean;rw [eclean];refine LdV (v := .int .i64 (n : Int)) (K.mv 2).get rfl ?_;rw [DI_int, addr_add0, addr_add0];refine stV (v := .int .i64 (n : Int)) (K.mv 5) fun h11 K3 => ?_;refine stV (v := .int .i64 0) (K3.mv 5) fun h12 K4 => ?_;have K5 := (K4.mv 3).set (.deferred none);refine ⟨(K4.mv 3).get, ?_⟩;refine LdV (v := .int .i64 (n : Int)) (K5.mv 2).get rfl ?_;rw [DI_int];refine LdV (v := .int .i64 0) (K5.mv 1).get rfl ?_;rw [DI_int];exact ⟨rfl, fun e he => (by cases he), WB, by show B.steps ≤ _; omega, K5.ordT 8 [5]⟩
     · refine ⟨.done, some .ret, H.get, by decide, ?_⟩;have K := H.set (rec .exhausted (some .ret));rw [hc] at eclean;simp only at eclean;rw [eclean];refine ⟨.inr rfl, fun e => (by cases e), fun _ => ?_⟩;have K5 := (K.mv 1).set (.deferred none);refine ⟨(K.mv 1).get, ?_⟩;refine LdV (v := .int .i64 0) (K5.mv 4).get rfl ?_;rw [DI_int];refine LdV (v := .int .i64 (e : Int)) (K5.mv 3).get rfl ?_;rw [DI_int];exact ⟨rfl, fun e' he' => by cases he'; exact e0, WB, by show B.steps ≤ _; omega, K5.ordT 5 [2]⟩
 · refine ⟨none, 0, 0, (e : Int), rfl, ?_⟩;rw [err_bne e0, cond_true];have er : A.clean dir = (A, .error e) := by unfold AF.FS.clean; rw [hli]
   rw [er, addr_add0, addr_add0];refine stV (v := .int .i64 0) (H5.mv 2) fun h6 H6 => ?_;refine stV (v := .int .i64 (e : Int)) (H6.mv 2) fun h7 H7 => ?_;refine LdV (v := .int .i64 0) (H7.mv 1).get rfl ?_;rw [DI_int];refine LdV (v := .int .i64 (e : Int)) H7.get rfl ?_;rw [DI_int];exact ⟨rfl, fun e' he' => by cases he'; exact e0, W, Nat.le_add_right _ _, H7.ordT 5 [2]⟩
end
section
variable {b : Nat} {A : AF.FS} {F C : List HProp} {h : Heap} {dir name : ByteArray}
def NamesOut (b : Nat) (k : Nat) (r : AF.FS × Except Nat (List ByteArray)) (F : List HProp) (v : Value) (h' : Heap) : Prop :=
 r.1.WF ∧ r.1.steps ≤ k ∧ ((∃ (ks : List ByteArray) (a : Option Addr) (c : Nat), r.2 = .ok ks ∧ (∀ k ∈ ks, AF.right k = true) ∧ ks.length ≤ 4096 ∧ v = .tuple #[.slice a ks.length c, .int .i64 0] ∧ sat (ownS 9 1 a ks.length c (ks.map Value.string) :: fsP b r.1 :: F) h') ∨
  (∃ e : Nat, r.2 = .error e ∧ e ≠ 0 ∧ v = .tuple #[.slice none 0 0, .int .i64 (e : Int)] ∧ sat (fsP b r.1 :: F) h'))
theorem tidy_spec {Q : Value → Heap → Prop} (W : A.WF) (hs : A.steps + 10000 < 1099511627776) (hd : dir.size < 4611686018427387904) (H : sat (fsP b A :: F) h) (hQ : ∀ v h', NamesOut b (A.steps + 5000) (A.tidy dir) F v h' → Q v h') :
  CallsH Tryz.prog 196 [ptrV b, .string dir] h fun r4 h_4 =>
  ∃ (x6 : Int), ∃ (x7 : Int), r4 = .tuple #[.int .i64 x6, .int .i64 x7] ∧
  (bif (x7 : Int) != 0 then
   Q (.tuple #[.slice none 0 0, .int .i64 x7]) h_4
  else
   CallsH Tryz.prog 16 [ptrV b, .string dir] h_4 fun r5 h_5 =>
   ∃ (x8a : Option Addr), ∃ (x8l : Nat), ∃ (x8c : Nat), ∃ (x9 : Int), r5 = .tuple #[.slice x8a x8l x8c, .int .i64 x9] ∧
   Q (.tuple #[.slice x8a x8l x8c, .int .i64 x9]) h_5) := by
 refine (F196_spec W hs hd H).mono ?_
 rintro v h1 ⟨rfl, he, W1, hs1, H1⟩
 cases hc : (A.clean dir).2 with
 | error e =>
   have e0 := he e hc;refine ⟨0, (e : Int), rfl, ?_⟩;rw [err_bne e0, cond_true];have et : A.tidy dir = ((A.clean dir).1, .error e) := by
    unfold AF.FS.tidy;have : A.clean dir = ((A.clean dir).1, .error e) := by rw [← hc]
    rw [this]
   refine hQ _ _ ?_;rw [et];exact ⟨W1, hs1, .inr ⟨e, rfl, e0, rfl, H1⟩⟩
 | ok n =>
   refine ⟨(n : Int), 0, rfl, ?_⟩;rw [show ((0 : Int) != 0) = false from rfl, cond_false];have et : A.tidy dir = ((A.clean dir).1, (A.clean dir).1.list dir) := by
    unfold AF.FS.tidy;have : A.clean dir = ((A.clean dir).1, .ok n) := by rw [← hc]
    rw [this]
   refine (F16_spec W1 hd H1).mono ?_;rintro v h2 (⟨ks, a, c, hl, hright, hkl, rfl, H2⟩ | ⟨e, hl, e0, rfl, H2⟩)
   · refine ⟨a, ks.length, c, 0, rfl, hQ _ _ ?_⟩;rw [et];exact ⟨W1, hs1, .inl ⟨ks, a, c, hl, hright, hkl, rfl, H2⟩⟩
   · refine ⟨none, 0, 0, (e : Int), rfl, hQ _ _ ?_⟩;rw [et];exact ⟨W1, hs1, .inr ⟨e, hl, e0, rfl, H2⟩⟩
theorem F127_spec (W : A.WF) (hs : A.steps + 20000 < 1099511627776) (hd : dir.size < 4611686018427387904) (H : sat (fsP b A :: F) h) :
  CallsH Tryz.prog 127 [ptrV b, .string dir] h (NamesOut b (A.steps + 5001) (A.prep dir) F) := by
 apply F127_ok.ap
 unfold F127
 have other : A.prep dir = A.tidy dir → ∀ h', sat (fsP b A :: F) h' → CallsH Tryz.prog 196 [ptrV b, .string dir] h' fun r4 h_4 =>
  ∃ (x6 : Int), ∃ (x7 : Int), r4 = .tuple #[.int .i64 x6, .int .i64 x7] ∧
  (bif (x7 : Int) != 0 then
   NamesOut b (A.steps + 5001) (A.prep dir) F (.tuple #[.slice none 0 0, .int .i64 x7]) h_4
  else
   CallsH Tryz.prog 16 [ptrV b, .string dir] h_4 fun r5 h_5 =>
   ∃ (x8a : Option Addr), ∃ (x8l : Nat), ∃ (x8c : Nat), ∃ (x9 : Int), r5 = .tuple #[.slice x8a x8l x8c, .int .i64 x9] ∧
   NamesOut b (A.steps + 5001) (A.prep dir) F (.tuple #[.slice x8a x8l x8c, .int .i64 x9]) h_5) := by
  intro ep h' H';refine tidy_spec W (by omega) hd H' fun v h2 hl => ?_;rw [ep];exact ⟨hl.1, by have := hl.2.1; omega, hl.2.2⟩
 refine (F16_spec W hd H).mono ?_
 rintro v h1 (⟨ks, a, c, hl, hright, hkl, rfl, H1⟩ | ⟨e, hl, e0, rfl, H1⟩)
 · refine ⟨a, ks.length, c, 0, rfl, ?_⟩;rw [show ((0 : Int) == 61) = false from rfl, cond_false];exact other (by unfold AF.FS.prep; rw [hl]) h1 H1.drop
 · refine ⟨none, 0, 0, (e : Int), rfl, ?_⟩;by_cases h61 : e = 61
   · subst h61;rw [show (((61 : Nat) : Int) == 61) = true from rfl, cond_true];refine (F78_spec W (by omega) hd H1).mono ?_;rintro v h2 ⟨rfl, H2⟩;rw [DI_int];have W2 := W.mkdir dir;have hs2 := AF.mkdir_steps (A := A) dir;by_cases he : (A.mkdir dir).2 = 0
     · rw [he, show (((0 : Nat) : Int) != 0) = false from rfl, cond_false];have ep : A.prep dir = (A.mkdir dir).1.tidy dir := by
        unfold AF.FS.prep;rw [hl];simp only [he, if_true]
       refine tidy_spec W2 (by omega) hd H2 fun v h3 hl3 => ?_;rw [ep];exact ⟨hl3.1, by have := hl3.2.1; omega, hl3.2.2⟩
     · rw [err_bne he, cond_true];have ep : A.prep dir = ((A.mkdir dir).1, .error (A.mkdir dir).2) := by
        unfold AF.FS.prep;rw [hl];simp only [if_neg he]
       rw [ep];exact ⟨W2, by show (A.mkdir dir).1.steps ≤ _; omega, .inr ⟨_, rfl, he, rfl, H2⟩⟩
   · have : ((e : Int) == 61) = false := by rw [beq_eq_false_iff_ne]; omega
     rw [this, cond_false];refine other ?_ h1 H1;unfold AF.FS.prep;rw [hl];split
     · rename_i he;cases he;exact absurd rfl h61
     · rfl
end
namespace Hex
def hexd (k : Nat) : Nat := if k < 10 then 48 + k else 87 + k
def digs : Nat → Nat → List Nat
 | 0, _ => []
 | k + 1, m => hexd (m / 16 ^ k % 16) :: digs k m
theorem digs_length : ∀ k m, (digs k m).length = k
 | 0, _ => rfl
 | k + 1, m => by rw [digs, List.length_cons, digs_length k m]
theorem digs_get : ∀ (k m i : Nat), i < k → (digs k m)[i]? = some (hexd (m / 16 ^ (k - 1 - i) % 16))
 | 0, m, i, h => by omega
 | k + 1, m, 0, h => rfl
 | k + 1, m, i + 1, h => by
   rw [digs, List.getElem?_cons_succ, digs_get k m i (by omega)];congr 5;omega
theorem hexd_lt {x : Nat} (h : x < 16) : hexd x < 256 := by unfold hexd; split <;> omega
theorem digs_B8 : ∀ k m, B8 (digs k m)
 | 0, _ => fun n h => by cases h
 | k + 1, m => fun n h => by
   rcases List.mem_cons.1 h with rfl | h
   · exact hexd_lt (Nat.mod_lt _ (by omega))
   · exact digs_B8 k m n h
theorem hexd_mono : ∀ x : Fin 16, ∀ y : Fin 16, (UInt8.ofNat (hexd x) < UInt8.ofNat (hexd y) ↔ x < y) ∧ (UInt8.ofNat (hexd x) = UInt8.ofNat (hexd y) ↔ x = y) := by decide
theorem digs_lt : ∀ (k a b : Nat), ((digs k a).map UInt8.ofNat < (digs k b).map UInt8.ofNat) ↔ a % 16 ^ k < b % 16 ^ k
 | 0, a, b => by simp [digs, Nat.mod_one]
 | k + 1, a, b => by
   rw [digs, digs, List.map_cons, List.map_cons, List.cons_lt_cons_iff, digs_lt k a b, Nat.mod_pow_succ, Nat.mod_pow_succ];have hx : a / 16 ^ k % 16 < 16 := Nat.mod_lt _ (by omega);have hy : b / 16 ^ k % 16 < 16 := Nat.mod_lt _ (by omega);have h1 := hexd_mono ⟨_, hx⟩ ⟨_, hy⟩;simp only [Fin.mk_lt_mk, Fin.mk.injEq] at h1;rw [h1.1, h1.2];have hr : a % 16 ^ k < 16 ^ k := Nat.mod_lt _ (Nat.pow_pos (by omega));have hs : b % 16 ^ k < 16 ^ k := Nat.mod_lt _ (Nat.pow_pos (by omega));generalize a / 16 ^ k % 16 = x at *;generalize b / 16 ^ k % 16 = y at *;generalize a % 16 ^ k = r at *;generalize b % 16 ^ k = s at *;generalize 16 ^ k = P at *
   rcases Nat.lt_trichotomy x y with h | h | h
   · have : P * (x + 1) ≤ P * y := Nat.mul_le_mul_left P h;rw [Nat.mul_add, Nat.mul_one] at this;constructor
     · intro _; omega
     · intro _; exact .inl h
   · subst h;constructor
     · rintro (h | ⟨_, h⟩)
       · omega
       · omega
     · intro h; exact .inr ⟨rfl, by omega⟩
   · have : P * (y + 1) ≤ P * x := Nat.mul_le_mul_left P h;rw [Nat.mul_add, Nat.mul_one] at this;constructor
     · rintro (h | ⟨h, _⟩) <;> omega
     · intro _; omega
end Hex
open Hex (hexd digs)
theorem and64 {a b : Nat} (ha : a < 18446744073709551616) (hb : b < 18446744073709551616) : bitsI .and .u64 (a : Int) (b : Int) = ((a &&& b : Nat) : Int) := by
 have h := Nat.and_lt_two_pow (n := 64) a hb
 show IntKind.u64.wrap ((BitVec.ofInt 64 (a : Int) &&& BitVec.ofInt 64 (b : Int)).toNat : Int) = _
 rw [BitVec.ofInt_natCast, BitVec.ofInt_natCast, BitVec.toNat_and, BitVec.toNat_ofNat, BitVec.toNat_ofNat, Nat.mod_eq_of_lt (show a < 2 ^ 64 from ha), Nat.mod_eq_of_lt (show b < 2 ^ 64 from hb)]
 exact IntWalk.u64_in _ (by omega)
theorem and15 (a : Nat) : a &&& 15 = a % 16 := Nat.and_two_pow_sub_one_eq_mod a 4
theorem dig_bt : ∀ k : Fin 16, bt ⟨#[48, 49, 50, 51, 52, 53, 54, 55, 56, 57, 97, 98, 99, 100, 101, 102]⟩ ((k.val : Nat) : Int) = ((hexd k.val : Nat) : Int) := by decide
section
variable {F : List HProp} {h : Heap}
def natOf (n : Int) : Nat := (IntKind.wrap .u64 n).toNat
theorem natOf_lt (n : Int) : natOf n < 18446744073709551616 := by unfold natOf; rw [IntKind.wrap_u64]; omega
theorem natOf_eq (n : Int) : IntKind.wrap .u64 n = (natOf n : Int) := by unfold natOf; rw [IntKind.wrap_u64]; omega
theorem natOf_nat {n : Nat} (h : n < 18446744073709551616) : natOf (n : Int) = n := by unfold natOf; rw [IntKind.wrap_u64]; omega
theorem F35_spec {n : Int} (H : sat F h) : CallsH Tryz.prog 35 [.int .i64 n] h fun v h' => v = .string (ofN (digs 16 (natOf n))) ∧ sat F h' := by
 apply F35_ok.ap
 unfold F35
 refine Al_sat H fun b0 h1 H1 => ?_
 have hlt := natOf_lt n
 have hne := natOf_eq n
 generalize natOf n = m at hlt hne
 rw [hne]
 have K0 : sat (ownS 200 1 (some ⟨b0, 0, none⟩) 16 16 ((List.replicate 16 0).map nv) :: F) h1 := ownS_mk H1 (nofz_zero _) (Nat.le_refl _) (by decide) rfl rfl
 refine ⟨fun st hh => ∃ (i : Nat) (xs : List Nat), st = (i : Int) ∧ i ≤ 16 ∧ xs.length = 16 ∧ (∀ j, j < i → xs[j]? = (digs 16 m)[j]?) ∧ sat (ownS 200 1 (some ⟨b0, 0, none⟩) 16 16 (xs.map nv) :: F) hh, fun st _ => (16 - st).toNat, ⟨0, List.replicate 16 0, rfl, Nat.zero_le _, rfl, fun j hj => by omega, K0⟩, ?_⟩
 rintro st h2 ⟨i, xs, rfl, hi, hxl, hx, H2⟩
 by_cases hlt2 : i < 16
 · rw [decide_eq_true (show ((i : Int) < 16) by omega), cond_true];have w1 : IntKind.wrap .i64 (60 - IntKind.wrap .i64 (4 * (i : Int))) = ((4 * (15 - i) : Nat) : Int) := by
    rw [IntWalk.i64_in (4 * (i : Int)) (by omega), IntWalk.i64_in _ (by omega)];omega
   rw [w1];have hb64 : 4 * (15 - i) ≤ IntKind.u64.bits := by show 4 * (15 - i) ≤ 64; omega
   rw [shrI_nat .u64 m (4 * (15 - i)) hb64];have hdl : m / 2 ^ (4 * (15 - i)) < 18446744073709551616 := Nat.lt_of_le_of_lt (Nat.div_le_self _ _) hlt;rw [show (15 : Int) = ((15 : Nat) : Int) from rfl, and64 hdl (by omega), and15];have hpow : 2 ^ (4 * (15 - i)) = 16 ^ (15 - i) := by rw [Nat.pow_mul]
   rw [hpow];have hk : m / 16 ^ (15 - i) % 16 < 16 := Nat.mod_lt _ (by omega);have hbt := dig_bt ⟨_, hk⟩;simp only at hbt;rw [hbt];refine ⟨by omega, by omega, by show ((m / 16 ^ (15 - i) % 16 : Nat) : Int) < 16; omega, by omega, by omega, ?_⟩;rw [Int.toNat_natCast, Nat.mul_one, addr_add0];refine ownS_set (j := i) (v := nv (hexd (m / 16 ^ (15 - i) % 16))) H2 (by rw [List.length_map]; omega) fun h3 H3 => ?_;rw [← List.map_set] at H3;rw [wrap64_succ (by omega)];refine ⟨⟨i + 1, xs.set i (hexd (m / 16 ^ (15 - i) % 16)), rfl, by omega, by rw [List.length_set]; exact hxl, fun j hj => ?_, H3⟩, by show (16 - ((i + 1 : Nat) : Int)).toNat < (16 - (i : Int)).toNat; omega⟩;rw [List.getElem?_set];by_cases hij : i = j
   · subst hij;rw [if_pos rfl, if_pos (by omega), Hex.digs_get 16 m i hlt2]
   · rw [if_neg hij];exact hx j (by omega)
 · rw [decide_eq_false (by omega), cond_false];have e : xs = digs 16 m := by
    apply List.ext_getElem?;intro j;by_cases hj : j < 16
    · exact hx j (by omega)
    · rw [List.getElem?_eq_none (by omega), List.getElem?_eq_none (by rw [Hex.digs_length]; omega)]
   subst e;exact ⟨ofN (digs 16 m), bytesIn_of (ownS_read H2) (Hex.digs_length 16 m) (Hex.digs_B8 16 m), rfl, H2.drop⟩
end
namespace AF
end AF
end Go.Proofs.YtibdiikcigokjaaGreatDoor
