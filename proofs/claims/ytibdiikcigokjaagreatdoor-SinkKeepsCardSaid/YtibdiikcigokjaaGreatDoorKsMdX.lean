/- Opening a log, where nothing goes wrong. -/
import Derived.Test.YtibdiikcigokjaaGreatDoorKsMcX
import Derived.Test.YtibdiikcigokjaaGreatDoorKsMt6
namespace Go.Proofs.YtibdiikcigokjaaGreatDoor
open Go Go.RowKit Go.MapKept
set_option linter.unusedVariables false
set_option linter.unusedSimpArgs false
open AF (Meta copyT topT nmI Ent kindN scanK scanNames readS IdOk)
open Hex (digs)
def openT (b0 b1 b2 b3 b8 : Nat) (h_30 : Heap) (Q : Value → Heap → Prop) : Prop :=
 Ld h_30 (Addr.mk b8 0 none) fun v24 => DP v24 fun x27 =>
  NN' x27 fun a5 =>
  Ld h_30 (a5.add 2) fun v25 => DM v25 fun x28 =>
  CallsH Tryz.prog 126 [.map x28] h_30 fun r26 h_35 =>
  ∃ (x29 : Value), r26 = x29 ∧
  RangeFn Tryz.prog x29 2 none h_35 (fun l_0 rec_0 args0 h_36 Q_0 =>
   ∃ (y0 : Int), ∃ (y1a : Option Addr), ∃ (y1l : Nat), ∃ (y1c : Nat), args0 = [.int .i64 y0, .slice y1a y1l y1c] ∧
   h_36[l_0]? = some (rec_0 .ready none) ∧
   Ld (h_36.setIfInBounds l_0 (rec_0 .busy none)) (Addr.mk b0 0 none) fun v26 => DP v26 fun x30 =>
   Ld (h_36.setIfInBounds l_0 (rec_0 .busy none)) (Addr.mk b1 0 none) fun v27 => DS v27 fun x31 =>
   CallsH Tryz.prog 35 [.int .i64 y0] (h_36.setIfInBounds l_0 (rec_0 .busy none)) fun r27 h_37 =>
   DS r27 fun x32 =>
   (Ld h_37 (Addr.mk b0 0 none) fun v28 => DP v28 fun x33 =>
   SameV (some (.pointer x30)) (.pointer x33)) ∧
   (Ld h_37 (Addr.mk b1 0 none) fun v29 => DS v29 fun x34 =>
   SameV (some (.string x31)) (.string x34)) ∧
   (⟨#[98, 46]⟩ : ByteArray).size + (x32 : ByteArray).size ≤ 9223372036854775807 ∧
   CallsH Tryz.prog 34 [.pointer x30, .string x31, .string (⟨#[98, 46]⟩ ++ x32)] h_37 fun r28 h_38 =>
   ∃ (x35a : Option Addr), ∃ (x35l : Nat), ∃ (x35c : Nat), ∃ (x36 : Int), r28 = .tuple #[.slice x35a x35l x35c, .int .i64 x36] ∧
   (bif (x36 : Int) != 0 then
    StC h_38 ((Addr.mk b2 0 none).add 0) (.pointer none) fun h_40 =>
    StC h_40 ((Addr.mk b3 0 none).add 0) (.int .i64 x36) fun h_42 =>
    h_42[l_0]? = some (rec_0 .busy none) ∧ Q_0 (.bool false) (h_42.setIfInBounds l_0 (rec_0 .done (some .ret)))
   else
    Ld h_38 (Addr.mk b8 0 none) fun v30 => DP v30 fun x37 =>
    NN' x37 fun a6 =>
    Ld h_38 (a6.add 2) fun v31 => DM v31 fun x38 =>
    RunU Tryz.prog (Instr.mapUpdate 214 (.map x38) (.int .i64 y0) (.slice x35a x35l x35c)) h_38 fun h_43 =>
    h_43[l_0]? = some (rec_0 .busy none) ∧ Q_0 (.bool true) (h_43.setIfInBounds l_0 (rec_0 .ready none)))) (fun pend0 h_44 =>
   (pend0 = none ∨ pend0 = some (.ret)) ∧
   (pend0 = none →
    Ld h_44 (Addr.mk b8 0 none) fun v32 => DP v32 fun x39 =>
    StC h_44 ((Addr.mk b2 0 none).add 0) (.pointer x39) fun h_46 =>
    StC h_46 ((Addr.mk b3 0 none).add 0) (.int .i64 0) fun h_48 =>
    h_48[h_35.size]? = some (.deferred (some [])) ∧
    Ld (h_48.setIfInBounds h_35.size (.deferred none)) (Addr.mk b2 0 none) fun v33 => DP v33 fun res6 =>
    Ld (h_48.setIfInBounds h_35.size (.deferred none)) (Addr.mk b3 0 none) fun v34 => DI .i64 v34 fun res7 =>
    Q (.tuple #[.pointer res6, .int .i64 res7]) (h_48.setIfInBounds h_35.size (.deferred none))) ∧
   (pend0 = some (.ret) →
    h_44[h_35.size]? = some (.deferred (some [])) ∧
    Ld (h_44.setIfInBounds h_35.size (.deferred none)) (Addr.mk b2 0 none) fun v35 => DP v35 fun res8 =>
    Ld (h_44.setIfInBounds h_35.size (.deferred none)) (Addr.mk b3 0 none) fun v36 => DI .i64 v36 fun res9 =>
    Q (.tuple #[.pointer res8, .int .i64 res9]) (h_44.setIfInBounds h_35.size (.deferred none))))
namespace AF
theorem readS_cons (A : FS) (dir : ByteArray) (n : Int) (l : List Int) (T : Ent) : readS A dir (n :: l) T = match A.get dir (nmI 98 n) with
  | .error e => .error e
  | .ok b => readS A dir l (setT n b T) := by
 conv => lhs; unfold readS
 cases A.get dir (nmI 98 n) <;> rfl
theorem readS_more (A : FS) (dir : ByteArray) : ∀ (l m : List Int) (T : Ent), readS A dir (l ++ m) T = match readS A dir l T with
  | .ok U => readS A dir m U
  | .error e => .error e
 | [], m, T => rfl
 | n :: l, m, T => by
   rw [List.cons_append, readS_cons, readS_cons]
   cases A.get dir (nmI 98 n) with
   | error e => rfl
   | ok b =>
     simp only [];rw [readS_more A dir l m]
end AF
section
variable {F : List HProp} {h : Heap} {b fsb : Nat} {M : Meta} {A : AF.FS}
theorem F128_spec {s : ByteArray} (H : sat F h) : CallsH Tryz.prog 128 [.string s] h fun v h' => sat F h' ∧ ((∃ (c : Nat) (n : Int), kindN s = some (c, n) ∧ v = .tuple #[.int .u8 (c : Int), .int .i64 n, .bool true]) ∨ (kindN s = none ∧ ∃ x y : Int, v = .tuple #[.int .u8 x, .int .i64 y, .bool false])) := by
 apply F128_ok.ap
 unfold F128
 by_cases hs : s.size = 18
 · rw [show (((s.size : Nat) : Int) != 18) = false from by rw [hs]; rfl, cond_false];have hl : (sb s).length = 18 := by rw [sb_length, hs]
   obtain ⟨x0, hx0⟩ : ∃ x, (sb s)[0]? = some x := ⟨_, List.getElem?_eq_getElem (by omega)⟩
   obtain ⟨x1, hx1⟩ : ∃ x, (sb s)[1]? = some x := ⟨_, List.getElem?_eq_getElem (by omega)⟩
   have b0 : bt s 0 = (x0 : Int) := bt_sb hx0;have b1 : bt s 1 = (x1 : Int) := bt_sb hx1;refine ⟨by decide, by omega, ?_⟩;rw [b1];by_cases h1 : x1 = 46
   · subst h1;rw [show ((((46 : Nat) : Int)) != 46) = false from rfl, cond_false];refine ⟨by decide, by omega, ?_⟩;rw [b0];have tail : ∀ c : Nat, x0 = c → (c = 98 ∨ c = 102) → SlS s 2 ((s : ByteArray).size : Int) fun s0 => CallsH Tryz.prog 37 [.string s0] h fun r0 h_0 => ∃ (y0 : Int), ∃ (y1 : Bool), r0 = .tuple #[.int .i64 y0, .bool y1] ∧ 0 ≤ (0 : Int) ∧ (0 : Int) < ((s : ByteArray).size : Int) ∧
      (sat F h_0 ∧ ((∃ (c : Nat) (n : Int), kindN s = some (c, n) ∧ (Value.tuple #[.int .u8 (x0 : Int), .int .i64 y0, .bool y1]) = .tuple #[.int .u8 (c : Int), .int .i64 n, .bool true]) ∨ (kindN s = none ∧ ∃ x y : Int, (Value.tuple #[.int .u8 (x0 : Int), .int .i64 y0, .bool y1]) = .tuple #[.int .u8 x, .int .i64 y, .bool false]))) := by
      rintro c rfl hc;refine ⟨by decide, by omega, by omega, ?_⟩;have e2 : (2 : Int).toNat = 2 := rfl;have e3 : ((s.size : Nat) : Int).toNat = 18 := by omega
      rw [e2, e3];have he : sb (s.extract 2 18) = (sb s).drop 2 := by
       rw [sb_extract, List.take_of_length_le (by rw [List.length_drop]; omega)]
      refine (F37_spec (by rw [← sb_length, he, List.length_drop]; omega) H).mono ?_;rintro v h1 ⟨rfl, H1⟩;rw [he];have hk : kindN s = (Hex.unhex ((sb s).drop 2)).map (fun n : Nat => (x0, (n : Int))) := by
       unfold AF.kindN;rw [if_pos ⟨hs, hx1, by rcases hc with rfl | rfl <;> simp [hx0]⟩];have : (sb s).getD 0 0 = x0 := by rw [List.getD_eq_getElem?_getD, hx0]; rfl
       rw [this]
      refine ⟨_, _, rfl, Int.le_refl _, by omega, H1, ?_⟩
      cases hu : Hex.unhex ((sb s).drop 2) with
      | none => exact .inr ⟨by rw [hk, hu]; rfl, _, _, rfl⟩
      | some n => exact .inl ⟨x0, (n : Int), by rw [hk, hu]; rfl, rfl⟩
     by_cases h98 : x0 = 98
     · rw [h98, show ((((98 : Nat) : Int)) != 98) = false from rfl, cond_false];have := tail 98 h98 (.inl rfl);rw [h98] at this;exact this
     · rw [show ((x0 : Int) != 98) = true from by rw [bne_iff_ne]; omega, cond_true];refine ⟨by decide, by omega, ?_⟩;by_cases h102 : x0 = 102
       · rw [h102, show ((((102 : Nat) : Int)) != 102) = false from rfl, cond_false];have := tail 102 h102 (.inr rfl);rw [h102] at this;exact this
       · rw [show ((x0 : Int) != 102) = true from by rw [bne_iff_ne]; omega, cond_true];refine ⟨H, .inr ⟨?_, _, _, rfl⟩⟩;unfold AF.kindN;rw [if_neg];rintro ⟨_, _, h3 | h3⟩
         · rw [hx0] at h3; cases h3; exact h98 rfl
         · rw [hx0] at h3; cases h3; exact h102 rfl
   · rw [show ((x1 : Int) != 46) = true from by rw [bne_iff_ne]; omega, cond_true];refine ⟨H, .inr ⟨?_, _, _, rfl⟩⟩;unfold AF.kindN;rw [if_neg];rintro ⟨_, h3, _⟩;rw [hx1] at h3;cases h3;exact h1 rfl
 · rw [show (((s.size : Nat) : Int) != 18) = true from by rw [bne_iff_ne]; omega, cond_true];refine ⟨H, .inr ⟨?_, _, _, rfl⟩⟩;unfold AF.kindN;rw [if_neg fun hh => hs hh.1]
def UnfoldOk : Prop := ∀ (h : Heap) (F : List HProp) (a : Option Addr) (c : Nat) (D : Ent), UpT D → -1 < topT D → (∀ p ∈ D, IdOk p.1 ∧ B8 p.2) → (AF.pairsE D).length ≤ 16777216 → sat (ownS 5 1 a (AF.pairsE D).length c ((AF.pairsE D).map nv) :: F) h →
 CallsH Tryz.prog 130 [.slice a (AF.pairsE D).length c, .int .i64 (topT D)] h fun v h' => ∃ mb, v = .tuple #[.map (some mb), .bool true] ∧ sat (tabM Bs mb D :: F) h'
def openF (b0 b1 b2 b3 b8 fsb : Nat) (dir : ByteArray) (A : AF.FS) (F : List HProp) : List HProp :=
 pt b0 (.cells #[ptrV fsb] 39 (0, 0)) :: pt b1 (.cells #[.string dir] 9 (0, 0)) :: pt b2 (.cells #[.pointer none] 87 (0, 0)) :: pt b3 (.cells #[.int .i64 0] 25 (0, 0)) :: pt b8 (.cells #[ptrV b] 87 (0, 0)) :: fsP fsb A :: F
set_option maxHeartbeats 1000000 in
theorem openT_spec {b0 b1 b2 b3 b8 : Nat} {S : Ent} {Q : Value → Heap → Prop} (W : A.WF) (hd : M.dir.size < 4611686018427387904) (hl : M.S.length < 1000000000) (hr : readS A M.dir (M.S.map (·.1)) M.S = .ok S)
  (H : sat (logM b fsb M :: openF (b := b) b0 b1 b2 b3 b8 fsb M.dir A F) h) (hQ : ∀ h', sat (logM b fsb { M with S := S } :: fsP fsb A :: F) h' → Q (.tuple #[ptrV b, .int .i64 0]) h') : openT b0 b1 b2 b3 b8 h Q := by
 unfold openT
 unfold openF at H
 refine VPt (H.mv 5).get ?_
 rw [NN'_some]
 obtain ⟨ms, mf, mm, H2⟩ := logM_open H
 refine LdMp (x := ms) H2 rfl ?_
 refine (F126_rise (H2.mv 1) (by omega)).mono ?_
 rintro v h1 ⟨kb, tb, a, c, s, rfl, hsk, hnd, H3⟩
 have hsl : s.length = M.S.length := by
  have := congrArg List.length hsk;simpa using this
 refine ⟨_, rfl, ?_⟩
 let Ti : Nat → Ent := fun i => match readS A M.dir ((M.S.map (·.1)).take i) M.S with
  | .ok V => V
  | .error _ => []
 have hTi : ∀ i, readS A M.dir ((M.S.map (·.1)).take i) M.S = .ok (Ti i) := fun i => by
  have h2 := AF.readS_more A M.dir ((M.S.map (·.1)).take i) ((M.S.map (·.1)).drop i) M.S;rw [List.take_append_drop, hr] at h2;show _ = Except.ok (match readS A M.dir ((M.S.map (·.1)).take i) M.S with | .ok V => V | .error _ => [])
  cases h3 : readS A M.dir ((M.S.map (·.1)).take i) M.S with
  | ok V => rfl
  | error e => rw [h3] at h2; cases h2
 have hT0 : Ti 0 = M.S := by
  have := hTi 0;rw [List.take_zero] at this;cases this
  rfl
 have H4 : sat (riseT Bs kb tb ms a c 214 s 0 (Ti 0) :: pt b (.cells (logC5 fsb M.dir ms mf mm) 221 (0, 0)) :: tabM Bb mf M.Fo :: tabM Bs mm M.D :: pt b0 (.cells #[ptrV fsb] 39 (0, 0)) :: pt b1 (.cells #[.string M.dir] 9 (0, 0)) :: pt b2 (.cells #[.pointer none] 87 (0, 0)) :: pt b3 (.cells #[.int .i64 0] 25 (0, 0)) :: pt b8 (.cells #[ptrV b] 87 (0, 0)) :: fsP fsb A :: F) h1 := by rw [hT0]; exact H3
 refine range_iterK s (fun x => [.int .i64 x.1, x.2]) (fun i => riseT Bs kb tb ms a c 214 s i (Ti i)) (fun _ => pt b (.cells (logC5 fsb M.dir ms mf mm) 221 (0, 0)) :: tabM Bb mf M.Fo :: tabM Bs mm M.D :: pt b0 (.cells #[ptrV fsb] 39 (0, 0)) :: pt b1 (.cells #[.string M.dir] 9 (0, 0)) :: pt b2 (.cells #[.pointer none] 87 (0, 0)) :: pt b3 (.cells #[.int .i64 0] 25 (0, 0)) :: pt b8 (.cells #[ptrV b] 87 (0, 0)) :: fsP fsb A :: F)
  (fun _ => [pur False]) H4 (fun _ => rfl) (fun yv G' Out h1 hh r f => F195_rise (by omega) Ti bs_slice yv G' Out h1 hh r f) ?_ ?_ ?_
 · intro i x L rec h2 Q hx K hgo hstop;obtain ⟨n, v⟩ := x;have HL := K.get;have hn : (M.S.map (·.1))[i]? = some n := by rw [← hsk, List.getElem?_map, hx]; rfl
   obtain ⟨x, hgx, va, vc, rfl, hR⟩ := riseT_val (K.mv 2) hx;refine ⟨n, va, x.length, vc, rfl, HL, ?_⟩;have K2 := K.set (rec .busy none);refine VPt (K2.mv 6).get ?_;refine VSt (K2.mv 7).get ?_;refine (F35_spec (n := n) K2).mono ?_;rintro v h3 ⟨rfl, K3⟩;rw [DS_string];refine ⟨VPt (K3.mv 6).get rfl, VSt (K3.mv 7).get rfl, ?_, ?_⟩
   · have := size_nmI 98 n;rw [show (nmI 98 n).size = ((⟨#[98, 46]⟩ : ByteArray) ++ ofN (digs 16 (natOf n))).size from rfl, ByteArray.size_append] at this;omega
   have hnext : readS A M.dir ((M.S.map (·.1)).take (i + 1)) M.S = readS A M.dir [n] (Ti i) := by
    rw [List.take_add_one, hn];show readS A M.dir ((M.S.map (·.1)).take i ++ [n]) M.S = _;rw [AF.readS_more, hTi i]
   refine (F34_spec (name := nmI 98 n) W hd (by rw [size_nmI]; decide) (K3.mv 11)).mono ?_;rintro v h4 (⟨bs, a2, c2, hg, hb8, hbl, rfl, K4⟩ | ⟨e, hg, _⟩)
   · -- own, fs, L, D, rise, log, tF, tD, b0, b1, b2, b3, b8, F
     have hTn : Ti (i + 1) = setT n bs (Ti i) := by
      have h2 := hTi (i + 1);rw [hnext] at h2;rw [AF.readS_cons, hg] at h2;simp only [AF.readS] at h2
      injection h2 with h2
      exact h2.symm
     refine ⟨a2, bs.length, c2, 0, rfl, ?_⟩;rw [show ((0 : Int) != 0) = false from rfl, cond_false];refine VPt (K4.mv 12).get ?_;rw [NN'_some];refine LdMp (x := ms) (K4.mv 5) rfl ?_;have K5 := roP_mono (S := Bs bs (.slice a2 bs.length c2)) (fun h hR => ⟨a2, c2, rfl, hR⟩) (roP_own K4);refine riseT_set (kt := 2) (et := 85) (x := bs) (by kernel_rfl) (by kernel_rfl) hnd hx (K5.ordT 13 [4, 0, 1, 2, 3, 5, 6, 7, 8, 9, 10, 11, 12]) fun h5 K6 => ?_;refine hgo h5 ?_;rw [hTn];exact K6.ordT 12 [2, 3, 0, 4, 5, 6, 7, 8, 9, 10, 11, 1]
   · have h2 := hTi (i + 1);rw [hnext] at h2;rw [AF.readS_cons, hg] at h2;cases h2
 · intro h2 K;refine ⟨.inl rfl, fun _ => ?_, fun e => by cases e⟩;have hTs : Ti s.length = S := by
    have h2 := hTi s.length;rw [List.take_of_length_le (by rw [List.length_map]; omega), hr] at h2;cases h2
    rfl
   rw [hTs] at K;have K2 := (riseT_tab (K.mv 1)).bk 1;refine VPt (K2.mv 9).get ?_;refine StCC (K2.mv 7) (show 0 < 1 by decide) rfl fun h3 K3 => ?_;refine StCC ((K3.bk 7).mv 8) (show 0 < 1 by decide) rfl fun h4 K4 => ?_;have K5 := K4.bk 8;refine ⟨K5.get, ?_⟩;have K6 := K5.set (.deferred none);refine VPt (x := b) (K6.mv 7).get ?_;refine VIn (K6.mv 8).get ?_;refine hQ _ ?_;exact logM_shut (M := { M with S := S }) (K6.ordT 11 [2, 1, 3, 4, 10])
 · intro j h2 K;exact absurd (sat_pur.1 (K.mv 1)).1 id
end
section
variable {F : List HProp} {h : Heap} {fsb : Nat} {A : AF.FS} {dir : ByteArray}
theorem scan_take {ks : List ByteArray} {i : Nat} {s : ByteArray} (hs : ks[i]? = some s) : scanNames (ks.take (i + 1)) = scanK (scanNames (ks.take i)) s := by
 unfold AF.scanNames
 rw [List.take_add_one, hs, List.foldl_append]
 rfl
theorem setT_len {α : Type} (k : Int) (x : α) (T : List (Int × α)) : (setT k x T).length ≤ T.length + 1 := (AF.setT_length k x T).1
theorem scan_len : ∀ (ks : List ByteArray), (scanNames ks).1.length ≤ ks.length := by
 intro ks
 have : ∀ (l : List ByteArray) (r : Ent × List (Int × Unit)), (l.foldl scanK r).1.length ≤ r.1.length + l.length := by
  intro l
  induction l with
  | nil => intro r; exact Nat.le_refl _
  | cons s l ih =>
    intro r;have h1 := ih (scanK r s);have h2 : (scanK r s).1.length ≤ r.1.length + 1 := by
     unfold AF.scanK;split
     · split
       · exact setT_len _ _ _
       · exact Nat.le_succ _
     · exact Nat.le_succ _
    rw [List.foldl_cons, List.length_cons];omega
 have h3 := this ks ([], [])
 rw [List.length_nil, Nat.zero_add] at h3
 exact h3
def OpenPost (fsb : Nat) (M : Meta) (B : AF.FS) (k : Nat) (F : List HProp) (v : Value) (h' : Heap) : Prop :=
 ∃ b, v = .tuple #[ptrV b, .int .i64 0] ∧ B.WF ∧ B.steps ≤ k ∧ sat (logM b fsb M :: fsP fsb B :: F) h'
set_option maxHeartbeats 1000000 in
theorem F41_spec {B : AF.FS} {ks : List ByteArray} {S0 S D : Ent} {Fo : List (Int × Unit)} (W : A.WF) (hs : A.steps + 20000 < 1099511627776) (hd : dir.size < 4611686018427387904) (hp : A.prep dir = (B, .ok ks)) (hsc : scanNames ks = (S0, Fo))
  (hr : readS B dir (S0.map (·.1)) S0 = .ok S) (hD : (topT Fo < 0 ∧ D = []) ∨ (UnfoldOk ∧ topT Fo = topT D ∧ UpT D ∧ -1 < topT D ∧ (∀ p ∈ D, IdOk p.1 ∧ B8 p.2) ∧ (AF.pairsE D).length ≤ 16777216 ∧ B.get dir (nmI 102 (topT D)) = .ok (AF.pairsE D)))
  (H : sat (fsP fsb A :: F) h) : CallsH Tryz.prog 41 [ptrV fsb, .string dir] h (OpenPost fsb ⟨dir, S, Fo, D⟩ B (A.steps + 5001) F) := by
 apply F41_ok.ap
 unfold F41
 refine Al_sat H fun b0 h1 H1 => ?_
 refine Al_sat H1 fun b1 h2 H2 => ?_
 refine Al_sat H2 fun b2 h3 H3 => ?_
 refine Al_sat H3 fun b3 h4 H4 => ?_
 refine VPt (H4.mv 3).get ?_
 refine VSt (H4.mv 2).get ?_
 refine (F127_spec W hs hd (H4.mv 4)).mono ?_
 rw [hp]
 rintro v h5 ⟨W2, hs2, ⟨ks', a, c, hk, hright, hlen, rfl, H5⟩ | ⟨e, hk, _⟩⟩
 rotate_left
 · cases hk
 simp only at W2 hs2 H5
 cases hk
 refine ⟨a, ks.length, c, 0, rfl, ?_⟩
 rw [show ((0 : Int) != 0) = false from rfl, cond_false]
 refine VPt (H5.mv 5).get ?_
 refine VSt (H5.mv 4).get ?_
 refine Al_sat H5 fun b4 h6 H6 => ?_
 refine Al_sat H6 fun b5 h7 H7 => ?_
 refine Al_sat H7 fun b6 h8 H8 => ?_
 refine Al_sat H8 fun b7 h9 H9 => ?_
 refine Al_sat H9 fun b8 h10 H10 => ?_
 refine StCC H10 (show 0 < 1 by decide) rfl fun h11 H11 => ?_
 have M1 := tabM_new (R := Bs) (H11.mv 4)
 have M2 := tabM_new (R := Bb) (M1.mv 4)
 have M3 := tabM_new (R := Bs) (M2.mv 4)
 have H12 : sat (tabM Bs b4 (scanNames (ks.take 0)).1 :: tabM Bb b5 (scanNames (ks.take 0)).2 :: tabM Bs b6 [] :: pt b7 (.cells (logC5 fsb dir b4 b5 b6) 221 (0, 0)) :: pt b8 (.cells #[ptrV b7] 87 (0, 0)) :: ownS 9 1 a ks.length c (ks.map Value.string) :: fsP fsb B :: pt b3 (.cells #[.int .i64 0] 25 (0, 0)) :: pt b2 (.cells #[.pointer none] 87 (0, 0)) :: pt b1 (.cells #[.string dir] 9 (0, 0)) :: pt b0 (.cells #[ptrV fsb] 39 (0, 0)) :: F) h11 := M3.ordT 11 [2, 1, 0, 4, 3, 5, 6, 7, 8, 9, 10]
 refine LoopH.upto ks.length (fun i (s0 : Int) h' => s0 = (i : Int) ∧ i ≤ ks.length ∧ sat (tabM Bs b4 (scanNames (ks.take i)).1 :: tabM Bb b5 (scanNames (ks.take i)).2 :: tabM Bs b6 [] :: pt b7 (.cells (logC5 fsb dir b4 b5 b6) 221 (0, 0)) :: pt b8 (.cells #[ptrV b7] 87 (0, 0)) :: ownS 9 1 a ks.length c (ks.map Value.string) :: fsP fsb B :: pt b3 (.cells #[.int .i64 0] 25 (0, 0)) :: pt b2 (.cells #[.pointer none] 87 (0, 0)) :: pt b1 (.cells #[.string dir] 9 (0, 0)) :: pt b0 (.cells #[ptrV fsb] 39 (0, 0)) :: F) h') (fun s0 => ks.length - s0.toNat) (fun i s0 h' hh => ⟨hh.2.1, by rw [hh.1]; omega⟩) ⟨rfl, Nat.zero_le _, H12⟩ ?_ ?_
 · rintro i s0 h' again hi ⟨rfl, _, K⟩ go;rw [decide_eq_true (show ((i : Int) < (ks.length : Int)) by omega), cond_true];obtain ⟨s, hsi⟩ : ∃ s, ks[i]? = some s := ⟨_, List.getElem?_eq_getElem hi⟩
   refine strRead (ownS_read (K.mv 5)) rfl hsi fun bb hc => ?_;refine ⟨.string s, hc, s, rfl, ?_⟩;refine (F128_spec (s := s) K).mono ?_;have hst := scan_take hsi;rintro v h12 ⟨K1, ⟨cc, n, hk, rfl⟩ | ⟨hk, x, y, rfl⟩⟩
   · refine ⟨(cc : Int), n, true, rfl, ?_⟩;rw [cond_true];by_cases h98 : cc = 98
     · subst h98;rw [show ((((98 : Nat) : Int)) == 98) = true from rfl, cond_true];refine VPt (K1.mv 4).get ?_;rw [NN'_some];refine LdMp (x := b4) (K1.mv 3) rfl ?_;have K2 := roP_mono (S := Bs [] (.slice none 0 0)) (fun h _ => ⟨none, 0, rfl, rfl⟩) (roP_true K1);refine tab_set (kt := 2) (et := 85) (x := ([] : List Nat)) (by kernel_rfl) (by kernel_rfl) ((K2.mv 1)|>.ordT 2 [0, 1]) fun h13 K3 => ?_;rw [wrap64_succ (by omega)];refine go _ _ ⟨rfl, by omega, ?_⟩;rw [hst];have e : scanK (scanNames (ks.take i)) s = (setT n [] (scanNames (ks.take i)).1, (scanNames (ks.take i)).2) := by unfold AF.scanK; rw [hk]; exact if_pos rfl
       rw [e];exact K3
     · rw [show ((cc : Int) == 98) = false from by rw [beq_eq_false_iff_ne]; omega, cond_false, cond_true];refine VPt (K1.mv 4).get ?_;rw [NN'_some];refine LdMp (x := b5) (K1.mv 3) rfl ?_;have K2 := roP_mono (S := Bb () (.bool true)) (fun h _ => rfl) (roP_true K1);refine tab_set (kt := 2) (et := 4) (x := ()) (by kernel_rfl) (by kernel_rfl) (K2.ordT 3 [2, 0, 1]) fun h13 K3 => ?_;rw [wrap64_succ (by omega)];refine go _ _ ⟨rfl, by omega, ?_⟩;rw [hst];have e : scanK (scanNames (ks.take i)) s = ((scanNames (ks.take i)).1, setT n () (scanNames (ks.take i)).2) := by unfold AF.scanK; rw [hk]; exact if_neg h98
       rw [e];exact K3.mv 1
   · refine ⟨x, y, false, rfl, ?_⟩;rw [cond_false, cond_false, wrap64_succ (by omega)];refine go _ _ ⟨rfl, by omega, ?_⟩;rw [hst];have e : scanK (scanNames (ks.take i)) s = scanNames (ks.take i) := by unfold AF.scanK; rw [hk]
     rw [e];exact K1
 · rintro s0 h' again ⟨rfl, _, K⟩;rw [decide_eq_false (by omega), cond_false];rw [List.take_length, hsc] at K;simp only at K;refine VPt (K.mv 4).get ?_;have K1 : sat (logM b7 fsb ⟨dir, S0, Fo, []⟩ :: openF (b := b7) b0 b1 b2 b3 b8 fsb dir B F) h' := logM_shut (M := ⟨dir, S0, Fo, []⟩) (K.ordT 11 [3, 0, 1, 2, 10, 9, 8, 7, 4, 6]);refine (F129_spec K1).mono ?_;rintro v h12 ⟨rfl, K2⟩;rw [DI_int];have hSl : S0.length < 1000000000 := by
    have := scan_len ks;rw [hsc] at this;simp only at this;omega
   simp only
   rcases hD with ⟨hneg, rfl⟩ | ⟨HU, htop, hDu, hDt, hDo, hDl, hDg⟩
   · rw [decide_eq_false (show ¬ (topT Fo ≥ 0) by omega), cond_false];show openT b0 b1 b2 b3 b8 _ (OpenPost fsb ⟨dir, S, Fo, []⟩ B (A.steps + 5001) F);exact openT_spec (M := ⟨dir, S0, Fo, []⟩) W2 hd hSl hr K2 fun h' K3 => ⟨b7, rfl, W2, hs2, K3⟩
   · rw [decide_eq_true (show (topT Fo ≥ 0) by omega), cond_true];unfold openF at K2;refine VPt (K2.mv 1).get ?_;refine VSt (K2.mv 2).get ?_;refine (F35_spec (n := topT Fo) K2).mono ?_;rintro v h13 ⟨rfl, K3⟩;rw [DS_string];refine ⟨VPt (K3.mv 1).get rfl, VSt (K3.mv 2).get rfl, ?_, ?_⟩
     · have := size_nmI 102 (topT Fo);rw [show (nmI 102 (topT Fo)).size = ((⟨#[102, 46]⟩ : ByteArray) ++ ofN (digs 16 (natOf (topT Fo)))).size from rfl, ByteArray.size_append] at this;omega
     refine (F34_spec (name := nmI 102 (topT Fo)) W2 hd (by rw [size_nmI]; decide) (K3.mv 6)).mono ?_;rintro v h14 (⟨bs, a2, c2, hg, hb8, hbl, rfl, K4⟩ | ⟨e, hg, _⟩)
     rotate_left
     · rw [htop, hDg] at hg;cases hg
     rw [htop, hDg] at hg;cases hg;refine ⟨a2, _, c2, 0, rfl, ?_⟩;rw [show ((0 : Int) != 0) = false from rfl, cond_false];refine VPt (K4.mv 7).get ?_;rw [htop];refine (HU _ _ a2 c2 D hDu hDt hDo hDl K4).mono ?_;rintro v h15 ⟨mb, rfl, K5⟩;refine ⟨some mb, true, rfl, VPt (K5.mv 7).get rfl, ?_⟩;rw [NN'_some, addr_add0];obtain ⟨ms, mf, mm, K6⟩ := logM_open (K5.mv 2);refine StCC (c' := logC5 fsb dir ms mf mb) K6 (show 4 < 5 by decide) rfl fun h16 K7 => ?_;refine ⟨rfl, ?_⟩;rw [Bool.not_true, cond_false];have K8 : sat (logM b7 fsb ⟨dir, S0, Fo, D⟩ :: openF (b := b7) b0 b1 b2 b3 b8 fsb dir B F) h16 := logM_shut (M := ⟨dir, S0, Fo, D⟩) (K7.ordT 11 [0, 1, 2, 4, 6, 7, 8, 9, 10, 5]);show openT b0 b1 b2 b3 b8 _ (OpenPost fsb ⟨dir, S, Fo, D⟩ B (A.steps + 5001) F);exact openT_spec (M := ⟨dir, S0, Fo, D⟩) W2 hd hSl hr K8 fun h' K3 => ⟨b7, rfl, W2, hs2, K3⟩
end
open AF (Meta copyT topT nmI Ent IdOk MInv Live Has Upd Dirc)
section
variable {F : List HProp} {h : Heap} {b fsb : Nat} {M : Meta} {A : AF.FS} {T : Dirc}
theorem AF.MInv.getB (I : MInv A M T) {k : Int} {x : List Nat} (h : M.get k = some x) : B8 x ∧ x.length ≤ 5000 := by
 rw [← I.getE] at h
 exact (I.okE _ (getT_mem h)).2
end
end Go.Proofs.YtibdiikcigokjaaGreatDoor
