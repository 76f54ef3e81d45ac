/- A row's key: whatever it is (seat K). -/
import Derived.Test.YtibdiikcigokjaaGreatDoorKsVaX
import Derived.Test.YtibdiikcigokjaaGreatDoorKsRepl
import Derived.Laws.MakeOwn
namespace Go.Proofs.YtibdiikcigokjaaGreatDoor
open Go Go.RowKit Go.MapKept
set_option linter.unusedVariables false
set_option linter.unusedSimpArgs false
theorem replaceK_len (old new : List UInt8) : ∀ (k : Nat) (s : List UInt8), (Lib.replaceK old new k s).length ≤ s.length + k * new.length
 | 0, s => by simp [Lib.replaceK]
 | k + 1, s => by
   unfold Lib.replaceK;split
   · omega
   · have := replaceK_len old new k (s.drop ((Lib.index s old).toNat + old.length));rw [List.length_drop] at this;rw [List.length_append, List.length_append, List.length_take, Nat.succ_mul];omega
theorem replaceAll_len (s : ByteArray) : (Lib.replaceAll s.data.toList [0] [0, 255]).length ≤ 3 * s.size := by
 have hc : Lib.count s.data.toList [0] ≤ s.size := Lib.countB_le ⟨#[0]⟩ (by decide) s.size s (Nat.le_refl _)
 have hl : s.data.toList.length = s.size := by rw [Array.length_toList]; rfl
 unfold Lib.replaceAll Lib.replace
 split
 · omega
 · have := replaceK_len [0] [0, 255] (Lib.replaceNum s.data.toList [0] (-1)) s.data.toList;have e : Lib.replaceNum s.data.toList [0] (-1) = Lib.count s.data.toList [0] := by
    unfold Lib.replaceNum;rw [if_pos (.inl (by decide))]
   rw [e] at this ⊢;simp only [List.length_cons, List.length_nil] at this;omega
def glo : HProp := roP (fun h => ∃ m, cellAt h ⟨0, 0, none⟩ = some (.int .i64 m))
section
variable {F : List HProp} {h : Heap}
theorem sat_below {w w' : World} (H : sat F w.heap) (hb : Below w.heap.size w w') : sat F w'.heap := by
 obtain ⟨r, hr, hs⟩ := H
 refine ⟨r, hr, fun b x hx => ?_⟩
 have := hs b x hx
 rw [hb.block b (Array.getElem?_eq_some_iff.1 this).1]
 exact this
theorem F199_spec {s : ByteArray} (hs : s.size ≤ 200) (H : sat (glo :: F) h) : CallsH Tryz.prog 199 [.string s, .string ⟨#[0]⟩, .string ⟨#[0, 255]⟩] h fun v h' => ∃ t : ByteArray, v = .string t ∧ t.size ≤ 600 ∧ sat (glo :: F) h' := by
 refine ⟨by kernel_rfl, fun w hw => ?_⟩
 subst hw
 obtain ⟨m, hm⟩ := roP_get H
 have hc : Lib.countB s ⟨#[0]⟩ ≤ s.size := Lib.countB_le ⟨#[0]⟩ (by decide) s.size s (Nat.le_refl _)
 refine callsIn_wide.2 ((Tryz.replAll s ⟨#[0]⟩ ⟨#[0, 255]⟩ m w (by omega) (by rw [cell_world]; exact hm) (by decide) ?_).mono ?_)
 · have : (⟨#[0, 255]⟩ : ByteArray).size = 2 := rfl;rw [this];omega
 rintro e w' ⟨rfl, hb⟩
 refine ⟨_, rfl, ⟨_, rfl, ?_, sat_below H hb⟩, ⟨hb.os, hb.tape, hb.output⟩⟩
 have := replaceAll_len s
 show (Lib.replaceAll s.data.toList [0] [0, 255]).toArray.size ≤ 600
 rw [List.size_toArray]
 omega
theorem old_roP {h0 : Heap} {R : Heap → Prop} (hR : ∀ h', sat [old h0] h' → R h') (H : sat (old h0 :: F) h) : sat (roP R :: old h0 :: F) h :=
 (H.dup (old_pers h0)).imp fun r hr => ⟨old_pers h0 r hr, fun h' hs => hR h' ⟨r, ⟨r, fun _ => none, (fun b x y hx hy => by simp at hy), (by funext b; unfold union; cases r b <;> rfl), hr, fun _ => rfl⟩, hs⟩⟩
theorem old_glo {h0 : Heap} {m : Int} (hm : cellAt h0 ⟨0, 0, none⟩ = some (.int .i64 m)) (H : sat (old h0 :: F) h) : sat (glo :: old h0 :: F) h :=
 old_roP (fun h' hs => ⟨m, hs.oldCell hm⟩) H
theorem u8_any (z : Int) : ∃ n : Nat, n < 256 ∧ IntKind.wrap .u8 z = (n : Int) := by
 refine ⟨(z % 256).toNat, by omega, ?_⟩
 rw [IntKind.wrap_u8]
 omega
theorem F198_spec {a : Option Addr} {l c : Nat} {z : Int} {xs : List Nat} (hxl : xs.length = l) (hl : l ≤ 100000) (H : sat (ownS 5 1 a l c (xs.map nv) :: F) h) :
  CallsH Tryz.prog 198 [.slice a l c, .int .u64 z] h fun v h' => ∃ a' c' ys, v = .slice a' (l + 8) c' ∧ ys.length = 8 ∧ B8 ys ∧ sat (ownS 5 1 a' (l + 8) c' ((xs ++ ys).map nv) :: F) h' := by
 apply F198_ok.ap
 unfold F198
 refine LoopH.upto 8 (fun i (s : Sl × Int) h2 => s.2 = (i : Int) ∧ i ≤ 8 ∧ s.1.l = l + i ∧ ∃ ys, ys.length = i ∧ B8 ys ∧ sat (ownS 5 1 s.1.a (l + i) s.1.c ((xs ++ ys).map nv) :: F) h2) (fun s => 8 - s.2.toNat) (fun i s h2 hh => ⟨hh.2.1, by rw [hh.1]; omega⟩)
  ⟨rfl, Nat.zero_le _, rfl, [], rfl, (fun x hx => by cases hx), by rw [List.append_nil]; exact H⟩ ?_ ?_
 · rintro i ⟨⟨sa, sl, sc⟩, s2⟩ h2 again hi ⟨rfl, _, hsl, ys, hy, h8, H2⟩ go;dsimp only at hsl H2 ⊢;subst hsl;rw [decide_eq_true (show ((i : Int) < 8) by omega), cond_true];refine ⟨by rw [IntWalk.i64_in (8 * (i : Int)) (by omega), IntWalk.i64_in _ (by omega)]; omega, ?_⟩;obtain ⟨n, hn, e⟩ := u8_any (shrI .u64 z (IntKind.wrap .i64 (56 - (IntKind.wrap .i64 (8 * (i : Int))))));rw [e];refine Al_sat H2 fun b1 h3 H3 => ?_;refine appB u40 src40 inf5b (H3.mv 1) (srcB (ys := [n]) (RdCf H3 rfl) rfl) (by omega) fun a' c' h4 _ H4 => ?_;rw [DSl_slice, wrap64_succ (by omega)];refine go _ _ ⟨rfl, by omega, (show l + i + 1 = l + (i + 1) by omega), ys ++ [n], by rw [List.length_append, hy]; rfl, app_B8 h8 (fun x hx => by simp at hx; omega), ?_⟩;dsimp only;rw [show l + (i + 1) = l + i + 1 by omega, ← List.append_assoc];exact (H4.mv 1).drop
 · rintro ⟨⟨sa, sl, sc⟩, s2⟩ h2 again ⟨rfl, _, hsl, ys, hy, h8, H2⟩;dsimp only at hsl H2 ⊢;subst hsl;rw [decide_eq_false (by decide), cond_false];exact ⟨sa, sc, ys, rfl, hy, h8, H2⟩
def idx (xs : List Vl) : List (Nat × Vl) := xs.mapIdx fun i x => (i, x)
theorem idx_get (xs : List Vl) (i : Nat) : (idx xs)[i]? = xs[i]?.map fun x => (i, x) := by unfold idx; rw [List.getElem?_mapIdx]
theorem idx_len (xs : List Vl) : (idx xs).length = xs.length := by unfold idx; rw [List.length_mapIdx]
abbrev vAllK (b : Nat) (a : Option Addr) (l c : Nat) (xs : List Vl) : HProp := Many [pt b (.cells #[.slice a l c] 81 (0, 0)), ownS 84 3 a l c (xs.flatMap vlC)]
theorem F197_spec {ra : Option Addr} {rl rc : Nat} {xs : List Vl} (hR : ∀ h', sat F h' → RdC h' ra (xs.flatMap vlC)) (hl : xs.length = rl) (hrl : rl ≤ 1000000) (H : sat F h) :
  CallsH Tryz.prog 197 [.slice ra rl rc] h fun v h' => ∃ b a c, v = .func (.func 235) #[] #[.pointer (some ⟨b, 0, none⟩)] ∧ sat (vAllK b a rl c xs :: F) h' := by
 apply F197_ok.ap
 unfold F197
 refine appendN (xs := []) uVs srcVs infVl (ownS_nil 84 3 H) (n := rl) (ys := xs.flatMap vlC) (srcOf_slice (hR _ H) (by rw [flatC_length vlC_len, hl])) (fun u hu => ?_) (by omega) fun a' c' h2 _ H2 => ?_
 · obtain ⟨x, _, hu⟩ := List.mem_flatMap.1 hu;simp [vlC] at hu
   rcases hu with rfl | rfl | rfl <;> rfl
 rw [DSl_slice, Nat.zero_add, List.nil_append] at *
 refine Al_sat H2 fun b0 h3 H3 => ?_
 refine StCC H3 (by exact Nat.zero_lt_one) rfl fun h4 H4 => ?_
 refine ⟨b0, a', c', rfl, ?_⟩
 exact sat.shut (m := [_, _]) H4
theorem F235_iter {b : Nat} {a : Option Addr} {l c : Nat} {xs : List Vl} (hl : xs.length = l) (hll : l ≤ 1000000) (yv : Value) (G' : Nat → List HProp) (Out : Heap → Prop) (h1 : Heap) (H : sat (vAllK b a l c xs :: G' 0) h1)
  (round : ∀ i x h2, (idx xs)[i]? = some x → sat (vAllK b a l c xs :: G' i) h2 → CallV Tryz.prog yv [.int .i64 (x.1 : Int), x.2.v] h2 fun r h3 => ∃ go, r = .bool go ∧ (go = true → sat (vAllK b a l c xs :: G' (i + 1)) h3) ∧ (go = false → Out h3))
  (fin : ∀ h2, sat (vAllK b a l c xs :: G' (idx xs).length) h2 → Out h2) : CallsH Tryz.prog 235 [yv, .pointer (some ⟨b, 0, none⟩)] h1 fun _ h' => Out h' := by
 apply F235_ok.ap
 unfold F235
 refine VSl H.open.get ?_
 refine LoopH.upto l (fun i (s : Int) h2 => s = (i : Int) ∧ i ≤ l ∧ sat (vAllK b a l c xs :: G' i) h2) (fun s => l - s.toNat) (fun i s h2 hh => ⟨hh.2.1, by rw [hh.1]; omega⟩) ⟨rfl, Nat.zero_le _, H⟩ ?_ ?_
 · rintro i s h2 again hi ⟨rfl, _, H2⟩ go;rw [decide_eq_true (show ((i : Int) < (l : Int)) by omega), cond_true];obtain ⟨x, hx⟩ : ∃ x, xs[i]? = some x := ⟨_, List.getElem?_eq_getElem (by omega)⟩
   refine rowRead (ownS_read H2.open.drop) hl hx ?_;refine copyVl H2 fun b0 h3 H3 => ?_;refine readVl H3 ?_;refine (round i (i, x) h3 (by rw [idx_get, hx]; rfl) H3.drop).mono ?_;rintro r h4 ⟨go2, rfl, h5, h6⟩;rw [DB_bool]
   cases go2 with
   | true =>
     rw [Bool.not_true, cond_false, wrap64_succ (by omega)];exact go _ _ ⟨rfl, by omega, h5 rfl⟩
   | false =>
     rw [Bool.not_false, cond_true];exact h6 rfl
 · rintro s h2 again ⟨rfl, _, H2⟩;rw [decide_eq_false (by omega), cond_false];exact fin h2 (by rw [idx_len, hl]; exact H2)
def keyG (b : Nat) (i : Nat) : HProp := exi fun q : Option Addr × Nat × List Nat => Many [pur (q.2.2.length ≤ i * 700 ∧ B8 q.2.2), pt b (.cells #[.slice q.1 q.2.2.length q.2.1] 85 (0, 0)), ownS 5 1 q.1 q.2.2.length q.2.1 (q.2.2.map nv)]
theorem keyG_open {b i : Nat} (H : sat (keyG b i :: F) h) : ∃ a c L, L.length ≤ i * 700 ∧ B8 L ∧ sat (pt b (.cells #[.slice a L.length c] 85 (0, 0)) :: ownS 5 1 a L.length c (L.map nv) :: F) h := by
 obtain ⟨⟨a, c, L⟩, H2⟩ := sat_exi.1 H
 obtain ⟨⟨h1, h2⟩, H3⟩ := sat_pur.1 H2.open
 exact ⟨a, c, L, h1, h2, H3⟩
theorem keyG_shut {b i c : Nat} {a : Option Addr} {L : List Nat} (h1 : L.length ≤ i * 700) (h2 : B8 L) (H : sat (pt b (.cells #[.slice a L.length c] 85 (0, 0)) :: ownS 5 1 a L.length c (L.map nv) :: F) h) : sat (keyG b i :: F) h :=
 sat_exi.2 ⟨(a, c, L), sat.shut (m := [_, _, _]) (sat_pur.2 ⟨⟨h1, h2⟩, H⟩)⟩
set_option maxHeartbeats 1000000 in
theorem F132_spec {ra : Option Addr} {rl rc : Nat} {xs : List Vl} (hR : ∀ h', sat (glo :: F) h' → RdC h' ra (xs.flatMap vlC)) (hl : xs.length = rl) (hrl : rl ≤ 9223372036854775807) (H : sat (glo :: F) h) :
  CallsH Tryz.prog 132 [.slice ra rl rc] h fun v h' => (rowOk xs = false ∧ v = .tuple #[.string .empty, .int .i64 31] ∧ sat (glo :: F) h') ∨ (rowOk xs = true ∧ ∃ t : ByteArray, v = .tuple #[.string t, .int .i64 0] ∧ t.size ≤ 100000 ∧ sat (glo :: F) h') := by
 apply F132_ok.ap
 unfold F132
 refine (F123_spec (c := rc) hR hl (by omega) H).mono ?_
 rintro v h1 ⟨rfl, H1⟩
 rw [DB_bool]
 cases hok : rowOk xs with
 | false => exact .inl ⟨rfl, rfl, H1⟩
 | true =>
 have h12 := rowOk_len hok
 have hchk := rowOk_chk hok
 rw [Bool.not_true, cond_false]
 refine Al_sat H1 fun b0 h2 H2 => ?_
 refine (F197_spec (rc := rc) (F := pt b0 (.cells #[.slice none 0 0] 85 (0, 0)) :: glo :: F) (fun h' hh => hR h' hh.drop) hl (by omega) H2).mono ?_
 rintro v h3 ⟨vb, va, vc, rfl, H3⟩
 refine ⟨_, rfl, ?_⟩
 have H4 : sat (vAllK vb va rl vc xs :: keyG b0 0 :: glo :: F) h3 := (keyG_shut (L := []) (Nat.zero_le _) (fun x hx => by cases hx) ((ownS_nil 5 1 H3).ordT 3 [2, 0, 1])).mv 1
 refine range_iter (idx xs) (fun x => [.int .i64 (x.1 : Int), x.2.v]) (vAllK vb va rl vc xs) (fun i => keyG b0 i :: glo :: F) (fun _ => [pur False]) H4 (fun _ => rfl)
  (fun yv G Out h1 hh r f => F235_iter hl (by omega) yv G Out h1 hh r f) ?_ ?_ ?_
 · intro i x L rec h5 Q hx H5 hgo _;rw [idx_get] at hx;obtain ⟨y, hy, rfl⟩ := Option.map_eq_some_iff.1 hx;have hi := (List.getElem?_eq_some_iff.1 hy).1;have hc := hchk y (List.mem_of_getElem? hy);have hk := chk_kind hc;dsimp only;refine ⟨(i : Int), y.k, y.n, y.s, rfl, ?_⟩;refine copyVl H5 fun b1 h6 H6 => ?_;have HL := (H6.mv 1).get;refine ⟨HL, ?_⟩;have H7 := (H6.mv 1).set (rec .busy none);obtain ⟨ka, kc, kl, hk1, hk2, H8⟩ := keyG_open (H7.mv 4);refine VSl H8.get ?_;refine LdInt (i := 0) (H8.mv 3) rfl ?_;obtain ⟨n, hn, en⟩ := u8_any (IntKind.wrap .u8 y.k + 1);rw [en];refine Al_sat H8 fun b2 h7 H9 => ?_;refine appB u40 src40 inf5b (H9.mv 2) (srcB (ys := [n]) (RdCf H9 rfl) rfl) (by omega) fun a' c' h8 _ H10 => ?_;rw [DSl_slice];refine StCC (H10.mv 2) (by exact Nat.zero_lt_one) rfl fun h9 H11 => ?_;have hL2 : B8 (kl ++ [n]) := app_B8 hk2 (fun x hx => by simp at hx; omega);have fin : ∀ {h' : Heap} {ga : Option Addr} {gc : Nat} {gl : List Nat}, gl.length ≤ kl.length + 700 → B8 gl → sat (pt b0 (.cells #[.slice ga gl.length gc] 85 (0, 0)) :: ownS 5 1 ga gl.length gc (gl.map nv) :: pt L (rec .busy none) :: pt b1 (.cells #[.int .i64 y.k, .int .i64 y.n, .string y.s] 84 (0, 0)) :: markD h3.size :: vAllK vb va rl vc xs :: glo :: F) h' →
    h'[L]? = some (rec .busy none) ∧ Q (.bool true) (h'.setIfInBounds L (rec .ready none)) := by
    intro h' ga gc gl g1 g2 K;have K2 := keyG_shut (i := i + 1) (by omega) g2 K;exact hgo h' (K2.ordT 5 [1, 3, 4, 0])
   have el : kl.length + 1 = (kl ++ [n]).length := by rw [List.length_append]; rfl
   refine LdInt (i := 0) (H11.mv 4) rfl ?_;by_cases k1 : y.k = 1
   · rw [keq k1, cond_true];refine VSl H11.get ?_;refine LdInt (i := 1) (H11.mv 4) rfl ?_;refine (F198_spec (xs := kl ++ [n]) (l := kl.length + 1) el.symm (by omega) (H11.mv 1)).mono ?_;rintro v h10 ⟨a3, c3, ys, rfl, hy8, hy9, H12⟩;rw [DSl_slice];refine StCC (H12.mv 1) (by exact Nat.zero_lt_one) rfl fun h11 H13 => ?_;have e2 : kl.length + 1 + 8 = (kl ++ [n] ++ ys).length := by rw [List.length_append, ← el, hy8]
     rw [e2] at H13;exact fin (by omega) (app_B8 hL2 hy9) (H13.ordT 3 [0, 1])
   rw [kne k1, cond_false];by_cases k2 : y.k = 2
   · rw [keq k2, cond_true];refine VSl H11.get ?_;refine LdInt (i := 1) (H11.mv 4) rfl ?_;obtain ⟨m, hm, em⟩ := u8_any y.n;rw [em];refine Al_sat H11 fun b3 h10 H12 => ?_;refine appB u40 src40 inf5b (H12.mv 2) (srcB (ys := [m]) (RdCf H12 rfl) rfl) (by omega) fun a3 c3 h11 _ H13 => ?_;rw [DSl_slice];refine StCC (H13.mv 2) (by exact Nat.zero_lt_one) rfl fun h12 H14 => ?_;have e2 : kl.length + 1 + 1 = (kl ++ [n] ++ [m]).length := by rw [List.length_append, ← el]; rfl
     rw [e2] at H14;exact fin (by omega) (app_B8 hL2 (fun x hx => by simp at hx; omega)) (H14.ordT 4 [0, 1])
   rw [kne k2, cond_false];by_cases k3 : y.k = 3
   · rw [keq k3, cond_true];have hs : y.s.size ≤ 200 := by
      unfold Vl.chk at hc;rw [if_neg (by omega), if_neg k1, if_neg k2, if_pos k3] at hc;split at hc
      · rename_i hh; exact hh.2
      · cases hc
     refine VSl H11.get ?_;refine LdStr (i := 2) (H11.mv 4) rfl ?_;refine (F199_spec hs (H11.mv 7)).mono ?_;rintro v h10 ⟨t, rfl, ht, H12⟩;rw [DS_string];refine ⟨VSl (H12.mv 1).get rfl, ?_⟩;refine appB (t := 85) (u := 9) u40 (by kernel_rfl) inf5b (H12.mv 2) (srcS t) (by omega) fun a3 c3 h11 _ H13 => ?_;rw [DSl_slice];refine StCC (H13.mv 2) (by exact Nat.zero_lt_one) rfl fun h12 H14 => ?_;refine VSl H14.get ?_;refine Al_sat H14 fun b4 h13 H15 => ?_;refine appB u40 src40 inf5b (H15.mv 2) (srcB (ys := [0, 0]) (RdCf H15 rfl) rfl) (by omega) fun a4 c4 h14 _ H16 => ?_;rw [DSl_slice];refine StCC (H16.mv 2) (by exact Nat.zero_lt_one) rfl fun h15 H17 => ?_;have e2 : kl.length + 1 + t.size + 2 = (kl ++ [n] ++ sb t ++ [0, 0]).length := by rw [List.length_append, List.length_append, ← el, sb_length]; rfl
     rw [e2] at H17;exact fin (by omega) (app_B8 (app_B8 hL2 (sb_B8 t)) (fun x hx => by simp at hx; omega)) (H17.ordT 9 [0, 1, 5, 6, 7, 8, 3])
   rw [kne k3, cond_false];rw [el] at H11;exact fin (by omega) hL2 (H11.ordT 3 [0, 1])
 · intro h5 H5;refine ⟨rfl, ?_⟩;obtain ⟨ka, kc, kl, hk1, hk2, H6⟩ := keyG_open (H5.mv 2);rw [idx_len] at hk1;refine VSl H6.get ?_;refine ⟨ofN kl, bytesIn_of (ownS_read H6.drop) rfl hk2, (H6.mv 2).get, ?_⟩;have H7 := (H6.mv 2).set (.deferred none);refine .inr ⟨rfl, ofN kl, rfl, ?_, H7.ordT 5 [4]⟩;have : (ofN kl).size = kl.length := by rw [← sb_length, sb_ofN hk2]
   omega
 · intro j h5 H5;exact ((sat_pur.1 (H5.mv 1)).1).elim
end
open AF (hexN)
def Rw (r : List Vl) (v : Value) (h : Heap) : Prop := ∃ (a : Option Addr) (c : Nat), v = .slice a r.length c ∧ RdC h a (r.flatMap vlC)
def RwsAre (rs : List (List Vl)) (vs : List Value) (h : Heap) : Prop := vs.length = rs.length ∧ ∀ (i : Nat) (r : List Vl) (u : Value), rs[i]? = some r → vs[i]? = some u → Rw r u h
section
variable {F : List HProp} {h : Heap}
theorem rowsRead {a : Option Addr} {l i : Nat} {rs : List (List Vl)} {vs : List Value} {r : List Vl} {K : Option Addr → Nat → Nat → Prop} (hR : RdC h a vs) (hA : RwsAre rs vs h) (hl : rs.length = l) (hr : rs[i]? = some r)
  (hK : ∀ ra rc, RdC h ra (r.flatMap vlC) → vs[i]? = some (.slice ra r.length rc) → K ra r.length rc) : IdxA a l (i : Int) 1 fun a0 => Ld h a0 fun v0 => DSl v0 K := by
 have hi := (List.getElem?_eq_some_iff.1 hr).1
 obtain ⟨u, hu⟩ : ∃ u, vs[i]? = some u := ⟨_, List.getElem?_eq_getElem (by rw [hA.1]; exact hi)⟩
 obtain ⟨ra, rc, e, hRd⟩ := hA.2 i r u hr hu
 subst e
 refine IdxA_nat hR (by rw [hA.1, hl]) hu fun b hb hc => ⟨_, hc, ?_⟩
 show DSl (.slice ra r.length rc) K
 rw [DSl_slice]
 exact hK ra rc hRd hu
theorem F219_same (x : Vl) (H : sat F h) : CallsH Tryz.prog 219 [x.v, x.v] h fun v h' => v = .int .i64 0 ∧ sat F h' := by
 apply F219_ok.ap
 unfold F219
 refine Al_sat H fun b3 h1 H1 => ?_
 refine Al_sat H1 fun b4 h2 H2 => ?_
 have r0 : ∀ {K : Int → Prop}, K x.k → Ld h2 ((Addr.mk b3 0 none).add 0) fun v => DI .i64 v K := fun hK => LdInt (i := 0) (H2.mv 1) rfl hK
 have r1 : ∀ {K : Int → Prop}, K x.n → Ld h2 ((Addr.mk b3 0 none).add 1) fun v => DI .i64 v K := fun hK => LdInt (i := 1) (H2.mv 1) rfl hK
 have q0 : ∀ {K : Int → Prop}, K x.k → Ld h2 ((Addr.mk b4 0 none).add 0) fun v => DI .i64 v K := fun hK => LdInt (i := 0) H2 rfl hK
 have q1 : ∀ {K : Int → Prop}, K x.n → Ld h2 ((Addr.mk b4 0 none).add 1) fun v => DI .i64 v K := fun hK => LdInt (i := 1) H2 rfl hK
 refine r0 (q0 ?_)
 rw [decide_eq_false (by omega), cond_false]
 refine r0 (q0 ?_)
 rw [keq rfl, cond_true]
 refine r1 (q1 ?_)
 rw [decide_eq_false (by omega), cond_false]
 refine r1 (q1 ?_)
 rw [keq rfl, cond_true]
 refine LdStr (i := 2) (H2.mv 1) rfl (LdStr (i := 2) H2 rfl ?_)
 rw [show strLt x.s x.s = false from by rw [AF.strLt_eq]; exact Bool.eq_false_iff.2 (AF.strLt_irrefl x.s), cond_false]
 refine readVl (x := x) (H2.mv 1) (readVl (x := x) H2 ?_)
 rw [keq rfl, keq rfl, strEq_dec, decide_eq_true rfl]
 exact ⟨rfl, H2.drop.drop⟩
theorem F148_same {a a2 : Option Addr} {l c c2 : Nat} {xs : List Vl} (hR : ∀ h', sat F h' → RdC h' a (xs.flatMap vlC) ∧ RdC h' a2 (xs.flatMap vlC)) (hl : xs.length = l) (hll : l ≤ 1000000) (H : sat F h) :
  CallsH Tryz.prog 148 [.slice a l c, .slice a2 l c2] h fun v h' => v = .int .i64 0 ∧ sat F h' := by
 apply F148_ok.ap
 unfold F148
 refine LoopH.upto l (fun i (s : Int) h2 => s = (i : Int) ∧ i ≤ l ∧ sat F h2) (fun s => l - s.toNat) (fun i s h2 hh => ⟨hh.2.1, by rw [hh.1]; omega⟩) ⟨rfl, Nat.zero_le _, H⟩ ?_ ?_
 · rintro i s h2 again hi ⟨rfl, _, H2⟩ go;rw [decide_eq_true (show ((i : Int) < (l : Int)) by omega), cond_true, decide_eq_false (show ¬ ((i : Int) ≥ (l : Int)) by omega), cond_false];obtain ⟨x, hx⟩ : ∃ x, xs[i]? = some x := ⟨_, List.getElem?_eq_getElem (by omega)⟩
   refine rowRead (hR _ H2).1 hl hx (rowRead (hR _ H2).2 hl hx ?_);refine (F219_same x H2).mono ?_;rintro v h3 ⟨rfl, H3⟩;refine ⟨_, rfl, ?_⟩;dsimp only;rw [show ((0 : Int) != 0) = false from rfl, cond_false, wrap64_succ (by omega)];exact go _ _ ⟨rfl, by omega, H3⟩
 · rintro s h2 again ⟨rfl, _, H2⟩;rw [decide_eq_false (by omega), cond_false, cond_false];exact ⟨rfl, H2⟩
theorem F53_same {a a2 : Option Addr} {l c c2 : Nat} {xs : List Vl} (hR : ∀ h', sat F h' → RdC h' a (xs.flatMap vlC) ∧ RdC h' a2 (xs.flatMap vlC)) (hl : xs.length = l) (hll : l ≤ 1000000) (H : sat F h) :
  CallsH Tryz.prog 53 [.slice a l c, .slice a2 l c2] h fun v h' => v = .bool true ∧ sat F h' := by
 apply F53_ok.ap
 unfold F53
 rw [keq rfl, cond_true]
 refine (F148_same hR hl hll H).mono ?_
 rintro v h2 ⟨rfl, H2⟩
 exact ⟨_, rfl, rfl, H2⟩
theorem F17_same {a a2 : Option Addr} {l c c2 : Nat} {rs : List (List Vl)} {vs vs2 : List Value} (hR : ∀ h', sat F h' → (RdC h' a vs ∧ RwsAre rs vs h') ∧ (RdC h' a2 vs2 ∧ RwsAre rs vs2 h')) (hl : rs.length = l) (hll : l ≤ 1000000) (hr : ∀ r ∈ rs, r.length ≤ 1000000) (H : sat F h) :
  CallsH Tryz.prog 17 [.slice a l c, .slice a2 l c2] h fun v h' => v = .bool true ∧ sat F h' := by
 apply F17_ok.ap
 unfold F17
 rw [show ((l : Int) != (l : Int)) = false from by simp, cond_false]
 refine LoopH.upto l (fun i (s : Int) h2 => s = (i : Int) ∧ i ≤ l ∧ sat F h2) (fun s => l - s.toNat) (fun i s h2 hh => ⟨hh.2.1, by rw [hh.1]; omega⟩) ⟨rfl, Nat.zero_le _, H⟩ ?_ ?_
 · rintro i s h2 again hi ⟨rfl, _, H2⟩ go;rw [decide_eq_true (show ((i : Int) < (l : Int)) by omega), cond_true];obtain ⟨r, hx⟩ : ∃ x, rs[i]? = some x := ⟨_, List.getElem?_eq_getElem (by omega)⟩
   have hh := hR _ H2;refine rowsRead hh.1.1 hh.1.2 hl hx fun ra rc hr1 hv1 => rowsRead hh.2.1 hh.2.2 hl hx fun ra2 rc2 hr2 hv2 => ?_;refine (F53_same (xs := r) (fun h' H' => ?_) rfl (hr r (List.mem_of_getElem? hx)) H2).mono ?_
   · have hh := hR _ H';obtain ⟨b1, d1, e1, g1⟩ := hh.1.2.2 i r _ hx hv1;obtain ⟨b2, d2, e2, g2⟩ := hh.2.2.2 i r _ hx hv2;cases e1;cases e2;exact ⟨g1, g2⟩
   · rintro v h3 ⟨rfl, H3⟩;rw [DB_bool, Bool.not_true, cond_false, wrap64_succ (by omega)];exact go _ _ ⟨rfl, by omega, H3⟩
 · rintro s h2 again ⟨rfl, _, H2⟩;rw [decide_eq_false (by omega), cond_false];exact ⟨rfl, H2⟩
theorem F49_any {a : Option Addr} {l c : Nat} {xs : List Vl} (hR : ∀ h', sat F h' → RdC h' a (xs.flatMap vlC)) (hl : xs.length = l) (H : sat F h) : CallsH Tryz.prog 49 [.slice a l c] h fun v h' => (∃ b, v = .bool b) ∧ sat F h' := by
 apply F49_ok.ap
 unfold F49
 by_cases h40 : 40 < l
 · rw [decide_eq_true (show ((l : Int) > 40) by omega), cond_true];exact ⟨⟨_, rfl⟩, H⟩
 rw [decide_eq_false (show ¬ ((l : Int) > 40) by omega), cond_false]
 refine LoopH.upto l (fun i (s : Int) h2 => s = (i : Int) ∧ i ≤ l ∧ sat F h2) (fun s => l - s.toNat) (fun i s h2 hh => ⟨hh.2.1, by rw [hh.1]; omega⟩) ⟨rfl, Nat.zero_le _, H⟩ ?_ ?_
 · rintro i s h2 again hi ⟨rfl, _, H2⟩ go;rw [decide_eq_true (show ((i : Int) < (l : Int)) by omega), cond_true];obtain ⟨x, hx⟩ : ∃ x, xs[i]? = some x := ⟨_, List.getElem?_eq_getElem (by omega)⟩
   refine IdxC (f := vlC) (sz := 3) vlC_len (by decide) (hR _ H2) hl hx fun b hb hc => ⟨.string x.s, hc 2 _ rfl, x.s, rfl, ?_⟩
   dsimp only;by_cases hz : 600 < x.s.size
   · rw [decide_eq_true (show ((x.s.size : Int) > 600) by omega), cond_true];exact ⟨⟨_, rfl⟩, H2⟩
   · rw [decide_eq_false (show ¬ ((x.s.size : Int) > 600) by omega), cond_false, wrap64_succ (by omega)];exact go _ _ ⟨rfl, by omega, H2⟩
 · rintro s h2 again ⟨rfl, _, H2⟩;rw [decide_eq_false (by omega), cond_false];exact ⟨⟨_, rfl⟩, H2⟩
theorem F15_spec {a : Option Addr} {l c : Nat} {rs : List (List Vl)} {vs : List Value} (hR : ∀ h', sat F h' → RdC h' a vs ∧ RwsAre rs vs h') (hl : rs.length = l) (H : sat F h) :
  CallsH Tryz.prog 15 [.slice a l c] h fun v h' => ∃ b, v = .bool b ∧ (b = false → l ≤ 60) ∧ sat F h' := by
 apply F15_ok.ap
 unfold F15
 by_cases h60 : 60 < l
 · rw [decide_eq_true (show ((l : Int) > 60) by omega), cond_true];exact ⟨true, rfl, (fun e => by cases e), H⟩
 rw [decide_eq_false (show ¬ ((l : Int) > 60) by omega), cond_false]
 refine LoopH.upto l (fun i (s : Int) h2 => s = (i : Int) ∧ i ≤ l ∧ sat F h2) (fun s => l - s.toNat) (fun i s h2 hh => ⟨hh.2.1, by rw [hh.1]; omega⟩) ⟨rfl, Nat.zero_le _, H⟩ ?_ ?_
 · rintro i s h2 again hi ⟨rfl, _, H2⟩ go;rw [decide_eq_true (show ((i : Int) < (l : Int)) by omega), cond_true];obtain ⟨r, hx⟩ : ∃ x, rs[i]? = some x := ⟨_, List.getElem?_eq_getElem (by omega)⟩
   refine rowsRead (hR _ H2).1 (hR _ H2).2 hl hx fun ra rc hr1 hv1 => ?_;refine (F49_any (xs := r) (fun h' H' => ?_) rfl H2).mono ?_
   · obtain ⟨b1, d1, e1, g1⟩ := (hR _ H').2.2 i r _ hx hv1;cases e1;exact g1
   · rintro v h3 ⟨⟨b, rfl⟩, H3⟩;rw [DB_bool]
     cases b with
     | true => exact ⟨true, rfl, (fun e => by cases e), H3⟩
     | false =>
       rw [cond_false, wrap64_succ (by omega)];exact go _ _ ⟨rfl, by omega, H3⟩
 · rintro s h2 again ⟨rfl, _, H2⟩;rw [decide_eq_false (by omega), cond_false];exact ⟨false, rfl, (fun _ => by omega), H2⟩
theorem u32_any (z : Int) : ∃ n : Nat, n < 4294967296 ∧ IntKind.wrap .u32 z = (n : Int) := by
 refine ⟨(z % 4294967296).toNat, by omega, ?_⟩
 rw [IntKind.wrap_u32]
 omega
theorem F204_any {z : Int} {s : ByteArray} (hs : s.size ≤ 1000000) : CallsH Tryz.prog 204 [.int .u32 z, .string s] h fun v h' => (∃ n : Nat, n < 4294967296 ∧ v = .int .u32 (n : Int)) ∧ h' = h := by
 apply F204_ok.ap
 unfold F204
 refine LoopH.upto s.size (fun i (t : Int × Int) h2 => t.2 = (i : Int) ∧ i ≤ s.size ∧ h2 = h) (fun t => s.size - t.2.toNat) (fun i t h2 hh => ⟨hh.2.1, by rw [hh.1]; omega⟩) ⟨rfl, Nat.zero_le _, rfl⟩ ?_ ?_
 · rintro i ⟨t1, t2⟩ h2 again hi ⟨rfl, _, rfl⟩ go;dsimp only;rw [decide_eq_true (show ((i : Int) < (s.size : Int)) by omega), cond_true];refine ⟨by omega, by omega, ?_⟩;refine LoopH.upto 8 (fun k (t : Int × Int) h3 => t.2 = (k : Int) ∧ k ≤ 8 ∧ h3 = h2) (fun t => 8 - t.2.toNat) (fun k t h3 hh => ⟨hh.2.1, by rw [hh.1]; omega⟩) ⟨rfl, Nat.zero_le _, rfl⟩ ?_ ?_
   · rintro k ⟨t3, t4⟩ h3 again2 hk ⟨rfl, _, rfl⟩ go2;dsimp only;rw [decide_eq_true (show ((k : Int) < 8) by omega), cond_true, wrap64_succ (by omega)];exact ⟨by decide, go2 _ _ ⟨rfl, by omega, rfl⟩⟩
   · rintro ⟨t3, t4⟩ h3 again2 ⟨rfl, _, rfl⟩;dsimp only;rw [decide_eq_false (by decide), cond_false, wrap64_succ (by omega)];exact go _ _ ⟨rfl, by omega, rfl⟩
 · rintro ⟨t1, t2⟩ h2 again ⟨rfl, _, rfl⟩;dsimp only;rw [decide_eq_false (by omega), cond_false];refine ⟨?_, rfl⟩;unfold bitsI;obtain ⟨n, hn, e⟩ := u32_any ((BitVec.ofInt (IntKind.u32).bits 4294967295 ^^^ BitVec.ofInt (IntKind.u32).bits t1).toNat : Int);exact ⟨n, hn, by rw [← e]⟩
theorem F134_any {s : ByteArray} (hs : s.size ≤ 1000000) : CallsH Tryz.prog 134 [.string s] h fun v h' => (∃ n : Nat, n < 4294967296 ∧ v = .int .u32 (n : Int)) ∧ h' = h := by
 apply F134_ok.ap
 unfold F134
 refine (F204_any hs).mono ?_
 rintro v h2 ⟨⟨n, hn, rfl⟩, rfl⟩
 exact ⟨_, rfl, ⟨n, hn, rfl⟩, rfl⟩
end
abbrev Prs := List (ByteArray × ByteArray)
abbrev Sq := Option Addr × Nat
def slQ (q : Sq) (ps : Prs) : Value := .slice q.1 ps.length q.2
def ownQ (q : Sq) (ps : Prs) : HProp := ownS 96 2 q.1 ps.length q.2 (ps.flatMap pairC)
def own4 (q : Nat → Sq) (L : Nat → Prs) : List HProp := [ownQ (q 0) (L 0), ownQ (q 1) (L 1), ownQ (q 2) (L 2), ownQ (q 3) (L 3)]
def arr4 (b : Nat) (q : Nat → Sq) (L : Nat → Prs) : List HProp := pt b (.cells #[slQ (q 0) (L 0), slQ (q 1) (L 1), slQ (q 2) (L 2), slQ (q 3) (L 3)] 111 (0, 0)) :: own4 q L
def upd {α : Type} (f : Nat → α) (p : Nat) (x : α) : Nat → α := fun i => if i = p then x else f i
section
variable {F : List HProp} {h : Heap} {b : Nat} {q : Nat → Sq} {L : Nat → Prs}
theorem arr4_take {p : Nat} (hp : p < 4) (H : sat (arr4 b q L ++ F) h) : ∃ (cs : Array Value) (R : HProp), cs[p]? = some (slQ (q p) (L p)) ∧ cs.size = 4 ∧ sat (pt b (.cells cs 111 (0, 0)) :: ownQ (q p) (L p) :: R :: F) h ∧
  ∀ (x : Sq) (ps : Prs) (G : List HProp) (h' : Heap), sat (pt b (.cells (cs.setIfInBounds p (slQ x ps)) 111 (0, 0)) :: ownQ x ps :: R :: G) h' → sat (arr4 b (upd q p x) (upd L p ps) ++ G) h' := by
 have shut : ∀ {A B C : HProp} {X Y : HProp} {G : List HProp} {h : Heap}, sat (X :: Y :: A :: B :: C :: G) h → sat (X :: Y :: Many [A, B, C] :: G) h := fun K => (sat.shut (m := [_, _, _]) (K.ordT 5 [2, 3, 4, 0, 1])).ordT 3 [1, 2, 0]
 have opn : ∀ {A B C : HProp} {X Y : HProp} {G : List HProp} {h : Heap}, sat (X :: Y :: Many [A, B, C] :: G) h → sat (X :: Y :: A :: B :: C :: G) h := fun K => (K.mv 2).open.ordT 5 [3, 4, 0, 1, 2]
 match p, hp with
 | 0, _ => exact ⟨_, _, rfl, rfl, shut H, fun x ps G h' K => opn K⟩
 | 1, _ => exact ⟨_, _, rfl, rfl, shut (H.ordT 5 [0, 2, 1, 3, 4]), fun x ps G h' K => (opn K).ordT 5 [0, 2, 1, 3, 4]⟩
 | 2, _ => exact ⟨_, _, rfl, rfl, shut (H.ordT 5 [0, 3, 1, 2, 4]), fun x ps G h' K => (opn K).ordT 5 [0, 2, 3, 1, 4]⟩
 | 3, _ => exact ⟨_, _, rfl, rfl, shut (H.ordT 5 [0, 4, 1, 2, 3]), fun x ps G h' K => (opn K).ordT 5 [0, 2, 3, 4, 1]⟩
theorem read4 {e : TypeId} {fr : Nat × Nat} {s0 s1 s2 s3 : Option Addr × Nat × Nat} {K : Option Addr → Nat → Nat → Option Addr → Nat → Nat → Option Addr → Nat → Nat → Option Addr → Nat → Nat → Prop}
  (H : sat (pt b (.cells #[.slice s0.1 s0.2.1 s0.2.2, .slice s1.1 s1.2.1 s1.2.2, .slice s2.1 s2.2.1 s2.2.2, .slice s3.1 s3.2.1 s3.2.2] e fr) :: F) h) (hK : K s0.1 s0.2.1 s0.2.2 s1.1 s1.2.1 s1.2.2 s2.1 s2.2.1 s2.2.2 s3.1 s3.2.1 s3.2.2) :
  Ld h ((Addr.mk b 0 none).add 0) fun c0 => Ld h ((Addr.mk b 0 none).add 1) fun c1 => Ld h ((Addr.mk b 0 none).add 2) fun c2 => Ld h ((Addr.mk b 0 none).add 3) fun c3 =>
   ∃ (x2a : Option Addr), ∃ (x2l : Nat), ∃ (x2c : Nat), ∃ (x3a : Option Addr), ∃ (x3l : Nat), ∃ (x3c : Nat), ∃ (x4a : Option Addr), ∃ (x4l : Nat), ∃ (x4c : Nat), ∃ (x5a : Option Addr), ∃ (x5l : Nat), ∃ (x5c : Nat),
     (Value.agg #[c0, c1, c2, c3]) = .agg #[.slice x2a x2l x2c, .slice x3a x3l x3c, .slice x4a x4l x4c, .slice x5a x5l x5c] ∧ K x2a x2l x2c x3a x3l x3c x4a x4l x4c x5a x5l x5c :=
 LdC (i := 0) H rfl (LdC (i := 1) H rfl (LdC (i := 2) H rfl (LdC (i := 3) H rfl ⟨_, _, _, _, _, _, _, _, _, _, _, _, rfl, hK⟩)))
theorem write4 {e : TypeId} {z0 z1 z2 z3 v0 v1 v2 v3 : Value} {K : Heap → Prop} (H : sat (pt b (.cells #[z0, z1, z2, z3] e (0, 0)) :: F) h) (hK : ∀ h', sat (pt b (.cells #[v0, v1, v2, v3] e (0, 0)) :: F) h' → K h') :
  StC h ((Addr.mk b 0 none).add 0) v0 fun h1 => StC h1 ((Addr.mk b 0 none).add 1) v1 fun h2 => StC h2 ((Addr.mk b 0 none).add 2) v2 fun h3 => StC h3 ((Addr.mk b 0 none).add 3) v3 K := by
 refine StCC (i := 0) H (by exact (by decide : 0 < 4)) rfl fun h1 H1 => ?_
 refine StCC (i := 1) H1 (by exact (by decide : 1 < 4)) rfl fun h2 H2 => ?_
 refine StCC (i := 2) H2 (by exact (by decide : 2 < 4)) rfl fun h3 H3 => ?_
 refine StCC (i := 3) H3 (by exact (by decide : 3 < 4)) rfl fun h4 H4 => ?_
 exact hK h4 H4
end
abbrev Dl := List (Nat × List Vl)
def ixR (rs : List (List Vl)) : Dl := rs.mapIdx fun i r => (i, r)
def encP (x : Nat × List Vl) : ByteArray × ByteArray := (hexN (x.1 : Int), ofN (rowsB [x.2]))
structure Dealt (n : Nat) (rs : List (List Vl)) (D : Nat → Dl) : Prop where
 perm : (D 0 ++ D 1 ++ D 2 ++ D 3).Perm (ixR rs)
 none : ∀ p, n ≤ p → D p = []
theorem Dealt.nil (n : Nat) : Dealt n [] fun _ => [] := ⟨List.Perm.refl _, fun _ _ => rfl⟩
theorem Dealt.snoc {n p : Nat} {rs : List (List Vl)} {D : Nat → Dl} {r : List Vl} (h : Dealt n rs D) (hp : p < n) (hn : n ≤ 4) : Dealt n (rs ++ [r]) (upd D p (D p ++ [(rs.length, r)])) := by
 refine ⟨?_, fun k hk => by unfold upd; rw [if_neg (by omega)]; exact h.none k hk⟩
 have e : ixR (rs ++ [r]) = ixR rs ++ [(rs.length, r)] := by unfold ixR; rw [List.mapIdx_append]; simp
 rw [e]
 have hp4 : p < 4 := by omega
 have hh := h.perm
 have key : ((upd D p (D p ++ [(rs.length, r)]) 0) ++ (upd D p (D p ++ [(rs.length, r)]) 1) ++ (upd D p (D p ++ [(rs.length, r)]) 2) ++ (upd D p (D p ++ [(rs.length, r)]) 3)).Perm ((D 0 ++ D 1 ++ D 2 ++ D 3) ++ [(rs.length, r)]) := by
  match p, hp4 with
  | 0, _ =>
    show (((D 0 ++ [(rs.length, r)]) ++ D 1) ++ D 2 ++ D 3).Perm _;simp only [List.append_assoc];refine List.Perm.append_left _ ?_;have := List.perm_append_comm (l₁ := [(rs.length, r)]) (l₂ := D 1 ++ (D 2 ++ D 3));simpa only [List.append_assoc] using this
  | 1, _ =>
    show ((D 0 ++ (D 1 ++ [(rs.length, r)])) ++ D 2 ++ D 3).Perm _;simp only [List.append_assoc];refine List.Perm.append_left _ (List.Perm.append_left _ ?_);have := List.perm_append_comm (l₁ := [(rs.length, r)]) (l₂ := D 2 ++ D 3);simpa only [List.append_assoc] using this
  | 2, _ =>
    show (D 0 ++ D 1 ++ (D 2 ++ [(rs.length, r)]) ++ D 3).Perm _;simp only [List.append_assoc];refine List.Perm.append_left _ (List.Perm.append_left _ (List.Perm.append_left _ ?_));have := List.perm_append_comm (l₁ := [(rs.length, r)]) (l₂ := D 3);simpa only [List.append_assoc] using this
  | 3, _ =>
    show (D 0 ++ D 1 ++ D 2 ++ (D 3 ++ [(rs.length, r)])).Perm _;simp only [List.append_assoc];exact List.Perm.refl _
 exact key.trans (hh.append_right _)
theorem Dealt.len {n : Nat} {rs : List (List Vl)} {D : Nat → Dl} (h : Dealt n rs D) (p : Nat) (hp : p < 4) : (D p).length ≤ rs.length := by
 have := h.perm.length_eq
 simp only [List.length_append] at this
 have e : (ixR rs).length = rs.length := by unfold ixR; rw [List.length_mapIdx]
 match p, hp with
 | 0, _ => omega
 | 1, _ => omega
 | 2, _ => omega
 | 3, _ => omega
theorem ixR_mem {rs : List (List Vl)} {x : Nat × List Vl} : x ∈ ixR rs ↔ rs[x.1]? = some x.2 := by
 unfold ixR
 rw [List.mem_mapIdx]
 constructor
 · rintro ⟨i, hi, rfl⟩;exact List.getElem?_eq_getElem hi
 · intro hx;obtain ⟨hi, e⟩ := List.getElem?_eq_some_iff.1 hx;exact ⟨x.1, hi, by rw [e]⟩
theorem Dealt.mem {n : Nat} {rs : List (List Vl)} {D : Nat → Dl} (h : Dealt n rs D) {p : Nat} (hp : p < 4) {x : Nat × List Vl} (hx : x ∈ D p) : rs[x.1]? = some x.2 := by
 refine ixR_mem.1 (h.perm.mem_iff.1 ?_)
 match p, hp with
 | 0, _ => simp [hx]
 | 1, _ => simp [hx]
 | 2, _ => simp [hx]
 | 3, _ => simp [hx]
def sinkB (b fsb lb : Nat) (n next : Int) : HProp := pt b (.cells #[ptrV fsb, ptrV lb, .int .i64 n, .int .i64 next] 89 (0, 0))
section
variable {F : List HProp} {h : Heap} {b fsb lb : Nat} {next : Int}
theorem exit4 {b0 b1 : Nat} {q : Nat → Sq} {L : Nat → Prs} {z0 z1 z2 z3 : Value} {ok : Bool} {Q : Value → Heap → Prop} (H : sat (arr4 b1 q L ++ (pt b0 (.cells #[z0, z1, z2, z3] 111 (0, 0)) :: F)) h)
  (hQ : ∀ h', sat (own4 q L ++ F) h' → Q (.tuple #[.agg #[slQ (q 0) (L 0), slQ (q 1) (L 1), slQ (q 2) (L 2), slQ (q 3) (L 3)], .bool ok]) h') :
  Ld h ((Addr.mk b1 0 none).add 0) fun c0 => Ld h ((Addr.mk b1 0 none).add 1) fun c1 => Ld h ((Addr.mk b1 0 none).add 2) fun c2 => Ld h ((Addr.mk b1 0 none).add 3) fun c3 =>
   ∃ (x2a : Option Addr), ∃ (x2l : Nat), ∃ (x2c : Nat), ∃ (x3a : Option Addr), ∃ (x3l : Nat), ∃ (x3c : Nat), ∃ (x4a : Option Addr), ∃ (x4l : Nat), ∃ (x4c : Nat), ∃ (x5a : Option Addr), ∃ (x5l : Nat), ∃ (x5c : Nat),
     (Value.agg #[c0, c1, c2, c3]) = .agg #[.slice x2a x2l x2c, .slice x3a x3l x3c, .slice x4a x4l x4c, .slice x5a x5l x5c] ∧
   StC h ((Addr.mk b0 0 none).add 0) (.slice x2a x2l x2c) fun h_5 => StC h_5 ((Addr.mk b0 0 none).add 1) (.slice x3a x3l x3c) fun h_6 => StC h_6 ((Addr.mk b0 0 none).add 2) (.slice x4a x4l x4c) fun h_7 => StC h_7 ((Addr.mk b0 0 none).add 3) (.slice x5a x5l x5c) fun h_8 =>
   Ld h_8 ((Addr.mk b0 0 none).add 0) fun c4 => Ld h_8 ((Addr.mk b0 0 none).add 1) fun c5 => Ld h_8 ((Addr.mk b0 0 none).add 2) fun c6 => Ld h_8 ((Addr.mk b0 0 none).add 3) fun c7 =>
   ∃ (r0a : Option Addr), ∃ (r0l : Nat), ∃ (r0c : Nat), ∃ (r1a : Option Addr), ∃ (r1l : Nat), ∃ (r1c : Nat), ∃ (r2a : Option Addr), ∃ (r2l : Nat), ∃ (r2c : Nat), ∃ (r3a : Option Addr), ∃ (r3l : Nat), ∃ (r3c : Nat),
     (Value.agg #[c4, c5, c6, c7]) = .agg #[.slice r0a r0l r0c, .slice r1a r1l r1c, .slice r2a r2l r2c, .slice r3a r3l r3c] ∧
     Q (.tuple #[.agg #[.slice r0a r0l r0c, .slice r1a r1l r1c, .slice r2a r2l r2c, .slice r3a r3l r3c], .bool ok]) h_8 := by
 refine read4 (s0 := ((q 0).1, (L 0).length, (q 0).2)) (s1 := ((q 1).1, (L 1).length, (q 1).2)) (s2 := ((q 2).1, (L 2).length, (q 2).2)) (s3 := ((q 3).1, (L 3).length, (q 3).2)) H ?_
 refine write4 (H.mv 5) fun h2 H2 => ?_
 refine read4 (s0 := ((q 0).1, (L 0).length, (q 0).2)) (s1 := ((q 1).1, (L 1).length, (q 1).2)) (s2 := ((q 2).1, (L 2).length, (q 2).2)) (s3 := ((q 3).1, (L 3).length, (q 3).2)) H2 ?_
 exact hQ h2 (H2.drop.drop)
theorem pairE_one (k x : ByteArray) : ∀ u ∈ pairC (k, x), u.oneCell' = true := by
 intro u hu
 simp [pairC] at hu
 rcases hu with rfl | rfl <;> rfl
def encD (D : Nat → Dl) : Nat → Prs := fun p => (D p).map encP
theorem encD_upd (D : Nat → Dl) (p : Nat) (x : Nat × List Vl) : upd (encD D) p (encD D p ++ [encP x]) = encD (upd D p (D p ++ [x])) := by
 funext k
 unfold upd encD
 dsimp only
 by_cases h : k = p
 · subst h;rw [if_pos rfl, if_pos rfl, List.map_append]
   rfl
 · rw [if_neg h, if_neg h]
theorem mod_part {m n : Nat} (hn : 1 ≤ n) : (Int.tmod (m : Int) (n : Int)) = ((m % n : Nat) : Int) := by
 rw [Int.tmod_eq_emod_of_nonneg (by omega)]
 omega
theorem F43_spec {n : Nat} {ra : Option Addr} {rl rc : Nat} {rs : List (List Vl)} {vs : List Value} (hn : 1 ≤ n ∧ n ≤ 4) (hR : ∀ h', sat (sinkB b fsb lb (n : Int) next :: glo :: F) h' → RdC h' ra vs ∧ RwsAre rs vs h') (hl : rs.length = rl) (hrl : rl ≤ 60)
  (hi : ∀ r ∈ rs, r.length ≤ 9223372036854775807 ∧ ∀ x ∈ r, I64 x.n) (H : sat (sinkB b fsb lb (n : Int) next :: glo :: F) h) :
  CallsH Tryz.prog 43 [ptrV b, .slice ra rl rc] h fun v h' => ((∃ r ∈ rs, rowOk r = false) ∧ ∃ (q : Nat → Sq) (L : Nat → Prs), v = .tuple #[.agg #[slQ (q 0) (L 0), slQ (q 1) (L 1), slQ (q 2) (L 2), slQ (q 3) (L 3)], .bool false] ∧ sat (sinkB b fsb lb (n : Int) next :: glo :: F) h') ∨
   ((∀ r ∈ rs, rowOk r = true) ∧ ∃ (q : Nat → Sq) (D : Nat → Dl), Dealt n rs D ∧ v = .tuple #[.agg #[slQ (q 0) (encD D 0), slQ (q 1) (encD D 1), slQ (q 2) (encD D 2), slQ (q 3) (encD D 3)], .bool true] ∧ sat (own4 q (encD D) ++ (sinkB b fsb lb (n : Int) next :: glo :: F)) h') := by
 refine F43_ok ((?_ : ∀ Q : Value → Heap → Prop, (∀ v h', (((∃ r ∈ rs, rowOk r = false) ∧ ∃ (q : Nat → Sq) (L : Nat → Prs), v = .tuple #[.agg #[slQ (q 0) (L 0), slQ (q 1) (L 1), slQ (q 2) (L 2), slQ (q 3) (L 3)], .bool false] ∧ sat (sinkB b fsb lb (n : Int) next :: glo :: F) h') ∨
   ((∀ r ∈ rs, rowOk r = true) ∧ ∃ (q : Nat → Sq) (D : Nat → Dl), Dealt n rs D ∧ v = .tuple #[.agg #[slQ (q 0) (encD D 0), slQ (q 1) (encD D 1), slQ (q 2) (encD D 2), slQ (q 3) (encD D 3)], .bool true] ∧ sat (own4 q (encD D) ++ (sinkB b fsb lb (n : Int) next :: glo :: F)) h')) → Q v h') → F43 (some ⟨b, 0, none⟩) ra rl rc h Q) _ fun _ _ hh => hh)
 intro Q hQ
 unfold F43
 refine Al_sat H fun b0 h1 H1 => ?_
 refine Al_sat H1 fun b1 h2 H2 => ?_
 have H3 : sat (arr4 b1 (fun _ => (none, 0)) (encD fun _ => []) ++ (pt b0 (.cells #[.slice none 0 0, .slice none 0 0, .slice none 0 0, .slice none 0 0] 111 (0, 0)) :: sinkB b fsb lb (n : Int) next :: glo :: F)) h2 :=
  (ownS_nil 96 2 (ownS_nil 96 2 (ownS_nil 96 2 (ownS_nil 96 2 H2)))).ordT 5 [4, 3, 2, 1, 0]
 refine LoopH.upto rl (fun i (s : Int) h3 => s = (i : Int) ∧ i ≤ rl ∧ (∀ r ∈ rs.take i, rowOk r = true) ∧ ∃ (q : Nat → Sq) (D : Nat → Dl), Dealt n (rs.take i) D ∧
   sat (arr4 b1 q (encD D) ++ (pt b0 (.cells #[.slice none 0 0, .slice none 0 0, .slice none 0 0, .slice none 0 0] 111 (0, 0)) :: sinkB b fsb lb (n : Int) next :: glo :: F)) h3) (fun s => rl - s.toNat) (fun i s h2 hh => ⟨hh.2.1, by rw [hh.1]; omega⟩)
  ⟨rfl, Nat.zero_le _, by simp, fun _ => (none, 0), fun _ => [], Dealt.nil n, H3⟩ ?_ ?_
 · rintro i s h3 again hi2 ⟨rfl, _, hok, q, D, hD, H4⟩ go;rw [decide_eq_true (show ((i : Int) < (rl : Int)) by omega), cond_true];obtain ⟨r, hr⟩ : ∃ x, rs[i]? = some x := ⟨_, List.getElem?_eq_getElem (by omega)⟩
   have hrm := List.mem_of_getElem? hr;have hF : ∀ {h'}, sat (arr4 b1 q (encD D) ++ (pt b0 (.cells #[.slice none 0 0, .slice none 0 0, .slice none 0 0, .slice none 0 0] 111 (0, 0)) :: sinkB b fsb lb (n : Int) next :: glo :: F)) h' → sat (sinkB b fsb lb (n : Int) next :: glo :: F) h' := fun K => K.rest 6;refine rowsRead (hR _ (hF H4)).1 (hR _ (hF H4)).2 hl hr fun a c hrd hv => ?_;have hrow : ∀ h', sat (sinkB b fsb lb (n : Int) next :: glo :: F) h' → RdC h' a (r.flatMap vlC) := fun h' K => by
    obtain ⟨_, _, e, g⟩ := (hR h' K).2.2 i r _ hr hv;cases e;exact g
   refine (F132_spec (rc := c) (xs := r) (F := arr4 b1 q (encD D) ++ (pt b0 (.cells #[.slice none 0 0, .slice none 0 0, .slice none 0 0, .slice none 0 0] 111 (0, 0)) :: sinkB b fsb lb (n : Int) next :: F)) (fun h' K => hrow h' (K.ordT 8 [7, 0])) rfl (hi r hrm).1 (H4.mv 7)).mono ?_;rintro v h4 (⟨hbad, rfl, H5⟩ | ⟨hgood, t, rfl, ht, H5⟩)
   · refine ⟨.empty, 31, rfl, ?_⟩;rw [show ((31 : Int) != 0) = true from rfl, cond_true];have H6 : sat (arr4 b1 q (encD D) ++ (pt b0 (.cells #[.slice none 0 0, .slice none 0 0, .slice none 0 0, .slice none 0 0] 111 (0, 0)) :: sinkB b fsb lb (n : Int) next :: glo :: F)) h4 := H5.ordT 8 [1, 2, 3, 4, 5, 6, 7, 0];refine exit4 H6 fun h' K => hQ _ _ (.inl ⟨⟨r, hrm, hbad⟩, q, encD D, rfl, ?_⟩);exact K.rest 4
   refine ⟨t, 0, rfl, ?_⟩;rw [show ((0 : Int) != 0) = false from rfl, cond_false];have H6 : sat (arr4 b1 q (encD D) ++ (pt b0 (.cells #[.slice none 0 0, .slice none 0 0, .slice none 0 0, .slice none 0 0] 111 (0, 0)) :: sinkB b fsb lb (n : Int) next :: glo :: F)) h4 := H5.ordT 8 [1, 2, 3, 4, 5, 6, 7, 0];refine Al_sat H6 fun b2 h5 H7 => ?_;refine (F133_spec (rc := c) (xs := r) (F := arr4 b1 q (encD D) ++ (pt b0 (.cells #[.slice none 0 0, .slice none 0 0, .slice none 0 0, .slice none 0 0] 111 (0, 0)) :: sinkB b fsb lb (n : Int) next :: glo :: F)) (fun h' K => hrow h' (hF K)) (hi r hrm).2 (by have := (hi r hrm).1; omega) H7).mono ?_;rintro v h6 (⟨hbad, _, _⟩ | ⟨_, xa, xc, rfl, H8⟩)
   · rw [hgood] at hbad; cases hbad
   refine ⟨xa, _, xc, 0, rfl, ?_⟩;rw [show ((0 : Int) != 0) = false from rfl, cond_false];have hsk : sat (sinkB b fsb lb (n : Int) next :: glo :: F) h6 := H8.rest 7;show NN' (some _) _;rw [NN'_some];refine LdInt (i := 2) hsk rfl ?_;refine (F134_any (h := h6) (s := t) (by omega)).mono ?_;rintro v h7 ⟨⟨m, hm, rfl⟩, rfl⟩;refine ⟨_, rfl, ?_⟩;dsimp only;have en : IntKind.wrap .u32 (n : Int) = (n : Int) := IntWalk.u32_in _ (by omega);rw [en, mod_part hn.1];have hp : m % n < n := Nat.mod_lt _ (by omega);generalize hpe : m % n = p at hp ⊢;refine ⟨rfl, by rw [NN'_some]; rfl, rfl, LdInt (i := 2) hsk rfl rfl, rfl, by omega, by omega, by omega, ?_⟩;have H9 : sat (arr4 b1 q (encD D) ++ (pt b0 (.cells #[.slice none 0 0, .slice none 0 0, .slice none 0 0, .slice none 0 0] 111 (0, 0)) :: sinkB b fsb lb (n : Int) next :: glo :: ownS 5 1 xa (rowsB [r]).length xc ((rowsB [r]).map nv) :: F)) h7 := H8.ordT 9 [1, 2, 3, 4, 5, 6, 7, 8, 0];obtain ⟨cs, R, hcs, hcz, H10, back⟩ := arr4_take (p := p) (by omega) H9;have hlen : (encD D p).length ≤ 60 := by
    unfold encD;rw [List.length_map];have := hD.len p (by omega);rw [List.length_take] at this;omega
   have ep : ((p : Int)).toNat * 1 = p := by omega
   rw [ep];refine LdSl (i := p) H10 hcs ?_;have h8 : B8 (rowsB [r]) := by
    rw [rows1];intro x hx
    rcases List.mem_cons.1 hx with rfl | hx
    · decide
    · exact rowB_B8 hgood x hx
   refine ⟨ofN (rowsB [r]), bytesIn_of (ownS_read (H10.mv 6)) rfl h8, ?_⟩;refine (F35_spec (n := (i : Int)) H10).mono ?_;rintro v h9 ⟨rfl, H11⟩;rw [DS_string];have rd : ∀ {h' : Heap} {G : List HProp}, sat (pt b1 (.cells cs 111 (0, 0)) :: G) h' → Ld h' ((Addr.mk b1 0 none).add p) fun v6 => DSl v6 fun x17a x17l x17c => SameV (some (slQ (q p) (encD D p))) (.slice x17a x17l x17c) := fun K => LdSl (i := p) K hcs rfl;refine ⟨rfl, rfl, ⟨by omega, by omega, rfl⟩, rd H11, rfl, ⟨ofN (rowsB [r]), bytesIn_of (ownS_read (H11.mv 6)) rfl h8, rfl⟩, ?_⟩;refine Al_sat H11 fun b3 h10 H12 => ?_;refine ⟨rfl, rfl, ⟨by omega, by omega, rfl⟩, rd (H12.mv 1), ?_⟩;refine appendN u144 src144 inf146 (H12.mv 2) (n := 1) (ys := pairC (encP (i, r))) (srcOf_slice (RdCf H12 rfl) rfl) (pairE_one _ _) (by omega) fun a' c' h11 _ H13 => ?_;rw [DSl_slice];refine ⟨rfl, by omega, by omega, ?_⟩;rw [addr_add0];have el : (encD D p).length + 1 = (encD D p ++ [encP (i, r)]).length := by rw [List.length_append]; rfl
   refine StCC (i := p) (H13.mv 2) (by omega) rfl fun h12 H14 => ?_;rw [wrap64_succ (by omega)];have eC : (encD D p ++ [encP (i, r)]).flatMap pairC = (encD D p).flatMap pairC ++ pairC (encP (i, r)) := by rw [List.flatMap_append, List.flatMap_cons, List.flatMap_nil, List.append_nil]
   have H15 : sat (pt b1 (.cells (cs.setIfInBounds p (slQ (a', c') (encD D p ++ [encP (i, r)]))) 111 (0, 0)) :: ownQ (a', c') (encD D p ++ [encP (i, r)]) :: R :: pt b0 (.cells #[.slice none 0 0, .slice none 0 0, .slice none 0 0, .slice none 0 0] 111 (0, 0)) :: sinkB b fsb lb (n : Int) next :: glo :: F) h12 := by
    unfold ownQ slQ;rw [eC, ← el];exact H14.ordT 8 [0, 1, 3, 4, 5, 6]
   have H16 := back _ _ _ _ H15;rw [encD_upd] at H16;have et : rs.take (i + 1) = rs.take i ++ [r] := by rw [List.take_add_one, hr]; rfl
   have eL : (rs.take i).length = i := by rw [List.length_take]; omega
   refine go _ _ ⟨rfl, by omega, ?_, _, _, ?_, H16⟩
   · rw [et];intro y hy
     rcases List.mem_append.1 hy with hy | hy
     · exact hok y hy
     · simp at hy;rw [hy];exact hgood
   · have := hD.snoc (r := r) hp (by omega);rw [eL] at this;rw [et];exact this
 · rintro s h3 again ⟨rfl, _, hok, q, D, hD, H4⟩;rw [decide_eq_false (by omega), cond_false];rw [List.take_of_length_le (by omega)] at hok hD;exact exit4 H4 fun h' K => hQ _ _ (.inr ⟨hok, q, D, hD, rfl, K⟩)
end
open AF (hexN IdOk)
open Hex (digs hexd)
def nmR (id : Int) (p : Nat) : ByteArray := ((⟨#[114, 46]⟩ ++ ofN (digs 16 (natOf id))) ++ ⟨#[46]⟩) ++ ofN [48 + p]
theorem nmR_sb (id : Int) {p : Nat} (hp : p < 4) : sb (nmR id p) = 114 :: 46 :: (digs 16 (natOf id) ++ [46, 48 + p]) := by
 unfold nmR
 rw [AF.Fnm.sb_app, AF.Fnm.sb_app, AF.Fnm.sb_app, sb_ofN (Hex.digs_B8 16 _), sb_ofN (fun x hx => by simp at hx; omega)]
 show [114, 46] ++ digs 16 (natOf id) ++ [46] ++ [48 + p] = _
 simp
theorem nmR_size (id : Int) {p : Nat} (hp : p < 4) : (nmR id p).size = 20 := by
 rw [← sb_length, nmR_sb id hp]
 simp only [List.length_cons, List.length_append, Hex.digs_length, List.length_nil]
theorem nmR_right (id : Int) {p : Nat} (hp : p < 4) : AF.right (nmR id p) = true := by
 unfold AF.right
 rw [nmR_size id hp]
 have : (nmR id p).data.toList.all (fun c => (decide (97 ≤ c.toNat) && decide (c.toNat ≤ 122)) || (decide (48 ≤ c.toNat) && decide (c.toNat ≤ 57)) || decide (c.toNat = 46)) = true := by
  rw [List.all_eq_true];intro u hu;have hm : u.toNat ∈ sb (nmR id p) := List.mem_map.2 ⟨u, hu, rfl⟩;rw [nmR_sb id hp] at hm
  rcases List.mem_cons.1 hm with h | h
  · rw [h]; decide
  rcases List.mem_cons.1 h with h | h
  · rw [h]; decide
  rcases List.mem_append.1 h with h | h
  · obtain ⟨x, hx, hc⟩ := AF.Fnm.digs_mem 16 _ _ h;rw [hc];exact AF.Fnm.hexd_right hx
  rcases List.mem_cons.1 h with h | h
  · rw [h]; decide
  · simp at h;rw [h];have : 48 ≤ 48 + p ∧ 48 + p ≤ 57 := by omega
    simp [this]
 rw [this]
 rfl
theorem nmR_tmp (id : Int) {p : Nat} (hp : p < 4) : AF.isTmp (nmR id p) = false := by
 unfold AF.isTmp
 rw [nmR_sb id hp]
 have : ¬ ((114 :: 46 :: (digs 16 (natOf id) ++ [46, 48 + p])).take 4 = sb AF.tmpN) := fun h => by
  have h2 : (some 114 : Option Nat) = (sb AF.tmpN)[0]? := congrArg (fun l => l[0]?) h;exact absurd h2 (by decide)
 rw [decide_eq_false this, Bool.and_false]
theorem nmR_inj {a b : Int} {p q : Nat} (hp : p < 4) (hq : q < 4) (ha : IdOk a) (hb : IdOk b) (h : nmR a p = nmR b q) : a = b ∧ p = q := by
 have := congrArg sb h
 rw [nmR_sb a hp, nmR_sb b hq] at this
 simp only [List.cons.injEq, true_and] at this
 have hl : (digs 16 (natOf a)).length = (digs 16 (natOf b)).length := by rw [Hex.digs_length, Hex.digs_length]
 obtain ⟨h1, h2⟩ := List.append_inj this hl
 have e := AF.Fnm.digs_inj (by have := (natOf_id ha).2; omega) (by have := (natOf_id hb).2; omega) h1
 have e1 := (natOf_id ha).1
 have e2 := (natOf_id hb).1
 simp at h2
 exact ⟨by omega, h2⟩
def batchN (s : ByteArray) : Option Nat :=
 if s.size = 20 ∧ (sb s).take 2 = [114, 46] ∧ (sb s)[18]? = some 46 ∧ (48 ≤ (sb s).getD 19 0 ∧ (sb s).getD 19 0 ≤ 57) then Hex.unhex (((sb s).drop 2).take 16) else none
theorem batchN_nmR {id : Int} {p : Nat} (hp : p < 4) (h : IdOk id) : batchN (nmR id p) = some (natOf id) := by
 have hl := Hex.digs_length 16 (natOf id)
 unfold batchN
 rw [nmR_size id hp, nmR_sb id hp]
 have e18 : (114 :: 46 :: (digs 16 (natOf id) ++ [46, 48 + p]))[18]? = some 46 := by
  show (digs 16 (natOf id) ++ [46, 48 + p])[16]? = some 46;rw [List.getElem?_append_right (by omega), hl]
  rfl
 have e19 : (114 :: 46 :: (digs 16 (natOf id) ++ [46, 48 + p])).getD 19 0 = 48 + p := by
  rw [List.getD_eq_getElem?_getD];show ((digs 16 (natOf id) ++ [46, 48 + p])[17]?).getD 0 = 48 + p;rw [List.getElem?_append_right (by omega), hl]
  rfl
 rw [e18, e19, if_pos ⟨rfl, rfl, rfl, by omega, by omega⟩]
 show Hex.unhex ((digs 16 (natOf id) ++ [46, 48 + p]).take 16) = _
 rw [List.take_append_of_le_length (by omega), List.take_of_length_le (by omega), Hex.unhex_digs (by have := (natOf_id h).2; omega), if_pos (natOf_id h).2]
section
variable {F : List HProp} {h : Heap}
theorem digit_utf {p : Nat} (hp : p < 4) : Utf8.encode (IntKind.wrap .i32 (IntKind.wrap .i64 (48 + (p : Int)))) = ofN [48 + p] := by
 match p, hp with
 | 0, _ => rfl
 | 1, _ => rfl
 | 2, _ => rfl
 | 3, _ => rfl
theorem F46_spec {id : Int} {p : Nat} (hp : p < 4) (H : sat F h) : CallsH Tryz.prog 46 [.int .i64 id, .int .i64 (p : Int)] h fun v h' => v = .string (nmR id p) ∧ sat F h' := by
 apply F46_ok.ap
 unfold F46
 refine (F35_spec H).mono ?_
 rintro v h1 ⟨rfl, H1⟩
 rw [DS_string]
 rw [digit_utf hp]
 have e16 : (ofN (digs 16 (natOf id))).size = 16 := by rw [← sb_length, sb_ofN (Hex.digs_B8 16 _), Hex.digs_length]
 have e1 : (ofN [48 + p]).size = 1 := by rw [← sb_length, sb_ofN (fun x hx => by simp at hx; omega)]; rfl
 have s2 : (⟨#[114, 46]⟩ : ByteArray).size = 2 := rfl
 have s1 : (⟨#[46]⟩ : ByteArray).size = 1 := rfl
 refine ⟨by rw [e16, s2]; decide, by rw [ByteArray.size_append, e16, s2, s1]; decide, by rw [ByteArray.size_append, ByteArray.size_append, e16, s2, s1, e1]; decide, rfl, H1⟩
theorem bt_getD {s : ByteArray} {i : Nat} (h : i < s.size) : bt s (i : Int) = (((sb s).getD i 0 : Nat) : Int) := by
 have hl : i < (sb s).length := by rw [sb_length]; exact h
 unfold bt
 rw [Int.toNat_natCast, List.getD_eq_getElem?_getD]
 unfold sb nb at *
 rw [List.getElem?_map]
 rw [List.length_map] at hl
 rw [List.getElem?_eq_getElem hl]
 rfl
theorem F131_spec {s : ByteArray} (H : sat F h) : CallsH Tryz.prog 131 [.string s] h fun v h' => v = unhexV (batchN s) ∧ sat F h' := by
 apply F131_ok.ap
 unfold F131
 unfold batchN
 by_cases h20 : s.size = 20
 rotate_left
 · rw [show ((s.size : Int) != 20) = true from by rw [bne_iff_ne]; omega, cond_true, if_neg (fun e => h20 e.1)];exact ⟨rfl, H⟩
 rw [show ((s.size : Int) != 20) = false from by rw [h20]; rfl, cond_false]
 refine ⟨by decide, by decide, by omega, ?_⟩
 dsimp only
 have e2 : sb (s.extract (0 : Int).toNat (2 : Int).toNat) = (sb s).take 2 := by
  rw [show (0 : Int).toNat = 0 from rfl, show (2 : Int).toNat = 2 from rfl, sb_extract s 0 2, List.drop_zero]
 rw [show strEq (s.extract (0 : Int).toNat (2 : Int).toNat) ⟨#[114, 46]⟩ = decide ((sb s).take 2 = [114, 46]) from by rw [strEq_eq, e2]; rfl]
 by_cases ht : (sb s).take 2 = [114, 46]
 rotate_left
 · rw [decide_eq_false ht, Bool.not_false, cond_true, if_neg (fun e => ht e.2.1)];exact ⟨rfl, H⟩
 rw [decide_eq_true ht, Bool.not_true, cond_false]
 refine ⟨by decide, by omega, ?_⟩
 have e18 := bt_getD (s := s) (i := 18) (by omega)
 have e19 := bt_getD (s := s) (i := 19) (by omega)
 rw [show ((18 : Nat) : Int) = 18 from rfl] at e18
 rw [show ((19 : Nat) : Int) = 19 from rfl] at e19
 have g18 : (sb s)[18]? = some ((sb s).getD 18 0) := by
  rw [List.getD_eq_getElem?_getD, List.getElem?_eq_getElem (by rw [sb_length]; omega)]
  rfl
 rw [e18, g18]
 by_cases h46 : (sb s).getD 18 0 = 46
 rotate_left
 · rw [show ((((sb s).getD 18 0 : Nat) : Int) != 46) = true from by rw [bne_iff_ne]; omega, cond_true, if_neg (fun e => h46 (Option.some.inj e.2.2.1))];exact ⟨rfl, H⟩
 rw [show ((((sb s).getD 18 0 : Nat) : Int) != 46) = false from by rw [h46]; rfl, cond_false]
 refine ⟨by decide, by omega, ?_⟩
 rw [e19]
 by_cases hlo : 48 ≤ (sb s).getD 19 0
 rotate_left
 · rw [decide_eq_true (show (((sb s).getD 19 0 : Nat) : Int) < 48 by omega), cond_true, if_neg (fun e => hlo e.2.2.2.1)];exact ⟨rfl, H⟩
 rw [decide_eq_false (show ¬ (((sb s).getD 19 0 : Nat) : Int) < 48 by omega), cond_false]
 refine ⟨by decide, by omega, ?_⟩
 by_cases hhi : (sb s).getD 19 0 ≤ 57
 rotate_left
 · rw [decide_eq_true (show (((sb s).getD 19 0 : Nat) : Int) > 57 by omega), cond_true, if_neg (fun e => hhi e.2.2.2.2)];exact ⟨rfl, H⟩
 rw [decide_eq_false (show ¬ (((sb s).getD 19 0 : Nat) : Int) > 57 by omega), cond_false, if_pos ⟨h20, ht, by rw [h46], hlo, hhi⟩]
 refine ⟨by decide, by decide, by omega, ?_⟩
 dsimp only
 rw [show (2 : Int).toNat = 2 from rfl, show (18 : Int).toNat = 18 from rfl]
 refine (F37_spec (s := s.extract 2 18) (by rw [ByteArray.size_extract]; omega) H).mono ?_
 rintro v h2 ⟨rfl, H2⟩
 rw [sb_extract s 2 18]
 exact ⟨_, _, rfl, rfl, H2⟩
end
def slInfo (P : Program) (e : TypeId) : Bool :=
 match P.info? e with
 | some i => (match i.zero with
   | some (.slice none 0 0) => true
   | _ => false) && (i.size == 1 && i.bytes == 24)
 | none => false
theorem slInfo_ex {P : Program} {e : TypeId} (h : slInfo P e = true) : ∃ i, P.info? e = some i ∧ i.zero = some (.slice none 0 0) ∧ i.size = 1 ∧ i.bytes = 24 := by
 unfold slInfo at h
 cases hi : P.info? e with
 | none => rw [hi] at h; cases h
 | some i =>
   rw [hi] at h;simp only [Bool.and_eq_true, beq_iff_eq] at h;obtain ⟨hz, h1, h2⟩ := h;refine ⟨i, rfl, ?_, h1, h2⟩;split at hz
   · assumption
   · cases hz
theorem makeSl_sat {P : Program} {t e : TypeId} {n : Nat} {h : Heap} {F : List HProp} {K : Value → Heap → Prop} (ht : P.underlying t = some (.slice e)) (hi : slInfo P e = true) (hn : n ≤ 1000000) (H : sat F h)
  (hK : ∀ a h', sat (ownS e 1 a n n (List.replicate n (.slice none 0 0)) :: F) h' → K (.slice a n n) h') : RunH P (Instr.makeSlice t (.int .i64 (n : Int)) (.int .i64 (n : Int))) h K := by
 obtain ⟨i, h1, h2, h3, h4⟩ := slInfo_ex hi
 intro w hw
 subst hw
 have hr := run_makeSlice (P := P) w t e i (.slice none 0 0) ht h1 h2 .i64 .i64 (n : Int) (n : Int) (by omega) (Int.le_refl _) (by rw [h3, Int.toNat_natCast]; omega) (by rw [h4]; omega) (by omega)
 rw [Int.toNat_natCast, h3, Nat.mul_one] at hr
 refine ⟨_, _, hr, ⟨rfl, rfl, rfl⟩, ?_⟩
 refine hK _ _ ?_
 have H2 := H.push (.cells (madeCells (Value.cells (.slice none 0 0)) n) e)
 refine ownS_mk H2 (by intro j hj; simp) (Nat.le_refl _) (by unfold maxLen; omega) (by rw [size_madeCells, Nat.mul_one]) ?_
 rw [Nat.mul_one, List.take_of_length_le (by simp [madeCells])]
 apply List.ext_getElem
 · simp [madeCells]
 · intro j hj1 hj2;simp [madeCells, Value.cells, Nat.mod_one]
theorem slI81 : slInfo Tryz.prog 81 = true := by kernel_rfl
section
variable {F : List HProp} {h : Heap}
theorem F39_spec {b : Nat} {T : List (Int × List Vl)} {rs : List (List Vl)} (hN : rs.length ≤ 1000000) (hT : T.length = rs.length) (hg : ∀ (i : Nat) r, rs[i]? = some r → getT T (i : Int) = some r) (H : sat (tabM Rw b T :: F) h) :
  CallsH Tryz.prog 39 [.map (some b), .int .i64 (rs.length : Int)] h fun v h' => ∃ a c vs, v = .tuple #[.slice a rs.length c, .bool true] ∧ sat (ownS 81 1 a rs.length c vs :: roP (RwsAre rs vs) :: F) h' := by
 apply F39_ok.ap
 unfold F39
 refine makeSl_sat uRs slI81 hN H fun a h1 H1 => ?_
 rw [DSl_slice]
 obtain ⟨m, H2⟩ := tabM_open (H1.mv 1)
 obtain ⟨es, clock, hm, hes⟩ := mapEs_ownM H2
 have I := roP_get (H2.mv 1)
 refine ⟨es, hes, ?_⟩
 rw [show ((es.size : Int) != (rs.length : Int)) = false from by rw [hm.size, I.length hm.nodup, hT]; simp, cond_false]
 refine LoopH.upto rs.length (fun i (s : Int) h2 => s = (i : Int) ∧ i ≤ rs.length ∧ ∃ vs, vs.length = rs.length ∧ (∀ j, j < i → ∃ v, lkM m (j : Int) = some v ∧ vs[j]? = some v) ∧ sat (ownS 81 1 a rs.length rs.length vs :: ownM (intKeys .i64) b m :: roP (TabIs Rw m T) :: F) h2) (fun s => rs.length - s.toNat) (fun i s h2 hh => ⟨hh.2.1, by rw [hh.1]; omega⟩)
  ⟨rfl, Nat.zero_le _, _, List.length_replicate, (fun j hj => absurd hj (Nat.not_lt_zero _)), H2.mv 2⟩ ?_ ?_
 · rintro i s h2 again hi ⟨rfl, _, vs, hvl, hvs, H3⟩ go;rw [decide_eq_true (show ((i : Int) < (rs.length : Int)) by omega), cond_true];obtain ⟨r, hr⟩ : ∃ x, rs[i]? = some x := ⟨_, List.getElem?_eq_getElem hi⟩
   obtain ⟨es, clock, hm, hes⟩ := mapEs_ownM (H3.mv 1);obtain ⟨f, hf, hlk, _⟩ := hm.find (i : Int);have I := roP_get (H3.mv 2);refine ⟨es, hes, f, hf, ?_⟩
   rcases I.look (i : Int) with ⟨_, h0⟩ | ⟨v, x, h1, h2, ra, rc, rfl, _⟩
   · rw [hg i r hr] at h0; cases h0
   rw [h1] at hlk
   cases f with
   | none => cases hlk
   | some q =>
     obtain ⟨jq, u⟩ := q;simp only [Option.map_some, Option.some.injEq] at hlk;subst hlk;show DSl (.slice ra x.length rc) _;rw [DSl_slice];rw [show (!(Option.isSome (some (jq, Value.slice ra x.length rc)))) = false from rfl, cond_false];obtain ⟨w, hw⟩ : ∃ w, vs[i]? = some w := ⟨_, List.getElem?_eq_getElem (by omega)⟩
     refine IdxA_nat (ownS_read H3) hvl hw fun bb hb hcell => ?_;subst hb;rw [addr_add0];refine ownS_set (v := .slice ra x.length rc) H3 (by omega) fun h4 H4 => ?_;rw [wrap64_succ (by omega)];refine go _ _ ⟨rfl, by omega, _, by rw [List.length_set, hvl], fun j hj => ?_, H4⟩;by_cases e : j = i
     · subst e;exact ⟨_, h1, by rw [List.getElem?_set_self (by omega)]⟩
     · obtain ⟨v, g1, g2⟩ := hvs j (by omega);exact ⟨v, g1, by rw [List.getElem?_set_ne (by omega)]; exact g2⟩
 · rintro s h2 again ⟨rfl, _, vs, hvl, hvs, H3⟩;rw [decide_eq_false (by omega), cond_false];refine ⟨a, _, vs, rfl, ?_⟩;refine (roP_mono (fun h' I => ⟨hvl, fun i r u hr hu => ?_⟩) (H3.mv 2)).ordT 3 [1, 0];obtain ⟨v, g1, g2⟩ := hvs i (List.getElem?_eq_some_iff.1 hr).1;rw [hu] at g2;cases g2
   rcases I.look (i : Int) with ⟨_, h0⟩ | ⟨v, x, h1, h2, h3⟩
   · rw [hg i r hr] at h0; cases h0
   rw [hg i r hr] at h2;cases h2;rw [g1] at h1;cases h1;exact h3
end
end Go.Proofs.YtibdiikcigokjaaGreatDoor
