/- What is found after the power was cut (seat K; printed by genT.py). -/
import Derived.Test.YtibdiikcigokjaaGreatDoorKsVfX
import Derived.Test.YtibdiikcigokjaaGreatDoorKsVdX
import Derived.Test.YtibdiikcigokjaaGreatDoorKsVeX
namespace Go.Proofs.YtibdiikcigokjaaGreatDoor
open Go Go.RowKit Go.MapKept
set_option linter.unusedVariables false
set_option linter.unusedSimpArgs false
open AF (hexN IdOk Meta MInv MF Live Has Upd Dirc Dur setN getN delN UpN isTmp er Kept unT Ent)
open Hex (digs)
open Crc (More)
open Frame (packN)
def keepK (l_0a : Option Addr) (l_0l : Nat) (parts0 : Int) (picks0a : Option Addr) (picks0l picks0c : Nat) (x1 : Option Addr) (dn : Int) (h_6 : Heap) (Q : Value → Heap → Prop) : Prop :=
 CallsH Tryz.prog 19 [.pointer x1, .slice picks0a picks0l picks0c] h_6 fun r6 h_7 =>
  DI .i64 r6 fun x9 =>
  CallsH Tryz.prog 10 [.pointer x1, .int .i64 (IntKind.wrap .i64 (1 + (Int.tmod (IntKind.wrap .i64 parts0) 4)))] h_7 fun r7 h_8 =>
  ∃ (x10 : Option Addr), ∃ (x11 : Int), r7 = .tuple #[.pointer x10, .int .i64 x11] ∧
  (bif (x11 : Int) != 0 then
   Q (.bool false) h_8
  else
   CallsH Tryz.prog 11 [.pointer x10] h_8 fun r8 h_9 =>
   DI .i64 r8 fun x12 =>
   (bif decide ((x12 : Int) < dn) then
    Q (.bool false) h_9
   else
    CallsH Tryz.prog 11 [.pointer x10] h_9 fun r9 h_10 =>
    DI .i64 r9 fun x13 =>
    (bif decide ((x13 : Int) > (if ((l_0l : Int) : Int) < (IntKind.wrap .i64 (dn + 1)) then (l_0l : Int) else (IntKind.wrap .i64 (dn + 1)))) then
     Q (.bool false) h_10
    else
     CallsH Tryz.prog 9 [.pointer x10] h_10 fun r10 h_11 =>
     ∃ (x14a : Option Addr), ∃ (x14l : Nat), ∃ (x14c : Nat), ∃ (x15 : Int), r10 = .tuple #[.slice x14a x14l x14c, .int .i64 x15] ∧
     (bif (x15 : Int) != 0 then
      Q (.bool false) h_11
     else
      CallsH Tryz.prog 11 [.pointer x10] h_11 fun r11 h_12 =>
      DI .i64 r11 fun x16 =>
      (bif ((x14l : Int) : Int) != x16 then
       Q (.bool false) h_12
      else
       LoopH (fun again1 (s1 : Int) h_13 =>
        (bif decide ((s1 : Int) < (x14l : Int)) then
         IdxA x14a x14l s1 2 fun a2 =>
         Ld h_13 (a2.add 0) fun v2 => DI .i64 v2 fun x17 =>
         (bif (x17 : Int) != s1 then
          Q (.bool false) h_13
         else
          IdxA x14a x14l s1 2 fun a3 =>
          Ld h_13 (a3.add 1) fun v3 => DSl v3 fun x18a x18l x18c =>
          IdxA l_0a l_0l s1 1 fun a4 =>
          Ld h_13 a4 fun v4 => DSl v4 fun x19a x19l x19c =>
          CallsH Tryz.prog 17 [.slice x18a x18l x18c, .slice x19a x19l x19c] h_13 fun r12 h_14 =>
          DB r12 fun x20 =>
          (bif !x20 then
           Q (.bool false) h_14
          else
           again1 (IntKind.wrap .i64 (s1 + 1)) h_14))
        else
         CallsH Tryz.prog 16 [.pointer x1, .string ⟨#[111, 117, 116]⟩] h_13 fun r13 h_15 =>
         ∃ (x21a : Option Addr), ∃ (x21l : Nat), ∃ (x21c : Nat), ∃ (x22 : Int), r13 = .tuple #[.slice x21a x21l x21c, .int .i64 x22] ∧
         (bif (x22 : Int) != 0 then
          Q (.bool false) h_15
         else
          LoopH (fun again2 (s2 : Int) h_16 =>
           (bif decide ((s2 : Int) < (x21l : Int)) then
            LoopH (fun again3 (s3 : Bool × Int) h_17 =>
             CallsH Tryz.prog 11 [.pointer x10] h_17 fun r14 h_18 =>
             DI .i64 r14 fun x23 =>
             (bif decide ((s3.2 : Int) < x23) then
              LoopH (fun again4 (s4 : Bool × Int) h_19 =>
               (bif decide ((s4.2 : Int) < (IntKind.wrap .i64 (1 + (Int.tmod (IntKind.wrap .i64 parts0) 4)))) then
                (bif s4.1 then
                 (SameV (some (.tuple #[])) (.tuple #[])) ∧
                 (SameV (some (.tuple #[])) (.tuple #[])) ∧
                 (SameV (some (.tuple #[])) (.tuple #[])) ∧
                 (SameV (some (.tuple #[])) (.tuple #[])) ∧
                 again4 (true, IntKind.wrap .i64 (s4.2 + 1)) h_19
                else
                 IdxA x21a x21l s2 1 fun a5 =>
                 Ld h_19 a5 fun v5 => DS v5 fun x24 =>
                 CallsH Tryz.prog 20 [.int .i64 s3.2, .int .i64 s4.2] h_19 fun r15 h_20 =>
                 DS r15 fun x25 =>
                 (SameV (some (.slice x21a x21l x21c)) (.slice x21a x21l x21c)) ∧
                 (SameV (some (.int .i64 s2)) (.int .i64 s2)) ∧
                 (IdxA x21a x21l s2 1 fun a6 =>
                 SameV (some (.pointer (some a5))) (.pointer (some a6))) ∧
                 (Ld h_20 a5 fun v6 => DS v6 fun x26 =>
                 SameV (some (.string x24)) (.string x26)) ∧
                 again4 (strEq x24 x25, IntKind.wrap .i64 (s4.2 + 1)) h_20)
               else
                again3 (s4.1, IntKind.wrap .i64 (s3.2 + 1)) h_19)) (s3.1, 0) h_18
             else
              (bif !s3.1 then
               Q (.bool false) h_18
              else
               again2 (IntKind.wrap .i64 (s2 + 1)) h_18))) (false, 0) h_16
           else
            Q (.bool true) h_16)) 0 h_15))) 0 h_12)))))
section
variable {F : List HProp} {h : Heap} {fsb n : Nat} {A : AF.FS} {M : Meta} {T TO : Dirc} {bs : List (List (List Vl))}
theorem digit_ten {p : Nat} (hp : p < 4) : (⟨#[48, 49, 50, 51, 52, 53, 54, 55, 56, 57]⟩ : ByteArray).extract p (p + 1) = ofN [48 + p] := by
 match p, hp with
 | 0, _ => rfl
 | 1, _ => rfl
 | 2, _ => rfl
 | 3, _ => rfl
theorem F20_spec {id : Int} {p : Nat} (hp : p < 4) (H : sat F h) : CallsH Tryz.prog 20 [.int .i64 id, .int .i64 (p : Int)] h fun v h' => v = .string (nmR id p) ∧ sat F h' := by
 apply F20_ok.ap
 unfold F20
 rw [wrap64_succ (by omega)]
 have e10 : (⟨#[48, 49, 50, 51, 52, 53, 54, 55, 56, 57]⟩ : ByteArray).size = 10 := rfl
 have ex : (⟨#[48, 49, 50, 51, 52, 53, 54, 55, 56, 57]⟩ : ByteArray).extract (p : Int).toNat ((p + 1 : Nat) : Int).toNat = ofN [48 + p] := by
  rw [Int.toNat_natCast, Int.toNat_natCast];exact digit_ten hp
 refine ⟨by omega, by omega, by rw [e10]; omega, ?_⟩
 rw [ex]
 refine (F58_spec H).mono ?_
 rintro v h1 ⟨rfl, H1⟩
 rw [DS_string]
 have e16 : (ofN (digs 16 (natOf id))).size = 16 := by rw [← sb_length, sb_ofN (Hex.digs_B8 16 _), Hex.digs_length]
 have e1 : (ofN [48 + p]).size = 1 := by rw [← sb_length, sb_ofN (fun x hx => by simp at hx; omega)]; rfl
 have s2 : (⟨#[114, 46]⟩ : ByteArray).size = 2 := rfl
 have s1 : (⟨#[46]⟩ : ByteArray).size = 1 := rfl
 refine ⟨rfl, rfl, rfl, ⟨by omega, by omega, by rw [e10]; omega, by rw [ex]; exact rfl⟩, by rw [e16, s2]; decide, by rw [ByteArray.size_append, e16, s2, s1]; decide, by rw [ByteArray.size_append, ByteArray.size_append, e16, s2, s1, e1]; decide, rfl, H1⟩
end
def KeepD (n d : Nat) (bss : List (List (List Vl))) (U V : Dirc) : Prop := ∃ M bs', GoodU n M U V bs' ∧ (bs' = bss.take d ∨ (d + 1 ≤ bss.length ∧ bs' = bss.take (d + 1)))
section
variable {F : List HProp} {h : Heap} {fsb n : Nat} {A : AF.FS}
theorem has_len {dir : ByteArray} {T : Dirc} (L : Live A) (H : Has A dir T) : T.length ≤ 5000 := by
 obtain ⟨i, d, hd, _, rfl⟩ := H
 have w := L.wf.each d (List.mem_of_getElem? hd)
 have h1 := w.ok.few
 have : (AF.viewD A.files d.now).length = d.now.length := by unfold AF.viewD; rw [List.length_map]
 omega
theorem four_parts {pa : Nat} (hn : n = 1 + pa % 4) (hp : pa < 256) : IntKind.wrap .i64 (1 + (Int.tmod (IntKind.wrap .i64 (pa : Int)) 4)) = ((n : Nat) : Int) := by
 have e1 : IntKind.wrap .i64 (pa : Int) = (pa : Int) := IntWalk.i64_in _ (by omega)
 have e2 : Int.tmod (pa : Int) 4 = ((pa % 4 : Nat) : Int) := tmod_nat pa 4
 rw [e1, e2, IntWalk.i64_in _ (by omega)]
 omega
set_option maxHeartbeats 2000000 in
theorem keepK_spec {h0 : Heap} {la pka : Option Addr} {ll d pa pl pc : Nat} {ps : List Int} {bss : List (List (List Vl))} {us : List Value} {PM PO : Dirc → Prop} {Q : Value → Heap → Prop} (hQ : ∀ h', sat [old h0] h' → Q (.bool true) h')
  (R : InRows h0 la ll bss us) (hp : Pks [old h0] ps pka pl pc) (hn : n = 1 + pa % 4) (hpa : pa < 256) (hl : ll ≤ 12) (hd : d ≤ ll) (W : A.WF) (hs : A.steps + 60000 < 1099511627776) (DM : Dur A dM PM) (DO : Dur A dO PO) (good : ∀ U V, PM U → PO V → KeepD n d bss U V)
  (H : sat (fsP fsb A :: glo :: [old h0]) h) : keepK la ll (pa : Int) pka pl pc (some ⟨fsb, 0, none⟩) (d : Int) h Q := by
 unfold keepK
 have hp2 : Pks (glo :: [old h0]) ps pka pl pc := ⟨hp.1, hp.2, fun h' hh => hp.3 h' (hh.ord [1])⟩
 refine (F19_spec W hp2 (by omega) H).mono ?_
 rintro v h1 ⟨rfl, H1⟩
 refine ⟨0, rfl, ?_⟩
 obtain ⟨T, L, Hm, hPM⟩ := AF.crash_dur W DM ps
 obtain ⟨TO, _, Ho, hPO⟩ := AF.crash_dur W DO ps
 obtain ⟨M, bs, G, hbs⟩ := good _ _ hPM hPO
 have hst : (A.crash ps).steps = A.steps := rfl
 have hbl : d ≤ bs.length ∧ bs.length ≤ d + 1 ∧ bs.length ≤ ll ∧ bs = bss.take bs.length := by
  have := R.len
  rcases hbs with rfl | ⟨h1, rfl⟩
  · rw [List.length_take];refine ⟨by omega, by omega, by omega, ?_⟩;rw [Nat.min_eq_left (by omega)]
  · rw [List.length_take];refine ⟨by omega, by omega, by omega, ?_⟩;rw [Nat.min_eq_left (by omega)]
 obtain ⟨b1, b2, b3, b4⟩ := hbl
 have hlen1 : T.length ≤ 5000 := by
  exact has_len L Hm
 have hlen2 : TO.length ≤ 5000 := by
  exact has_len L Ho
 rw [four_parts hn hpa]
 refine (live_openK (n := n) ⟨by omega, by omega⟩ (by omega) G L Hm Ho hlen1 hlen2 (by omega) H1).mono ?_
 rintro v h2 ⟨b, lb, B, V, rfl, LB, _, HV, GB, hnm, hsB, H2⟩
 refine ⟨some ⟨b, 0, none⟩, 0, rfl, ?_⟩
 rw [show ((0 : Int) != 0) = false from rfl, cond_false]
 refine (F11_spec H2).mono ?_
 rintro v h3 ⟨rfl, rfl⟩
 refine ⟨_, rfl, ?_⟩
 dsimp only
 rw [decide_eq_false (show ¬ ((bs.length : Int) < (d : Int)) by omega), cond_false]
 refine (F11_spec H2).mono ?_
 rintro v h3 ⟨rfl, rfl⟩
 refine ⟨_, rfl, ?_⟩
 dsimp only
 rw [wrap64_succ (by omega)]
 rw [decide_eq_false (show ¬ ((bs.length : Int) > (if ((ll : Nat) : Int) < ((d + 1 : Nat) : Int) then (ll : Int) else ((d + 1 : Nat) : Int))) by split <;> omega), cond_false]
 refine (F9_gen LB HV GB.ent GB.vals GB.each (by omega) H2).mono ?_
 rintro v h4 ⟨oa, oc, vs, wss, rfl, hvl, hwl, H4⟩
 refine ⟨oa, _, oc, 0, rfl, ?_⟩
 rw [show ((0 : Int) != 0) = false from rfl, cond_false]
 refine (F11_spec (H4.mv 2)).mono ?_
 rintro v h5 ⟨rfl, rfl⟩
 refine ⟨_, rfl, ?_⟩
 dsimp only
 rw [show (((bs.length : Nat) : Int) != ((bs.length : Nat) : Int)) = false from by simp, cond_false]
 refine LoopH.upto bs.length (fun k (s : Int) h3 => s = (k : Int) ∧ k ≤ bs.length ∧ sat (ownS 48 2 oa bs.length oc ((idU vs).flatMap uC) :: roP (BsAre bs vs wss) :: sinkB b fsb lb (n : Int) (bs.length : Int) :: logM lb fsb M :: fsP fsb B :: glo :: [old h0]) h3) (fun s => bs.length - s.toNat) (fun k s h2 hh => ⟨hh.2.1, by rw [hh.1]; omega⟩)
  ⟨rfl, Nat.zero_le _, H4⟩ ?_ ?_
 · rintro k s h6 again2 hk ⟨rfl, _, H6⟩ go;rw [decide_eq_true (show ((k : Int) < (bs.length : Int)) by omega), cond_true];obtain ⟨rs, ra, rc, ws, hrs, hu, hrd, rd⟩ := R.at (i := k) (by omega);obtain ⟨u, hv⟩ : ∃ x, vs[k]? = some x := ⟨_, List.getElem?_eq_getElem (by omega)⟩
   obtain ⟨ys, hy⟩ : ∃ x, wss[k]? = some x := ⟨_, List.getElem?_eq_getElem (by omega)⟩
   have hx : (idU vs)[k]? = some (k, u) := by rw [idU_get, hv]; rfl
   have hrs2 : bs[k]? = some rs := by rw [b4, List.getElem?_take, if_pos (by omega)]; exact hrs
   have rdU : ∀ {K : Addr → Prop}, (∀ bb : Addr, cellAt h6 (bb.add 0) = some (.int .i64 (k : Int)) → cellAt h6 (bb.add 1) = some u → K bb) → IdxA oa bs.length (k : Int) 2 K := fun hK =>
    IdxC (f := uC) (sz := 2) uC_len (by decide) (ownS_read H6) (by rw [idU_len, hvl]) hx fun bb hb hc => hK _ (hc 0 _ rfl) (hc 1 _ rfl)
   refine rdU fun bb h0c h1c => ⟨_, h0c, (k : Int), rfl, ?_⟩
   dsimp only;rw [show ((k : Int) != (k : Int)) = false from by simp, cond_false];obtain ⟨xa, xc, rfl, _⟩ := roP_get (H6.mv 1) k rs u ys hrs2 hv hy;refine rdU fun bb h0c h1c => CSl h1c ?_;refine rd (H6.mv 6) ?_;refine (F17_same (c := xc) (c2 := rc) (rs := rs) (vs := ys) (vs2 := ws) (fun h' (K : sat (ownS 48 2 oa bs.length oc ((idU vs).flatMap uC) :: roP (BsAre bs vs wss) :: sinkB b fsb lb (n : Int) (bs.length : Int) :: logM lb fsb M :: fsP fsb B :: glo :: [old h0]) h') => ⟨?_, hrd h' (sat_one (K.mv 6))⟩) rfl (by have := (GB.each k rs hrs2).1.few; omega) (fun r hr => by have := rowOk_len ((GB.each k rs hrs2).1.ok r hr); omega) H6).mono ?_
   · obtain ⟨ya, yc, e, g⟩ := roP_get (K.mv 1) k rs _ ys hrs2 hv hy;cases e;exact g
   · rintro v h7 ⟨rfl, H7⟩;rw [DB_bool, Bool.not_true, cond_false, wrap64_succ (by omega)];exact go _ _ ⟨rfl, by omega, H7⟩
 · rintro s h6 again2 ⟨rfl, _, H6⟩;rw [decide_eq_false (by omega), cond_false];have H7 := (H6.rest 2).ordT 5 [2, 0, 1, 3, 4];refine (F16_spec (dir := dO) LB.wf (by decide) H7).mono ?_;rw [AF.list_ok LB HV];rintro v h8 (⟨ks, ka, kc, e, hright, hkl, rfl, H8⟩ | ⟨e, he, _⟩)
   rotate_left
   · cases he
   cases e;refine ⟨ka, _, kc, 0, rfl, ?_⟩;rw [show ((0 : Int) != 0) = false from rfl, cond_false];refine LoopH.upto (V.map (·.1)).length (fun i (s : Int) h9 => s = (i : Int) ∧ i ≤ (V.map (·.1)).length ∧ sat (ownS 9 1 ka (V.map (·.1)).length kc ((V.map (·.1)).map Value.string) :: sinkB b fsb lb (n : Int) (bs.length : Int) :: [old h0]) h9) (fun s => (V.map (·.1)).length - s.toNat) (fun k s h2 hh => ⟨hh.2.1, by rw [hh.1]; omega⟩)
    ⟨rfl, Nat.zero_le _, H8.ord [0, 2, 5]⟩ ?_ ?_
   · rintro i s h9 again3 hi ⟨rfl, _, H9⟩ go;rw [decide_eq_true (show ((i : Int) < ((V.map (·.1)).length : Int)) by omega), cond_true];obtain ⟨k, hk⟩ : ∃ x, (V.map (·.1))[i]? = some x := ⟨_, List.getElem?_eq_getElem hi⟩
     obtain ⟨q, hq, hqk⟩ := List.mem_map.1 (List.mem_of_getElem? hk);obtain ⟨id, p, hid, hpn, hkn⟩ := hnm q hq;rw [hqk] at hkn;refine LoopH.upto bs.length (fun j (s : Bool × Int) h10 => s.2 = (j : Int) ∧ j ≤ bs.length ∧ (id < j → s.1 = true) ∧ sat (ownS 9 1 ka (V.map (·.1)).length kc ((V.map (·.1)).map Value.string) :: sinkB b fsb lb (n : Int) (bs.length : Int) :: [old h0]) h10) (fun s => bs.length - s.2.toNat) (fun k s h2 hh => ⟨hh.2.1, by rw [hh.1]; omega⟩)
      ⟨rfl, Nat.zero_le _, fun h => absurd h (Nat.not_lt_zero _), H9⟩ ?_ ?_
     · rintro j ⟨s1, s2⟩ h10 again4 hj ⟨rfl, _, hsj, H10⟩ go4;refine (F11_spec (H10.mv 1)).mono ?_;rintro v h11 ⟨rfl, rfl⟩;refine ⟨_, rfl, ?_⟩;dsimp only at hsj ⊢;rw [decide_eq_true (show ((j : Int) < (bs.length : Int)) by omega), cond_true];refine LoopH.upto n (fun m (s : Bool × Int) h11 => s.2 = (m : Int) ∧ m ≤ n ∧ (id < j ∨ (id = j ∧ p < m) → s.1 = true) ∧ sat (ownS 9 1 ka (V.map (·.1)).length kc ((V.map (·.1)).map Value.string) :: sinkB b fsb lb (n : Int) (bs.length : Int) :: [old h0]) h11) (fun s => n - s.2.toNat) (fun k s h2 hh => ⟨hh.2.1, by rw [hh.1]; omega⟩)
        ⟨rfl, Nat.zero_le _, fun h => hsj (by omega), H10⟩ ?_ ?_
       · rintro m ⟨t1, t2⟩ h11 again5 hm ⟨rfl, _, htm, H11⟩ go5;dsimp only at htm ⊢;rw [decide_eq_true (show ((m : Int) < (n : Int)) by omega), cond_true]
         cases t1 with
         | true =>
           rw [cond_true, wrap64_succ (by omega)];exact ⟨rfl, rfl, rfl, rfl, go5 _ _ ⟨rfl, by omega, fun _ => rfl, H11⟩⟩
         | false =>
           rw [cond_false];have hki : ((V.map (·.1)).map Value.string)[i]? = some (.string k) := by rw [List.getElem?_map, hk]; rfl
           refine IdxA_nat (v := .string k) (ownS_read H11) (by rw [List.length_map]) hki fun x hx hc => CStr hc ?_;refine (F20_spec (p := m) (by omega) H11).mono ?_;rintro v h12 ⟨rfl, H12⟩;rw [DS_string, wrap64_succ (by omega)];obtain ⟨x2, hx2, hc2⟩ := (ownS_read H12).nilOr hki;have e2 : x2 = x := Option.some.inj (hx2.symm.trans hx);rw [e2] at hc2;refine ⟨rfl, rfl, ⟨x, hx, by omega, by omega, ?_⟩, CStr hc2 rfl, ?_⟩
           · rw [Int.toNat_natCast, Nat.mul_one]
             rfl
           · refine go5 _ _ ⟨rfl, by omega, fun h => ?_, H12⟩;dsimp only;have : id = j ∧ p = m := by
              rcases h with h | ⟨h1, h2⟩
              · exact absurd (htm (.inl h)) (by decide)
              · rcases Nat.lt_or_ge p m with g | g
                · exact absurd (htm (.inr ⟨h1, g⟩)) (by decide)
                · exact ⟨h1, by omega⟩
             rw [strEq_eq];refine decide_eq_true ?_;rw [hkn, this.1, this.2]
       · rintro ⟨t1, t2⟩ h11 again5 ⟨rfl, _, htm, H11⟩;dsimp only at htm ⊢;rw [decide_eq_false (by omega), cond_false, wrap64_succ (by omega)];exact go4 _ _ ⟨rfl, by omega, fun h => htm (by omega), H11⟩
     · rintro ⟨s1, s2⟩ h10 again4 ⟨rfl, _, hsj, H10⟩;refine (F11_spec (H10.mv 1)).mono ?_;rintro v h11 ⟨rfl, rfl⟩;refine ⟨_, rfl, ?_⟩;dsimp only at hsj ⊢;rw [decide_eq_false (by omega), cond_false];have e1 : s1 = true := hsj hid;rw [e1, Bool.not_true, cond_false, wrap64_succ (by omega)];exact go _ _ ⟨rfl, by omega, H10⟩
   · rintro s h9 again3 ⟨rfl, _, H9⟩;rw [decide_eq_false (by omega), cond_false];exact hQ _ (H9.rest 2)
end
theorem stat_nil (dir : ByteArray) (k : Nat) : AF.stat ⟨dir, [], [], []⟩ k = [] := by unfold AF.stat; rw [List.take_nil]; rfl
theorem durD_new (fs : List AF.File) (dir : ByteArray) : AF.DurD fs ⟨dir, [], [], []⟩ (fun U => U = []) := by
 refine ⟨fun k hk p hp => ?_, fun k hk => ?_, fun p hp => ?_⟩
 · rw [stat_nil] at hp; cases hp
 · rw [stat_nil]; rfl
 · cases hp
theorem er_fuse {A : AF.FS} {m : Nat} (h : A.fuse = none) : er { A with fuse := some m } = A := by
 unfold AF.er
 cases A
 simp only at h
 rw [h]
def fsC : AF.FS := ⟨1048576, 2, none, false, [], [⟨dM, [], [], []⟩, ⟨dO, [], [], []⟩]⟩
section
variable {F : List HProp} {h : Heap} {b fsb lb n : Nat} {A : AF.FS} {M : Meta} {T TO : Dirc} {bs : List (List (List Vl))}
theorem prep_one : AF.FS.prep ⟨1048576, 0, none, false, [], []⟩ dM = (⟨1048576, 1, none, false, [], [⟨dM, [], [], []⟩]⟩, .ok []) := rfl
theorem prep_two : AF.FS.prep ⟨1048576, 1, none, false, [], [⟨dM, [], [], []⟩]⟩ dO = (fsC, .ok []) := rfl
theorem live_openC (hn : 1 ≤ n ∧ n ≤ 4) (H : sat (fsP fsb ⟨1048576, 0, none, false, [], []⟩ :: F) h) :
  CallsH Tryz.prog 10 [ptrV fsb, .int .i64 (n : Int)] h fun v h' => ∃ b lb, v = .tuple #[ptrV b, .int .i64 0] ∧ SI n fsC ⟨dM, [], [], []⟩ [] [] [] ∧ sat (sinkB b fsb lb (n : Int) ((0 : Nat) : Int) :: logM lb fsb ⟨dM, [], [], []⟩ :: fsP fsb fsC :: F) h' := by
 have L0 : Live ⟨1048576, 0, none, false, [], []⟩ := AF.live_new (by decide)
 obtain ⟨u1, e1⟩ := AF.prep_new L0 right_dM rfl (show 0 < 64 by decide)
 obtain ⟨u2, e2⟩ := AF.prep_new u1.live right_dO (u1.gone dO (fun e => dMO e.symm) rfl) (by have := u1.few; show _ < 64; exact Nat.lt_of_le_of_lt this (show 0 + 1 < 64 by decide))
 rw [prep_one] at u1 u2
 rw [prep_two] at u2
 refine (F10_spec (n := n) (N := 0) (M := ⟨dM, [], [], []⟩) (B := ⟨1048576, 1, none, false, [], [⟨dM, [], [], []⟩]⟩) (C := fsC) (ks := []) hn (by decide) rfl (fun p hp => by cases hp) (fun G h1 K => ?_) u1.live.wf (by decide) prep_two rfl H).mono ?_
 · refine (F41_spec (dir := dM) (B := ⟨1048576, 1, none, false, [], [⟨dM, [], [], []⟩]⟩) (ks := []) (S0 := []) (S := []) (D := []) (Fo := []) L0.wf (show 0 + 20000 < 1099511627776 by decide) (by decide) prep_one rfl rfl (.inl ⟨by decide, rfl⟩) K).mono ?_;rintro v h' ⟨lb, rfl, _, _, K'⟩;exact ⟨lb, rfl, K'⟩
 · rintro v h' ⟨b, lb, rfl, _, _, K'⟩;have e0 : (sweepF 0 [] fsC).1 = fsC := rfl;rw [e0] at K';exact ⟨b, lb, rfl, SI.new u2.live (u2.els dM [] dMO u1.here) u2.here, K'⟩
theorem fold_fuK (S : SI n (er A) M T TO bs) (W : A.WF) (DM : Dur A dM (fun U => U = T)) (DO : Dur A dO (fun U => U = TO)) (hb : 1 ≤ bs.length) (hb2 : bs.length ≤ 100) (hs : A.steps + 9000 < 1099511627776) (hS : M.S.length < 4000)
  (H : sat (sinkB b fsb lb (n : Int) ((bs.length : Nat) : Int) :: logM lb fsb M :: fsP fsb A :: F) h) :
  CallsH Tryz.prog 13 [ptrV b] h fun v h' => ∃ (e : Nat) (A' : AF.FS) (M' : Meta), v = .int .i64 (e : Int) ∧ A'.WF ∧ A'.steps ≤ A.steps + 8100 ∧ sat (sinkB b fsb lb (n : Int) ((bs.length : Nat) : Int) :: logM lb fsb M' :: fsP fsb A' :: F) h' ∧
   ((e = 0 ∧ ∃ T', SI n (er A') M' T' TO bs ∧ M'.S.length ≤ M.S.length ∧ A'.steps ≤ A.steps + (M.S.length + 8) ∧ Dur A' dM (fun U => U = T') ∧ Dur A' dO (fun U => U = TO)) ∨
    (e ≠ 0 ∧ Dur A' dM (fun U => ∃ M', GoodU n M' U TO bs) ∧ Dur A' dO (fun U => U = TO))) := by
 apply F13_ok.ap
 unfold F13
 rw [show (some (⟨b, 0, none⟩ : Addr)).isNone = false from rfl, cond_false, NN'_some]
 refine LdInt (i := 3) H rfl ?_
 rw [kne (by omega), cond_false, NN'_some]
 refine LdPt (i := 1) (x := lb) H rfl ?_
 rw [NN'_some]
 refine LdInt (i := 3) H rfl ?_
 rw [IntWalk.i64_in _ (by omega)]
 have hfo : M.Fo.length ≤ 1 := by rcases S.inv.fold with ⟨e, _⟩ | ⟨_, e⟩ <;> rw [e] <;> simp
 have hwt : AF.wt M.entries ≤ 5100 * 100 := Nat.le_trans S.wt (by omega)
 have hle := AF.len_wt M.entries
 obtain ⟨K1, W1⟩ := metaFold_kept W M ((bs.length : Int) - 1) (fun p hp => (S.inv.okE p hp).2.1)
 have DO1 := K1.dur W (by rw [S.dir]; exact fun e => dMO e.symm) DO
 refine (F48_spec (upto := (bs.length : Int) - 1) W (by omega) (by rw [S.dir]; decide) (fun p hp => ⟨(S.inv.okE p hp).1.1, (S.inv.okE p hp).2.1, by have := (S.inv.okE p hp).2.2; omega⟩) (by omega) (fun m => ?_) (H.mv 1 |>.ordT 3 [0, 2, 1])).mono ?_
 · have h1 : AF.wt (upTo M.entries m) ≤ AF.wt M.entries := AF.wt_filter _ _;have h2 := AF.len_wt (upTo M.entries m);have := AF.pairsE_wt (E := upTo M.entries m) (fun p hp => (S.inv.okE p (List.mem_filter.1 hp).1).2.2) (by omega);omega
 rintro v h' ⟨rfl, _, hs2, H'⟩
 refine ⟨_, rfl, _, _, _, rfl, W1, ?_, H'.ordT 3 [2, 0, 1], ?_⟩
 · omega
 · rcases S.fold_fu W DM ((bs.length : Int) - 1) hwt (by decide) hS with ⟨A', M', T', e, e1, he, hne, S', hent, hSl, hst, D'⟩ | ⟨e1, D'⟩
   · rw [e1] at DO1 ⊢;have he0 : e = 0 := by
      rcases he with h | h
      · exact h
      · have := hne h ((0 : Nat), (M.get ((0 : Nat) : Int)).getD []) (by rw [S.ent]; exact List.mem_of_getElem? (entN_get M _ 0 (by omega)));simp only at this;omega
     subst he0;exact .inl ⟨rfl, T', S', hSl, hst, D', DO1⟩
   · exact .inr ⟨e1, D', DO1⟩
end
structure KS (n i : Nat) (A : AF.FS) (M : Meta) (T TO : Dirc) (bss : List (List (List Vl))) : Prop where
 wf : A.WF
 si : SI n (er A) M T TO (bss.take i)
 dm : Dur A dM (fun U => U = T)
 dd : Dur A dO (fun U => U = TO)
 sl : M.S.length ≤ i
 steps : A.steps ≤ 100 + i * 100
set_option maxHeartbeats 4000000 in
theorem SinkKeeps_law {la pka : Option Addr} {ll lc pa fu pl pc : Nat} {fo : Int} {ps : List Int} {bss : List (List (List Vl))} {us : List Value} {h : Heap} {m : Int} (hm : cellAt h ⟨0, 0, none⟩ = some (.int .i64 m)) (R : InRows h la ll bss us) (hpa : pa < 256) (hfu : fu < 256) (hr : RdC h pka (ps.map iv)) (hpl : ps.length = pl) (hpc : pl ≤ pc) :
  CallsH Tryz.prog 5 [.slice la ll lc, .int .u8 (pa : Int), .int .u16 fo, .int .u8 (fu : Int), .slice pka pl pc] h (Good h) := by
 refine F5_ok ((?_ : ∀ Q : Value → Heap → Prop, (∀ v h', (v = .bool true ∧ sat [old h] h') → Q v h') → F5 la ll lc (pa : Int) fo (fu : Int) pka pl pc h Q) _ fun v h' hh => by rw [hh.1]; exact good_of hh.2)
 intro Q hQ
 have hQ1 : ∀ h', sat [old h] h' → Q (.bool true) h' := fun h' hh => hQ _ _ ⟨rfl, hh⟩
 unfold F5
 refine (F7_spec (old_glo hm (sat_old h))).mono ?_
 rintro v h1 ⟨rfl, H1⟩
 rw [DB_bool, Bool.not_true, cond_false]
 by_cases h12 : 12 < ll
 · rw [decide_eq_true (show ((ll : Int) > 12) by omega), cond_true];exact hQ1 _ H1.drop
 rw [decide_eq_false (show ¬ ((ll : Int) > 12) by omega), cond_false]
 by_cases hp100 : 100 < pl
 · rw [decide_eq_true (show ((pl : Int) > 100) by omega), cond_true];exact hQ1 _ H1.drop
 rw [decide_eq_false (show ¬ ((pl : Int) > 100) by omega), cond_false]
 refine ⟨by decide, ?_⟩
 have hp := pks_old hr hpl hpc
 refine (F14_spec (room := 1048576) H1 (by decide)).mono ?_
 rintro v h2 ⟨fsb, rfl, H2⟩
 refine ⟨some ⟨fsb, 0, none⟩, 0, rfl, ?_⟩
 obtain ⟨n, hn⟩ : ∃ n, n = 1 + pa % 4 := ⟨_, rfl⟩
 have hn4 : 1 ≤ n ∧ n ≤ 4 := by omega
 have key : ∀ {A : AF.FS} {d : Nat} {PM PO : Dirc → Prop} {h' : Heap}, d ≤ ll → A.WF → A.steps ≤ 100000 → Dur A dM PM → Dur A dO PO → (∀ U V, PM U → PO V → KeepD n d bss U V) → sat (fsP fsb A :: glo :: [old h]) h' → keepK la ll (pa : Int) pka pl pc (some ⟨fsb, 0, none⟩) (d : Int) h' Q :=
  fun hd W hs DM DO good H => keepK_spec hQ1 R hp hn hpa (by omega) hd W (by omega) DM DO good H
 have e4 := four_parts hn hpa
 have hopen : ∀ P, CallsH Tryz.prog 10 [ptrV fsb, .int .i64 (n : Int)] h2 P → CallsH Tryz.prog 10 [ptrV fsb, .int .i64 (IntKind.wrap .i64 (1 + (Int.tmod (IntKind.wrap .i64 (pa : Int)) 4)))] h2 P := fun P hh => by rw [e4]; exact hh
 refine hopen _ ((live_openC (n := n) hn4 H2).mono ?_)
 rintro v h3 ⟨b, lb, rfl, S0, H3⟩
 refine ⟨some ⟨b, 0, none⟩, 0, rfl, ?_⟩
 rw [show ((0 : Int) != 0) = false from rfl, cond_false, show IntKind.wrap .i64 (fu : Int) = (fu : Int) from IntWalk.i64_in _ (by omega)]
 refine (F18_spec (n := (fu : Int)) (H3.mv 2)).mono ?_
 rw [set_fuse]
 rintro v h4 ⟨rfl, H4⟩
 refine ⟨_, rfl, ?_⟩
 have W0 : ({ fsC with fuse := some fu } : AF.FS).WF := by
  have := S0.inv.live.wf.setFuse (n := (fu : Int)) (by omega);rw [set_fuse] at this;exact this
 have K0 : KS n 0 { fsC with fuse := some fu } ⟨dM, [], [], []⟩ [] [] bss :=
  ⟨W0, by rw [er_fuse rfl]; exact S0, ⟨0, ⟨dM, [], [], []⟩, rfl, rfl, durD_new _ _⟩, ⟨1, ⟨dO, [], [], []⟩, rfl, rfl, durD_new _ _⟩, Nat.le_refl _, (show 2 ≤ 100 by decide)⟩
 refine LoopH.upto ll (fun i (s : Int × Int) h5 => s = ((i : Int), (i : Int)) ∧ i ≤ ll ∧ ∃ A M T TO, KS n i A M T TO bss ∧ sat (sinkB b fsb lb (n : Int) (i : Int) :: logM lb fsb M :: fsP fsb A :: glo :: [old h]) h5) (fun s => ll - s.2.toNat) (fun i s h2 hh => ⟨hh.2.1, by rw [hh.1]; omega⟩)
  ⟨rfl, Nat.zero_le _, _, _, _, _, K0, H4.ordT 3 [1, 2, 0]⟩ ?_ ?_
 · rintro i s h5 again hi ⟨rfl, _, A, M, T, TO, K, H5⟩ go;have hst := K.steps;have hsl := K.sl;have S := K.si;dsimp only;rw [decide_eq_true (show ((i : Int) < (ll : Int)) by omega), cond_true];obtain ⟨rs, ra, rc, ws, hrs, hu, hrd, rd⟩ := R.at hi;have hlen : (bss.take i).length = i := by rw [List.length_take, R.len]; omega
   have htake : bss.take (i + 1) = bss.take i ++ [rs] := by rw [List.take_add_one, hrs]; rfl
   have hlen1 : (bss.take (i + 1)).length = i + 1 := by rw [List.length_take, R.len]; omega
   have n2 := R.nums rs (List.mem_of_getElem? hrs);refine rd (H5.mv 4) ?_;refine (F15_spec (c := rc) (rs := rs) (vs := ws) (fun h' (K : sat (sinkB b fsb lb (n : Int) (i : Int) :: logM lb fsb M :: fsP fsb A :: glo :: [old h]) h') => hrd h' (sat_one (K.mv 4))) rfl H5).mono ?_;rintro v h6 ⟨big, rfl, hbig, H6⟩;rw [DB_bool]
   cases big with
   | true =>
     rw [cond_true];exact hQ1 _ (sat_one (H6.mv 4))
   | false =>
   rw [cond_false];have h60 := hbig rfl;refine rd (H6.mv 4) ?_;have hg : M.get (i : Int) = none := (S.keys _).2 (by rw [hlen]; omega);refine (F12_spec (next := (i : Int)) (ra := ra) (rc := rc) (rl := rs.length) (rs := rs) (vs := ws) (F := [old h]) hn4 K.wf (by omega) (by rw [S.dir]; decide) (fun x hx => by rw [hg] at hx; cases hx) (by omega) (fun h' K => hrd h' (sat_one (K.mv 1))) rfl h60 n2 H6).mono ?_;rintro v h7 (⟨_, rfl, H7⟩ | ⟨hrok, D, hD, rfl, W7, hs7, H7⟩)
   · refine ⟨41, rfl, ?_⟩;dsimp only;rw [show ((41 : Int) == 41) = true from rfl, cond_true];exact hQ1 _ (sat_one (H7.mv 4))
   refine ⟨_, rfl, ?_⟩;dsimp only
   cases h41 : (((addM (i : Int) D A M).2.2 : Nat) : Int) == 41 with
   | true =>
     rw [cond_true];exact hQ1 _ (sat_one (H7.mv 4))
   | false =>
   rw [cond_false];have hadd := S.add_fu K.wf K.dm K.dd hD hrok (by omega) (by omega);rw [hlen] at hadd
   rcases hadd with ⟨A', M', T', TO', ea, S', hst', hsl', DM', DO'⟩ | ⟨ea, PM, PO, DM', DO', good⟩
   rotate_left
   · rw [show ((((addM (i : Int) D A M).2.2 : Nat) : Int) != 0) = true from err_bne ea, cond_true];refine key (by omega) W7 (by omega) DM' DO' (fun U V hU hV => ?_) (H7.ordT 5 [2, 3, 4]);obtain ⟨M', bs', G, hb⟩ := good U V hU hV;refine ⟨M', bs', G, ?_⟩
     rcases hb with hb | hb
     · exact .inl hb
     · exact .inr ⟨by rw [R.len]; omega, by rw [htake]; exact hb⟩
   rw [ea] at W7 hs7 H7 ⊢;dsimp only at W7 hs7 H7 ⊢;rw [if_pos rfl] at H7;rw [show (((0 : Nat) : Int) != 0) = false from rfl, cond_false];rw [← htake] at S';refine ⟨by rw [IntKind.wrap_u64]; omega, ?_⟩;have H8 : sat (sinkB b fsb lb (n : Int) ((i + 1 : Nat) : Int) :: logM lb fsb M' :: fsP fsb A' :: glo :: [old h]) h7 := H7;have e1 : IntKind.wrap .i64 ((i : Int) + 1) = ((i + 1 : Nat) : Int) := wrap64_succ (by omega)
   cases hbit : (bitsI .and .u16 (shrI .u16 fo (IntKind.wrap .u64 (i : Int))) 1 : Int) == 1 with
   | false =>
     rw [cond_false, e1];exact go _ _ ⟨rfl, by omega, A', M', T', TO', ⟨W7, S', DM', DO', by omega, by omega⟩, H8⟩
   | true =>
     rw [cond_true];have := fold_fuK (F := glo :: [old h]) (b := b) (fsb := fsb) (lb := lb) S' W7 DM' DO' (by omega) (by omega) (by omega) (by omega) (h := h7) (by rw [hlen1]; exact H8);rw [hlen1] at this;refine this.mono ?_;rintro v h8 ⟨e, A2, M2, rfl, W2, hs2, H9, hc⟩;refine ⟨_, rfl, ?_⟩;dsimp only
     rcases hc with ⟨rfl, T2, S2, hsl2, hst2, DM2, DO2⟩ | ⟨he, DM2, DO2⟩
     · rw [show (((0 : Nat) : Int) != 0) = false from rfl, cond_false, e1];exact go _ _ ⟨rfl, by omega, A2, M2, T2, TO', ⟨W2, S2, DM2, DO2, by omega, by omega⟩, H9⟩
     · rw [show (((e : Nat) : Int) != 0) = true from err_bne he, cond_true, e1];refine key (d := i + 1) (by omega) W2 (by omega) DM2 DO2 (fun U V hU hV => ?_) (H9.ordT 5 [2, 3, 4]);obtain ⟨M3, G⟩ := hU;rw [hV];exact ⟨M3, _, G, .inl rfl⟩
 · rintro s h5 again ⟨rfl, _, A, M, T, TO, K, H5⟩;have hst := K.steps;dsimp only;rw [decide_eq_false (by omega), cond_false];refine key (Nat.le_refl _) K.wf (by omega) K.dm K.dd (fun U V hU hV => ?_) (H5.ordT 5 [2, 3, 4]);rw [hU, hV];exact ⟨M, _, K.si.good, .inl rfl⟩
open Go Go.RowKit Go.ChangeShapes Go.WideShapes Go.ChangeAt
section
variable {H : Type} {enc : TypeId × Value → H} {P : Program} {w : World} {base : Nat} {spare : Nat → Bool} {held : Bool}
theorem nums_openC {k : IntKind} {r : Reach} {b0 : Nat} {t e : TypeId} {v : Value} {d : DataW H} {p : List MemPlace}
  (ht : P.underlying t = some (.slice e)) (he : P.underlying e = some (.int k)) (hc : P.cellsOf e = 1) (hv : Value.okWide P w r b0 t v) (h : DataW.Trod enc P w base spare held t v d p) :
  ∃ (a : Option Addr) (l c : Nat) (zs : List Int), v = .slice a l c ∧ zs.length = l ∧ RdC w.heap a (zs.map (Value.int k)) ∧ l ≤ c := by
 obtain ⟨a, l, c, rfl⟩ := okWide_slice ht hv
 obtain ⟨fuel, hf⟩ := h
 rcases open_ints ht he hc hf with ⟨hcs, _⟩ | ⟨a', len, cap, zs, hcs, _, hl, hm, hz, _, hcell, hwf⟩
 · simp [Value.cells] at hcs;obtain ⟨rfl, rfl, rfl⟩ := hcs;exact ⟨none, 0, 0, [], rfl, rfl, rfl, Nat.le_refl _⟩
 · simp [Value.cells] at hcs;obtain ⟨rfl, rfl, rfl⟩ := hcs;have hzl : l ≤ zs.length := by
    rw [hz];split <;> omega
   refine ⟨some a', l, c, zs.take l, rfl, by rw [List.length_take]; omega, ?_, hl⟩;intro j v hv;rw [List.getElem?_map, List.getElem?_take] at hv;split at hv
   · rename_i hj;have h2 := hcell j (by omega);rw [List.getElem?_eq_getElem (by omega)] at hv;simp only [Option.map_some, Option.some.injEq] at hv;rw [cell_world, List.getD_eq_getElem?_getD, List.getElem?_eq_getElem (by omega)] at h2;rw [h2, ← hv]
     rfl
   · cases hv
end
end Go.Proofs.YtibdiikcigokjaaGreatDoor
