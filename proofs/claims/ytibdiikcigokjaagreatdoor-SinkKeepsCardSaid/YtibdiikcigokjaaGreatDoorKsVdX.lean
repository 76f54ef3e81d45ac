/- All's own function; ranges over All; Last; what no log answers. -/
import Derived.Test.YtibdiikcigokjaaGreatDoorKsMdX
import Derived.Test.YtibdiikcigokjaaGreatDoorKsTs
import Derived.Test.YtibdiikcigokjaaGreatDoorKsVcX
namespace Go.Proofs.YtibdiikcigokjaaGreatDoor
open Go Go.RowKit Go.MapKept
set_option linter.unusedVariables false
set_option linter.unusedSimpArgs false
open AF (Meta copyT topT nmI Ent IdOk MInv Live Has Upd Dirc)
theorem range_all {P : Program} {f : FuncId} {first cap : Array Value} {np : Nat} {h : Heap} {B : Nat → (LoopState → Option Code → Obj) → List Value → Heap → (Value → Heap → Prop) → Prop} {A : Option Code → Heap → Prop} {α : Type}
  (s : List α) (Hand : α → List Value → HProp) (G : Nat → List HProp) (X : Code → HProp) (K0 : HProp) (H : sat (K0 :: G 0) h) (hnp : ∀ x args F h, sat (Hand x args :: F) h → args.length = np)
  (iter : ∀ (yf : Fn) (yp yc : Array Value) (G' : Nat → List HProp) (X' : HProp) (Out : Heap → Prop) (h1 : Heap), sat (K0 :: G' 0) h1 →
   (∀ (K : HProp) i x args h2, s[i]? = some x → sat (Hand x args :: K :: G' i) h2 → CallV P (.func yf yp yc) args h2 fun r h3 => ∃ go, r = .bool go ∧ (go = true → sat (K :: G' (i + 1)) h3) ∧ (go = false → sat [K, X'] h3)) →
   (∀ (K : HProp) h2, sat (K :: G' s.length) h2 → Out h2) → (∀ (K : HProp) h2, sat [K, X'] h2 → Out h2) → CallsH P f (first.toList ++ [.func yf yp yc] ++ cap.toList) h1 fun _ h' => Out h')
  (round : ∀ (K : HProp) i x args (L : Nat) (rec : LoopState → Option Code → Obj) (h2 : Heap) (Q : Value → Heap → Prop), s[i]? = some x → sat (pt L (rec .ready none) :: markD h.size :: Hand x args :: K :: G i) h2 →
   (∀ h3, sat (pt L (rec .busy none) :: markD h.size :: K :: G (i + 1)) h3 → h3[L]? = some (rec .busy none) ∧ Q (.bool true) (h3.setIfInBounds L (rec .ready none))) →
   (∀ j h3, sat (pt L (rec .busy none) :: markD h.size :: K :: [X j]) h3 → h3[L]? = some (rec .busy none) ∧ Q (.bool false) (h3.setIfInBounds L (rec .done (some j)))) → B L rec args h2 Q)
  (after : ∀ (K : HProp) h2, sat (markD h.size :: K :: G s.length) h2 → A none h2) (afterX : ∀ (K : HProp) j h2, sat (markD h.size :: K :: [X j]) h2 → A (some j) h2) :
  RangeFn P (.func (.func f) first cap) np none h B A := by
 intro rec hrec hy
 refine CallF_fn ?_
 have H3 := (H.push (.deferred (some []))).push (rec .ready none)
 rw [Array.size_push] at H3
 refine (iter _ _ _ (fun i => pt (h.size + 1) (rec .ready none) :: markD h.size :: G i) (exi fun j : Code => Many [pt (h.size + 1) (rec .done (some j)), markD h.size, X j])
  (fun h2 => ∃ st pend, h2[h.size + 1]? = some (rec st pend) ∧ st ≠ .busy ∧ A pend (h2.setIfInBounds (h.size + 1) (rec .exhausted pend))) _ (H3.mv 2) ?_ ?_ ?_).mono fun _ _ hh => hh
 · intro K i x args h2 hx H2;refine CallV_yield ?_;have HL := (H2.mv 2).get;have H4 : sat (pt (h.size + 1) (rec .ready none) :: markD h.size :: Hand x args :: K :: G i) h2 := (H2.mv 3).mv 3;refine hy _ _ _ (hnp _ _ _ _ H2) HL (round K i x args _ rec h2 _ hx H4 ?_ ?_)
   · intro h3 H3;refine ⟨H3.get, true, rfl, fun _ => ?_, fun e => by cases e⟩;exact (H3.set (rec .ready none)).mv 2
   · intro j h3 H3;refine ⟨H3.get, false, rfl, (fun e => by cases e), fun _ => ?_⟩;have H5 : sat (pt (h.size + 1) (rec .done (some j)) :: markD h.size :: X j :: [K]) _ := (H3.set (rec .done (some j))).ordT 4 [0, 1, 3, 2];exact (sat_exi.2 ⟨j, sat.shut (m := [_, _, _]) H5⟩ : sat (exi _ :: [K]) _).mv 1
 · intro K h2 H2;have H5 := H2.mv 1;refine ⟨.ready, none, H5.get, by decide, after K _ ?_⟩;exact ((H5.set (rec .exhausted none)).drop.mv 1)
 · intro K h2 H2;obtain ⟨j, H3⟩ := sat_exi.1 (H2.mv 1);have H4 := H3.open;refine ⟨.done, some j, H4.get, by decide, afterX K j _ ?_⟩;have H5 := (H4.set (rec .exhausted (some j))).drop;exact H5.ordT 3 [0, 2, 1]
abbrev AllK (cb eb : Nat) (T : Ent) : HProp := Many [pt cb (.cells #[.map (some eb)] 214 (0, 0)), tabM Bs eb T]
abbrev HandA (x : Int × List Nat) (args : List Value) : HProp := exi fun q : Option Addr × Nat => Many [pur (args = [.int .i64 x.1, .slice q.1 x.2.length q.2]), ownS 5 1 q.1 x.2.length q.2 (x.2.map nv)]
theorem HandA_open {x : Int × List Nat} {args : List Value} {F : List HProp} {h : Heap} (H : sat (HandA x args :: F) h) : ∃ a c, args = [.int .i64 x.1, .slice a x.2.length c] ∧ sat (ownS 5 1 a x.2.length c (x.2.map nv) :: F) h := by
 obtain ⟨⟨a, c⟩, H2⟩ := sat_exi.1 H
 obtain ⟨e, H3⟩ := sat_pur.1 H2.open
 exact ⟨a, c, e, H3⟩
theorem HandA_len (x : Int × List Nat) (args : List Value) (F : List HProp) (h : Heap) (H : sat (HandA x args :: F) h) : args.length = 2 := by
 obtain ⟨a, c, rfl, _⟩ := HandA_open H
 rfl
theorem HandA_shut {x : Int × List Nat} {a : Option Addr} {c : Nat} {F : List HProp} {h : Heap} (H : sat (ownS 5 1 a x.2.length c (x.2.map nv) :: F) h) : sat (HandA x [.int .i64 x.1, .slice a x.2.length c] :: F) h :=
 sat_exi.2 ⟨(a, c), sat.shut (m := [_, _]) (sat_pur.2 ⟨rfl, H⟩)⟩
set_option maxHeartbeats 1000000 in
theorem F125_iter {cb eb : Nat} {T : Ent} (hT : T.length < 1099511627776) (hb : ∀ p ∈ T, p.2.length ≤ 140737488355328) (yf : Fn) (yp yc : Array Value) (G' : Nat → List HProp) (X' : HProp) (Out : Heap → Prop) (h1 : Heap) (H : sat (AllK cb eb T :: G' 0) h1)
  (round : ∀ (K : HProp) i x args h2, T[i]? = some x → sat (HandA x args :: K :: G' i) h2 → CallV Tryz.prog (.func yf yp yc) args h2 fun r h3 => ∃ go, r = .bool go ∧ (go = true → sat (K :: G' (i + 1)) h3) ∧ (go = false → sat [K, X'] h3))
  (fin : ∀ (K : HProp) h2, sat (K :: G' T.length) h2 → Out h2) (finX : ∀ (K : HProp) h2, sat [K, X'] h2 → Out h2) :
  CallsH Tryz.prog 125 [.func yf yp yc, .pointer (some ⟨cb, 0, none⟩)] h1 fun _ h' => Out h' := by
 apply F125_ok.ap
 unfold F125
 refine Al_sat H fun b0 h2 H2 => ?_
 have H3 := (H2.mv 1).open
 refine VMp H3.get ?_
 refine (F126_rise (H3.mv 1) hT).mono ?_
 rintro v h3 ⟨kb, tb, a, c, s, rfl, hsk, hnd, H4⟩
 have hsl : s.length = T.length := by
  have := congrArg List.length hsk;simpa using this
 refine ⟨_, rfl, ?_⟩
 refine range_iterK s (fun x => [.int .i64 x.1, x.2]) (fun i => riseT Bs kb tb eb a c 214 s i T) (fun i => pt cb (.cells #[.map (some eb)] 214 (0, 0)) :: pt b0 (.cells #[.func yf yp yc] 216 (0, 0)) :: G' i)
  (fun j => [pur (j = .ret), X']) H4 (fun _ => rfl) (fun yv G Out h1 hh r f => F195_rise (by omega) (fun _ => T) bs_slice yv G Out h1 hh r f) ?_ ?_ ?_
 · intro i x L rec h4 Q hx H5 hgo hstop;obtain ⟨n, v⟩ := x;have hi := (List.getElem?_eq_some_iff.1 hx).1;have HL := H5.get;have hn : (T.map (·.1))[i]? = some n := by rw [← hsk, List.getElem?_map, hx]; rfl
   obtain ⟨x, hg, hv⟩ := riseT_val (H5.mv 2) hx;have hTi : T[i]? = some (n, x) := by
    have hu := tabM_up (riseT_tab (H5.mv 2));rw [List.getElem?_map] at hn
    cases hTi : T[i]? with
    | none => rw [hTi] at hn; cases hn
    | some p =>
      rw [hTi] at hn;simp only [Option.map_some, Option.some.injEq] at hn;have h2 : getT T p.1 = some p.2 := mem_getT hu (List.mem_of_getElem? hTi);rw [hn, hg] at h2;cases h2;rw [← hn]
   have H6 := riseT_keep (H5.mv 2) hx hg;obtain ⟨va, vc, rfl, _⟩ := hv;refine ⟨n, va, x.length, vc, rfl, HL, ?_⟩;have H7 := (H6.mv 2).set (rec .busy none);refine ⟨.func yf yp yc, by rw [cellAt_of (H7.mv 5).get]; rfl, .func yf yp yc, rfl, ?_⟩;have hRd := roP_get (H7.mv 1);obtain ⟨va2, vc2, e2, hR⟩ := hRd;cases e2;refine (F108_spec (xs := x) (H7.mv 1).drop hR rfl (hb _ (List.mem_of_getElem? hTi))).mono ?_;rintro v h5 ⟨a5, c5, rfl, H8⟩;rw [DSl_slice];refine ⟨⟨.func yf yp yc, by rw [cellAt_of (H8.mv 5).get]; rfl, .func yf yp yc, rfl, rfl⟩, rfl, ?_⟩;have H9 : sat (Many [pt L (rec .busy none), riseT Bs kb tb eb a c 214 s i T, markD h3.size, pt cb (.cells #[.map (some eb)] 214 (0, 0)), pt b0 (.cells #[.func yf yp yc] 216 (0, 0))] :: HandA (n, x) [.int .i64 n, .slice a5 x.length c5] :: G' i) h5 :=
    sat.shut (m := [_, _, _, _, _]) ((HandA_shut (x := (n, x)) H8).bk 5)
   refine (round _ i (n, x) _ h5 hTi (H9.mv 1)).mono ?_;rintro r h6 ⟨go, rfl, h1, h2⟩;rw [DB_bool]
   cases go with
   | true =>
     rw [Bool.not_true, cond_false];have H10 := (h1 rfl).open;exact hgo h6 ((riseT_next (H10.mv 1)).ordT 5 [1, 2, 0, 3, 4])
   | false =>
     rw [Bool.not_false, cond_true];have H10 : sat [_, _, _, _, _, X'] h6 := (h2 rfl).open;refine hstop .ret h6 ?_;exact (sat_pur.2 ⟨rfl, H10.ord [0, 2, 5]⟩ : sat (pur _ :: _) h6).bk 2
 · intro h4 H5;refine ⟨.inl rfl, fun _ => ?_, fun e => by cases e⟩;rw [hsl] at H5;refine ⟨H5.get, ?_⟩;have H6 := (H5.set (.deferred none)).rest 4;exact fin (pur True) _ (sat_pur.2 ⟨trivial, H6⟩)
 · intro j h4 H5;obtain ⟨rfl, H6⟩ := sat_pur.1 (H5.mv 1);refine ⟨.inr rfl, (fun e => by cases e), fun _ => ⟨H6.get, ?_⟩⟩;exact finX _ _ (H6.set (.deferred none))
section
variable {F : List HProp} {h : Heap} {b fsb : Nat} {M : Meta} {A : AF.FS}
theorem F40_spec (H : sat (logM b fsb M :: F) h) : CallsH Tryz.prog 40 [ptrV b] h fun v h' => ∃ cb eb, v = .func (.func 125) #[] #[.pointer (some ⟨cb, 0, none⟩)] ∧ sat (AllK cb eb M.entries :: logM b fsb M :: F) h' := by
 apply F40_ok.ap
 unfold F40
 refine Al_sat H fun b0 h1 H1 => ?_
 refine Al_sat H1 fun b1 h2 H2 => ?_
 refine StCC H2 (by exact Nat.zero_lt_one) rfl fun h3 H3 => ?_
 rw [show (some (⟨b, 0, none⟩ : Addr)).isNone = false from rfl, Bool.not_false, cond_true]
 refine (F124_spec (H3.mv 2)).mono ?_
 rintro v h4 ⟨eb, rfl, H4⟩
 rw [DM_map]
 refine StCC (H4.mv 2) (by exact Nat.zero_lt_one) rfl fun h5 H5 => ?_
 refine ⟨b1, eb, rfl, sat.shut (m := [_, _]) ?_⟩
 have H6 := H5.ordT 4 [0, 1, 2]
 exact H6
end
open AF (hexN IdOk Meta MInv Live Has Upd Dirc Dur setN getN UpN isTmp Ent)
open Hex (digs)
open Crc (More)
open Frame (packN)
def entN (M : Meta) (N : Nat) : Ent := (List.range N).map fun i : Nat => ((i : Int), (M.get (i : Int)).getD [])
theorem entN_up (M : Meta) (N : Nat) : UpT (entN M N) := by
 unfold entN UpT
 rw [List.pairwise_map]
 exact List.pairwise_lt_range.imp fun h => by simp only; omega
theorem entN_get (M : Meta) (N i : Nat) (h : i < N) : (entN M N)[i]? = some ((i : Int), (M.get (i : Int)).getD []) := by
 unfold entN
 rw [List.getElem?_map, List.getElem?_range h]
 rfl
theorem entN_len (M : Meta) (N : Nat) : (entN M N).length = N := by unfold entN; rw [List.length_map, List.length_range]
section
variable {n : Nat} {A : AF.FS} {M : Meta} {T TO : Dirc} {bs : List (List (List Vl))}
theorem ent_of {M : Meta} {N : Nat} (hup : UpT M.entries) (hg : ∀ k, getT M.entries k = M.get k) (hk : ∀ k : Int, M.get k = none ↔ ¬ (0 ≤ k ∧ k < (N : Int))) : M.entries = entN M N := by
 refine tab_ext2 hup (entN_up M N) fun k => ?_
 rw [hg]
 by_cases h : 0 ≤ k ∧ k < (N : Int)
 · have e : ((k.toNat : Nat) : Int) = k := Int.toNat_of_nonneg h.1;have h1 := entN_get M N k.toNat (by omega);rw [e] at h1;have h2 : getT (entN M N) k = some ((M.get k).getD []) := mem_getT (entN_up M N) (List.mem_of_getElem? h1);rw [h2]
   cases hm : M.get k with
   | none => exact absurd h ((hk k).1 hm)
   | some x => rfl
 · rw [(hk k).2 h];refine (getT_none.2 fun p hp e => ?_).symm;obtain ⟨i, hi, rfl⟩ := List.mem_map.1 hp;have := List.mem_range.1 hi;simp only at e;omega
theorem SI.ent (S : SI n A M T TO bs) : M.entries = entN M bs.length := ent_of S.inv.upE S.inv.getE S.keys
end
def Rss (rs : List (List Vl)) (ws : List Value) (v : Value) (h : Heap) : Prop := ∃ (a : Option Addr) (c : Nat), v = .slice a rs.length c ∧ RdC h a ws ∧ RwsAre rs ws h
def BsAre (bs : List (List (List Vl))) (us : List Value) (wss : List (List Value)) (h : Heap) : Prop := ∀ (i : Nat) rs u ws, bs[i]? = some rs → us[i]? = some u → wss[i]? = some ws → Rss rs ws u h
def uC (x : Nat × Value) : List Value := [.int .i64 (x.1 : Int), x.2]
theorem uC_len (x : Nat × Value) : (uC x).length = 2 := rfl
def idU (us : List Value) : List (Nat × Value) := us.mapIdx fun i u => (i, u)
theorem idU_get (us : List Value) (i : Nat) : (idU us)[i]? = us[i]?.map fun u => (i, u) := by unfold idU; rw [List.getElem?_mapIdx]
theorem idU_len (us : List Value) : (idU us).length = us.length := by unfold idU; rw [List.length_mapIdx]
theorem idU_snoc (us : List Value) (u : Value) : idU (us ++ [u]) = idU us ++ [(us.length, u)] := by unfold idU; rw [List.mapIdx_append]; simp
theorem inf48 : infoSz Tryz.prog 48 2 32 = true := by kernel_rfl
theorem u28 : Tryz.prog.underlying 28 = some (.slice 48) := by kernel_rfl
theorem src28 : srcTy Tryz.prog 28 = true := by kernel_rfl
section
variable {F : List HProp} {h : Heap} {b fsb lb n : Nat} {A : AF.FS} {M : Meta} {T TO : Dirc} {bs : List (List (List Vl))}
def outG (b3 : Nat) (bs : List (List (List Vl))) (i : Nat) : HProp := exi fun q : (Option Addr × Nat) × List Value × List (List Value) => Many [pur (q.2.1.length = i ∧ q.2.2.length = i ∧ ∀ u ∈ q.2.1, u.oneCell' = true), pt b3 (.cells #[.slice q.1.1 i q.1.2] 28 (0, 0)), ownS 48 2 q.1.1 i q.1.2 ((idU q.2.1).flatMap uC), roP (BsAre bs q.2.1 q.2.2)]
theorem outG_open {b3 i : Nat} (H : sat (outG b3 bs i :: F) h) : ∃ a c us wss, us.length = i ∧ wss.length = i ∧ (∀ u ∈ us, u.oneCell' = true) ∧ sat (pt b3 (.cells #[.slice a i c] 28 (0, 0)) :: ownS 48 2 a i c ((idU us).flatMap uC) :: roP (BsAre bs us wss) :: F) h := by
 obtain ⟨⟨⟨a, c⟩, us, wss⟩, H2⟩ := sat_exi.1 H
 obtain ⟨⟨h1, h2, h3⟩, H3⟩ := sat_pur.1 H2.open
 exact ⟨a, c, us, wss, h1, h2, h3, H3⟩
theorem outG_shut {b3 i c : Nat} {a : Option Addr} {us : List Value} {wss : List (List Value)} (h1 : us.length = i) (h1b : wss.length = i) (h2 : ∀ u ∈ us, u.oneCell' = true) (H : sat (pt b3 (.cells #[.slice a i c] 28 (0, 0)) :: ownS 48 2 a i c ((idU us).flatMap uC) :: roP (BsAre bs us wss) :: F) h) : sat (outG b3 bs i :: F) h :=
 sat_exi.2 ⟨((a, c), us, wss), sat.shut (m := [_, _, _, _]) (sat_pur.2 ⟨⟨h1, h1b, h2⟩, H⟩)⟩
set_option maxHeartbeats 1000000 in
theorem F9_gen {next : Int} (L : Live A) (HO : Has A dO TO) (he : M.entries = entN M bs.length) (hv : ∀ p ∈ entN M bs.length, B8 p.2 ∧ p.2.length ≤ 5000) (hE : ∀ (id : Nat) rs, bs[id]? = some rs → BatchIn M TO id rs) (hb : bs.length ≤ 1000) (H : sat (sinkB b fsb lb (n : Int) next :: logM lb fsb M :: fsP fsb A :: F) h) :
  CallsH Tryz.prog 9 [ptrV b] h fun v h' => ∃ a c us wss, v = .tuple #[.slice a bs.length c, .int .i64 0] ∧ us.length = bs.length ∧ wss.length = bs.length ∧
   sat (ownS 48 2 a bs.length c ((idU us).flatMap uC) :: roP (BsAre bs us wss) :: sinkB b fsb lb (n : Int) next :: logM lb fsb M :: fsP fsb A :: F) h' := by
 refine F9_ok ((?_ : ∀ Q : Value → Heap → Prop, (∀ v h', (∃ a c us wss, v = .tuple #[.slice a bs.length c, .int .i64 0] ∧ us.length = bs.length ∧ wss.length = bs.length ∧
   sat (ownS 48 2 a bs.length c ((idU us).flatMap uC) :: roP (BsAre bs us wss) :: sinkB b fsb lb (n : Int) next :: logM lb fsb M :: fsP fsb A :: F) h') → Q v h') → F9 (some ⟨b, 0, none⟩) h Q) _ fun _ _ hh => hh)
 intro Q hQ
 unfold F9
 refine Al_sat H fun b0 h1 H1 => ?_
 refine Al_sat H1 fun b1 h2 H2 => ?_
 refine Al_sat H2 fun b2 h3 H3 => ?_
 refine VPt (x := b) (H3.mv 2).get ?_
 rw [show (some (⟨b, 0, none⟩ : Addr)).isNone = false from rfl, cond_false]
 refine Al_sat H3 fun b3 h4 H4 => ?_
 refine VPt (x := b) (H4.mv 3).get ?_
 rw [NN'_some]
 refine LdPt (i := 1) (x := lb) (H4.mv 4) rfl ?_
 refine (F40_spec (H4.mv 5)).mono ?_
 rintro v h5 ⟨cb, eb, rfl, H5⟩
 refine ⟨_, rfl, ?_⟩
 rw [he] at H5
 have H6 : sat (outG b3 bs 0 :: AllK cb eb (entN M bs.length) :: logM lb fsb M :: pt b2 (.cells #[.int .i64 0] 25 (0, 0)) :: pt b1 (.cells #[.slice none 0 0] 28 (0, 0)) :: pt b0 (.cells #[ptrV b] 23 (0, 0)) :: sinkB b fsb lb (n : Int) next :: fsP fsb A :: F) h5 :=
  outG_shut (us := []) (wss := []) rfl rfl (by simp) ((roP_mono (fun h' _ => fun i rs u ws _ hu => by simp at hu) (roP_true (ownS_nil 48 2 (H5.mv 2)))).ordT 3 [2, 1, 0])
 refine range_all (entN M bs.length) HandA (fun i => outG b3 bs i :: logM lb fsb M :: pt b2 (.cells #[.int .i64 0] 25 (0, 0)) :: pt b1 (.cells #[.slice none 0 0] 28 (0, 0)) :: pt b0 (.cells #[ptrV b] 23 (0, 0)) :: sinkB b fsb lb (n : Int) next :: fsP fsb A :: F) (fun _ => pur False) _ (H6.mv 1) HandA_len
  (fun yf yp yc G X Out h7 hh r f fx => F125_iter (by rw [entN_len]; omega) (fun p hp => by have := (hv p hp).2; omega) yf yp yc G X Out h7 hh r f fx) ?_ ?_ ?_
 · intro K i x args Lx rec h7 Q2 hx K1 hgo hstop;have hi : i < bs.length := by
    have := (List.getElem?_eq_some_iff.1 hx).1
    rwa [entN_len] at this
   rw [entN_get M bs.length i hi] at hx;cases hx;obtain ⟨rs, hrs⟩ : ∃ x, bs[i]? = some x := ⟨_, List.getElem?_eq_getElem hi⟩
   have HL := K1.get;obtain ⟨a, c, rfl, K2⟩ := HandA_open (K1.mv 2);refine ⟨(i : Int), a, _, c, rfl, HL, ?_⟩;have K3 := (K2.mv 1).set (rec .busy none);refine VPt (x := b) (K3.mv 8).get ?_;obtain ⟨hrok, fs, ds, g1, g2, g3⟩ := (hE i rs hrs).filed L HO;have g4 : (pairsN fs).length ≤ 5000 := by
    have h := (hv _ (List.mem_of_getElem? (entN_get M bs.length i hi))).2;simp only [g1] at h;exact h
   refine (F8_gen L.wf g4 g1 g3 g2 hrok (K3.ordT 11 [9, 5, 10, 0, 2, 3, 4, 6, 7, 8])).mono ?_;rintro v h8 ⟨oa, oc, vs, rfl, K4⟩;refine ⟨oa, _, oc, 0, rfl, ?_⟩;rw [show ((0 : Int) != 0) = false from rfl, cond_false];obtain ⟨xa, xc, us, wss, hul, hwl, hu1, K5⟩ := outG_open (K4.mv 8);refine VSl K5.get ?_;refine Al_sat K5 fun b4 h9 K6 => ?_;refine appendN u28 src28 inf48 (K6.mv 2) (n := 1) (ys := uC (i, .slice oa rs.length oc)) (srcOf_slice (RdCf K6 rfl) rfl) (by intro u hu; simp [uC] at hu; rcases hu with rfl | rfl <;> rfl) (by omega) fun a' c' h10 _ K7 => ?_;rw [DSl_slice];refine StCC (K7.mv 2) (by exact Nat.zero_lt_one) rfl fun h11 K8 => ?_;have K9 := roP_and (roP_own (K8.mv 4) |>.ordT 6 [0, 5, 1, 2, 4]);have K10 := roP_mono (S := BsAre bs (us ++ [.slice oa rs.length oc]) (wss ++ [vs])) (fun h' hh => fun j r u ws hj hu hw => by
    rw [List.getElem?_append] at hu;split at hu
    · rename_i hlt;rw [List.getElem?_append_left (by omega)] at hw;exact hh.1 j r u ws hj hu hw
    · rename_i hlt;have hjl : j = i := by
       have := (List.getElem?_eq_some_iff.1 hu).1;simp only [List.length_singleton] at this;omega
      subst hjl;rw [hrs] at hj;cases hj;rw [hul, Nat.sub_self] at hu;cases hu;rw [List.getElem?_append_right (by omega), hwl, Nat.sub_self] at hw;cases hw;exact ⟨oa, oc, rfl, hh.2.1, hh.2.2⟩) (roP_and (K9.ordT 4 [3, 0, 1, 2]))
   have K11 : sat (outG b3 bs (i + 1) :: _) h11 := outG_shut (us := us ++ [.slice oa rs.length oc]) (wss := wss ++ [vs]) (a := a') (c := c') (by rw [List.length_append, hul]; rfl) (by rw [List.length_append, hwl]; rfl) (fun u hu => by
    rcases List.mem_append.1 hu with hu | hu
    · exact hu1 u hu
    · simp at hu;rw [hu]
      rfl) (by
    rw [idU_snoc, hul, List.flatMap_append, List.flatMap_cons, List.flatMap_nil, List.append_nil];exact K10.ordT 3 [1, 2, 0])
   exact hgo h11 (K11.ordT 10 [4, 5, 6, 0, 2, 7, 8, 9, 1, 3])
 · intro K h7 K1;rw [entN_len] at K1;refine ⟨.inl rfl, fun _ => ?_, fun e => by cases e⟩;obtain ⟨xa, xc, us, wss, hul, hwl, hu1, K2⟩ := outG_open (K1.mv 2);refine VSl K2.get ?_;refine StCC (K2.mv 7) (by exact Nat.zero_lt_one) rfl fun h8 K3 => ?_;refine StCC (K3.mv 7) (by exact Nat.zero_lt_one) rfl fun h9 K4 => ?_;refine ⟨(K4.mv 5).get, ?_⟩;have K5 := (K4.mv 5).set (.deferred none);refine VSl (K5.mv 2).get ?_;refine VIn (K5.mv 1).get ?_;exact hQ _ _ ⟨xa, xc, us, wss, rfl, hul, hwl, K5.ordT 11 [4, 5, 9, 7, 10]⟩
 · intro K j h7 K1;exact ((sat_pur.1 (K1.mv 2)).1).elim
end
section
variable {F : List HProp} {h : Heap} {b fsb lb n : Nat} {A : AF.FS} {M : Meta} {T TO : Dirc} {bs : List (List (List Vl))}
set_option maxHeartbeats 1000000 in
theorem F10_spec {N : Nat} {B C : AF.FS} {ks : List ByteArray} (hn : 1 ≤ n ∧ n ≤ 4) (hN : N ≤ 1000) (he : M.entries = entN M N) (hv : ∀ p ∈ entN M N, p.2.length ≤ 100000)
  (h41 : ∀ (G : List HProp) (h1 : Heap), sat (fsP fsb A :: G) h1 → CallsH Tryz.prog 41 [ptrV fsb, .string dM] h1 fun v h' => ∃ lb, v = .tuple #[ptrV lb, .int .i64 0] ∧ sat (logM lb fsb M :: fsP fsb B :: G) h')
  (W : B.WF) (hs : B.steps + 30000 < 1099511627776) (hp : B.prep dO = (C, .ok ks)) (hsw : (sweepF N ks C).2 = 0) (H : sat (fsP fsb A :: F) h) :
  CallsH Tryz.prog 10 [ptrV fsb, .int .i64 (n : Int)] h fun v h' => ∃ b lb, v = .tuple #[ptrV b, .int .i64 0] ∧ (sweepF N ks C).1.WF ∧ (sweepF N ks C).1.steps ≤ B.steps + 10001 ∧ sat (sinkB b fsb lb (n : Int) (N : Int) :: logM lb fsb M :: fsP fsb (sweepF N ks C).1 :: F) h' := by
 refine F10_ok ((?_ : ∀ Q : Value → Heap → Prop, (∀ v h', (∃ b lb, v = .tuple #[ptrV b, .int .i64 0] ∧ (sweepF N ks C).1.WF ∧ (sweepF N ks C).1.steps ≤ B.steps + 10001 ∧ sat (sinkB b fsb lb (n : Int) (N : Int) :: logM lb fsb M :: fsP fsb (sweepF N ks C).1 :: F) h') → Q v h') → F10 (some ⟨fsb, 0, none⟩) (n : Int) h Q) _ fun _ _ hh => hh)
 intro Q hQ
 unfold F10
 refine Al_sat H fun b0 h1 H1 => ?_
 refine Al_sat H1 fun b1 h2 H2 => ?_
 rw [decide_eq_false (show ¬ ((n : Int) < 1) by omega), cond_false, decide_eq_false (show ¬ ((n : Int) > 4) by omega), cond_false]
 refine (h41 _ _ (H2.mv 2)).mono ?_
 rintro v h3 ⟨lb, rfl, H3⟩
 refine ⟨some ⟨lb, 0, none⟩, 0, rfl, ?_⟩
 rw [show ((0 : Int) != 0) = false from rfl, cond_false]
 refine Al_sat H3 fun b2 h4 H4 => ?_
 refine Al_sat H4 fun b3 h5 H5 => ?_
 refine StCC (c' := #[ptrV b2]) H5 (by exact Nat.zero_lt_one) rfl fun h6 H6 => ?_
 refine (F40_spec (H6.mv 2)).mono ?_
 rintro v h7 ⟨cb, eb, rfl, H7⟩
 refine ⟨_, rfl, ?_⟩
 rw [he] at H7
 refine range_all (entN M N) HandA (fun i => sinkB b2 fsb lb (n : Int) (i : Int) :: pt b3 (.cells #[ptrV b2] 23 (0, 0)) :: logM lb fsb M :: fsP fsb B :: pt b1 (.cells #[.int .i64 0] 25 (0, 0)) :: pt b0 (.cells #[.pointer none] 23 (0, 0)) :: F) (fun _ => pur False) _ (H7.ordT 7 [0, 3, 2, 1, 4, 5, 6]) HandA_len
  (fun yf yp yc G X Out h7 hh r f fx => F125_iter (by rw [entN_len]; omega) (fun p hp => by have := hv p hp; omega) yf yp yc G X Out h7 hh r f fx) ?_ ?_ ?_
 · intro K i x args Lx rec h8 Q2 hx K1 hgo hstop;have hi : i < N := by
    have := (List.getElem?_eq_some_iff.1 hx).1
    rwa [entN_len] at this
   rw [entN_get M N i hi] at hx;cases hx;have HL := K1.get;obtain ⟨a, c, rfl, K2⟩ := HandA_open (K1.mv 2);refine ⟨(i : Int), a, _, c, rfl, HL, ?_⟩;have K3 := (K2.mv 1).set (rec .busy none);refine VPt (x := b2) (K3.mv 5).get ?_;rw [NN'_some];refine LdInt (i := 3) (K3.mv 4) rfl ?_;rw [show ((i : Int) != (i : Int)) = false from by simp, cond_false];refine VPt (x := b2) (K3.mv 5).get ?_;rw [NN'_some];refine LdInt (i := 3) (K3.mv 4) rfl ?_;rw [NN'_some, addr_add0, wrap64_succ (by omega)];refine StCC (i := 3) (K3.mv 4) (by exact (by decide : 3 < 4)) rfl fun h9 K4 => ?_;exact hgo h9 (K4.ordT 5 [1, 3, 4, 0])
 · intro K h8 K1;rw [entN_len] at K1;refine ⟨.inl rfl, fun _ => ?_, fun e => by cases e⟩;refine VPt (x := b2) (K1.mv 3).get ?_;refine (F42_spec (N := N) W hs hp (by omega) (K1.ordT 6 [2, 5, 0, 1, 3, 4])).mono ?_;rintro v h9 ⟨rfl, W2, hs2, K2⟩;refine ⟨_, rfl, ?_⟩;dsimp only;rw [hsw, show (((0 : Nat) : Int) != 0) = false from rfl, cond_false];refine VPt (x := b2) (K2.mv 4).get ?_;refine StCC (c' := #[ptrV b2]) (K2.mv 7) (by exact Nat.zero_lt_one) rfl fun h10 K3 => ?_;refine StCC (K3.mv 7) (by exact Nat.zero_lt_one) rfl fun h11 K4 => ?_;refine ⟨(K4.mv 4).get, ?_⟩;have K5 := (K4.mv 4).set (.deferred none);refine VPt (x := b2) (K5.mv 2).get ?_;refine VIn (K5.mv 1).get ?_;exact hQ _ _ ⟨b2, lb, rfl, W2, hs2, K5.ordT 8 [3, 7, 4]⟩
 · intro K j h8 K1;exact ((sat_pur.1 (K1.mv 2)).1).elim
theorem right_dM : AF.right dM = true := by decide
theorem right_dO : AF.right dO = true := by decide
theorem live_openS {room : Nat} (hr : room ≤ 1073741824) (hn : 1 ≤ n ∧ n ≤ 4) (H : sat (fsP fsb ⟨room, 0, none, false, [], []⟩ :: F) h) :
  CallsH Tryz.prog 10 [ptrV fsb, .int .i64 (n : Int)] h fun v h' => ∃ b lb A, v = .tuple #[ptrV b, .int .i64 0] ∧ SI n A ⟨dM, [], [], []⟩ [] [] [] ∧ A.room = room ∧ A.used = 0 ∧ A.steps ≤ 10 ∧ sat (sinkB b fsb lb (n : Int) ((0 : Nat) : Int) :: logM lb fsb ⟨dM, [], [], []⟩ :: fsP fsb A :: F) h' := by
 have L0 : Live ⟨room, 0, none, false, [], []⟩ := AF.live_new hr
 obtain ⟨u1, e1⟩ := AF.prep_new L0 right_dM rfl (show 0 < 64 by decide)
 obtain ⟨u2, e2⟩ := AF.prep_new u1.live right_dO (u1.gone dO (fun e => dMO e.symm) rfl) (by have := u1.few; show _ < 64; exact Nat.lt_of_le_of_lt this (show 0 + 1 < 64 by decide))
 have us := u1.used
 have us2 := u2.used
 have ut := u1.steps
 have ut2 := u2.steps
 have z : (⟨room, 0, none, false, [], []⟩ : AF.FS).used = 0 := rfl
 have z2 : (⟨room, 0, none, false, [], []⟩ : AF.FS).steps = 0 := rfl
 refine (F10_spec (n := n) (N := 0) (M := ⟨dM, [], [], []⟩) (B := ((⟨room, 0, none, false, [], []⟩ : AF.FS).prep dM).1) (C := (((⟨room, 0, none, false, [], []⟩ : AF.FS).prep dM).1.prep dO).1) (ks := []) hn (by decide) rfl (fun p hp => by cases hp) (fun G h1 K => ?_) u1.live.wf (by omega) (Prod.ext rfl e2) rfl H).mono ?_
 · refine (F41_spec (dir := dM) (B := ((⟨room, 0, none, false, [], []⟩ : AF.FS).prep dM).1) (ks := []) (S0 := []) (S := []) (D := []) (Fo := []) L0.wf (show 0 + 20000 < 1099511627776 by decide) (by decide) (Prod.ext rfl e1) rfl rfl (.inl ⟨by decide, rfl⟩) K).mono ?_;rintro v h' ⟨lb, rfl, _, _, K'⟩;exact ⟨lb, rfl, K'⟩
 · rintro v h' ⟨b, lb, rfl, _, _, K'⟩;have e0 : (sweepF 0 [] (((⟨room, 0, none, false, [], []⟩ : AF.FS).prep dM).1.prep dO).1).1 = (((⟨room, 0, none, false, [], []⟩ : AF.FS).prep dM).1.prep dO).1 := rfl;rw [e0] at K';refine ⟨b, lb, _, rfl, SI.new u2.live (u2.els dM [] dMO u1.here) u2.here, ?_, ?_, ?_, K'⟩
   · rw [u2.room, u1.room]
   · omega
   · omega
theorem F11_spec {next : Int} (H : sat (sinkB b fsb lb (n : Int) next :: F) h) : CallsH Tryz.prog 11 [ptrV b] h fun v h' => v = .int .i64 next ∧ h' = h := by
 apply F11_ok.ap
 unfold F11
 rw [show (some (⟨b, 0, none⟩ : Addr)).isNone = false from rfl, cond_false, NN'_some]
 exact LdInt (i := 3) H rfl ⟨rfl, rfl⟩
theorem F31_spec2 {m : Int} (H : sat F h) : CallsH Tryz.prog 31 [.int .i64 m] h fun v h' => ∃ b, v = .slice (some ⟨b, 0, none⟩) 1 1 ∧ sat (pt b (.cells #[.int .i64 1, .int .i64 m, .string .empty] 84 (0, 0)) :: F) h' := by
 apply F31_ok.ap
 unfold F31
 refine Al_sat H fun b0 h1 H1 => ⟨b0, rfl, H1⟩
theorem F12_old {id next : Int} {a : Option Addr} {l c : Nat} (h0 : 0 ≤ id) (h1 : id < next) (H : sat (sinkB b fsb lb (n : Int) next :: F) h) : CallsH Tryz.prog 12 [ptrV b, .int .i64 id, .slice a l c] h fun v h' => v = .int .i64 0 ∧ h' = h := by
 apply F12_ok
 unfold F12
 rw [show (some (⟨b, 0, none⟩ : Addr)).isNone = false from rfl, cond_false, decide_eq_false (by omega), cond_false, NN'_some]
 refine LdInt (i := 3) H rfl ?_
 rw [decide_eq_false (by omega), cond_false, NN'_some]
 refine LdInt (i := 3) H rfl ?_
 rw [decide_eq_true h1, cond_true]
 exact ⟨rfl, rfl⟩
theorem F12_far {id next : Int} {a : Option Addr} {l c : Nat} (h0 : 0 ≤ id) (h1 : next < id) (H : sat (sinkB b fsb lb (n : Int) next :: F) h) : CallsH Tryz.prog 12 [ptrV b, .int .i64 id, .slice a l c] h fun v h' => v = .int .i64 240 ∧ h' = h := by
 apply F12_ok
 unfold F12
 rw [show (some (⟨b, 0, none⟩ : Addr)).isNone = false from rfl, cond_false, decide_eq_false (by omega), cond_false, NN'_some]
 refine LdInt (i := 3) H rfl ?_
 rw [decide_eq_true (by omega), cond_true]
 exact ⟨rfl, rfl⟩
end
theorem part_small {n p k : Nat} {rs : List (List Vl)} {D : Nat → Dl} (h : Dealt n rs D) (hr : RowsOk rs) (hp : p < 4) (hk : k ≤ 100) (hs : ∀ r ∈ rs, (rowsB [r]).length ≤ k) : (partB (D p)).length ≤ 1 + rs.length * (18 + k) := by
 obtain ⟨h60, hx⟩ := enc_sizes h hr hp
 have hl := h.len p hp
 unfold partB
 rw [← preN_all]
 unfold preN
 rw [List.length_append, List.length_map]
 have h1 := numB_length 0 (D p).length (by omega)
 have h2 := flat_len (f := fun p : ByteArray × ByteArray => pairB (sb p.1, sb p.2)) (k := 18 + k) (l := (D p).map encP) fun q hq => by
  obtain ⟨x, hxm, rfl⟩ := List.mem_map.1 hq;obtain ⟨g1, g2, g3⟩ := hx x hxm;obtain ⟨e1, _, _, e4⟩ := encP_ok g2 g3;have e5 := hs x.2 (List.mem_of_getElem? g1);have n1 := numB_length 0 (encP x).1.size (by rw [e1]; decide);have n2 := numB_length 0 (encP x).2.size (by rw [e4]; omega);unfold pairB wordB;simp only [List.length_append, sb_length];omega
 rw [List.length_map] at h2
 have : (D p).length * (18 + k) ≤ rs.length * (18 + k) := Nat.mul_le_mul_right _ hl
 omega
section
variable {F : List HProp} {h : Heap} {b fsb lb n : Nat} {A : AF.FS} {M : Meta} {T TO : Dirc} {bs : List (List (List Vl))}
theorem add_live {ra : Option Addr} {rl rc w : Nat} {rs : List (List Vl)} {vs : List Value} (S : SI n A M T TO bs) (hn : 1 ≤ n ∧ n ≤ 4) (hs : A.steps + 1000 < 1099511627776) (hw : w ≤ 170000) (hwD : RowsOk rs → ∀ D, Dealt n rs D → ∀ p, p < 4 → (partB (D p)).length ≤ w) (hu : A.used + (4 * (w + 8) + 300) ≤ A.room) (hb : bs.length ≤ 100) (hS : M.S.length < 4000)
  (hR : ∀ h', sat (glo :: F) h' → RdC h' ra vs ∧ RwsAre rs vs h') (hl : rs.length = rl) (hrl : rl ≤ 60) (hi : ∀ r ∈ rs, r.length ≤ 9223372036854775807 ∧ ∀ x ∈ r, I64 x.n)
  (H : sat (sinkB b fsb lb (n : Int) ((bs.length : Nat) : Int) :: logM lb fsb M :: fsP fsb A :: glo :: F) h) :
  CallsH Tryz.prog 12 [ptrV b, .int .i64 ((bs.length : Nat) : Int), .slice ra rl rc] h fun v h' => ((∃ r ∈ rs, rowOk r = false) ∧ v = .int .i64 41 ∧ sat (sinkB b fsb lb (n : Int) ((bs.length : Nat) : Int) :: logM lb fsb M :: fsP fsb A :: glo :: F) h') ∨
   (RowsOk rs ∧ v = .int .i64 0 ∧ ∃ A' M' T' TO', SI n A' M' T' TO' (bs ++ [rs]) ∧ A'.room = A.room ∧ A'.used ≤ A.used + (4 * (w + 8) + 300) ∧ A'.steps ≤ A.steps + 30 ∧ M'.S.length ≤ M.S.length + 1 ∧
    sat (sinkB b fsb lb (n : Int) (((bs ++ [rs]).length : Nat) : Int) :: logM lb fsb M' :: fsP fsb A' :: glo :: F) h') := by
 have hg : M.get (bs.length : Int) = none := (S.keys _).2 (by omega)
 refine (F12_spec (rc := rc) hn S.inv.live.wf (by omega) (by rw [S.dir]; decide) (fun x hx => by rw [hg] at hx; cases hx) ⟨by omega, by omega⟩ hR hl hrl hi H).mono ?_
 rintro v h' (⟨hbad, rfl, H'⟩ | ⟨hr, D, hD, rfl, _, _, H'⟩)
 · exact .inl ⟨hbad, rfl, H'⟩
 · obtain ⟨A', M', T', TO', e, S', g1, g2, g3, g4⟩ := S.add hD hr hw (hwD hr D hD) hu hb hS;rw [e] at H';rw [e];refine .inr ⟨hr, rfl, A', M', T', TO', S', g1, g2, g3, g4, ?_⟩;rw [List.length_append, List.length_singleton];exact H'
def one (m : Int) : List Vl := [⟨1, m, .empty⟩]
theorem one_bytes {m : Int} (h : 0 ≤ m ∧ m < 60) : (rowsB [one m]).length ≤ 5 := by
 have e : numB (zz m) = [zz m] := numB_small (by unfold zz; rw [if_pos h.1]; omega)
 have e1 : valB ⟨1, m, .empty⟩ = [1, zz m] := by
  unfold valB;rw [if_pos rfl, e]
  rfl
 rw [rows1]
 unfold rowB one
 rw [List.flatMap_cons, List.flatMap_nil, List.append_nil, e1]
 rw [show ([⟨1, m, .empty⟩] : List Vl).length = 1 from rfl, numB_small (show 1 < 128 by decide)]
 exact (by decide : 4 ≤ 5)
theorem one_ok (m : Int) : rowOk (one m) = true := by
 unfold rowOk one
 rw [List.all_cons, List.all_nil, Bool.and_true]
 have : (⟨1, m, .empty⟩ : Vl).chk = 0 := by
  unfold Vl.chk;rw [if_neg (show ¬ (1 : Int) = 0 by decide), if_pos rfl]
  rfl
 rw [this]
 rfl
theorem one_rows (m : Int) (b : Nat) {G : List HProp} {h' : Heap} (K : sat (pt b (.cells #[.int .i64 1, .int .i64 m, .string .empty] 84 (0, 0)) :: G) h') : Rw (one m) (.slice (some ⟨b, 0, none⟩) 1 1) h' :=
 ⟨_, _, rfl, RdCf K rfl⟩
set_option maxHeartbeats 1000000 in
theorem F7_spec (H : sat (glo :: F) h) : CallsH Tryz.prog 7 [] h fun v h' => v = .bool true ∧ sat (glo :: F) h' := by
 refine F7_ok ((?_ : ∀ Q : Value → Heap → Prop, (∀ v h', (v = .bool true ∧ sat (glo :: F) h') → Q v h') → F7 h Q) _ fun _ _ hh => hh)
 intro Q hQ
 unfold F7
 refine (F14_spec (room := 10000) H (by decide)).mono ?_
 rintro v h1 ⟨fsb, rfl, H1⟩
 refine ⟨some ⟨fsb, 0, none⟩, 0, rfl, ?_⟩
 rw [show ((0 : Int) != 0) = false from rfl, cond_false, show (some (⟨fsb, 0, none⟩ : Addr)).isNone = false from rfl, cond_false]
 refine (live_openS (n := 2) (by decide) ⟨by decide, by decide⟩ H1).mono ?_
 rintro v h2 ⟨b, lb, A, rfl, S, hroom, hused, hsteps, H2⟩
 refine ⟨some ⟨b, 0, none⟩, 0, rfl, ?_⟩
 rw [show ((0 : Int) != 0) = false from rfl, cond_false, show (some (⟨b, 0, none⟩ : Addr)).isNone = false from rfl, cond_false]
 refine (F31_spec2 (m := 1) H2).mono ?_
 rintro v h3 ⟨c1, rfl, H3⟩
 rw [DSl_slice]
 refine (F31_spec2 (m := 2) H3).mono ?_
 rintro v h4 ⟨c2, rfl, H4⟩
 rw [DSl_slice]
 refine Al_sat H4 fun c3 h5 H5 => ?_
 have rows : ∀ {G : List HProp} {h' : Heap}, sat (glo :: pt c3 (.cells #[.slice (some ⟨c1, 0, none⟩) 1 1, .slice (some ⟨c2, 0, none⟩) 1 1] 81 (0, 0)) :: pt c2 (.cells #[.int .i64 1, .int .i64 2, .string .empty] 84 (0, 0)) :: pt c1 (.cells #[.int .i64 1, .int .i64 1, .string .empty] 84 (0, 0)) :: G) h' →
   RdC h' (some ⟨c3, 0, none⟩) [.slice (some ⟨c1, 0, none⟩) 1 1, .slice (some ⟨c2, 0, none⟩) 1 1] ∧ RwsAre [one 1, one 2] [.slice (some ⟨c1, 0, none⟩) 1 1, .slice (some ⟨c2, 0, none⟩) 1 1] h' := fun {G h'} K =>
  ⟨RdCf (K.mv 1) rfl, rfl, fun i r u hr hu => by
   match i with
   | 0 => cases hr; cases hu; exact one_rows 1 c1 (K.mv 3)
   | 1 => cases hr; cases hu; exact one_rows 2 c2 (K.mv 2)
   | i + 2 => cases hr⟩
 refine (add_live (rc := 2) (w := 60) (rs := [one 1, one 2]) S ⟨by decide, by decide⟩ (by omega) (by decide) (fun hr D hD p hp => ?_) (by omega) (by decide) (by decide) (fun h' K => rows K) rfl (by decide) (fun r hr => ?_) (H5.ordT 7 [3, 4, 5, 6, 0, 1, 2])).mono ?_
 · have := part_small (k := 5) hD hr hp (by decide) (fun r hr => by
    simp only [List.mem_cons, List.not_mem_nil, or_false] at hr
    rcases hr with rfl | rfl <;> exact one_bytes (by decide))
   have e : ([one 1, one 2] : List (List Vl)).length = 2 := rfl;omega
 · simp only [List.mem_cons, List.not_mem_nil, or_false] at hr
   rcases hr with rfl | rfl
   · exact ⟨by decide, fun x hx => by simp only [one, List.mem_singleton] at hx; subst hx; exact ⟨by decide, by decide⟩⟩
   · exact ⟨by decide, fun x hx => by simp only [one, List.mem_singleton] at hx; subst hx; exact ⟨by decide, by decide⟩⟩
 rintro v h6 (⟨⟨r, hr, hbad⟩, _, _⟩ | ⟨hrok, rfl, A', M', T', TO', S', g1, g2, g3, g4, H6⟩)
 · simp only [List.mem_cons, List.not_mem_nil, or_false] at hr
   rcases hr with rfl | rfl <;> rw [one_ok] at hbad <;> cases hbad
 refine ⟨0, rfl, ?_⟩
 dsimp only
 rw [show ((0 : Int) != 0) = false from rfl, cond_false]
 refine (F31_spec2 (m := 9) H6).mono ?_
 rintro v h7 ⟨c4, rfl, H7⟩
 rw [DSl_slice]
 refine Al_sat H7 fun c5 h8 H8 => ?_
 have hsk : sat (sinkB b fsb lb 2 1 :: _) h8 := H8.mv 2
 refine (F12_old (id := 0) (next := 1) (by decide) (by decide) hsk).mono ?_
 rintro v h9 ⟨rfl, rfl⟩
 refine ⟨_, rfl, ?_⟩
 dsimp only
 rw [show ((0 : Int) != 0) = false from rfl, cond_false]
 refine (F12_far (id := 2) (next := 1) (by decide) (by decide) hsk).mono ?_
 rintro v h10 ⟨rfl, rfl⟩
 refine ⟨_, rfl, ?_⟩
 dsimp only
 rw [show ((240 : Int) != 240) = false from rfl, cond_false]
 refine (F11_spec hsk).mono ?_
 rintro v h11 ⟨rfl, rfl⟩
 refine ⟨_, rfl, ?_⟩
 dsimp only
 rw [show ((1 : Int) != 1) = false from rfl, cond_false]
 obtain ⟨_, fs, ds, q1, q2, q3⟩ := (S'.each 0 _ rfl).filed S'.inv.live S'.out
 refine (F8_spec (id := 0) S'.inv q1 q3 q2 hrok (H8.ordT 6 [2, 3, 4, 0, 1, 5])).mono ?_
 rintro v h12 ⟨oa, oc, us, rfl, H9⟩
 refine ⟨oa, _, oc, 0, rfl, ?_⟩
 rw [show ((0 : Int) == 0) = true from rfl, cond_true]
 rw [show ((([one 1, one 2] : List (List Vl)).length : Int) == 2) = true from rfl, cond_true]
 refine rowsRead (i := 1) (rs := [one 1, one 2]) (r := one 2) (ownS_read H9) (roP_get (H9.mv 1)) rfl rfl fun ra rc hrd hv => ?_
 refine IdxC (f := vlC) (sz := 3) (i := 0) (x := ⟨1, 2, .empty⟩) vlC_len (by decide) hrd rfl rfl fun bb hb hc => ⟨.int .i64 2, hc 1 _ rfl, (2 : Int), rfl, ?_⟩
 exact hQ _ _ ⟨rfl, H9.ordT 11 [7]⟩
end
open AF (hexN IdOk Meta MInv Live Has Upd Dirc Dur setN getN UpN isTmp Ent goG)
section
variable {F : List HProp} {h : Heap} {b fsb lb n : Nat} {A : AF.FS} {M : Meta} {T TO : Dirc} {bs : List (List (List Vl))}
theorem SI.wt (S : SI n A M T TO bs) : AF.wt M.entries ≤ 5100 * bs.length := by
 have h : ∀ E : Ent, (∀ p ∈ E, p.2.length ≤ 5000) → AF.wt E ≤ 5100 * E.length := fun E hE => by
  induction E with
  | nil => exact Nat.zero_le _
  | cons p E ih =>
    have h1 := ih fun q hq => hE q (List.mem_cons_of_mem _ hq);have h2 := hE p (List.mem_cons_self ..);unfold AF.wt at h1 ⊢;rw [List.map_cons, List.sum_cons, List.length_cons];omega
 have h1 := h M.entries fun p hp => (S.inv.okE p hp).2.2
 have h2 : M.entries.length = bs.length := by rw [S.ent, entN_len]
 rw [h2] at h1
 exact h1
theorem Rss.old {rs : List (List Vl)} {vs : List Value} {v : Value} {h0 : Heap} (H : Rss rs vs v h0) : ∃ (a : Option Addr) (c : Nat), v = .slice a rs.length c ∧ ∀ h', sat [old h0] h' → RdC h' a vs ∧ RwsAre rs vs h' := by
 obtain ⟨a, c, rfl, hR, hA⟩ := H
 refine ⟨a, c, rfl, fun h' K => ⟨hR.old K, hA.1, fun i r u hr hu => ?_⟩⟩
 obtain ⟨ra, rc, rfl, g⟩ := hA.2 i r u hr hu
 exact ⟨ra, rc, rfl, g.old K⟩
structure InRows (h0 : Heap) (a : Option Addr) (l : Nat) (bss : List (List (List Vl))) (us : List Value) : Prop where
 read : RdC h0 a us
 len : bss.length = l
 ulen : us.length = l
 are : ∀ (i : Nat) rs u, bss[i]? = some rs → us[i]? = some u → ∃ ws, Rss rs ws u h0
 nums : ∀ rs ∈ bss, ∀ r ∈ rs, r.length ≤ 9223372036854775807 ∧ ∀ x ∈ r, I64 x.n
theorem InRows.at {h0 : Heap} {a : Option Addr} {l i : Nat} {bss : List (List (List Vl))} {us : List Value} (I : InRows h0 a l bss us) (hi : i < l) : ∃ (rs : List (List Vl)) (ra : Option Addr) (rc : Nat) (vs : List Value), bss[i]? = some rs ∧ us[i]? = some (.slice ra rs.length rc) ∧ (∀ h', sat [old h0] h' → RdC h' ra vs ∧ RwsAre rs vs h') ∧
  ∀ {F : List HProp} {h' : Heap} {K : Option Addr → Nat → Nat → Prop}, sat (old h0 :: F) h' → K ra rs.length rc → IdxA a l (i : Int) 1 fun a0 => Ld h' a0 fun v0 => DSl v0 K := by
 obtain ⟨rs, hrs⟩ : ∃ x, bss[i]? = some x := ⟨_, List.getElem?_eq_getElem (by rw [I.len]; exact hi)⟩
 obtain ⟨u, hu⟩ : ∃ x, us[i]? = some x := ⟨_, List.getElem?_eq_getElem (by rw [I.ulen]; exact hi)⟩
 obtain ⟨vs, hvs⟩ := I.are i rs u hrs hu
 obtain ⟨ra, rc, rfl, hh⟩ := hvs.old
 refine ⟨rs, ra, rc, vs, hrs, hu, hh, fun {F h' K} K1 hK => ?_⟩
 exact IdxA_nat (I.read.old K1) I.ulen hu fun bb hb hc => CSl hc hK
theorem sat_one {A : HProp} {F : List HProp} {h : Heap} (H : sat (A :: F) h) : sat [A] h := H.ord [0]
end
end Go.Proofs.YtibdiikcigokjaaGreatDoor
