/- A batch read (seat K). -/
import Derived.Test.YtibdiikcigokjaaGreatDoorKsVbX
import Derived.Test.YtibdiikcigokjaaGreatDoorKsLvX
namespace Go.Proofs.YtibdiikcigokjaaGreatDoor
open Go Go.RowKit Go.MapKept
set_option linter.unusedVariables false
set_option linter.unusedSimpArgs false
open AF (hexN IdOk Meta MInv Live Has Upd Dirc Dur)
open Hex (digs)
open Crc (More)
def dO : ByteArray := ⟨#[111, 117, 116]⟩
def dM : ByteArray := ⟨#[109, 97, 110]⟩
structure RowsOk (rs : List (List Vl)) : Prop where
 few : rs.length ≤ 60
 ok : ∀ r ∈ rs, rowOk r = true
 i64 : ∀ r ∈ rs, ∀ x ∈ r, I64 x.n
structure Filed (get : ByteArray → Except Nat (List Nat)) (fs : Prs) (ds : List Dl) : Prop where
 len : fs.length = ds.length
 each : ∀ (k : Nat) f d, fs[k]? = some f → ds[k]? = some d → get f.1 = .ok (pairsN (d.map encP)) ∧ f.2 = hexN ((More 0 (pairsN (d.map encP)) : Nat) : Int) ∧ f.1.size ≤ 32
def tabD (l : Dl) : List (Int × List Vl) := l.foldl (fun T x => setT (x.1 : Int) x.2 T) []
theorem tabD_gen : ∀ (l : Dl) (T : List (Int × List Vl)), UpT T → (∀ x ∈ l, ∀ p ∈ T, p.1 ≠ (x.1 : Int)) → (l.map (·.1)).Nodup →
  UpT (l.foldl (fun T x => setT (x.1 : Int) x.2 T) T) ∧ ∀ p, p ∈ l.foldl (fun T x => setT (x.1 : Int) x.2 T) T ↔ p ∈ T ∨ ∃ x ∈ l, p = ((x.1 : Int), x.2)
 | [], T, hu, _, _ => ⟨hu, fun p => by simp⟩
 | x :: l, T, hu, hd, hn => by
   rw [List.map_cons, List.nodup_cons] at hn;obtain ⟨h1, h2⟩ := tabD_gen l (setT (x.1 : Int) x.2 T) (setT_up hu) (fun y hy p hp => by
    rcases (mem_setT hu).1 hp with rfl | ⟨_, hp⟩
    · intro e;have : y.1 = x.1 := by simp only at e; omega
      exact hn.1 (List.mem_map.2 ⟨y, hy, this⟩)
    · exact hd y (List.mem_cons_of_mem _ hy) p hp) hn.2
   refine ⟨h1, fun p => ?_⟩;rw [List.foldl_cons, h2, mem_setT hu];constructor
   · rintro ((rfl | ⟨_, hp⟩) | ⟨y, hy, rfl⟩)
     · exact .inr ⟨x, List.mem_cons_self .., rfl⟩
     · exact .inl hp
     · exact .inr ⟨y, List.mem_cons_of_mem _ hy, rfl⟩
   · rintro (hp | ⟨y, hy, rfl⟩)
     · exact .inl (.inr ⟨hd x (List.mem_cons_self ..) p hp, hp⟩)
     · rcases List.mem_cons.1 hy with rfl | hy
       · exact .inl (.inl rfl)
       · exact .inr ⟨y, hy, rfl⟩
theorem ixR_keys (rs : List (List Vl)) : (ixR rs).map (·.1) = List.range rs.length := by
 apply List.ext_getElem?
 intro i
 unfold ixR
 rw [List.getElem?_map, List.getElem?_mapIdx]
 by_cases h : i < rs.length
 · rw [List.getElem?_range h, List.getElem?_eq_getElem h]
   rfl
 · rw [List.getElem?_eq_none (by omega), List.getElem?_eq_none (by rw [List.length_range]; omega)]
   rfl
theorem tabD_of {l : Dl} {rs : List (List Vl)} (h : l.Perm (ixR rs)) : (tabD l).length = rs.length ∧ ∀ (i : Nat) r, rs[i]? = some r → getT (tabD l) (i : Int) = some r := by
 have hn : (l.map (·.1)).Nodup := by
  have := (h.map (·.1)).nodup_iff;rw [ixR_keys] at this;exact this.2 List.nodup_range
 obtain ⟨h1, h2⟩ := tabD_gen l [] List.Pairwise.nil (fun _ _ _ hp => by cases hp) hn
 have hm : ∀ p, p ∈ tabD l ↔ ∃ x ∈ l, p = ((x.1 : Int), x.2) := fun p => by
  rw [show tabD l = l.foldl (fun T x => setT (x.1 : Int) x.2 T) [] from rfl, h2];simp
 have hu : UpT (tabD l) := h1
 refine ⟨?_, fun i r hr => mem_getT hu ((hm _).2 ⟨(i, r), h.mem_iff.2 (ixR_mem.2 hr), rfl⟩)⟩
 have hk : ((tabD l).map (·.1)).Nodup := hu.nodup
 have hl : ((l.map fun x => (x.1 : Int))).Nodup := by
  have e : (l.map fun x => (x.1 : Int)) = (l.map (·.1)).map Int.ofNat := by rw [List.map_map]; rfl
  rw [e];rw [List.Nodup, List.pairwise_map];exact List.Pairwise.imp (fun h e => h (Int.ofNat.inj e)) hn
 have a := AF.nodup_len hk (m := l.map fun x => (x.1 : Int)) fun k hk => by
  obtain ⟨p, hp, rfl⟩ := List.mem_map.1 hk;obtain ⟨x, hx, rfl⟩ := (hm p).1 hp;exact List.mem_map.2 ⟨x, hx, rfl⟩
 have b := AF.nodup_len hl (m := (tabD l).map (·.1)) fun k hk => by
  obtain ⟨x, hx, rfl⟩ := List.mem_map.1 hk;exact List.mem_map.2 ⟨_, (hm _).2 ⟨x, hx, rfl⟩, rfl⟩
 rw [List.length_map, List.length_map] at a b
 have c := h.length_eq
 have d : (ixR rs).length = rs.length := by unfold ixR; rw [List.length_mapIdx]
 omega
theorem tabD_snoc (l : Dl) (x : Nat × List Vl) : tabD (l ++ [x]) = setT (x.1 : Int) x.2 (tabD l) := by
 unfold tabD
 rw [List.foldl_append]
 rfl
theorem encP_ok {x : Nat × List Vl} (h : rowOk x.2 = true) (hi : ∀ y ∈ x.2, I64 y.n) : (encP x).1.size = 16 ∧ (encP x).2.size ≤ 2701 ∧ sb (encP x).2 = rowsB [x.2] ∧ (encP x).2.size = (rowsB [x.2]).length := by
 have h8 : B8 (rowsB [x.2]) := by
  rw [rows1];intro c hc
  rcases List.mem_cons.1 hc with rfl | hc
  · decide
  · exact rowB_B8 h c hc
 have e : sb (encP x).2 = rowsB [x.2] := sb_ofN h8
 have e2 : (encP x).2.size = (rowsB [x.2]).length := by rw [← sb_length, e]
 refine ⟨?_, ?_, e, e2⟩
 · show (ofN (digs 16 (natOf (x.1 : Int)))).size = 16;rw [← sb_length, sb_ofN (Hex.digs_B8 16 _), Hex.digs_length]
 · rw [e2, rows1, List.length_cons];have := rowB_len h hi;omega
theorem pairs_size {d : Dl} (hl : d.length ≤ 60) (h : ∀ x ∈ d, rowOk x.2 = true ∧ ∀ y ∈ x.2, I64 y.n) : (pairsN (d.map encP)).length ≤ 170000 := by
 rw [← preN_all]
 unfold preN
 rw [List.length_append, List.length_map]
 have h1 := numB_length 0 d.length (by omega)
 have h2 := flat_len (f := fun p : ByteArray × ByteArray => pairB (sb p.1, sb p.2)) (k := 2800) (l := d.map encP) fun p hp => by
  obtain ⟨x, hx, rfl⟩ := List.mem_map.1 hp;obtain ⟨e1, e2, _, _⟩ := encP_ok (h x hx).1 (h x hx).2;have n1 := numB_length 0 (encP x).1.size (by rw [e1]; decide);have n2 := numB_length 1 (encP x).2.size (by exact Nat.lt_of_le_of_lt e2 (by decide));unfold pairB wordB;simp only [List.length_append, sb_length];omega
 rw [List.length_map] at h2
 have : d.length * 2800 ≤ 60 * 2800 := Nat.mul_le_mul_right _ hl
 omega
theorem unhex_hexN (i : Nat) (h : i ≤ 1000000) : Hex.unhex (sb (hexN (i : Int))) = some i := by
 have hi : i < 9223372036854775808 := by omega
 have e : natOf (i : Int) = i := by
  have := (natOf_id (n := (i : Int)) ⟨by omega, by omega⟩).1;omega
 show Hex.unhex (sb (ofN (digs 16 (natOf (i : Int))))) = _
 rw [sb_ofN (Hex.digs_B8 16 _), e, Hex.unhex_digs (by omega), if_pos hi]
theorem s9_85 : Tryz.prog.underlying 9 = some .string := by kernel_rfl
theorem u94 : Tryz.prog.underlying 94 = some (.map 2 81) := by kernel_rfl
theorem i64_2 : Tryz.prog.underlying 2 = some (.int .i64) := by kernel_rfl
section
variable {F : List HProp} {h : Heap} {b fsb lb : Nat} {n next : Int} {M : Meta} {A : AF.FS} {T : Dirc}
theorem copyPr {k x : ByteArray} {K : Nat → Heap → Prop} (H : sat F h) (hK : ∀ b h', sat (pt b (.cells #[.string k, .string x] 96 (0, 0)) :: F) h' → K b h') :
  Al h (.cells #[.string .empty, .string .empty] 96) fun b0 h_1 => StC h_1 ((Addr.mk b0 0 none).add 0) (.string k) fun h_3 => StC h_3 ((Addr.mk b0 0 none).add 1) (.string x) fun h_4 => K b0 h_4 := by
 refine Al_sat H fun b0 h1 H1 => ?_
 refine StCC (i := 0) H1 (by exact (by decide : 0 < 2)) rfl fun h2 H2 => ?_
 refine StCC (i := 1) H2 (by exact (by decide : 1 < 2)) rfl fun h3 H3 => ?_
 exact hK b0 h3 H3
theorem prRead {a : Option Addr} {l i : Nat} {ps : Prs} {p : ByteArray × ByteArray} {K : ByteArray → ByteArray → Prop} (hR : RdC h a (ps.flatMap pairC)) (hl : ps.length = l) (hp : ps[i]? = some p) (hK : K p.1 p.2) :
  IdxA a l (i : Int) 2 fun a1 => Ld h (a1.add 0) fun c0 => Ld h (a1.add 1) fun c1 => ∃ (x5 : ByteArray), ∃ (x6 : ByteArray), (Value.agg #[c0, c1]) = .agg #[.string x5, .string x6] ∧ K x5 x6 :=
 IdxC (f := pairC) (sz := 2) pairC_len (by decide) hR hl hp fun b hb hc => ⟨.string p.1, hc 0 _ rfl, .string p.2, hc 1 _ rfl, p.1, p.2, rfl, hK⟩
theorem le_sumN : ∀ {l : List Nat} {x : Nat}, x ∈ l → x ≤ l.sum
 | y :: l, x, h => by
   rw [List.sum_cons]
   rcases List.mem_cons.1 h with rfl | h
   · omega
   · have := le_sumN h;omega
theorem flat_take {ds : List Dl} {k : Nat} {d : Dl} (h : ds[k]? = some d) : (ds.take (k + 1)).flatten = (ds.take k).flatten ++ d := by
 rw [List.take_add_one, h, List.flatten_append]
 simp
set_option maxHeartbeats 1000000 in
theorem F8_gen {id : Int} {fs : Prs} {ds : List Dl} {rs : List (List Vl)} (W : A.WF) (hb5 : (pairsN fs).length ≤ 5000) (hg : M.get id = some (pairsN fs)) (hF : Filed (A.get dO) fs ds) (hP : ds.flatten.Perm (ixR rs)) (hr : RowsOk rs)
  (H : sat (sinkB b fsb lb n next :: logM lb fsb M :: fsP fsb A :: F) h) :
  CallsH Tryz.prog 8 [ptrV b, .int .i64 id] h fun v h' => ∃ a c vs, v = .tuple #[.slice a rs.length c, .int .i64 0] ∧ sat (ownS 81 1 a rs.length c vs :: roP (RwsAre rs vs) :: sinkB b fsb lb n next :: logM lb fsb M :: fsP fsb A :: F) h' := by
 have hfl : ds.flatten.length = rs.length := by
  rw [hP.length_eq];unfold ixR;rw [List.length_mapIdx]
 have hd60 : ∀ d ∈ ds, d.length ≤ 60 := fun d hd => by
  have : d.length ≤ ds.flatten.length := by
   rw [List.length_flatten];exact le_sumN (List.mem_map.2 ⟨d, hd, rfl⟩)
  have := hr.few;omega
 have hdx : ∀ d ∈ ds, ∀ x ∈ d, rs[x.1]? = some x.2 ∧ rowOk x.2 = true ∧ ∀ y ∈ x.2, I64 y.n := fun d hd x hx => by
  have h1 := ixR_mem.1 (hP.mem_iff.1 (List.mem_flatten.2 ⟨d, hd, hx⟩));have h2 := List.mem_of_getElem? h1;exact ⟨h1, hr.ok _ h2, hr.i64 _ h2⟩
 refine F8_ok ((?_ : ∀ Q : Value → Heap → Prop, (∀ v h', (∃ a c vs, v = .tuple #[.slice a rs.length c, .int .i64 0] ∧ sat (ownS 81 1 a rs.length c vs :: roP (RwsAre rs vs) :: sinkB b fsb lb n next :: logM lb fsb M :: fsP fsb A :: F) h') → Q v h') → F8 (some ⟨b, 0, none⟩) id h Q) _ fun _ _ hh => hh)
 intro Q hQ
 unfold F8
 rw [show (some (⟨b, 0, none⟩ : Addr)).isNone = false from rfl, cond_false, NN'_some]
 refine LdPt (i := 1) (x := lb) H rfl ?_
 have hget1 : CallsH Tryz.prog 32 [ptrV lb, .int .i64 id] h fun v h' => ∃ a c, v = .tuple #[.slice a (pairsN fs).length c, .int .i64 0] ∧ sat (ownS 5 1 a (pairsN fs).length c ((pairsN fs).map nv) :: logM lb fsb M :: (sinkB b fsb lb n next :: fsP fsb A :: F)) h' := by
  refine (F32_spec (id := id) (fun y hy => by rw [hg] at hy; cases hy; omega) (H.mv 1)).mono ?_;rintro v h' (⟨h0, _⟩ | ⟨y, a, c, hy, rfl, H'⟩)
  · rw [hg] at h0; cases h0
  · rw [hg] at hy;cases hy;exact ⟨a, c, rfl, H'⟩
 refine hget1.mono ?_
 rintro v h1 ⟨a1, c1, rfl, H1⟩
 refine ⟨a1, _, c1, 0, rfl, ?_⟩
 rw [show ((0 : Int) != 0) = false from rfl, cond_false]
 have hfs : fs.length ≤ 5000 := by
  have h1 := pairs_long fs;have h2 := hb5;rw [← preN_all] at h2;unfold preN at h2;rw [List.length_append] at h2;omega
 obtain ⟨_, hlc, _⟩ := ownS_len H1
 have hRd := ownS_read H1
 refine (F33_spec (ps := fs) hlc (by omega) hRd (roP_own H1)).mono ?_
 rintro v h2 ⟨fa, fc, rfl, H2⟩
 refine ⟨fa, _, fc, 0, rfl, ?_⟩
 rw [show ((0 : Int) != 0) = false from rfl, cond_false]
 refine Al_sat H2 fun b0 h3 H3 => ?_
 have H4 := tabM_new (R := Rw) H3
 refine LoopH.upto fs.length (fun k (s : Int × Int) h4 => s.2 = (k : Int) ∧ k ≤ fs.length ∧ s.1 = ((ds.take k).flatten.length : Nat) ∧ sat (tabM Rw b0 (tabD (ds.take k).flatten) :: ownS 96 2 fa fs.length fc (fs.flatMap pairC) :: logM lb fsb M :: sinkB b fsb lb n next :: fsP fsb A :: F) h4) (fun s => fs.length - s.2.toNat) (fun i s h2 hh => ⟨hh.2.1, by rw [hh.1]; omega⟩)
  ⟨rfl, Nat.zero_le _, rfl, H4⟩ ?_ ?_
 · rintro k ⟨s1, s2⟩ h4 again hk ⟨rfl, _, hs1, H5⟩ go;dsimp only at hs1 ⊢;subst hs1;rw [decide_eq_true (show ((k : Int) < (fs.length : Int)) by omega), cond_true];obtain ⟨f, hf⟩ : ∃ x, fs[k]? = some x := ⟨_, List.getElem?_eq_getElem hk⟩
   obtain ⟨d, hd⟩ : ∃ x, ds[k]? = some x := ⟨_, List.getElem?_eq_getElem (by rw [← hF.len]; exact hk)⟩
   have hdm := List.mem_of_getElem? hd;obtain ⟨hget, hsum, hsz⟩ := hF.each k f d hf hd;have hps := pairs_size (hd60 d hdm) fun x hx => (hdx d hdm x hx).2;have hkl : (ds.take k).flatten.length + d.length ≤ 60 := by
    have e1 : ((ds.take (k + 1)).flatten ++ (ds.drop (k + 1)).flatten) = ds.flatten := by rw [← List.flatten_append, List.take_append_drop]
    have e2 := congrArg List.length e1;rw [List.length_append, flat_take hd, List.length_append, hfl] at e2;have := hr.few;omega
   refine prRead (ownS_read (H5.mv 1)) rfl hf ?_;refine copyPr H5 fun b1 h5 H6 => ?_;rw [NN'_some];refine LdPt (i := 0) (x := fsb) (H6.mv 4) rfl ?_;refine LdStr (i := 0) H6 rfl ?_;refine (F34_spec (dir := dO) (name := f.1) W (by decide) (by omega) (H6.mv 5)).mono ?_;rintro v h6 (⟨bs, ba, bc, e, h8, hbl, rfl, H7⟩ | ⟨e, he, _, _, _⟩)
   rotate_left
   · rw [hget] at he; cases he
   rw [hget] at e;cases e;refine ⟨ba, _, bc, 0, rfl, ?_⟩;rw [show ((0 : Int) != 0) = false from rfl, cond_false];obtain ⟨_, hlc2, _⟩ := ownS_len H7;have H8 := roP_dup (roP_own H7);refine (F33_spec (ps := d.map encP) hlc2 (by omega) (roP_get H8) H8).mono ?_;rintro v h7 ⟨pa, pc, rfl, H9⟩;refine ⟨pa, _, pc, 0, rfl, ?_⟩;rw [show ((0 : Int) != 0) = false from rfl, cond_false];refine LdStr (i := 1) (H9.mv 3) rfl ?_;refine (F36_spec (ns := pairsN (d.map encP)) (c := bc) (roP_get (H9.mv 1)) h8 rfl (by omega)).mono ?_;rintro v h8' ⟨rfl, rfl⟩;refine ⟨_, rfl, rfl, LdStr (i := 1) (H9.mv 3) rfl rfl, ?_⟩;have hcrc : More 0 (pairsN (d.map encP)) < 4294967296 := More_B h8 (by decide);rw [IntWalk.i64_in _ (by omega)];refine (F35_spec H9).mono ?_;rintro v h9 ⟨rfl, H10⟩;rw [DS_string];refine ⟨rfl, LdStr (i := 1) (H10.mv 3) rfl rfl, ?_⟩;rw [show strEq f.2 (ofN (digs 16 (natOf ((More 0 (pairsN (d.map encP)) : Nat) : Int)))) = true from by rw [strEq_dec, hsum]; exact decide_eq_true rfl, Bool.not_true, cond_false];have el : (d.map encP).length = d.length := List.length_map ..;refine LoopH.upto d.length (fun j (s : Int × Int) h10 => s.2 = (j : Int) ∧ j ≤ d.length ∧ s.1 = (((ds.take k).flatten ++ d.take j).length : Nat) ∧
    sat (ownS 96 2 pa (d.map encP).length pc ((d.map encP).flatMap pairC) :: tabM Rw b0 (tabD ((ds.take k).flatten ++ d.take j)) :: ownS 96 2 fa fs.length fc (fs.flatMap pairC) :: logM lb fsb M :: sinkB b fsb lb n next :: fsP fsb A :: F) h10) (fun s => d.length - s.2.toNat) (fun i s h2 hh => ⟨hh.2.1, by rw [hh.1]; omega⟩)
    ⟨rfl, Nat.zero_le _, by simp, by rw [List.take_zero, List.append_nil]; exact H10.ordT 8 [0, 4, 5, 6, 7, 2]⟩ ?_ ?_
   · rintro j ⟨t1, t2⟩ h10 again2 hj ⟨rfl, _, ht1, K1⟩ go2;dsimp only at ht1 ⊢;subst ht1;rw [el, decide_eq_true (show ((j : Int) < (d.length : Int)) by omega), cond_true];obtain ⟨x, hx⟩ : ∃ x, d[j]? = some x := ⟨_, List.getElem?_eq_getElem hj⟩
     obtain ⟨hxr, hxo, hxi⟩ := hdx d hdm x (List.mem_of_getElem? hx);obtain ⟨e16, e27, esb, esz⟩ := encP_ok hxo hxi;have hx60 : x.1 < 60 := by
      have := (List.getElem?_eq_some_iff.1 hxr).1;have := hr.few;omega
     have hmx : (d.map encP)[j]? = some (encP x) := by rw [List.getElem?_map, hx]; rfl
     rw [el] at K1;refine prRead (ownS_read K1) el hmx ?_;refine copyPr K1 fun b2 h11 K2 => ?_;refine LdStr (i := 0) K2 rfl ?_;refine (F37_spec (s := (encP x).1) (by omega) K2).mono ?_;rintro v h12 ⟨rfl, K3⟩;rw [show Hex.unhex (sb (encP x).1) = some x.1 from unhex_hexN x.1 (by omega)];refine ⟨(x.1 : Int), true, rfl, ?_⟩;refine LdStr (i := 1) K3 rfl ?_;refine bytesOfB s9_85 u40 t5 (by unfold maxLen; omega) K3 fun vb vc h13 K4 => ?_;rw [DSl_slice, esb, esz] at *;obtain ⟨_, hlc3, _⟩ := ownS_len K4;refine (F38_spec (c := vc) hxo hxi hlc3 (roP_own K4)).mono ?_;rintro v h14 ⟨oa, oc, ra, rc, rfl, K5⟩;refine ⟨oa, 1, oc, 0, rfl, ?_⟩;rw [Bool.not_true, cond_false, show ((0 : Int) != 0) = false from rfl, cond_false, show (((1 : Nat) : Int) != 1) = false from rfl, cond_false];refine IdxA_nat (i := 0) (v := .slice ra x.2.length rc) (ownS_read K5) rfl rfl fun bb hb hcell => CSl hcell ?_;have K6 := roP_mono (S := Rw x.2 (.slice ra x.2.length rc)) (fun h' hh => ⟨ra, rc, rfl, hh⟩) (roP_own (K5.mv 1));refine tab_set (kt := 2) (et := 81) (x := x.2) u94 i64_2 (K6.ordT 9 [4, 0, 3, 5, 6, 7, 8]) fun h15 K7 => ?_;have e3 : d.take (j + 1) = d.take j ++ [x] := by rw [List.take_add_one, hx]; rfl
     rw [wrap64_succ (by rw [List.length_append, List.length_take]; omega), wrap64_succ (by omega)];refine go2 _ _ ⟨rfl, by omega, ?_, ?_⟩
     · dsimp only;rw [e3, ← List.append_assoc, List.length_append (bs := [x])]
       rfl
     · rw [e3, ← List.append_assoc, tabD_snoc, el];exact K7.mv 1
   · rintro ⟨t1, t2⟩ h10 again2 ⟨rfl, _, ht1, K1⟩;dsimp only at ht1 ⊢;subst ht1;rw [el, decide_eq_false (by omega), cond_false, wrap64_succ (by omega)];rw [List.take_length, ← flat_take hd] at K1 ⊢;exact go _ _ ⟨rfl, by omega, rfl, K1.drop⟩
 · rintro ⟨s1, s2⟩ h4 again ⟨rfl, _, hs1, H5⟩;dsimp only at hs1 ⊢;subst hs1;rw [decide_eq_false (by omega), cond_false];rw [hF.len, List.take_length] at H5 ⊢;rw [hfl];obtain ⟨t1, t2⟩ := tabD_of hP;refine (F39_spec (by have := hr.few; omega) t1 t2 H5).mono ?_;rintro v h5 ⟨oa, oc, vs, rfl, H6⟩;refine ⟨oa, _, oc, true, rfl, ?_⟩;rw [Bool.not_true, cond_false];exact hQ _ _ ⟨oa, oc, vs, rfl, H6.ordT 6 [0, 1, 4, 3, 5]⟩
theorem F8_spec {id : Int} {fs : Prs} {ds : List Dl} {rs : List (List Vl)} (I : MInv A M T) (hg : M.get id = some (pairsN fs)) (hF : Filed (A.get dO) fs ds) (hP : ds.flatten.Perm (ixR rs)) (hr : RowsOk rs)
  (H : sat (sinkB b fsb lb n next :: logM lb fsb M :: fsP fsb A :: F) h) :
  CallsH Tryz.prog 8 [ptrV b, .int .i64 id] h fun v h' => ∃ a c vs, v = .tuple #[.slice a rs.length c, .int .i64 0] ∧ sat (ownS 81 1 a rs.length c vs :: roP (RwsAre rs vs) :: sinkB b fsb lb n next :: logM lb fsb M :: fsP fsb A :: F) h' :=
 F8_gen I.live.wf (I.getB hg).2 hg hF hP hr H
end
theorem pairsN_B8 (ps : Prs) : B8 (pairsN ps) := pairsB_B8 fun p hp => by
 obtain ⟨x, _, rfl⟩ := List.mem_map.1 hp
 exact ⟨sb_B8 _, sb_B8 _⟩
def partB (d : Dl) : List Nat := pairsN (d.map encP)
def toldP (id : Int) (p : Nat) (d : Dl) : ByteArray × ByteArray := (nmR id p, hexN ((More 0 (partB d) : Nat) : Int))
def addF (id : Int) (D : Nat → Dl) : List Nat → AF.FS → Prs → AF.FS × Prs × Nat
 | [], A, fs => (A, fs, 0)
 | p :: l, A, fs => if D p = [] then addF id D l A fs else if (A.put dO (nmR id p) (partB (D p))).2 = 0 then addF id D l (A.put dO (nmR id p) (partB (D p))).1 (fs ++ [toldP id p (D p)]) else ((A.put dO (nmR id p) (partB (D p))).1, fs, (A.put dO (nmR id p) (partB (D p))).2)
def four : List Nat := [0, 1, 2, 3]
theorem four_drop {p : Nat} (hp : p < 4) : four.drop p = p :: four.drop (p + 1) := by
 match p, hp with
 | 0, _ => rfl
 | 1, _ => rfl
 | 2, _ => rfl
 | 3, _ => rfl
theorem get4 {q : Nat → Sq} {L : Nat → Prs} {p : Nat} (hp : p < 4) : (#[slQ (q 0) (L 0), slQ (q 1) (L 1), slQ (q 2) (L 2), slQ (q 3) (L 3)] : Array Value).toList[((p : Nat) : Int).toNat]? = some (slQ (q p) (L p)) := by
 match p, hp with
 | 0, _ => rfl
 | 1, _ => rfl
 | 2, _ => rfl
 | 3, _ => rfl
theorem own4_read {F : List HProp} {h : Heap} {q : Nat → Sq} {L : Nat → Prs} {p : Nat} (hp : p < 4) (H : sat (own4 q L ++ F) h) : RdC h (q p).1 ((L p).flatMap pairC) := by
 match p, hp with
 | 0, _ => exact ownS_read H
 | 1, _ => exact ownS_read (H.mv 1)
 | 2, _ => exact ownS_read (H.mv 2)
 | 3, _ => exact ownS_read (H.mv 3)
theorem enc_sizes {D : Nat → Dl} {rs : List (List Vl)} {n p : Nat} (hD : Dealt n rs D) (hr : RowsOk rs) (hp : p < 4) : ((D p).length ≤ 60 ∧ ∀ x ∈ D p, rs[x.1]? = some x.2 ∧ rowOk x.2 = true ∧ ∀ y ∈ x.2, I64 y.n) := by
 have := hD.len p hp
 have := hr.few
 refine ⟨by omega, fun x hx => ?_⟩
 have h1 := hD.mem hp hx
 have h2 := List.mem_of_getElem? h1
 exact ⟨h1, hr.ok _ h2, hr.i64 _ h2⟩
theorem part_size {D : Nat → Dl} {rs : List (List Vl)} {n p : Nat} (hD : Dealt n rs D) (hr : RowsOk rs) (hp : p < 4) : (partB (D p)).length ≤ 170000 :=
 pairs_size (enc_sizes hD hr hp).1 fun x hx => ((enc_sizes hD hr hp).2 x hx).2
theorem hexN_size (i : Int) : (hexN i).size = 16 := by
 show (ofN (digs 16 (natOf i))).size = 16
 rw [← sb_length, sb_ofN (Hex.digs_B8 16 _), Hex.digs_length]
def FsSmall (k : Nat) (fs : Prs) : Prop := fs.length ≤ k ∧ ∀ f ∈ fs, f.1.size = 20 ∧ f.2.size = 16
theorem man_size {fs : Prs} (h : FsSmall 4 fs) : (pairsN fs).length ≤ 200 := by
 rw [← preN_all]
 unfold preN
 rw [List.length_append]
 have h1 := numB_length 0 fs.length (by have := h.1; omega)
 have h2 := flat_len (f := fun p : ByteArray × ByteArray => pairB (sb p.1, sb p.2)) (k := 40) (l := fs) fun p hp => by
  obtain ⟨e1, e2⟩ := h.2 p hp;have n1 := numB_length 0 p.1.size (by rw [e1]; decide);have n2 := numB_length 0 p.2.size (by rw [e2]; decide);unfold pairB wordB;simp only [List.length_append, sb_length];omega
 have := h.1
 have : fs.length * 40 ≤ 4 * 40 := Nat.mul_le_mul_right _ h.1
 omega
def addM (id : Int) (D : Nat → Dl) (A : AF.FS) (M : Meta) : AF.FS × Meta × Nat :=
 if (addF id D four A []).2.2 = 0 then M.put (addF id D four A []).1 id (pairsN (addF id D four A []).2.1) else ((addF id D four A []).1, M, (addF id D four A []).2.2)
section
variable {F : List HProp} {h : Heap} {b fsb lb n : Nat} {next : Int} {M : Meta} {A : AF.FS} {T : Dirc}
set_option maxHeartbeats 1000000 in
theorem F12_spec {ra : Option Addr} {rl rc : Nat} {rs : List (List Vl)} {vs : List Value} (hn : 1 ≤ n ∧ n ≤ 4) (W : A.WF) (hs : A.steps + 100 < 1099511627776) (hd : M.dir.size < 4611686018427387904) (h8M : ∀ x, M.get next = some x → B8 x) (h0 : 0 ≤ next ∧ next < 1000000)
  (hR : ∀ h', sat (glo :: F) h' → RdC h' ra vs ∧ RwsAre rs vs h') (hl : rs.length = rl) (hrl : rl ≤ 60) (hi : ∀ r ∈ rs, r.length ≤ 9223372036854775807 ∧ ∀ x ∈ r, I64 x.n)
  (H : sat (sinkB b fsb lb (n : Int) next :: logM lb fsb M :: fsP fsb A :: glo :: F) h) :
  CallsH Tryz.prog 12 [ptrV b, .int .i64 next, .slice ra rl rc] h fun v h' => ((∃ r ∈ rs, rowOk r = false) ∧ v = .int .i64 41 ∧ sat (sinkB b fsb lb (n : Int) next :: logM lb fsb M :: fsP fsb A :: glo :: F) h') ∨
   (RowsOk rs ∧ ∃ D, Dealt n rs D ∧ v = .int .i64 (((addM next D A M).2.2 : Nat) : Int) ∧ (addM next D A M).1.WF ∧ (addM next D A M).1.steps ≤ A.steps + 60 ∧
    sat (sinkB b fsb lb (n : Int) (if (addM next D A M).2.2 = 0 then next + 1 else next) :: logM lb fsb (addM next D A M).2.1 :: fsP fsb (addM next D A M).1 :: glo :: F) h') := by
 refine F12_ok ((?_ : ∀ Q : Value → Heap → Prop, (∀ v h', (((∃ r ∈ rs, rowOk r = false) ∧ v = .int .i64 41 ∧ sat (sinkB b fsb lb (n : Int) next :: logM lb fsb M :: fsP fsb A :: glo :: F) h') ∨
   (RowsOk rs ∧ ∃ D, Dealt n rs D ∧ v = .int .i64 (((addM next D A M).2.2 : Nat) : Int) ∧ (addM next D A M).1.WF ∧ (addM next D A M).1.steps ≤ A.steps + 60 ∧
    sat (sinkB b fsb lb (n : Int) (if (addM next D A M).2.2 = 0 then next + 1 else next) :: logM lb fsb (addM next D A M).2.1 :: fsP fsb (addM next D A M).1 :: glo :: F) h')) → Q v h') → F12 (some ⟨b, 0, none⟩) next ra rl rc h Q) _ fun _ _ hh => hh)
 intro Q hQ
 unfold F12
 rw [show (some (⟨b, 0, none⟩ : Addr)).isNone = false from rfl, cond_false, decide_eq_false (by omega), cond_false, NN'_some]
 refine LdInt (i := 3) H rfl ?_
 rw [decide_eq_false (by omega), cond_false, NN'_some]
 refine LdInt (i := 3) H rfl ?_
 rw [decide_eq_false (by omega), cond_false]
 refine (F43_spec (rc := rc) (F := logM lb fsb M :: fsP fsb A :: F) hn (fun h' K => hR h' (K.ordT 4 [1])) hl hrl hi (H.ordT 4 [0, 3, 1, 2])).mono ?_
 rintro v h1 (⟨hbad, q, L, rfl, H1⟩ | ⟨hok, q, D, hD, rfl, H1⟩)
 · refine ⟨_, _, _, _, _, _, _, _, _, _, _, _, _, rfl, ?_⟩;refine Al_sat H1 fun b0 h2 H2 => ?_;refine write4 H2 fun h3 H3 => ?_;rw [Bool.not_false, cond_true];exact hQ _ _ (.inl ⟨hbad, rfl, H3.ordT 5 [1, 3, 4, 2]⟩)
 have hr : RowsOk rs := ⟨by omega, hok, fun r hr => (hi r hr).2⟩
 refine ⟨_, _, _, _, _, _, _, _, _, _, _, _, _, rfl, ?_⟩
 refine Al_sat H1 fun b0 h2 H2 => ?_
 refine write4 H2 fun h3 H3 => ?_
 rw [Bool.not_true, cond_false]
 refine read4 (s0 := ((q 0).1, (encD D 0).length, (q 0).2)) (s1 := ((q 1).1, (encD D 1).length, (q 1).2)) (s2 := ((q 2).1, (encD D 2).length, (q 2).2)) (s3 := ((q 3).1, (encD D 3).length, (q 3).2)) H3 ?_
 have H4 : sat (own4 q (encD D) ++ (sinkB b fsb lb (n : Int) next :: logM lb fsb M :: fsP fsb A :: glo :: F)) h3 := H3.ordT 9 [1, 2, 3, 4, 5, 7, 8, 6]
 have fin : ∀ {h' : Heap} {A' : AF.FS} {M' : Meta} {e : Nat}, addM next D A M = (A', M', e) → A'.WF → A'.steps ≤ A.steps + 60 → sat (sinkB b fsb lb (n : Int) (if e = 0 then next + 1 else next) :: logM lb fsb M' :: fsP fsb A' :: glo :: F) h' → Q (.int .i64 (e : Int)) h' := by
  intro h' A' M' e ea W' hs' K;refine hQ _ _ (.inr ⟨hr, D, hD, ?_⟩);rw [ea];exact ⟨rfl, W', hs', K⟩
 refine LoopH.upto 4 (fun p (s : Sl × Int) h4 => s.2 = (p : Int) ∧ p ≤ 4 ∧ ∃ A' fs', addF next D four A [] = addF next D (four.drop p) A' fs' ∧ A'.WF ∧ A'.steps ≤ A.steps + 6 * p ∧ FsSmall p fs' ∧ s.1.l = fs'.length ∧
   sat (ownS 96 2 s.1.a fs'.length s.1.c (fs'.flatMap pairC) :: (own4 q (encD D) ++ (sinkB b fsb lb (n : Int) next :: logM lb fsb M :: fsP fsb A' :: glo :: F))) h4) (fun s => 4 - s.2.toNat) (fun i s h2 hh => ⟨hh.2.1, by rw [hh.1]; omega⟩)
  ⟨rfl, Nat.zero_le _, A, [], rfl, W, Nat.le_refl _, ⟨Nat.le_refl _, (fun f hf => by cases hf)⟩, rfl, ownS_nil 96 2 H4⟩ ?_ ?_
 · rintro p ⟨⟨sa, sl, sc⟩, s2⟩ h4 again hp ⟨rfl, _, A', fs', ea, W', hs', hfs, hsl, H5⟩ go;dsimp only at hsl H5 ⊢;subst hsl;rw [decide_eq_true (show ((p : Int) < 4) by omega), cond_true];refine ⟨by omega, by omega, _, get4 hp, ?_⟩;show DSl (.slice (q p).1 (encD D p).length (q p).2) _;rw [DSl_slice];have elen : (encD D p).length = (D p).length := List.length_map ..;rw [four_drop hp] at ea;by_cases hz : D p = []
   · rw [show (((encD D p).length : Int) == 0) = true from by rw [elen, hz]; rfl, cond_true, wrap64_succ (by omega)];refine go _ _ ⟨rfl, by omega, A', fs', ?_, W', by omega, ⟨by have := hfs.1; omega, hfs.2⟩, rfl, H5⟩;rw [ea];show (if D p = [] then _ else _) = _;rw [if_pos hz]
   have hpos : 0 < (D p).length := List.length_pos_iff.2 hz;rw [show (((encD D p).length : Int) == 0) = false from kne (by omega), cond_false];obtain ⟨hd60, hdx⟩ := enc_sizes hD hr hp;have hps : (partB (D p)).length ≤ 170000 := part_size hD hr hp;refine (F44_spec (ps := encD D p) (F := ownS 96 2 sa fs'.length sc (fs'.flatMap pairC) :: (own4 q (encD D) ++ (sinkB b fsb lb (n : Int) next :: logM lb fsb M :: fsP fsb A' :: glo :: F))) (fun h' K => own4_read hp K.drop) rfl (by omega) (fun x hx => by
    obtain ⟨y, hy, rfl⟩ := List.mem_map.1 hx;obtain ⟨_, g1, g2⟩ := hdx y hy;obtain ⟨e1, e2, _, _⟩ := encP_ok g1 g2;omega) (by show (partB (D p)).length ≤ _; omega) H5).mono ?_
   rintro v h5 (⟨hbig, _, _⟩ | ⟨_, xa, xc, rfl, H6⟩)
   · have : (pairsN (encD D p)).length = (partB (D p)).length := rfl;omega
   refine ⟨xa, _, xc, 0, rfl, ?_⟩;rw [show ((0 : Int) != 0) = false from rfl, cond_false, NN'_some];refine LdPt (i := 0) (x := fsb) (H6.mv 6) rfl ?_;refine (F46_spec (id := next) hp H6).mono ?_;rintro v h6 ⟨rfl, H7⟩;rw [DS_string];refine ⟨rfl, by rw [NN'_some]; rfl, rfl, LdPt (i := 0) (x := fsb) (H7.mv 6) rfl rfl, rfl, ?_⟩;have h8 : B8 (partB (D p)) := pairsN_B8 _;have hnz := nmR_size next hp;refine (F45_spec (dir := dO) (name := nmR next p) (bs := partB (D p)) (bc := xc) W' (by omega) (by decide) (by omega) (fun h' K => ownS_read K) h8 rfl (by omega) (H7.mv 8)).mono ?_;rintro v h7 ⟨rfl, W2, hs2, H8⟩;refine ⟨_, rfl, ?_⟩;dsimp only;by_cases he : (A'.put dO (nmR next p) (partB (D p))).2 = 0
   rotate_left
   · rw [show ((((A'.put dO (nmR next p) (partB (D p))).2 : Nat) : Int) != 0) = true from err_bne he, cond_true];have ef : addF next D four A [] = ((A'.put dO (nmR next p) (partB (D p))).1, fs', (A'.put dO (nmR next p) (partB (D p))).2) := by
      rw [ea];show (if D p = [] then _ else _) = _;rw [if_neg hz, if_neg he]
     refine fin (e := (A'.put dO (nmR next p) (partB (D p))).2) (by unfold addM; rw [ef, if_neg he]) W2 (by omega) ?_;rw [if_neg he];exact H8.ordT 10 [7, 8, 0, 9]
   rw [show ((((A'.put dO (nmR next p) (partB (D p))).2 : Nat) : Int) != 0) = false from zero_bne he, cond_false];refine (F46_spec (id := next) hp H8).mono ?_;rintro v h8' ⟨rfl, H9⟩;rw [DS_string];refine (F36_spec (ns := partB (D p)) (c := xc) (ownS_read (H9.mv 1)) h8 rfl (by omega)).mono ?_;rintro v h9 ⟨rfl, rfl⟩;refine ⟨_, rfl, ?_⟩;have hcrc : More 0 (partB (D p)) < 4294967296 := More_B h8 (by decide);dsimp only;rw [IntWalk.i64_in ((More 0 (partB (D p)) : Nat) : Int) (by omega)];refine (F35_spec H9).mono ?_;rintro v h10 ⟨rfl, H10⟩;rw [DS_string];refine Al_sat H10 fun b1 h11 H11 => ?_;have hfl := hfs.1;refine appendN u144 src144 inf146 (H11.mv 3) (n := 1) (ys := pairC (toldP next p (D p))) (srcOf_slice (RdCf H11 rfl) rfl) (pairE_one _ _) (by omega) fun a' c' h12 _ H12 => ?_;rw [DSl_slice, wrap64_succ (by omega)];have e1 : fs'.length + 1 = (fs' ++ [toldP next p (D p)]).length := by rw [List.length_append]; rfl
   have e2 : (fs' ++ [toldP next p (D p)]).flatMap pairC = fs'.flatMap pairC ++ pairC (toldP next p (D p)) := by rw [List.flatMap_append, List.flatMap_cons, List.flatMap_nil, List.append_nil]
   refine go _ _ ⟨rfl, by omega, (A'.put dO (nmR next p) (partB (D p))).1, fs' ++ [toldP next p (D p)], ?_, W2, by omega, ⟨by omega, fun f hf => ?_⟩, e1, ?_⟩
   · rw [ea];show (if D p = [] then _ else _) = _;rw [if_neg hz, if_pos he]
   · rcases List.mem_append.1 hf with hf | hf
     · exact hfs.2 f hf
     · simp only [List.mem_singleton] at hf;rw [hf];exact ⟨hnz, hexN_size _⟩
   · dsimp only;rw [e2, ← e1];exact H12.ordT 11 [0, 4, 5, 6, 7, 8, 9, 2, 10]
 · rintro ⟨⟨sa, sl, sc⟩, s2⟩ h4 again ⟨rfl, _, A', fs', ea, W', hs', hfs, hsl, H5⟩;dsimp only at hsl H5 ⊢;subst hsl;rw [decide_eq_false (by decide), cond_false];have ef : addF next D four A [] = (A', fs', 0) := ea;have hms := man_size hfs;refine (F44_spec (ps := fs') (F := ownS 96 2 sa fs'.length sc (fs'.flatMap pairC) :: (own4 q (encD D) ++ (sinkB b fsb lb (n : Int) next :: logM lb fsb M :: fsP fsb A' :: glo :: F))) (fun h' K => ownS_read K) rfl (by have := hfs.1; omega) (fun x hx => by
    obtain ⟨g1, g2⟩ := hfs.2 x hx;omega) (by omega) H5).mono ?_
   rintro v h5 (⟨hbig, _, _⟩ | ⟨_, xa, xc, rfl, H6⟩)
   · omega
   refine ⟨xa, _, xc, 0, rfl, ?_⟩;rw [show ((0 : Int) != 0) = false from rfl, cond_false, NN'_some];refine LdPt (i := 1) (x := lb) (H6.mv 6) rfl ?_;refine (F47_spec (id := next) (bs := pairsN fs') (bc := xc) W' (by omega) hd h8M (fun h' K => ownS_read K) (pairsN_B8 _) rfl (by omega) (H6.ordT 10 [7, 8, 0, 1, 2, 3, 4, 5, 6, 9])).mono ?_;rintro v h6 ⟨rfl, W2, hs2, H7⟩;refine ⟨_, rfl, ?_⟩;dsimp only;have eM : addM next D A M = M.put A' next (pairsN fs') := by unfold addM; rw [ef, if_pos rfl]
   by_cases he : (M.put A' next (pairsN fs')).2.2 = 0
   rotate_left
   · rw [show ((((M.put A' next (pairsN fs')).2.2 : Nat) : Int) != 0) = true from err_bne he, cond_true];refine fin (A' := (M.put A' next (pairsN fs')).1) (M' := (M.put A' next (pairsN fs')).2.1) (e := (M.put A' next (pairsN fs')).2.2) eM W2 (by omega) ?_;rw [if_neg he];exact H7.ordT 10 [8, 0, 1, 9]
   rw [show ((((M.put A' next (pairsN fs')).2.2 : Nat) : Int) != 0) = false from zero_bne he, cond_false, NN'_some];refine LdInt (i := 3) (H7.mv 8) rfl ?_;rw [NN'_some, addr_add0];refine StCC (i := 3) (H7.mv 8) (by exact (by decide : 3 < 4)) rfl fun h7 H8 => ?_;have := fin (A' := (M.put A' next (pairsN fs')).1) (M' := (M.put A' next (pairsN fs')).2.1) (e := (M.put A' next (pairsN fs')).2.2) eM W2 (by omega) (h' := h7) (by
    rw [if_pos he, ← IntWalk.i64_in (next + 1) (by omega)];exact H8.ordT 10 [0, 1, 2, 9])
   rw [he] at this;exact this
end
open AF (hexN IdOk Meta MInv Live Has Upd Dirc Dur setN getN UpN isTmp)
open Frame (packN)
def act (D : Nat → Dl) (l : List Nat) : List Nat := l.filter fun p => !(D p).isEmpty
theorem act_cons (D : Nat → Dl) (p : Nat) (l : List Nat) : act D (p :: l) = if D p = [] then act D l else p :: act D l := by
 unfold act
 rw [List.filter_cons]
 by_cases h : D p = []
 · rw [if_pos h, h]
   rfl
 · rw [if_neg h]
   cases hd : D p with
   | nil => exact absurd hd h
   | cons a b => rfl
theorem act_mem {D : Nat → Dl} {l : List Nat} {p : Nat} : p ∈ act D l ↔ p ∈ l ∧ D p ≠ [] := by
 unfold act
 rw [List.mem_filter]
 cases hd : D p with
 | nil => simp
 | cons a b => simp
theorem act_flat (D : Nat → Dl) : ∀ l : List Nat, ((act D l).map D).flatten = l.flatMap D
 | [] => rfl
 | p :: l => by
   rw [act_cons, List.flatMap_cons];by_cases h : D p = []
   · rw [if_pos h, h, List.nil_append];exact act_flat D l
   · rw [if_neg h, List.map_cons, List.flatten_cons, act_flat D l]
def laidF (id : Int) (D : Nat → Dl) : List Nat → Dirc → Dirc
 | [], T => T
 | p :: l, T => laidF id D l (setN (nmR id p) (packN (partB (D p))) T)
section
variable {A : AF.FS} {T TO : Dirc} {id : Int} {D : Nat → Dl}
theorem addF_skip : ∀ (l : List Nat) (A : AF.FS) (fs : Prs), addF id D l A fs = addF id D (act D l) A fs
 | [], A, fs => rfl
 | p :: l, A, fs => by
   rw [act_cons];by_cases h : D p = []
   · rw [if_pos h, ← addF_skip l];show (if D p = [] then _ else _) = _;rw [if_pos h]
   · rw [if_neg h];show (if D p = [] then _ else _) = (if D p = [] then _ else _)
     rw [if_neg h, if_neg h];split
     · exact addF_skip l _ _
     · rfl
theorem addF_live {w : Nat} (hw : w ≤ 16777000) : ∀ (l : List Nat) (A : AF.FS) (TO : Dirc) (fs : Prs), Live A → Has A dO TO → (∀ q ∈ TO, isTmp q.1 = false) → (∀ p ∈ l, p < 4 ∧ D p ≠ [] ∧ (partB (D p)).length ≤ w) → TO.length + l.length < 4096 → A.used + l.length * (w + 8) ≤ A.room →
  ∃ A', addF id D l A fs = (A', fs ++ l.map (fun p => toldP id p (D p)), 0) ∧ Upd 0 (l.length * (w + 8)) (l.length * 5) A A' dO (laidF id D l TO) ∧ (∀ q ∈ laidF id D l TO, isTmp q.1 = false)
 | [], A, TO, fs, L, H, ht, _, _, _ => ⟨A, by rw [List.map_nil, List.append_nil]; rfl, AF.Upd.refl L H |>.weak (Nat.le_refl _) (Nat.zero_le _) (Nat.zero_le _), ht⟩
 | p :: l, A, TO, fs, L, H, ht, hp, hl, hu => by
   obtain ⟨h4, hne, hb⟩ := hp p (List.mem_cons_self ..);rw [List.length_cons] at hl hu;rw [Nat.succ_mul] at hu;have hu2 : A.used + (8 + (partB (D p)).length) ≤ A.room := by omega
   obtain ⟨e1, u1⟩ := AF.put_ok (name := nmR id p) (x := partB (D p)) L H (nmR_right id h4) (by rw [nmR_size id h4]; decide) (AF.getN_T ht (AF.isTmp_tmp _)) (by omega) (pairsN_B8 _) (by omega) hu2;have ht2 : ∀ q ∈ setN (nmR id p) (packN (partB (D p))) TO, isTmp q.1 = false := fun q hq => by
    rcases AF.mem_setN hq with rfl | hq
    · exact nmR_tmp id h4
    · exact ht q hq
   have hlen := AF.setN_length (nmR id p) (packN (partB (D p))) TO;obtain ⟨A', e2, u2, ht3⟩ := addF_live hw l (A.put dO (nmR id p) (partB (D p))).1 (setN (nmR id p) (packN (partB (D p))) TO) (fs ++ [toldP id p (D p)]) u1.live u1.here ht2 (fun q hq => hp q (List.mem_cons_of_mem _ hq)) (by omega) (by
    have := u1.used;rw [u1.room];omega)
   refine ⟨A', ?_, (u1.trans u2).weak (Nat.le_refl _) (by rw [List.length_cons, Nat.succ_mul]; omega) (by rw [List.length_cons]; omega), ht3⟩;show (if D p = [] then _ else _) = _;rw [if_neg hne, if_pos e1, e2, List.map_cons, List.append_assoc]
   rfl
theorem setN_up {k : ByteArray} {x : List Nat} : ∀ {T : Dirc}, UpN T → UpN (setN k x T)
 | [], _ => List.pairwise_singleton ..
 | p :: l, h => by
   have h2 := List.pairwise_cons.1 h;show List.Pairwise _ (if p.1 = k then (k, x) :: l else if AF.ltB k p.1 then (k, x) :: p :: l else p :: setN k x l);by_cases e : p.1 = k
   · rw [if_pos e];exact List.pairwise_cons.2 ⟨fun q hq => by have := h2.1 q hq; rw [e] at this; exact this, h2.2⟩
   · rw [if_neg e];by_cases g : AF.ltB k p.1 = true
     · rw [if_pos g];refine List.pairwise_cons.2 ⟨fun q hq => ?_, h⟩
       rcases List.mem_cons.1 hq with rfl | hq
       · exact g
       · exact AF.strLt_trans g (h2.1 q hq)
     · rw [if_neg g];refine List.pairwise_cons.2 ⟨fun q hq => ?_, setN_up h2.2⟩
       rcases AF.mem_setN hq with rfl | hq
       · exact AF.strLt_total (Ne.symm e) g
       · exact h2.1 q hq
theorem laidF_mem : ∀ (l : List Nat) (TO : Dirc), UpN TO → (∀ p ∈ l, p < 4) → l.Nodup → IdOk id → ∀ k x, (k, x) ∈ laidF id D l TO ↔ (∃ p ∈ l, k = nmR id p ∧ x = packN (partB (D p))) ∨ ((k, x) ∈ TO ∧ ∀ p ∈ l, k ≠ nmR id p)
 | [], TO, _, _, _, _, k, x => by simp [laidF]
 | p :: l, TO, hu, h4, hn, hid, k, x => by
   have hn2 := List.nodup_cons.1 hn;have hus : UpN (setN (nmR id p) (packN (partB (D p))) TO) := setN_up hu;have e0 : laidF id D (p :: l) TO = laidF id D l (setN (nmR id p) (packN (partB (D p))) TO) := rfl;rw [e0, laidF_mem l _ hus (fun q hq => h4 q (List.mem_cons_of_mem _ hq)) hn2.2 hid];have h4p := h4 p (List.mem_cons_self ..);constructor
   · rintro (⟨q, hq, rfl, rfl⟩ | ⟨hm, hne⟩)
     · exact .inl ⟨q, List.mem_cons_of_mem _ hq, rfl, rfl⟩
     · rcases (AF.mem_setN_iff hu hus).1 hm with e | ⟨hk, hm⟩
       · cases e;exact .inl ⟨p, List.mem_cons_self .., rfl, rfl⟩
       · refine .inr ⟨hm, fun q hq => ?_⟩
         rcases List.mem_cons.1 hq with rfl | hq
         · exact hk
         · exact hne q hq
   · rintro (⟨q, hq, rfl, rfl⟩ | ⟨hm, hne⟩)
     · rcases List.mem_cons.1 hq with rfl | hq
       · refine .inr ⟨(AF.mem_setN_iff hu hus).2 (.inl rfl), fun r hr e => ?_⟩;obtain ⟨_, rfl⟩ := nmR_inj h4p (h4 r (List.mem_cons_of_mem _ hr)) hid hid e;exact hn2.1 hr
       · exact .inl ⟨q, hq, rfl, rfl⟩
     · exact .inr ⟨(AF.mem_setN_iff hu hus).2 (.inr ⟨hne p (List.mem_cons_self ..), hm⟩), fun q hq => hne q (List.mem_cons_of_mem _ hq)⟩
end
theorem dMO : dM ≠ dO := by decide
def BatchIn (M : Meta) (TO : Dirc) (id : Nat) (rs : List (List Vl)) : Prop :=
 RowsOk rs ∧ ∃ (fs : Prs) (ds : List Dl), M.get (id : Int) = some (pairsN fs) ∧ ds.flatten.Perm (ixR rs) ∧ fs.length = ds.length ∧
  ∀ (k : Nat) f d, fs[k]? = some f → ds[k]? = some d → (f.1, packN (partB d)) ∈ TO ∧ f.2 = hexN ((More 0 (partB d) : Nat) : Int) ∧ (partB d).length ≤ 170000 ∧ ∃ p, p < 4 ∧ f.1 = nmR (id : Int) p
structure SI (n : Nat) (A : AF.FS) (M : Meta) (T TO : Dirc) (bs : List (List (List Vl))) : Prop where
 inv : MInv A M T
 dir : M.dir = dM
 out : Has A dO TO
 noTmp : ∀ q ∈ TO, isTmp q.1 = false
 few : TO.length ≤ 4 * bs.length
 names : ∀ q ∈ TO, ∃ (id p : Nat), id < bs.length ∧ p < n ∧ q.1 = nmR (id : Int) p
 keys : ∀ k : Int, M.get k = none ↔ ¬ (0 ≤ k ∧ k < (bs.length : Int))
 each : ∀ (id : Nat) rs, bs[id]? = some rs → BatchIn M TO id rs
theorem idOk_nat {i : Nat} (h : i ≤ 1000000) : IdOk (i : Int) := ⟨by omega, by omega⟩
theorem BatchIn.filed {M : Meta} {TO : Dirc} {id : Nat} {rs : List (List Vl)} {A : AF.FS} (L : Live A) (H : Has A dO TO) (h : BatchIn M TO id rs) : RowsOk rs ∧ ∃ (fs : Prs) (ds : List Dl), M.get (id : Int) = some (pairsN fs) ∧ ds.flatten.Perm (ixR rs) ∧ Filed (A.get dO) fs ds := by
 obtain ⟨h1, fs, ds, h2, h3, h4, h5⟩ := h
 have hu := AF.has_up L H
 refine ⟨h1, fs, ds, h2, h3, h4, fun k f d hf hd => ?_⟩
 obtain ⟨g1, g2, g3, p, hp, g4⟩ := h5 k f d hf hd
 exact ⟨AF.get_ok L H (AF.mem_getN hu g1) (pairsN_B8 _) (by show (partB d).length ≤ _; omega), g2, by rw [g4, nmR_size _ hp]; decide⟩
theorem four_perm {n : Nat} {rs : List (List Vl)} {D : Nat → Dl} (h : Dealt n rs D) : (four.flatMap D).Perm (ixR rs) := by
 have e : four.flatMap D = D 0 ++ D 1 ++ D 2 ++ D 3 := by
  show D 0 ++ (D 1 ++ (D 2 ++ (D 3 ++ []))) = _;rw [List.append_nil];simp only [List.append_assoc]
 rw [e]
 exact h.perm
theorem four_nodup (D : Nat → Dl) : (act D four).Nodup := List.Pairwise.filter _ (show four.Nodup by decide)
theorem act_len (D : Nat → Dl) : (act D four).length ≤ 4 := List.length_filter_le _ _
theorem act_lt {n : Nat} {rs : List (List Vl)} {D : Nat → Dl} (h : Dealt n rs D) {p : Nat} (hp : p ∈ act D four) : p < 4 ∧ p < n ∧ D p ≠ [] := by
 obtain ⟨h1, h2⟩ := act_mem.1 hp
 refine ⟨by simp [four] at h1; omega, ?_, h2⟩
 rcases Nat.lt_or_ge p n with g | g
 · exact g
 · exact absurd (h.none p g) h2
theorem told_small {n : Nat} {rs : List (List Vl)} {D : Nat → Dl} (h : Dealt n rs D) (id : Int) : FsSmall 4 ((act D four).map fun p => toldP id p (D p)) := by
 refine ⟨by rw [List.length_map]; exact act_len D, fun f hf => ?_⟩
 obtain ⟨p, hp, rfl⟩ := List.mem_map.1 hf
 exact ⟨nmR_size id (act_lt h hp).1, hexN_size _⟩
theorem batch_new {n : Nat} {rs : List (List Vl)} {D : Nat → Dl} {M : Meta} {TO : Dirc} {id : Nat} (h : Dealt n rs D) (hr : RowsOk rs) (hu : UpN TO) (hid : id ≤ 1000000) (hg : M.get (id : Int) = some (pairsN ((act D four).map fun p => toldP (id : Int) p (D p)))) :
  BatchIn M (laidF (id : Int) D (act D four) TO) id rs := by
 refine ⟨hr, _, (act D four).map D, hg, ?_, by rw [List.length_map, List.length_map], fun k f d hf hd => ?_⟩
 · rw [act_flat];exact four_perm h
 · rw [List.getElem?_map] at hf hd
   cases hk : (act D four)[k]? with
   | none => rw [hk] at hf; cases hf
   | some p =>
     rw [hk] at hf hd;cases hf;cases hd;obtain ⟨a1, a2, a3⟩ := act_lt h (List.mem_of_getElem? hk);exact ⟨(laidF_mem _ _ hu (fun q hq => (act_lt h hq).1) (four_nodup D) (idOk_nat hid) _ _).2 (.inl ⟨p, List.mem_of_getElem? hk, rfl, rfl⟩), rfl, part_size h hr a1, p, a1, rfl⟩
theorem batch_old {n : Nat} {rs rs2 : List (List Vl)} {D : Nat → Dl} {M M' : Meta} {TO : Dirc} {id i : Nat} (h : Dealt n rs2 D) (hu : UpN TO) (hid : id ≤ 1000000) (hi : i < id) (hg : M'.get (i : Int) = M.get (i : Int)) (b : BatchIn M TO i rs) :
  BatchIn M' (laidF (id : Int) D (act D four) TO) i rs := by
 obtain ⟨hr, fs, ds, h1, h2, h3, h4⟩ := b
 refine ⟨hr, fs, ds, hg.trans h1, h2, h3, fun k f d hf hd => ?_⟩
 obtain ⟨g1, g2, g3, p, hp, g4⟩ := h4 k f d hf hd
 refine ⟨(laidF_mem _ _ hu (fun q hq => (act_lt h hq).1) (four_nodup D) (idOk_nat hid) _ _).2 (.inr ⟨g1, fun q hq e => ?_⟩), g2, g3, p, hp, g4⟩
 rw [g4] at e
 have := (nmR_inj hp (act_lt h hq).1 (idOk_nat (by omega)) (idOk_nat hid) e).1
 omega
theorem laidF_len (id : Int) (D : Nat → Dl) : ∀ (l : List Nat) (TO : Dirc), (laidF id D l TO).length ≤ TO.length + l.length
 | [], TO => Nat.le_refl _
 | p :: l, TO => by
   have h1 := laidF_len id D l (setN (nmR id p) (packN (partB (D p))) TO);have h2 := AF.setN_length (nmR id p) (packN (partB (D p))) TO;rw [List.length_cons];show (laidF id D l _).length ≤ _;omega
theorem MInv.other2 {A A' : AF.FS} {M : Meta} {T T' : Dirc} {n k s : Nat} {dir : ByteArray} (I : MInv A M T) (u : Upd n k s A A' dir T') (h : M.dir ≠ dir) : MInv A' M T :=
 { I with live := u.live, has := u.els _ _ h I.has }
section
variable {n : Nat} {A : AF.FS} {M : Meta} {T TO : Dirc} {bs : List (List (List Vl))}
theorem SI.add {rs : List (List Vl)} {D : Nat → Dl} {w : Nat} (S : SI n A M T TO bs) (hD : Dealt n rs D) (hr : RowsOk rs) (hw : w ≤ 170000) (hwD : ∀ p, p < 4 → (partB (D p)).length ≤ w) (hu : A.used + (4 * (w + 8) + 300) ≤ A.room) (hb : bs.length ≤ 100) (hS : M.S.length < 4000) :
  ∃ A' M' T' TO', addM (bs.length : Int) D A M = (A', M', 0) ∧ SI n A' M' T' TO' (bs ++ [rs]) ∧ A'.room = A.room ∧ A'.used ≤ A.used + (4 * (w + 8) + 300) ∧ A'.steps ≤ A.steps + 30 ∧ M'.S.length ≤ M.S.length + 1 := by
 have hal := act_len D
 have hfew := S.few
 have hup := AF.has_up S.inv.live S.out
 have hlw : (act D four).length * (w + 8) ≤ 4 * (w + 8) := Nat.mul_le_mul_right _ hal
 obtain ⟨A1, e1, u1, ht1⟩ := addF_live (w := w) (by omega) (id := (bs.length : Int)) (D := D) (act D four) A TO [] S.inv.live S.out S.noTmp (fun p hp => ⟨(act_lt hD hp).1, (act_lt hD hp).2.2, hwD p (act_lt hD hp).1⟩) (by omega) (by omega)
 rw [List.nil_append] at e1
 have hms := man_size (told_small hD (bs.length : Int))
 have hg : M.get (bs.length : Int) = none := (S.keys _).2 (by omega)
 have I1 : MInv A1 M T := MInv.other2 S.inv u1 (by rw [S.dir]; exact dMO)
 have u1u := u1.used
 have u1r := u1.room
 have u1s := u1.steps
 obtain ⟨A2, T2, e2, I2, u2⟩ := I1.put (b := pairsN ((act D four).map fun p => toldP (bs.length : Int) p (D p))) (idOk_nat (i := bs.length) (by omega)) hg (pairsN_B8 _) (by omega) (by omega) hS
 have u2u := u2.used
 have u2r := u2.room
 have u2s := u2.steps
 have eF : addF (bs.length : Int) D four A [] = (A1, (act D four).map (fun p => toldP (bs.length : Int) p (D p)), 0) := by rw [addF_skip]; exact e1
 have hget := AF.get_putM (bs := pairsN ((act D four).map fun p => toldP (bs.length : Int) p (D p))) hg
 refine ⟨A2, _, T2, laidF (bs.length : Int) D (act D four) TO, by unfold addM; rw [eF, if_pos rfl]; exact e2, ?_, by rw [u2r, u1r], by omega, by omega, (AF.setT_length _ _ _).1⟩
 refine ⟨I2, S.dir, u2.els _ _ (by rw [S.dir]; exact fun e => dMO e.symm) u1.here, ht1, ?_, fun q hq => ?_, fun k => ?_, fun i r hir => ?_⟩
 · have := laidF_len (bs.length : Int) D (act D four) TO;rw [List.length_append, List.length_singleton];omega
 · rw [List.length_append, List.length_singleton]
   rcases (laidF_mem _ _ hup (fun q hq => (act_lt hD hq).1) (four_nodup D) (idOk_nat (by omega)) q.1 q.2).1 hq with ⟨p, hp, e, _⟩ | ⟨hq, _⟩
   · exact ⟨bs.length, p, by omega, (act_lt hD hp).2.1, e⟩
   · obtain ⟨id, p, a, b, c⟩ := S.names q hq;exact ⟨id, p, by omega, b, c⟩
 · rw [hget, List.length_append, List.length_singleton];by_cases hk : k = (bs.length : Int)
   · rw [if_pos hk];simp;omega
   · rw [if_neg hk, S.keys];omega
 · by_cases hi : i < bs.length
   · rw [List.getElem?_append_left hi] at hir;exact batch_old hD hup (by omega) hi (by rw [hget, if_neg (by omega)]) (S.each i r hir)
   · have := (List.getElem?_eq_some_iff.1 hir).1;rw [List.length_append, List.length_singleton] at this;obtain rfl : i = bs.length := by omega
     rw [List.getElem?_append_right (by omega), Nat.sub_self] at hir;cases hir;exact batch_new hD hr hup (by omega) (by rw [hget, if_pos rfl])
theorem SI.new (L : Live A) (Hm : Has A dM []) (Ho : Has A dO []) : SI n A ⟨dM, [], [], []⟩ [] [] [] :=
 ⟨MInv.new L Hm, rfl, Ho, (fun q hq => by cases hq), Nat.le_refl _, (fun q hq => by cases hq), fun k => ⟨fun _ h => by simp at h; omega, fun _ => rfl⟩, (fun id rs h => by cases h)⟩
theorem SI.folds {A' : AF.FS} {M' : Meta} {T' : Dirc} {k s : Nat} (S : SI n A M T TO bs) (I' : MInv A' M' T') (hd : M'.dir = M.dir) (he : M'.entries = M.entries) (u : Upd 0 k s A A' M.dir T') : SI n A' M' T' TO bs := by
 have hg : ∀ k, M'.get k = M.get k := fun k => by rw [← I'.getE, he, S.inv.getE]
 refine ⟨I', by rw [hd, S.dir], u.els _ _ (by rw [S.dir]; exact fun e => dMO e.symm) S.out, S.noTmp, S.few, S.names, fun k => by rw [hg]; exact S.keys k, fun id rs h => ?_⟩
 obtain ⟨h1, fs, ds, h2, h3⟩ := S.each id rs h
 exact ⟨h1, fs, ds, (hg _).trans h2, h3⟩
end
def sweepGo (next : Nat) : List ByteArray → AF.FS → Bool → AF.FS × Bool × Nat
 | [], A, s => (A, s, 0)
 | k :: l, A, s => match batchN k with
   | none => sweepGo next l A s
   | some m => if m < next then sweepGo next l A s else if (A.remove dO k).2 = 0 then sweepGo next l (A.remove dO k).1 true else ((A.remove dO k).1, s, (A.remove dO k).2)
def sweepF (next : Nat) (ks : List ByteArray) (A : AF.FS) : AF.FS × Nat :=
 if (sweepGo next ks A false).2.2 ≠ 0 then ((sweepGo next ks A false).1, (sweepGo next ks A false).2.2) else
 if (sweepGo next ks A false).2.1 = true then (sweepGo next ks A false).1.syncDir dO else ((sweepGo next ks A false).1, 0)
section
variable {F : List HProp} {h : Heap} {b fsb lb n : Nat} {next : Int} {M : Meta} {A : AF.FS} {T : Dirc}
theorem F42_spec {N : Nat} {ks : List ByteArray} {B : AF.FS} (W : A.WF) (hs : A.steps + 30000 < 1099511627776) (hp : A.prep dO = (B, .ok ks)) (hN : N ≤ 1000000) (H : sat (sinkB b fsb lb (n : Int) (N : Int) :: fsP fsb A :: F) h) :
  CallsH Tryz.prog 42 [ptrV b] h fun v h' => v = .int .i64 ((sweepF N ks B).2 : Nat) ∧ (sweepF N ks B).1.WF ∧ (sweepF N ks B).1.steps ≤ A.steps + 10001 ∧ sat (sinkB b fsb lb (n : Int) (N : Int) :: fsP fsb (sweepF N ks B).1 :: F) h' := by
 refine F42_ok ((?_ : ∀ Q : Value → Heap → Prop, (∀ v h', (v = .int .i64 ((sweepF N ks B).2 : Nat) ∧ (sweepF N ks B).1.WF ∧ (sweepF N ks B).1.steps ≤ A.steps + 10001 ∧ sat (sinkB b fsb lb (n : Int) (N : Int) :: fsP fsb (sweepF N ks B).1 :: F) h') → Q v h') → F42 (some ⟨b, 0, none⟩) h Q) _ fun _ _ hh => hh)
 intro Q hQ
 unfold F42
 rw [NN'_some]
 refine LdPt (i := 0) (x := fsb) H rfl ?_
 refine (F127_spec (dir := dO) W (by omega) (by decide) (H.mv 1)).mono ?_
 rw [hp]
 rintro v h1 ⟨WB, hsB, ⟨ks', a, c, e, hright, hkl, rfl, H1⟩ | ⟨e, he, _⟩⟩
 rotate_left
 · cases he
 cases e
 refine ⟨a, _, c, 0, rfl, ?_⟩
 rw [show ((0 : Int) != 0) = false from rfl, cond_false]
 refine LoopH.upto ks.length (fun i (s : Bool × Int) h2 => s.2 = (i : Int) ∧ i ≤ ks.length ∧ ∃ A', sweepGo N ks B false = sweepGo N (ks.drop i) A' s.1 ∧ A'.WF ∧ A'.steps ≤ A.steps + 5001 + i ∧ sat (sinkB b fsb lb (n : Int) (N : Int) :: ownS 9 1 a ks.length c (ks.map Value.string) :: fsP fsb A' :: F) h2) (fun s => ks.length - s.2.toNat) (fun i s h2 hh => ⟨hh.2.1, by rw [hh.1]; omega⟩)
  ⟨rfl, Nat.zero_le _, B, rfl, WB, hsB, H1.mv 2⟩ ?_ ?_
 · rintro i ⟨s1, s2⟩ h2 again hi ⟨rfl, _, A', eg, W', hs', H2⟩ go;dsimp only at eg ⊢;rw [decide_eq_true (show ((i : Int) < (ks.length : Int)) by omega), cond_true];obtain ⟨k, hk⟩ : ∃ x, ks[i]? = some x := ⟨_, List.getElem?_eq_getElem hi⟩
   have hd : ks.drop i = k :: ks.drop (i + 1) := by
    rw [List.drop_eq_getElem_cons hi];congr 1;rw [List.getElem?_eq_getElem hi] at hk;exact Option.some.inj hk
   rw [hd] at eg;have hks : k.size ≤ 32 := by
    have := hright k (List.mem_of_getElem? hk);unfold AF.right at this;simp only [Bool.and_eq_true, decide_eq_true_eq] at this;exact this.1.2
   refine strRead (ss := ks) (ownS_read (H2.mv 1)) rfl hk fun bb hc => CStr hc ?_;refine (F131_spec (s := k) H2).mono ?_;rintro v h3 ⟨rfl, H3⟩
   cases hb : batchN k with
   | none =>
     refine ⟨0, false, rfl, ?_⟩;rw [Bool.not_false, cond_true, wrap64_succ (by omega)];refine go _ _ ⟨rfl, by omega, A', ?_, W', by omega, H3⟩;rw [eg];show (match batchN k with | none => _ | some m => _) = _;rw [hb]
   | some m =>
     refine ⟨(m : Int), true, rfl, ?_⟩;rw [Bool.not_true, cond_false, NN'_some];refine LdInt (i := 3) H3 rfl ?_;by_cases hm : m < N
     · rw [decide_eq_true (show ((m : Int) < (N : Int)) by omega), cond_true, wrap64_succ (by omega)];refine go _ _ ⟨rfl, by omega, A', ?_, W', by omega, H3⟩;rw [eg];show (match batchN k with | none => _ | some m => _) = _;rw [hb];exact if_pos hm
     rw [decide_eq_false (show ¬ ((m : Int) < (N : Int)) by omega), cond_false, NN'_some];refine LdPt (i := 0) (x := fsb) H3 rfl ?_;refine (F84_spec (dir := dO) (k := k) W' (by omega) (by decide) (by omega) (H3.mv 2)).mono ?_;rintro v h4 ⟨rfl, H4⟩;refine ⟨_, rfl, ?_⟩;dsimp only;have W2 := W'.remove dO k;have hs2 : (A'.remove dO k).1.steps ≤ A'.steps + 1 := AF.remove_steps ..;by_cases he : (A'.remove dO k).2 = 0
     · rw [show ((((A'.remove dO k).2 : Nat) : Int) != 0) = false from zero_bne he, cond_false, wrap64_succ (by omega)];refine go _ _ ⟨rfl, by omega, (A'.remove dO k).1, ?_, W2, by omega, H4.ordT 3 [1, 2, 0]⟩;rw [eg];show (match batchN k with | none => _ | some m => _) = _;rw [hb];exact (if_neg hm).trans (if_pos he)
     · rw [show ((((A'.remove dO k).2 : Nat) : Int) != 0) = true from err_bne he, cond_true];have e1 : sweepGo N ks B false = ((A'.remove dO k).1, s1, (A'.remove dO k).2) := by
        rw [eg];show (match batchN k with | none => _ | some m => _) = _;rw [hb];exact (if_neg hm).trans (if_neg he)
       have e2 : sweepF N ks B = ((A'.remove dO k).1, (A'.remove dO k).2) := by
        unfold sweepF;rw [e1, if_pos he]
       refine hQ _ _ ?_;rw [e2];exact ⟨rfl, W2, by show (A'.remove dO k).1.steps ≤ _; omega, H4.ordT 3 [1, 0]⟩
 · rintro ⟨s1, s2⟩ h2 again ⟨rfl, _, A', eg, W', hs', H2⟩;dsimp only at eg ⊢;rw [decide_eq_false (by omega), cond_false];rw [List.drop_length] at eg;have e1 : sweepGo N ks B false = (A', s1, 0) := eg
   cases s1 with
   | true =>
     rw [cond_true, NN'_some];refine LdPt (i := 0) (x := fsb) H2 rfl ?_;refine (F82_spec (dir := dO) W' (by omega) (by decide) (H2.mv 2)).mono ?_;rintro v h3 ⟨rfl, H3⟩;refine ⟨_, rfl, ?_⟩;have e2 : sweepF N ks B = A'.syncDir dO := by
      unfold sweepF;rw [e1, if_neg (by simp), if_pos rfl]
     refine hQ _ _ ?_;rw [e2];have hs2 : (A'.syncDir dO).1.steps ≤ A'.steps + 1 := AF.syncDir_steps ..;exact ⟨rfl, W'.syncDir dO, by omega, H3.ordT 3 [1, 0]⟩
   | false =>
     rw [cond_false];have e2 : sweepF N ks B = (A', 0) := by
      unfold sweepF;rw [e1, if_neg (by simp), if_neg (by simp)]
     refine hQ _ _ ?_;rw [e2];exact ⟨rfl, W', by show A'.steps ≤ _; omega, H2.ordT 3 [0, 2]⟩
end
end Go.Proofs.YtibdiikcigokjaaGreatDoor
