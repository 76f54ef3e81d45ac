/- Keys that rise; changes out of pairs (seat S). -/
import Derived.Test.YtibdiikcigokjaaGreatSkSt6
namespace Go.Proofs.YtibdiikcigokjaaGreat
open Go Go.RowKit Go.MapKept
set_option linter.unusedVariables false
set_option linter.unusedSimpArgs false
open AF (nmI IdOk Live Has Upd Dirc ltB)
open TS (Ch chC Diffs appL VT)

theorem cellsC {α : Type} {f : α → List Value} {sz i : Nat} {h : Heap} {b : Addr} {xs : List α} {x : α} (hf : ∀ x, (f x).length = sz) (H : RdC h (some b) (xs.flatMap f)) (hi : xs[i]? = some x) : ∀ j v, (f x)[j]? = some v → cellAt h ((b.add (i * sz)).add j) = some v := fun j v hv => by
  rw [addr_add_add]
  refine H _ _ ?_
  have := (List.getElem?_eq_some_iff.1 hv).1
  rw [hf] at this
  rw [flatC_get hf hi this, hv]
theorem ownC_setJ {α : Type} {f : α → List Value} {sz : Nat} {h : Heap} {F : List HProp} {e : TypeId} {b : Addr} {l c i j : Nat} {xs : List α} {x : α} (x' : α) {v : Value} {K : Heap → Prop} (hf : ∀ x, (f x).length = sz) (H : sat (ownS e sz (some b) l c (xs.flatMap f) :: F) h) (hi : xs[i]? = some x) (hj : j < sz) (hx : (f x).set j v = f x')
    (hK : ∀ h', sat (ownS e sz (some b) l c ((xs.set i x').flatMap f) :: F) h' → K h') : StC h ((b.add (i * sz)).add j) v K := by
  have := ownC_set x' hf H hi hj hx hK
  rwa [addr_add0] at this
section
variable {F : List HProp} {h : Heap} {a : Option Addr} {l c : Nat}
theorem F38_spec {x y : ByteArray} (H : sat F h) : CallsH Tryz.prog 38 [.agg #[.string x, .string y]] h fun v h' => v = .string x ∧ sat F h' := by
  apply F38_ok
  unfold F38
  refine Al_sat H fun b0 h1 H1 => ?_
  refine LdStr (x := x) H1 rfl ?_
  exact ⟨rfl, H1.drop⟩
theorem F108_spec {x y : ByteArray} {g : Bool} (H : sat F h) : CallsH Tryz.prog 108 [.agg #[.string x, .string y, .bool g]] h fun v h' => v = .string x ∧ sat F h' := by
  apply F108_ok
  unfold F108
  refine Al_sat H fun b0 h1 H1 => ?_
  refine LdStr (x := x) H1 rfl ?_
  exact ⟨rfl, H1.drop⟩
theorem F37_spec {ps : Prs} (hr : ∀ h', sat F h' → RdC h' a (ps.flatMap pairC)) (hl : ps.length = l) (hll : l < 1000000000) (hp : ps.Pairwise fun p q => ltB p.1 q.1 = true) (H : sat F h) :
    CallsH Tryz.prog 37 [.slice a l c, .func (.func 38) #[] #[]] h fun v h' => v = .bool true ∧ sat F h' := by
  apply F37_ok
  unfold F37
  refine LoopH.by (fun (s : Int) h' => ∃ i : Nat, s = (i : Int) ∧ 1 ≤ i ∧ i ≤ l + 1 ∧ sat F h') (fun s => l + 1 - s.toNat) ⟨1, rfl, Nat.le_refl _, by omega, H⟩ ?_
  rintro s h1 again ⟨i, rfl, hi1, hi2, H1⟩ go
  by_cases hil : i < l
  · rw [decide_eq_true (show ((i : Int) < (l : Int)) by omega), cond_true]
    have e1 : IntKind.wrap .i64 ((i : Int) - 1) = ((i - 1 : Nat) : Int) := by rw [IntWalk.i64_in _ (by omega)]; omega
    rw [e1]
    obtain ⟨⟨k1, x1⟩, hx1⟩ : ∃ x, ps[i - 1]? = some x := ⟨_, List.getElem?_eq_getElem (by omega)⟩
    obtain ⟨⟨k2, x2⟩, hx2⟩ : ∃ x, ps[i]? = some x := ⟨_, List.getElem?_eq_getElem (by omega)⟩
    refine IdxC (f := pairC) (sz := 2) pairC_len (by decide) (hr _ H1) hl hx1 fun b1 hb1 hc1 => ?_
    refine ⟨.string k1, hc1 0 _ rfl, .string x1, hc1 1 _ rfl, k1, x1, rfl, ?_⟩
    refine IdxC (f := pairC) (sz := 2) pairC_len (by decide) (hr _ H1) hl hx2 fun b2 hb2 hc2 => ?_
    refine ⟨.string k2, hc2 0 _ rfl, .string x2, hc2 1 _ rfl, k2, x2, rfl, ?_⟩
    refine CallV_fn ?_
    refine (F38_spec H1).mono ?_
    rintro v h2 ⟨rfl, H2⟩
    rw [DS_string]
    refine ⟨rfl, rfl, rfl, ?_, ?_, ?_⟩
    · refine IdxC (f := pairC) (sz := 2) pairC_len (by decide) (hr _ H2) hl hx2 fun b3 hb3 hc3 => ?_
      rw [hb2] at hb3
      cases hb3
      rfl
    · have hc3 := cellsC (f := pairC) (sz := 2) pairC_len (hb2 ▸ hr _ H2) hx2
      exact ⟨.string k2, hc3 0 _ rfl, .string x2, hc3 1 _ rfl, k2, x2, rfl, rfl⟩
    refine CallV_fn ?_
    refine (F38_spec H2).mono ?_
    rintro v h3 ⟨rfl, H3⟩
    rw [DS_string]
    have hlt : strLt k1 k2 = true := by
      rw [AF.strLt_eq]
      obtain ⟨q1, w1⟩ := List.getElem?_eq_some_iff.1 hx1
      obtain ⟨q2, w2⟩ := List.getElem?_eq_some_iff.1 hx2
      have := List.pairwise_iff_getElem.1 hp (i - 1) i q1 q2 (by omega)
      rw [w1, w2] at this
      exact this
    rw [hlt, Bool.not_true, cond_false, wrap64_succ (by omega)]
    exact go _ _ ⟨i + 1, rfl, by omega, by omega, H3⟩ (by omega)
  · rw [decide_eq_false (by omega), cond_false]
    exact ⟨rfl, H1⟩
theorem F107_spec {ps : List Ch} (hr : ∀ h', sat F h' → RdC h' a (ps.flatMap chC)) (hl : ps.length = l) (hll : l < 1000000000) (hp : Tb.Up (V := VT × Bool) ps) (H : sat F h) :
    CallsH Tryz.prog 107 [.slice a l c, .func (.func 108) #[] #[]] h fun v h' => v = .bool true ∧ sat F h' := by
  apply F107_ok
  unfold F107
  refine LoopH.by (fun (s : Int) h' => ∃ i : Nat, s = (i : Int) ∧ 1 ≤ i ∧ i ≤ l + 1 ∧ sat F h') (fun s => l + 1 - s.toNat) ⟨1, rfl, Nat.le_refl _, by omega, H⟩ ?_
  rintro s h1 again ⟨i, rfl, hi1, hi2, H1⟩ go
  by_cases hil : i < l
  · rw [decide_eq_true (show ((i : Int) < (l : Int)) by omega), cond_true]
    have e1 : IntKind.wrap .i64 ((i : Int) - 1) = ((i - 1 : Nat) : Int) := by rw [IntWalk.i64_in _ (by omega)]; omega
    rw [e1]
    obtain ⟨⟨k1, x1, g1⟩, hx1⟩ : ∃ x, ps[i - 1]? = some x := ⟨_, List.getElem?_eq_getElem (by omega)⟩
    obtain ⟨⟨k2, x2, g2⟩, hx2⟩ : ∃ x, ps[i]? = some x := ⟨_, List.getElem?_eq_getElem (by omega)⟩
    refine IdxC (f := chC) (sz := 3) (fun _ => rfl) (by decide) (hr _ H1) hl hx1 fun b1 hb1 hc1 => ?_
    refine ⟨.string k1, hc1 0 _ rfl, .string x1, hc1 1 _ rfl, .bool g1, hc1 2 _ rfl, k1, x1, g1, rfl, ?_⟩
    refine IdxC (f := chC) (sz := 3) (fun _ => rfl) (by decide) (hr _ H1) hl hx2 fun b2 hb2 hc2 => ?_
    refine ⟨.string k2, hc2 0 _ rfl, .string x2, hc2 1 _ rfl, .bool g2, hc2 2 _ rfl, k2, x2, g2, rfl, ?_⟩
    refine CallV_fn ?_
    refine (F108_spec H1).mono ?_
    rintro v h2 ⟨rfl, H2⟩
    rw [DS_string]
    refine ⟨rfl, rfl, rfl, ?_, ?_, ?_⟩
    · refine IdxC (f := chC) (sz := 3) (fun _ => rfl) (by decide) (hr _ H2) hl hx2 fun b3 hb3 hc3 => ?_
      rw [hb2] at hb3
      cases hb3
      rfl
    · have hc3 := cellsC (f := chC) (sz := 3) (fun _ => rfl) (hb2 ▸ hr _ H2) hx2
      exact ⟨.string k2, hc3 0 _ rfl, .string x2, hc3 1 _ rfl, .bool g2, hc3 2 _ rfl, k2, x2, g2, rfl, rfl⟩
    refine CallV_fn ?_
    refine (F108_spec H2).mono ?_
    rintro v h3 ⟨rfl, H3⟩
    rw [DS_string]
    have hlt : strLt k1 k2 = true := by
      rw [AF.strLt_eq]
      obtain ⟨q1, w1⟩ := List.getElem?_eq_some_iff.1 hx1
      obtain ⟨q2, w2⟩ := List.getElem?_eq_some_iff.1 hx2
      have := List.pairwise_iff_getElem.1 hp (i - 1) i q1 q2 (by omega)
      rw [w1, w2] at this
      exact this
    rw [hlt, Bool.not_true, cond_false, wrap64_succ (by omega)]
    exact go _ _ ⟨i + 1, rfl, by omega, by omega, H3⟩ (by omega)
  · rw [decide_eq_false (by omega), cond_false]
    exact ⟨rfl, H1⟩
theorem bt_app (s : ByteArray) (c : UInt8) : bt (⟨#[c]⟩ ++ s) 0 = (c.toNat : Int) := by
  refine bt_sb (i := 0) (n := c.toNat) ?_
  rw [sb_append]
  rfl
theorem cut_app (s : ByteArray) (c : UInt8) : (⟨#[c]⟩ ++ s : ByteArray).extract 1 (⟨#[c]⟩ ++ s : ByteArray).size = s := by
  refine sb_inj ?_
  rw [sb_extract, sb_append]
  show (((c.toNat :: sb s) : List Nat).drop 1).take _ = sb s
  rw [List.drop_succ_cons, List.drop_zero, List.take_of_length_le]
  rw [sb_length, ByteArray.size_append]
  have : (⟨#[c]⟩ : ByteArray).size = 1 := rfl
  omega
theorem app_ne (s : ByteArray) (c : UInt8) : strEq (⟨#[c]⟩ ++ s) .empty = false := by
  rw [strEq_dec]
  refine decide_eq_false fun e => ?_
  have := congrArg ByteArray.size e
  rw [ByteArray.size_append] at this
  have h1 : (⟨#[c]⟩ : ByteArray).size = 1 := rfl
  have h2 : ByteArray.empty.size = 0 := rfl
  omega
set_option maxHeartbeats 1000000 in
/-- Changes out of a delta's pairs. -/
theorem F40_spec {d : List Ch} (hd : ChOk d) (hr : ∀ h', sat F h' → RdC h' a ((chPairs d).flatMap pairC)) (hl : d.length = l) (hll : l ≤ 1000000) (hsz : ∀ x ∈ d, x.1.size ≤ 1000000) (H : sat F h) :
    CallsH Tryz.prog 40 [.slice a l c] h fun v h' => ∃ oa, v = .tuple #[.slice (some oa) l l, .bool true] ∧ sat (ownS 103 3 (some oa) l l (d.flatMap chC) :: F) h' := by
  apply F40_ok
  unfold F40
  refine make_ch Tryz.underlying43 chInfo103 hll H fun oa h1 H1 => ?_
  rw [DSl_slice]
  refine LoopH.upto l (fun i (s : Int) h' => s = (i : Int) ∧ i ≤ l ∧ sat (ownS 103 3 (some oa) l l ((d.take i ++ List.replicate (l - i) ch0).flatMap chC) :: F) h') (fun s => l - s.toNat) (fun i s h' hh => ⟨hh.2.1, by rw [hh.1]; omega⟩)
    ⟨rfl, Nat.zero_le _, by simpa using H1⟩ ?_ ?_
  · rintro i s h2 again hi ⟨rfl, _, H2⟩ go
    rw [decide_eq_true (show ((i : Int) < (l : Int)) by omega), cond_true]
    obtain ⟨⟨k, x, g⟩, hx⟩ : ∃ x, d[i]? = some x := ⟨_, List.getElem?_eq_getElem (by omega)⟩
    have hxm := List.mem_of_getElem? hx
    have hxp : (chPairs d)[i]? = some (chPair (k, x, g)) := by unfold chPairs; rw [List.getElem?_map, hx]; rfl
    have hks : k.size ≤ 1000000 := hsz _ hxm
    refine IdxC (f := pairC) (sz := 2) pairC_len (by decide) (hr _ H2.drop) (by unfold chPairs; rw [List.length_map]; exact hl) hxp fun b1 hb1 hc1 => ?_
    have htl : (d.take i).length = i := by rw [List.length_take]; omega
    have hrep : List.replicate (l - i) ch0 = ch0 :: List.replicate (l - (i + 1)) ch0 := by
      rw [show l - i = (l - (i + 1)) + 1 by omega, List.replicate_succ]
    have hget : (d.take i ++ List.replicate (l - i) ch0)[i]? = some ch0 := by
      rw [List.getElem?_append_right (by omega), htl, Nat.sub_self, hrep]
      rfl
    have hset : ∀ y : Ch, (d.take i ++ List.replicate (l - i) ch0).set i y = d.take i ++ y :: List.replicate (l - (i + 1)) ch0 := fun y => by
      rw [hrep, List.set_append_right _ _ (by omega), htl, Nat.sub_self]
      rfl
    have htk : d.take (i + 1) = d.take i ++ [(k, x, g)] := by rw [List.take_add_one, hx]; rfl
    have done : ∀ h', sat (ownS 103 3 (some oa) l l (((d.take i ++ List.replicate (l - i) ch0).set i (k, x, g)).flatMap chC) :: F) h' → sat (ownS 103 3 (some oa) l l ((d.take (i + 1) ++ List.replicate (l - (i + 1)) ch0).flatMap chC) :: F) h' := fun h' H' => by
      rw [hset] at H'
      rw [htk, List.append_assoc]
      exact H'
    have hlen3 : (d.take i ++ List.replicate (l - i) ch0).length = l := by rw [List.length_append, htl, List.length_replicate]; omega
    have put : ∀ {h' : Heap} {b0 : Nat} {e : Obj} {s : ByteArray} {y : ByteArray} {z : Bool} {K : Heap → Prop}, s = k → y = x → z = g → sat (pt b0 e :: ownS 103 3 (some oa) l l ((d.take i ++ List.replicate (l - i) ch0).flatMap chC) :: F) h' →
        (∀ h'', sat (ownS 103 3 (some oa) l l (((d.take i ++ List.replicate (l - i) ch0).set i (k, x, g)).flatMap chC) :: F) h'' → K h'') →
        IdxA (some oa) l (i : Int) 3 fun a1 => StC h' (a1.add 0) (.string s) fun h_7 => StC h_7 (a1.add 1) (.string y) fun h_8 => StC h_8 (a1.add 2) (.bool z) K := by
      rintro h' b0 e s y z K rfl rfl rfl H' hK
      refine IdxC (f := chC) (sz := 3) (fun _ => rfl) (by decide) (ownS_read (H'.mv 1)) hlen3 hget fun b2 hb2 _ => ?_
      cases hb2
      have hli := (List.getElem?_eq_some_iff.1 hget).1
      refine ownC_setJ (f := chC) (sz := 3) (x := ch0) (s, .empty, false) (fun _ => rfl) (H'.mv 1) hget (by decide) rfl fun h3 H3 => ?_
      refine ownC_setJ (f := chC) (sz := 3) (x := (s, .empty, false)) (s, y, false) (fun _ => rfl) H3 (List.getElem?_set_self hli) (by decide) rfl fun h4 H4 => ?_
      refine ownC_setJ (f := chC) (sz := 3) (x := (s, y, false)) (s, y, z) (fun _ => rfl) H4 (List.getElem?_set_self (by rw [List.length_set]; exact hli)) (by decide) rfl fun h5 H5 => ?_
      rw [List.set_set, List.set_set] at H5
      exact hK h5 ((H5.mv 1).drop)
    have hw : IntKind.wrap .i64 ((i : Int) + 1) = ((i + 1 : Nat) : Int) := wrap64_succ (by omega)
    have hps : ∀ (c : UInt8) (s : ByteArray), ((0 : Int) < ((⟨#[c]⟩ ++ s : ByteArray).size : Int)) := fun c s => by
      rw [ByteArray.size_append]
      have : (⟨#[c]⟩ : ByteArray).size = 1 := rfl
      omega
    have hcut : ∀ (c : UInt8) (s : ByteArray), SlS (⟨#[c]⟩ ++ s) 1 (((⟨#[c]⟩ ++ s : ByteArray).size : Nat) : Int) fun t => t = s := fun c s => by
      have := hps c s
      refine ⟨by decide, by omega, Int.le_refl _, ?_⟩
      rw [Int.toNat_natCast]
      exact cut_app s c
    cases g with
    | false =>
      have e1 : chPair (k, x, false) = (pl ++ k, x) := rfl
      rw [e1] at hc1
      refine ⟨.string (pl ++ k), hc1 0 _ rfl, .string x, hc1 1 _ rfl, pl ++ k, x, rfl, ?_⟩
      refine Al_sat H2 fun b0 h3 H3 => ?_
      refine StCC H3 (show 0 < 2 by decide) rfl fun h4 H4 => ?_
      refine StCC (i := 1) H4 (show 1 < 2 by decide) rfl fun h5 H5 => ?_
      have H6 : sat (pt b0 (.cells #[.string (pl ++ k), .string x] 50 (0, 0)) :: ownS 103 3 (some oa) l l ((d.take i ++ List.replicate (l - i) ch0).flatMap chC) :: F) h5 := H5
      refine LdStr (x := pl ++ k) H6 rfl ?_
      rw [show strEq (pl ++ k) .empty = false from app_ne k 43, cond_false]
      refine LdStr (x := pl ++ k) H6 rfl ⟨by decide, hps 43 k, ?_⟩
      rw [show bt (pl ++ k) 0 = 43 from bt_app k 43, show ((43 : Int) != 43) = false from rfl, cond_false]
      refine LdStr (x := pl ++ k) H6 rfl ⟨by decide, hps 43 k, ?_⟩
      rw [show bt (pl ++ k) 0 = 43 from bt_app k 43, show ((43 : Int) == 45) = false from rfl, cond_false]
      refine LdStr (x := pl ++ k) H6 rfl ?_
      obtain ⟨s1, s2, s3, s4⟩ := hcut 43 k
      refine ⟨s1, s2, s3, ?_⟩
      refine LdStr (i := 1) (x := x) H6 rfl ?_
      refine LdStr (x := pl ++ k) H6 rfl ⟨by decide, hps 43 k, ?_⟩
      refine put s4 rfl (by rw [show bt (pl ++ k) 0 = 43 from bt_app k 43]; rfl) H6 fun h6 H7 => ?_
      rw [hw]
      exact go _ _ ⟨rfl, by omega, done _ H7⟩
    | true =>
      have hx0 : x = .empty := hd.1 _ hxm rfl
      have e1 : chPair (k, x, true) = (mi ++ k, .empty) := rfl
      rw [e1] at hc1
      refine ⟨.string (mi ++ k), hc1 0 _ rfl, .string .empty, hc1 1 _ rfl, mi ++ k, .empty, rfl, ?_⟩
      refine Al_sat H2 fun b0 h3 H3 => ?_
      refine StCC H3 (show 0 < 2 by decide) rfl fun h4 H4 => ?_
      refine StCC (i := 1) H4 (show 1 < 2 by decide) rfl fun h5 H5 => ?_
      have H6 : sat (pt b0 (.cells #[.string (mi ++ k), .string .empty] 50 (0, 0)) :: ownS 103 3 (some oa) l l ((d.take i ++ List.replicate (l - i) ch0).flatMap chC) :: F) h5 := H5
      refine LdStr (x := mi ++ k) H6 rfl ?_
      rw [show strEq (mi ++ k) .empty = false from app_ne k 45, cond_false]
      refine LdStr (x := mi ++ k) H6 rfl ⟨by decide, hps 45 k, ?_⟩
      rw [show bt (mi ++ k) 0 = 45 from bt_app k 45, show ((45 : Int) != 43) = true from rfl, cond_true]
      refine LdStr (x := mi ++ k) H6 rfl ⟨by decide, hps 45 k, ?_⟩
      rw [show bt (mi ++ k) 0 = 45 from bt_app k 45, show ((45 : Int) != 45) = false from rfl, cond_false]
      refine LdStr (x := mi ++ k) H6 rfl ⟨by decide, hps 45 k, ?_⟩
      rw [show bt (mi ++ k) 0 = 45 from bt_app k 45, show ((45 : Int) == 45) = true from rfl, cond_true]
      refine LdStr (i := 1) (x := .empty) H6 rfl ?_
      rw [show strEq .empty .empty = true from by rw [strEq_dec]; exact decide_eq_true rfl, Bool.not_true, cond_false]
      refine LdStr (x := mi ++ k) H6 rfl ?_
      obtain ⟨s1, s2, s3, s4⟩ := hcut 45 k
      refine ⟨s1, s2, s3, ?_⟩
      refine LdStr (i := 1) (x := .empty) H6 rfl ?_
      refine LdStr (x := mi ++ k) H6 rfl ⟨by decide, hps 45 k, ?_⟩
      refine put s4 hx0.symm (by rw [show bt (mi ++ k) 0 = 45 from bt_app k 45]; rfl) H6 fun h6 H7 => ?_
      rw [hw]
      exact go _ _ ⟨rfl, by omega, done _ H7⟩
  · rintro s h2 again ⟨rfl, _, H2⟩
    rw [decide_eq_false (by omega), cond_false]
    rw [Nat.sub_self, List.replicate_zero, List.append_nil, List.take_of_length_le (by omega)] at H2
    refine (F107_spec (F := ownS 103 3 (some oa) l l (d.flatMap chC) :: F) (fun h' hh => ownS_read hh) hl (by omega) hd.2 H2).mono ?_
    rintro v h3 ⟨rfl, H3⟩
    rw [DB_bool]
    exact ⟨oa, rfl, H3⟩
end
end Go.Proofs.YtibdiikcigokjaaGreat
