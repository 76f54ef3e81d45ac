/- Commit (seat S). -/
import Derived.Test.YtibdiikcigokjaaGreatSkSt7
namespace Go.Proofs.YtibdiikcigokjaaGreat
open Go Go.RowKit Go.MapKept
set_option linter.unusedVariables false
set_option linter.unusedSimpArgs false
open AF (nmI IdOk Live Has Upd Dirc ltB)
open TS (Ch chC Diffs appL VT tabZ tabP)

section
variable {F : List HProp} {h : Heap} {b fsb : Nat} {S : Sto} {A : AF.FS}
theorem LdBl {b i : Nat} {c : Array Value} {e : TypeId} {fr : Nat × Nat} {x : Bool} {K : Bool → Prop} (H : sat (pt b (.cells c e fr) :: F) h) (hv : c[i]? = some (.bool x)) (hK : K x) : Ld h ((Addr.mk b 0 none).add i) fun v => DB v K :=
  ⟨.bool x, cell_pt (i := i) H hv, x, rfl, hK⟩
set_option maxHeartbeats 1000000 in
theorem F10_spec {v : Int} {pa pb : Option Addr} {was now : Tb.T VT} (hv : VOk v) (W : A.WF) (hs : A.steps + 10 < 1099511627776) (hd : S.dir.size < 4611686018427387904) (ha : was.length < 1000000) (hb : now.length < 1000000)
    (hf : ∀ d, Diffs was now d → Fit (chPairs d)) (H : sat (stoM b fsb S :: fsP fsb A :: tabZ pa was :: tabZ pb now :: F) h) :
    CallsH Tryz.prog 10 [ptrV b, .int .i64 v, .pointer pa, .pointer pb] h fun r h' => ∃ d, Diffs was now d ∧ r = .int .i64 (((S.lay A 100 v (chPairs d)).2.2 : Nat) : Int) ∧ (S.lay A 100 v (chPairs d)).1.WF ∧ (S.lay A 100 v (chPairs d)).1.steps ≤ A.steps + 6 ∧
      sat (stoM b fsb (S.lay A 100 v (chPairs d)).2.1 :: fsP fsb (S.lay A 100 v (chPairs d)).1 :: tabZ pa was :: tabZ pb now :: F) h' := by
  apply F10_ok
  unfold F10
  refine (F44_spec (v := v)).mono ?_
  rintro r h0 ⟨rfl, rfl⟩
  rw [if_neg (by have := hv.1; have := hv.2; omega), DI_int, show ((0 : Int) != 0) = false from rfl, cond_false]
  refine (TS.F18_spec (by omega) (by omega) (H.ordT 4 [2, 3, 0, 1])).mono ?_
  rintro r h1 ⟨sa, n, c, d, rfl, hdn, hD, H1⟩
  -- ch, was, now, sto, fs, F
  rw [DSl_slice]
  obtain ⟨f1, f2, f3⟩ := hf d hD
  have hpl : (chPairs d).length = d.length := List.length_map _
  rw [hpl] at f2
  have hn1 : n ≤ 1000000 := by omega
  have hks : ∀ x ∈ d, x.1.size ≤ 1000000 := fun x hx => by
    have := (f3 (chPair x) (List.mem_map.2 ⟨x, hx, rfl⟩)).1
    unfold chPair at this
    split at this <;> simp only [ByteArray.size_append] at this <;> omega
  refine LoopH.upto n (fun i (s : Sl × Int) h' => s.2 = (i : Int) ∧ i ≤ n ∧ s.1.l = i ∧ sat (ownS 50 2 s.1.a i s.1.c ((chPairs (d.take i)).flatMap pairC) :: ownS 103 3 sa n c (d.flatMap chC) :: tabZ pa was :: tabZ pb now :: stoM b fsb S :: fsP fsb A :: F) h') (fun s => n - s.2.toNat) (fun i s h2 hh => ⟨hh.2.1, by rw [hh.1]; omega⟩)
    ⟨rfl, Nat.zero_le _, rfl, ownS_nil 50 2 H1⟩ ?_ ?_
  · rintro i ⟨⟨la, ll, lc⟩, s2⟩ h2 again hi ⟨rfl, _, hsl, H2⟩ go
    dsimp only at hsl H2 ⊢
    subst hsl
    rw [decide_eq_true (show ((ll : Int) < (n : Int)) by omega), cond_true]
    obtain ⟨⟨k, x, g⟩, hx⟩ : ∃ x, d[ll]? = some x := ⟨_, List.getElem?_eq_getElem (by omega)⟩
    have hxm := List.mem_of_getElem? hx
    have hkz := hks _ hxm
    simp only at hkz
    refine IdxC (f := chC) (sz := 3) (fun _ => rfl) (by decide) (ownS_read (H2.mv 1)) hdn hx fun b1 hb1 hc1 => ?_
    refine ⟨.string k, hc1 0 _ rfl, .string x, hc1 1 _ rfl, .bool g, hc1 2 _ rfl, k, x, g, rfl, ?_⟩
    refine Al_sat H2 fun b0 h3 H3 => ?_
    refine StCC H3 (show 0 < 3 by decide) rfl fun h4 H4 => ?_
    refine StCC (i := 1) H4 (show 1 < 3 by decide) rfl fun h5 H5 => ?_
    refine StCC (i := 2) H5 (show 2 < 3 by decide) rfl fun h6 H6 => ?_
    have H7 : sat (pt b0 (.cells #[.string k, .string x, .bool g] 103 (0, 0)) :: ownS 50 2 la ll lc ((chPairs (d.take ll)).flatMap pairC) :: ownS 103 3 sa n c (d.flatMap chC) :: tabZ pa was :: tabZ pb now :: stoM b fsb S :: fsP fsb A :: F) h6 := H6
    have one : (⟨#[43]⟩ : ByteArray).size = 1 := rfl
    have one' : (⟨#[45]⟩ : ByteArray).size = 1 := rfl
    refine LdStr (x := k) H7 rfl ⟨by omega, ?_⟩
    refine LdStr (i := 1) (x := x) H7 rfl ?_
    refine Al_sat H7 fun b1' h7 H8 => ?_
    refine StCC H8 (show 0 < 2 by decide) rfl fun h8 H9 => ?_
    refine StCC (i := 1) H9 (show 1 < 2 by decide) rfl fun h9 H10 => ?_
    have H11 : sat (pt b1' (.cells #[.string (pl ++ k), .string x] 50 (0, 0)) :: pt b0 (.cells #[.string k, .string x, .bool g] 103 (0, 0)) :: ownS 50 2 la ll lc ((chPairs (d.take ll)).flatMap pairC) :: ownS 103 3 sa n c (d.flatMap chC) :: tabZ pa was :: tabZ pb now :: stoM b fsb S :: fsP fsb A :: F) h9 := H10
    refine LdBl (i := 2) (x := g) (H11.mv 1) rfl ?_
    have hw : IntKind.wrap .i64 ((ll : Int) + 1) = ((ll + 1 : Nat) : Int) := wrap64_succ (by omega)
    have e2 : (chPairs (d.take (ll + 1))).flatMap pairC = (chPairs (d.take ll)).flatMap pairC ++ pairC (chPair (k, x, g)) := by
      unfold chPairs
      rw [List.take_add_one, hx, List.map_append, List.flatMap_append]
      simp
    cases g with
    | true =>
      rw [cond_true]
      refine LdStr (x := k) (H11.mv 1) rfl ⟨by omega, ?_⟩
      refine StCC H11 (show 0 < 2 by decide) rfl fun h10 H12 => ?_
      refine StCC (i := 1) H12 (show 1 < 2 by decide) rfl fun h11 H13 => ?_
      have H14 : sat (pt b1' (.cells #[.string (mi ++ k), .string .empty] 50 (0, 0)) :: pt b0 (.cells #[.string k, .string x, .bool true] 103 (0, 0)) :: ownS 50 2 la ll lc ((chPairs (d.take ll)).flatMap pairC) :: ownS 103 3 sa n c (d.flatMap chC) :: tabZ pa was :: tabZ pb now :: stoM b fsb S :: fsP fsb A :: F) h11 := H13
      refine ⟨.string (mi ++ k), by rw [addr_add0, cellAt_of H14.get]; rfl, .string .empty, cell_pt (i := 1) H14 rfl, mi ++ k, .empty, rfl, ?_⟩
      refine Al_sat H14 fun b3 h12 H15 => ?_
      refine appendN u144 src144 inf146 (H15.mv 3) (n := 1) (ys := pairC (mi ++ k, .empty)) (srcOf_slice (RdCf H15 rfl) rfl) (by intro u hu; simp [pairC] at hu; rcases hu with rfl | rfl <;> rfl) (by omega) fun a' c' h13 _ H16 => ?_
      rw [DSl_slice, hw]
      refine go _ _ ⟨rfl, by omega, rfl, ?_⟩
      dsimp only
      rw [e2]
      exact H16.ordT 9 [0, 4, 5, 6, 7, 8]
    | false =>
      rw [cond_false]
      refine ⟨.string (pl ++ k), by rw [addr_add0, cellAt_of H11.get]; rfl, .string x, cell_pt (i := 1) H11 rfl, pl ++ k, x, rfl, ?_⟩
      refine Al_sat H11 fun b3 h12 H15 => ?_
      refine appendN u144 src144 inf146 (H15.mv 3) (n := 1) (ys := pairC (pl ++ k, x)) (srcOf_slice (RdCf H15 rfl) rfl) (by intro u hu; simp [pairC] at hu; rcases hu with rfl | rfl <;> rfl) (by omega) fun a' c' h13 _ H16 => ?_
      rw [DSl_slice, hw]
      refine go _ _ ⟨rfl, by omega, rfl, ?_⟩
      dsimp only
      rw [e2]
      exact H16.ordT 9 [0, 4, 5, 6, 7, 8]
  · rintro ⟨⟨la, ll, lc⟩, s2⟩ h2 again ⟨rfl, _, hsl, H2⟩
    dsimp only at hsl H2 ⊢
    subst hsl
    rw [decide_eq_false (by omega), cond_false, NN'_some]
    rw [List.take_of_length_le (by omega)] at H2
    -- pairs, ch, was, now, sto, fs, F
    obtain ⟨dm, nm, H3⟩ := stoM_open (H2.mv 4)
    refine LdMp (x := dm) H3 rfl ?_
    -- b, D, N, pairs, ch, was, now, fs, F
    refine (F45_spec (F := ownS 50 2 la ll lc ((chPairs d).flatMap pairC) :: ownS 103 3 sa ll c (d.flatMap chC) :: tabZ pa was :: tabZ pb now :: F) (c := 100) (v := v) (ps := chPairs d) (.inl ⟨rfl, rfl⟩) sgD rfl W hs hd ⟨f1, by rw [hpl]; exact f2, f3⟩ (fun h' hh => ownS_read hh) (by rw [hpl, hdn]) (H3.ordT 8 [0, 1, 2, 7, 3, 4, 5, 6])).mono ?_
    rintro r h3 ⟨rfl, W3, hs3, H4⟩
    rw [DI_int]
    exact ⟨d, hD, rfl, W3, hs3, H4.ordT 6 [0, 1, 4, 5]⟩
end
end Go.Proofs.YtibdiikcigokjaaGreat
