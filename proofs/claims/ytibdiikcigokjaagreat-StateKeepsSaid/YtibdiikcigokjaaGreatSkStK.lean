/- StateKeeps (seat S). -/
import Derived.Test.YtibdiikcigokjaaGreatSkStF
import Derived.Test.YtibdiikcigokjaaGreatSkStG
namespace Go.Proofs.YtibdiikcigokjaaGreat
open Go Go.RowKit Go.MapKept
set_option linter.unusedVariables false
set_option linter.unusedSimpArgs false
open AF (nmI IdOk Live Has Upd Dirc ltB goG er Dur)
open TS (Ch chC Diffs appL VT tabZ tabP)

def keepS (x3 x1 : Option Addr) (drop0 : Int) (picks0a : Option Addr) (picks0l picks0c : Nat) (al : Sl) (h0 : Heap) (Q : Value → Heap → Prop) : Prop :=
  ((IntKind.wrap .i64 ((al.l : Int) + 1)) : Int) ≠ 0 ∧
              CallsH Tryz.prog 12 [.pointer x3, .int .i64 (Int.tmod (IntKind.wrap .i64 drop0) (IntKind.wrap .i64 ((al.l : Int) + 1)))] h0 fun r34 h_38 =>
              DI .i64 r34 fun x44 =>
              CallsH Tryz.prog 20 [.pointer x1, .slice picks0a picks0l picks0c] h_38 fun r35 h_39 =>
              DI .i64 r35 fun x45 =>
              CallsH Tryz.prog 9 [.pointer x1, .string ⟨#[115]⟩] h_39 fun r36 h_40 =>
              ∃ (x46 : Option Addr), ∃ (x47 : Int), r36 = .tuple #[.pointer x46, .int .i64 x47] ∧
              (bif (x47 : Int) != 0 then
                Q (.bool false) h_40
              else
                LoopH (fun again4 (s4 : Int) h_41 =>
                  (bif decide ((s4 : Int) < (al.l : Int)) then
                    (bif decide (((IntKind.wrap .i64 (s4 + 1)) : Int) < (Int.tmod (IntKind.wrap .i64 drop0) (IntKind.wrap .i64 ((al.l : Int) + 1)))) then
                      again4 (IntKind.wrap .i64 (s4 + 1)) h_41
                    else
                      CallsH Tryz.prog 8 [.pointer x46, .int .i64 (IntKind.wrap .i64 (s4 + 1))] h_41 fun r37 h_42 =>
                      ∃ (x48 : Option Addr), ∃ (x49 : Int), r37 = .tuple #[.pointer x48, .int .i64 x49] ∧
                      (bif (x49 : Int) != 0 then
                        (SameV (some (.tuple #[])) (.tuple #[])) ∧
                        (SameV (some (.tuple #[])) (.tuple #[])) ∧
                        (SameV (some (.tuple #[])) (.tuple #[])) ∧
                        (SameV (some (.tuple #[])) (.tuple #[])) ∧
                        Q (.bool false) h_42
                      else
                        IdxA al.a al.l s4 1 fun a8 =>
                        Ld h_42 a8 fun v8 => DSl v8 fun x50a x50l x50c =>
                        CallsH Tryz.prog 22 [.pointer x48] h_42 fun r38 h_43 =>
                        DSl r38 fun x51a x51l x51c =>
                        (SameV (some (.slice al.a al.l al.c)) (.slice al.a al.l al.c)) ∧
                        (SameV (some (.int .i64 s4)) (.int .i64 s4)) ∧
                        (IdxA al.a al.l s4 1 fun a9 =>
                        SameV (some (.pointer (some a8))) (.pointer (some a9))) ∧
                        (Ld h_43 a8 fun v9 => DSl v9 fun x52a x52l x52c =>
                        SameV (some (.slice x50a x50l x50c)) (.slice x52a x52l x52c)) ∧
                        CallsH Tryz.prog 21 [.slice x51a x51l x51c, .slice x50a x50l x50c] h_43 fun r39 h_44 =>
                        DB r39 fun x53 =>
                        (bif !x53 then
                          Q (.bool false) h_44
                        else
                          again4 (IntKind.wrap .i64 (s4 + 1)) h_44)))
                  else
                    Q (.bool true) h_41)) 0 h_40)

theorem sat.shut1 {A : HProp} {m F : List HProp} {h : Heap} (H : sat (A :: (m ++ F)) h) : sat (A :: Many m :: F) h := let ⟨r, hr, hs⟩ := H; ⟨r, sep_mono (fun _ h => h) (fun _ h => star_append.1 h) hr, hs⟩
/-- A slice of pairs, as one cell has it. -/
def prsE (ps : Prs) (v : Value) : HProp := exi fun q : Option Addr × Nat => Many [pur (v = .slice q.1 ps.length q.2), roS q.1 (ps.flatMap pairC)]
theorem prsE_mk {F : List HProp} {h : Heap} {a : Option Addr} {c : Nat} {ps : Prs} (H : sat (roS a (ps.flatMap pairC) :: F) h) : sat (prsE ps (.slice a ps.length c) :: F) h :=
  sat_exi.2 ⟨(a, c), sat.shut (m := [_, _]) (sat_pur.2 ⟨rfl, H⟩)⟩
theorem prsE_rd {F : List HProp} {h : Heap} {v : Value} {ps : Prs} (H : sat (prsE ps v :: F) h) : ∃ a c, v = .slice a ps.length c ∧ RdC h a (ps.flatMap pairC) := by
  obtain ⟨⟨a, c⟩, H2⟩ := sat_exi.1 H
  obtain ⟨h1, H3⟩ := sat_pur.1 H2.open
  exact ⟨a, c, h1, roS_read H3⟩
def sS : ByteArray := ⟨#[115]⟩
/-- What must be left of a store's files. -/
def PK (G : Int → Tb.T VT) (d : Nat) (low : Int) (U : Dirc) : Prop := ∃ D N c G', SF ⟨sS, D, N⟩ U c ∧ CntOk ⟨sS, D, N⟩ c G' ∧ (∀ k, k ≤ (d : Int) → G' k = G k) ∧
  ∀ k, low ≤ k → 1 ≤ k → k ≤ (d : Int) → ∀ j, nearL (N.map (·.1)) k < j → j ≤ k → (j, ()) ∈ D
section
variable {G G' : Int → Tb.T VT} {A : AF.FS} {S : Sto} {T : Dirc} {c : Cnt} {d : Nat} {low : Int}
theorem PK.of (I : SF S T c) (C : CntOk S c G') (hd : S.dir = sS) (hG : ∀ k, k ≤ (d : Int) → G' k = G k) (hD : ∀ j, 1 ≤ j → j ≤ (d : Int) → (j, ()) ∈ S.D) : PK G d low T := by
  obtain ⟨dir, D, N⟩ := S
  simp only at hd
  subst hd
  refine ⟨D, N, c, G', I, C, hG, fun k _ h1 h2 j h3 h4 => hD j ?_ (by omega)⟩
  have := (nearL_facts (N.map (·.1)) k (by omega)).1
  omega
theorem PK.dropped (K : KS A S T c) (C : CntOk S c G) (hd : S.dir = sS) (hlow : 0 ≤ low) (hD : ∀ j, 1 ≤ j → j ≤ (d : Int) → (j, ()) ∈ S.D) : Dur (S.drop A low).1 sS (PK G d low) := by
  have := drop_dur K.sf K.live K.has K.dur low
  rw [hd] at this
  refine this.mono fun U hU => ?_
  obtain ⟨D, N, I, C', d1, d2, n1, n2⟩ := hU.sf K.sf C
  rw [hd] at I C'
  obtain ⟨a1, a2, a3, a4⟩ := nearL_facts (S.N.map (·.1)) low hlow
  refine ⟨D, N, c, G, I, C', fun _ _ => rfl, fun k h1 h2 h3 j h4 h5 => ?_⟩
  obtain ⟨b1, b2, b3, b4⟩ := nearL_facts (N.map (·.1)) k (by omega)
  have hat : nearL (S.N.map (·.1)) low ≤ nearL (N.map (·.1)) k := by
    rcases a3 with a3 | a3
    · omega
    · exact b4 _ (memSet (n2 _ (memU a3) (Int.le_refl _))) (by omega)
  exact d2 _ (hD j (by omega) (by omega)) (by simp only; omega)
end
section
variable {h : Heap} {F : List HProp} {fsb b : Nat} {G : Int → Tb.T VT} {A : AF.FS} {S : Sto}
set_option maxHeartbeats 1000000 in
theorem keepS_spec {pa : Option Addr} {pl pc m d : Nat} {al : Sl} {Gs : List Prs} {ps : List Int} {h0 : Heap} (hp : Pks [old h0] ps pa pl pc) (hm : m < 256) (hd : d ≤ 12) (hal : al.l = d) (hGs : Gs.length = d) (hG : ∀ (j : Nat) (x : Prs), Gs[j]? = some x → x = G ((j + 1 : Nat) : Int)) (hGl : ∀ k, (G k).length ≤ 60)
    (W : A.WF) (hst : A.steps ≤ 1000) (hS : S.D.length + S.N.length ≤ 40) (hdir : S.dir = sS) (D : Dur (S.drop A ((m % (d + 1) : Nat) : Int)).1 sS (PK G d ((m % (d + 1) : Nat) : Int)))
    (H : sat (stoM b fsb S :: fsP fsb A :: ownL prsE 41 al.a al.l al.c Gs :: old h0 :: F) h) : keepS (some ⟨b, 0, none⟩) (some ⟨fsb, 0, none⟩) (m : Int) pa pl pc al h (Good h0) := by
  unfold keepS
  have szS : sS.size = 1 := rfl
  rw [hal, wrap64_succ (show d < 9223372036854775807 by omega), wrap64_nat (show m < 9223372036854775808 by omega), tmod_nat]
  refine ⟨by omega, ?_⟩
  obtain ⟨low, hlow⟩ : ∃ low : Nat, low = m % (d + 1) := ⟨_, rfl⟩
  rw [← hlow] at D ⊢
  have hll : low < d + 1 := by rw [hlow]; exact Nat.mod_lt _ (by omega)
  refine (F12_spec (below := (low : Int)) W (by omega) (by rw [hdir, szS]; omega) (by omega) H).mono ?_
  rintro v h1 ⟨rfl, W1, hs1, H1⟩
  rw [DI_int]
  generalize (S.drop A (low : Int)).1 = A1 at D W1 hs1 H1
  -- sto, fs, all, old, F
  have hp2 : Pks (stoM b fsb (S.drop A (low : Int)).2.1 :: ownL prsE 41 al.a d al.c Gs :: old h0 :: F) ps pa pl pc := ⟨hp.1, hp.2, fun h' hh => hp.3 h' (hh.ord [2])⟩
  rw [hal] at H1
  refine (F20_spec W1 hp2 (by omega) (H1.mv 1)).mono ?_
  rintro v h2 ⟨rfl, H2⟩
  rw [DI_int]
  obtain ⟨T, L, Hs, D2, N2, c2, G2, I2, C2, hG2, hall⟩ := AF.crash_dur W1 D ps
  have hst2 : (A1.crash ps).steps = A1.steps := rfl
  obtain ⟨B, eB, uB⟩ := AF.prep_tmp L Hs
  refine (F9_spec (dir := sS) L.wf (by omega) (by rw [szS]; omega) eB I2.names H2).mono ?_
  rintro v h3 ⟨b2, D3, N3, rfl, hD3, hN3, W3, hs3, H3⟩
  have e1 := I2.setD hD3
  have e2 := I2.setN hN3
  simp only at e1 e2
  subst e1 e2
  refine ⟨some ⟨b2, 0, none⟩, 0, rfl, ?_⟩
  rw [show ((0 : Int) != 0) = false from rfl, cond_false]
  have H4 : sat (stoM b2 fsb ⟨sS, D3, N3⟩ :: fsP fsb B :: ownL prsE 41 al.a d al.c Gs :: [old h0]) h3 := H3.ordT 5 [0, 1, 3, 4] |>.dropTail (l := [_, _, _, _])
  obtain ⟨vs, hvl, H5⟩ := ownL_open (H4.mv 2)
  have H6 := sat.shut1 H5
  -- own, many, sto, fs, old
  have hG3 : ∀ k : Int, k ≤ (d : Int) → (G2 k).length ≤ 60 := fun k hk => by rw [hG2 k hk]; exact hGl k
  refine LoopH.upto d (fun i (s : Int) h' => s = (i : Int) ∧ i ≤ d ∧ sat (ownS 41 1 al.a d al.c vs :: Many (List.zipWith prsE Gs vs) :: stoM b2 fsb ⟨sS, D3, N3⟩ :: fsP fsb B :: [old h0]) h') (fun s => d - s.toNat) (fun i s h' hh => ⟨hh.2.1, by rw [hh.1]; omega⟩) ⟨rfl, Nat.zero_le _, H6⟩ ?_ ?_
  · rintro i s h4 again hi ⟨rfl, _, K⟩ go
    rw [decide_eq_true (show ((i : Int) < (d : Int)) by omega), cond_true, wrap64_succ (show i < 9223372036854775807 by omega)]
    by_cases hsk : i + 1 < low
    · rw [decide_eq_true (show (((i + 1 : Nat) : Int) < (low : Int)) by omega), cond_true]
      exact go _ _ ⟨rfl, by omega, K⟩
    rw [decide_eq_false (show ¬ (((i + 1 : Nat) : Int) < (low : Int)) by omega), cond_false]
    refine (F8_spec (v := ((i + 1 : Nat) : Int)) I2 uB.live uB.here C2 (by rw [show (Sto.dir ⟨sS, D3, N3⟩) = sS from rfl, szS]; omega) (by omega) (by omega) (K.ordT 5 [2, 3, 0, 1, 4])).mono ?_
    rintro r h5 (⟨_, t, rfl, K1⟩ | ⟨hno, _⟩)
    rotate_left
    · exact (hno fun k h1 h2 => hall _ (by omega) (by omega) (by omega) k h1 h2).elim
    refine ⟨some ⟨t, 0, none⟩, 0, rfl, ?_⟩
    rw [show ((0 : Int) != 0) = false from rfl, cond_false]
    -- t, sto, fs, own, many, old
    obtain ⟨x, hx⟩ : ∃ x, Gs[i]? = some x := ⟨_, List.getElem?_eq_getElem (by omega)⟩
    obtain ⟨vv, hvv⟩ : ∃ x, vs[i]? = some x := ⟨_, List.getElem?_eq_getElem (by omega)⟩
    have hxe := hG i x hx
    have rd : ∀ {F' : List HProp} {h' : Heap}, sat (Many (List.zipWith prsE Gs vs) :: F') h' → ∃ a c, vv = .slice a x.length c ∧ RdC h' a (x.flatMap pairC) := fun H' => prsE_rd (many_out H' hx hvv)
    obtain ⟨xa, xc, hve, _⟩ := rd (K1.mv 4)
    subst hve
    refine IdxA_nat (v := .slice xa x.length xc) (ownS_read (K1.mv 3)) (by rw [hvl, hGs]) hvv fun ba hba hcell => CSl hcell ?_
    rw [hG2 _ (by omega), ← hxe] at K1
    have hxl : x.length ≤ 60 := by rw [hxe]; exact hGl _
    refine (F22_spec (by omega) K1).mono ?_
    rintro r h6 ⟨ya, yc, rfl, K2⟩
    rw [DSl_slice]
    -- own2, t, sto, fs, own, many, old
    obtain ⟨xa2, xc2, hve2, hrd⟩ := rd (K2.mv 5)
    simp only [Value.slice.injEq] at hve2
    obtain ⟨rfl, _, rfl⟩ := hve2
    refine ⟨rfl, rfl, ?_, ?_, ?_⟩
    · refine IdxA_nat (v := .slice xa x.length xc) (ownS_read (K2.mv 4)) (by rw [hvl, hGs]) hvv fun bb hbb hcell2 => ?_
      rw [hba] at hbb
      cases hbb
      rfl
    · obtain ⟨bb, hbb, hcell2⟩ := (ownS_read (K2.mv 4)).nilOr hvv
      rw [hba] at hbb
      cases hbb
      exact CSl hcell2 rfl
    refine (F21_spec (ownS_read K2) rfl hrd rfl (by omega) (by omega)).mono ?_
    rintro r h7 ⟨rfl, rfl⟩
    rw [DB_bool, decide_eq_true rfl, Bool.not_true, cond_false]
    exact go _ _ ⟨rfl, by omega, K2.ordT 7 [4, 5, 2, 3, 6]⟩
  · rintro s h4 again ⟨rfl, _, K⟩
    rw [decide_eq_false (by omega), cond_false]
    exact good_of (K.mv 4)
structure KSI (G : Int → Tb.T VT) (i : Nat) (A : AF.FS) (S : Sto) (T : Dirc) (c : Cnt) : Prop where
  k : KS A S T c
  dir : S.dir = sS
  cnt : CntOk S c G
  D : ∀ x, (x, ()) ∈ S.D ↔ 1 ≤ x ∧ x ≤ (i : Int)
  N : ∀ x, (x, ()) ∈ S.N → 1 ≤ x ∧ x ≤ (i : Int)
  room : A.room = 1048576
  used : A.used ≤ i * 77400
  steps : A.steps ≤ 2 + i * 20
end
end Go.Proofs.YtibdiikcigokjaaGreat
