/- MetaKeeps: what was put stays. -/
import Derived.Test.YticjjdhaikbdaaaGreatMkMpX
import Derived.Test.YticjjdhaikbdaaaGreatMkMsX
namespace Go.Proofs.YticjjdhaikbdaaaGreat
open Go Go.RowKit Go.MapKept
set_option linter.unusedVariables false
set_option linter.unusedSimpArgs false
open AF (Meta copyT topT nmI Ent IdOk MInv MF Live Has Upd Dirc Dur er)
open Hex (digs)

def keepT (picks0a : Option Addr) (picks0l picks0c b0 : Nat) (x1 : Option Addr) (s0 : Int × Int) (h_11 : Heap) (Q : Value → Heap → Prop) : Prop :=
  CallsH Tryz.prog 38 [.pointer x1, .slice picks0a picks0l picks0c] h_11 fun r71 h_120 =>
            DI .i64 r71 fun x58 =>
            CallsH Tryz.prog 28 [.pointer x1, .string ⟨#[100]⟩] h_120 fun r72 h_121 =>
            ∃ (x59 : Option Addr), ∃ (x60 : Int), r72 = .tuple #[.pointer x59, .int .i64 x60] ∧
            (bif (x60 : Int) != 0 then
              StC h_121 ((Addr.mk b0 0 none).add 0) (.bool false) fun h_123 =>
              Ld h_123 (Addr.mk b0 0 none) fun v55 => DB v55 fun res23 =>
              Q (.bool res23) h_123
            else
              Al h_121 (.cells #[.int .i64 0] 2) fun b12 h_124 =>
              StC h_124 ((Addr.mk b12 0 none).add 0) (.int .i64 0) fun h_126 =>
              CallsH Tryz.prog 34 [.pointer x59] h_126 fun r76 h_127 =>
              ∃ (x61 : Value), r76 = x61 ∧
              RangeFn Tryz.prog x61 2 none h_127 (fun l_5 rec_5 args5 h_128 Q_5 =>
                ∃ (y10 : Int), ∃ (y11a : Option Addr), ∃ (y11l : Nat), ∃ (y11c : Nat), args5 = [.int .i64 y10, .slice y11a y11l y11c] ∧
                h_128[l_5]? = some (rec_5 .ready none) ∧
                Ld (h_128.setIfInBounds l_5 (rec_5 .busy none)) (Addr.mk b12 0 none) fun v56 => DI .i64 v56 fun x62 =>
                (bif (y10 : Int) != x62 then
                  StC (h_128.setIfInBounds l_5 (rec_5 .busy none)) ((Addr.mk b0 0 none).add 0) (.bool false) fun h_130 =>
                  h_130[l_5]? = some (rec_5 .busy none) ∧ Q_5 (.bool false) (h_130.setIfInBounds l_5 (rec_5 .done (some .ret)))
                else
                  ∃ bs10 : ByteArray, BytesIn (h_128.setIfInBounds l_5 (rec_5 .busy none)) y11a y11l bs10 ∧
                  Ld (h_128.setIfInBounds l_5 (rec_5 .busy none)) (Addr.mk b12 0 none) fun v57 => DI .i64 v57 fun x63 =>
                  Ld (h_128.setIfInBounds l_5 (rec_5 .busy none)) (Addr.mk b12 0 none) fun v58 => DI .i64 v58 fun x64 =>
                  Al (h_128.setIfInBounds l_5 (rec_5 .busy none)) (.cells #[.int .u8 (IntKind.wrap .u8 x63), .int .u8 (IntKind.wrap .u8 (IntKind.wrap .i64 (x64 * 3)))] 5) fun b13 h_131 =>
                  ∃ bs11 : ByteArray, BytesIn h_131 (some (Addr.mk b13 0 none)) 2 bs11 ∧
                  (bif !strEq bs10 bs11 then
                    StC h_131 ((Addr.mk b0 0 none).add 0) (.bool false) fun h_133 =>
                    h_133[l_5]? = some (rec_5 .busy none) ∧ Q_5 (.bool false) (h_133.setIfInBounds l_5 (rec_5 .done (some .ret)))
                  else
                    Ld h_131 (Addr.mk b12 0 none) fun v59 => DI .i64 v59 fun x65 =>
                    StC h_131 ((Addr.mk b12 0 none).add 0) (.int .i64 (IntKind.wrap .i64 (x65 + 1))) fun h_135 =>
                    h_135[l_5]? = some (rec_5 .busy none) ∧ Q_5 (.bool true) (h_135.setIfInBounds l_5 (rec_5 .ready none))))) (fun pend5 h_136 =>
                (pend5 = none ∨ pend5 = some (.ret)) ∧
                (pend5 = none →
                  Ld h_136 (Addr.mk b12 0 none) fun v60 => DI .i64 v60 fun x66 =>
                  (bif decide ((x66 : Int) ≥ s0.1) then
                    Ld h_136 (Addr.mk b12 0 none) fun v61 => DI .i64 v61 fun x67 =>
                    StC h_136 ((Addr.mk b0 0 none).add 0) (.bool (decide ((x67 : Int) ≤ (IntKind.wrap .i64 (s0.1 + 1))))) fun h_138 =>
                    h_138[h_127.size]? = some (.deferred (some [])) ∧
                    Ld (h_138.setIfInBounds h_127.size (.deferred none)) (Addr.mk b0 0 none) fun v62 => DB v62 fun res24 =>
                    Q (.bool res24) (h_138.setIfInBounds h_127.size (.deferred none))
                  else
                    StC h_136 ((Addr.mk b0 0 none).add 0) (.bool false) fun h_140 =>
                    h_140[h_127.size]? = some (.deferred (some [])) ∧
                    Ld (h_140.setIfInBounds h_127.size (.deferred none)) (Addr.mk b0 0 none) fun v63 => DB v63 fun res25 =>
                    Q (.bool res25) (h_140.setIfInBounds h_127.size (.deferred none)))) ∧
                (pend5 = some (.ret) →
                  h_136[h_127.size]? = some (.deferred (some [])) ∧
                  Ld (h_136.setIfInBounds h_127.size (.deferred none)) (Addr.mk b0 0 none) fun v64 => DB v64 fun res26 =>
                  Q (.bool res26) (h_136.setIfInBounds h_127.size (.deferred none)))))

def kv (i : Nat) : Int × List Nat := ((i : Int), [i, 3 * i])
def kE (n : Nat) : Ent := (List.range n).map kv
theorem kE_up (n : Nat) : UpT (kE n) := by
  unfold kE UpT
  rw [List.pairwise_map]
  exact List.pairwise_lt_range.imp fun h => by unfold kv; simp only; omega
theorem kE_get (n : Nat) (k : Int) : getT (kE n) k = if 0 ≤ k ∧ k < (n : Int) then some [k.toNat, 3 * k.toNat] else none := by
  by_cases h : 0 ≤ k ∧ k < (n : Int)
  · rw [if_pos h]
    refine mem_getT (kE_up n) (List.mem_map.2 ⟨k.toNat, List.mem_range.2 (by omega), ?_⟩)
    unfold kv
    rw [Int.toNat_of_nonneg h.1]
  · rw [if_neg h, getT_none]
    intro p hp e
    obtain ⟨i, hi, rfl⟩ := List.mem_map.1 hp
    have := List.mem_range.1 hi
    unfold kv at e
    simp only at e
    omega
def KeepP (d : Nat) (U : Dirc) : Prop := ∃ M', MF M' U ∧ M'.dir = dN ∧ ∃ n, (n = d ∨ n = d + 1) ∧ ∀ k, M'.get k = getT (kE n) k
section
variable {F : List HProp} {h : Heap} {fb : Nat} {A : AF.FS}
theorem live_openW {M : Meta} {T : Dirc} (I : MF M (AF.unT T)) (L : Live A) (H : Has A M.dir T) (hs : A.steps + 20000 < 1099511627776) (hd : M.dir.size < 4611686018427387904) (Hs : sat (fsP fb A :: F) h) :
    CallsH Tryz.prog 28 [ptrV fb, .string M.dir] h fun v h' => ∃ b' B, v = .tuple #[ptrV b', .int .i64 0] ∧ Upd 0 0 (T.length + 1) A B M.dir (AF.unT T) ∧ sat (logM b' fb M :: fsP fb B :: F) h' := by
  obtain ⟨B, e, u⟩ := AF.prep_tmp L H
  have e2 : (M.S.map fun p : Int × List Nat => (p.1, ([] : List Nat))).map (·.1) = M.S.map (·.1) := by rw [List.map_map]; rfl
  refine (F28_spec (B := B) (ks := (AF.unT T).map (·.1)) (S0 := M.S.map fun p => (p.1, [])) (S := M.S) (D := M.D) (Fo := M.Fo) L.wf hs hd e I.scan (by rw [e2]; exact I.reads u.live u.here) ?_ Hs).mono ?_
  · rcases I.fold with ⟨e1, e2⟩ | ⟨h1, e1, hf⟩
    · exact .inl ⟨by rw [e1]; decide, e2⟩
    · exact .inr ⟨unfold_ok, e1, I.upD, h1, fun p hp => ⟨(I.okD p hp).1, (I.okD p hp).2.1⟩, Nat.le_trans I.lenD (by decide), I.getF u.live u.here hf⟩
  · rintro v h' ⟨b', rfl, _, _, H'⟩
    exact ⟨b', B, rfl, u, H'⟩
set_option maxHeartbeats 2000000 in
theorem keepT_spec {pa : Option Addr} {pl pc b0 d : Nat} {i : Int} {ps : List Int} {h0 : Heap} (hp : Pks [old h0] ps pa pl pc) (W : A.WF) (D : Dur A dN (KeepP d)) (hs : A.steps + 20000 < 1099511627776) (hd : d ≤ 30)
    (H : sat (fsP fb A :: old h0 :: pt b0 (.cells #[.bool false] 4 (0, 0)) :: F) h) : keepT pa pl pc b0 (some ⟨fb, 0, none⟩) ((d : Int), i) h (Good h0) := by
  unfold keepT
  have hp2 : Pks (old h0 :: pt b0 (.cells #[.bool false] 4 (0, 0)) :: F) ps pa pl pc := ⟨hp.1, hp.2, fun h' hh => hp.3 h' (hh.ord [0])⟩
  refine (F38_spec W hp2 (by omega) H).mono ?_
  rintro v h1 ⟨rfl, H1⟩
  refine ⟨0, rfl, ?_⟩
  obtain ⟨T, L, Hs, M, I, hMd, n, hn, hg⟩ := AF.crash_dur W D ps
  have hst : (A.crash ps).steps = A.steps := rfl
  rw [← hMd] at Hs
  have := live_openW I L Hs (by omega) (by rw [hMd]; decide) H1
  rw [hMd] at this
  refine this.mono ?_
  rintro v h2 ⟨l, B, rfl, u, H2⟩
  refine ⟨some ⟨l, 0, none⟩, 0, rfl, ?_⟩
  rw [show ((0 : Int) != 0) = false from rfl, cond_false]
  refine Al_sat H2 fun b10 h3 H3 => ?_
  refine StCC H3 (by exact Nat.zero_lt_one) rfl fun h4 H4 => ?_
  -- b10, l, fs, old, b0, F
  refine (F34_spec (H4.mv 1)).mono ?_
  rintro v h5 ⟨cb, eb, rfl, H5⟩
  -- all, l, b10, fs, old, b0, F
  refine ⟨_, rfl, ?_⟩
  have hE : M.entries = kE n := tab_ext2 I.upE (kE_up n) fun k => by rw [I.getE, hg]
  have hlen : (kE n).length = n := by unfold kE; rw [List.length_map, List.length_range]
  rw [hE] at H5
  have hget : ∀ {j : Nat} {x : Int × List Nat}, (kE n)[j]? = some x → j < n ∧ x = kv j := fun {j x} hx => by
    have hj := (List.getElem?_eq_some_iff.1 hx).1
    rw [hlen] at hj
    unfold kE at hx
    rw [List.getElem?_map, List.getElem?_range hj] at hx
    exact ⟨hj, (Option.some.inj hx).symm⟩
  refine range_all (kE n) HandA (fun i => [logM l fb M, pt b10 (.cells #[.int .i64 (i : Int)] 2 (0, 0)), fsP fb B, old h0, pt b0 (.cells #[.bool false] 4 (0, 0))]) (fun _ => pur False) _ (H5.ord [0, 1, 2, 3, 4, 5]) HandA_len
    (fun yf yp yc G X Out h7 hh r f fx => F99_iter (by rw [hlen]; omega) (fun p hp => by
      obtain ⟨j, hj⟩ := List.mem_iff_getElem?.1 hp
      rw [(hget hj).2]
      exact (by decide : 2 ≤ 140737488355328)) yf yp yc G X Out h7 hh r f fx) ?_ ?_ ?_
  · intro K j x args Lx rec h11 Q hx H11 hgo hstop
    obtain ⟨hj, rfl⟩ := hget hx
    have HL := H11.get
    obtain ⟨a, c, rfl, H12⟩ := HandA_open (H11.mv 2)
    refine ⟨(j : Int), a, 2, c, rfl, HL, ?_⟩
    have H13 := (H12.mv 1).set (rec .busy none)
    -- L, own, mark, K, l, b10, fs, old, b0
    refine VIn (H13.mv 5).get ?_
    rw [show ((j : Int) != (j : Int)) = false from by simp, cond_false]
    have h8 : B8 [j, 3 * j] := fun x hx => by simp at hx; omega
    refine ⟨ofN [j, 3 * j], bytesIn_of (ownS_read (H13.mv 1)) rfl h8, ?_⟩
    refine VIn (H13.mv 5).get ?_
    refine VIn (H13.mv 5).get ?_
    have e1 : IntKind.wrap .u8 (j : Int) = ((j : Nat) : Int) := by rw [u8_of_nat, Nat.mod_eq_of_lt (by omega)]
    have e2 : IntKind.wrap .u8 (IntKind.wrap .i64 ((j : Int) * 3)) = ((3 * j : Nat) : Int) := by
      rw [IntWalk.i64_in _ (by omega), show (j : Int) * 3 = ((3 * j : Nat) : Int) by omega, u8_of_nat, Nat.mod_eq_of_lt (by omega)]
    rw [e1, e2]
    refine Al_sat H13 fun b2 h12 H14 => ?_
    refine ⟨ofN [j, 3 * j], bytesIn_of (RdCf H14 rfl) rfl h8, ?_⟩
    rw [show strEq (ofN [j, 3 * j]) (ofN [j, 3 * j]) = true from by rw [strEq_eq]; exact decide_eq_true rfl, Bool.not_true, cond_false]
    refine VIn (H14.mv 6).get ?_
    rw [wrap64_succ (by omega)]
    refine StCC (H14.mv 6) (by exact Nat.zero_lt_one) rfl fun h13 H15 => ?_
    -- b10, b2, L, own, mark, K, l, fs, old, b0
    exact hgo h13 (H15.ordT 10 [2, 4, 5, 6, 0, 7, 8, 9])
  · intro K h11 H11
    rw [hlen] at H11
    refine ⟨.inl rfl, fun _ => ?_, fun e => by cases e⟩
    -- mark, K, l, b10, fs, old, b0
    refine VIn (H11.mv 3).get ?_
    rw [decide_eq_true (show ((n : Int) ≥ (d : Int)) by omega), cond_true]
    refine VIn (H11.mv 3).get ?_
    rw [wrap64_succ (by omega), decide_eq_true (show ((n : Int) ≤ ((d + 1 : Nat) : Int)) by omega)]
    refine StCC (H11.mv 6) (by exact Nat.zero_lt_one) rfl fun h12 H12 => ?_
    refine ⟨(H12.mv 1).get, ?_⟩
    have H13 := (H12.mv 1).set (.deferred none)
    -- mark, b0, K, l, b10, fs, old
    exact VBo (H13.mv 1).get (good_of (H13.mv 6))
  · intro K j h11 H11
    exact ((sat_pur.1 (H11.mv 2)).1).elim
end
theorem stat_nil (dir : ByteArray) (k : Nat) : AF.stat ⟨dir, [], [], []⟩ k = [] := by unfold AF.stat; rw [List.take_nil]; rfl
theorem durD_new (fs : List AF.File) (dir : ByteArray) : AF.DurD fs ⟨dir, [], [], []⟩ (fun U => U = []) := by
  refine ⟨fun k hk p hp => ?_, fun k hk => ?_, fun p hp => ?_⟩
  · rw [stat_nil] at hp; cases hp
  · rw [stat_nil]; rfl
  · cases hp
theorem er_fuse {A : AF.FS} {m : Nat} (h : A.fuse = none) : er { A with fuse := some m } = A := by
  unfold AF.er
  cases A
  simp only at h
  rw [h]
structure KI (d i : Nat) (A : AF.FS) (M : Meta) (T : Dirc) : Prop where
  wf : A.WF
  inv : MInv (er A) M T
  dur : Dur A M.dir (fun U => U = T)
  dir : M.dir = dN
  vals : ∀ k, M.get k = getT (kE d) k
  sl : M.S.length ≤ i
  room : A.room = 1048576
  used : A.used ≤ i * 1100
  steps : A.steps ≤ 2 + i * 60
  le : d ≤ i
section
variable {d i : Nat} {A : AF.FS} {M : Meta} {T : Dirc}
theorem kE_len2 (n : Nat) : ∀ p ∈ kE n, p.2.length = 2 := fun p hp => by
  obtain ⟨i, _, rfl⟩ := List.mem_map.1 hp
  rfl
theorem KI.ent (K : KI d i A M T) : M.entries = kE d := tab_ext2 K.inv.upE (kE_up d) fun k => by rw [K.inv.getE, K.vals]
theorem KI.wt (K : KI d i A M T) : AF.wt M.entries ≤ 32 * d := by
  have h1 := AF.wt_two (kE_len2 d)
  have h2 : (kE d).length = d := by unfold kE; rw [List.length_map, List.length_range]
  rw [K.ent, ← h2]
  rw [h2] at h1 ⊢
  exact h1
theorem KI.keep (K : KI d i A M T) : Dur A dN (KeepP d) := by
  have := K.dur
  rw [K.dir] at this
  refine this.mono fun U hU => ?_
  rw [hU]
  exact ⟨M, K.inv.mf, K.dir, d, .inl rfl, K.vals⟩
theorem kE_succ (d : Nat) (k : Int) : getT (kE (d + 1)) k = if k = (d : Int) then some [d, 3 * d] else getT (kE d) k := by
  rw [kE_get, kE_get]
  by_cases h : k = (d : Int)
  · subst h
    rw [if_pos (by omega), if_pos rfl, Int.toNat_natCast]
  · rw [if_neg h]
    by_cases h2 : 0 ≤ k ∧ k < (d : Int)
    · rw [if_pos h2, if_pos (by omega)]
    · rw [if_neg h2, if_neg (by omega)]
end
set_option maxHeartbeats 2000000 in
theorem MetaKeeps_law {sa pa : Option Addr} {sl sc pl pc m : Nat} {cs : List Nat} {ps : List Int} {h : Heap} (hm : m < 256) (hi : RdC h sa (cs.map nv)) (hil : cs.length = sl) (hr : RdC h pa (ps.map iv)) (hpl : ps.length = pl) (hpc : pl ≤ pc) :
    CallsH Tryz.prog 7 [.slice sa sl sc, .int .u8 (m : Int), .slice pa pl pc] h (Good h) := by
  apply F7_ok
  unfold F7
  refine Al_sat (sat_old h) fun b0 h0 H0 => ?_
  refine (F27_spec H0).mono ?_
  rintro v h1 ⟨rfl, H1⟩
  rw [DB_bool, Bool.not_true, cond_false]
  by_cases hbig : 100 < pl
  · rw [decide_eq_true (show (pl : Int) > 100 by omega), cond_true]
    refine StCC H1 (by exact Nat.zero_lt_one) rfl fun h2 H2 => ?_
    exact VBo H2.get (good_of (H2.mv 1))
  rw [decide_eq_false (show ¬ (pl : Int) > 100 by omega), cond_false]
  have hp := pks_old hr hpl hpc
  refine (live_F10 (room := 1048576) (by decide) H1).mono ?_
  rintro v h2 ⟨fb, rfl, L0, H2⟩
  refine ⟨some ⟨fb, 0, none⟩, 0, rfl, ?_⟩
  let B0 : AF.FS := ⟨1048576, 1, none, false, [], [⟨dN, [], [], []⟩]⟩
  have hprep : AF.FS.prep ⟨1048576, 0, none, false, [], []⟩ dN = (B0, .ok []) := rfl
  obtain ⟨u0, _⟩ := AF.prep_new L0 right_dN rfl (by decide)
  rw [hprep] at u0
  have I0 : MInv B0 ⟨dN, [], [], []⟩ [] := MInv.new u0.live u0.here
  have D0 : Dur B0 dN (fun U => U = []) := ⟨0, ⟨dN, [], [], []⟩, rfl, rfl, durD_new _ _⟩
  refine (F28_spec (B := B0) (ks := []) (S0 := []) (S := []) (D := []) (Fo := []) L0.wf (by decide) (by decide) hprep rfl rfl (.inl ⟨by decide, rfl⟩) H2).mono ?_
  rintro v h3 ⟨l, rfl, _, _, H3⟩
  refine ⟨some ⟨l, 0, none⟩, 0, rfl, ?_⟩
  rw [show ((0 : Int) != 0) = false from rfl, cond_false, IntWalk.i64_in _ (by omega)]
  refine (F37_spec (n := (m : Int)) (H3.mv 1)).mono ?_
  rw [set_fuse]
  rintro v h4 ⟨rfl, H4⟩
  have W0 : ({ B0 with fuse := some m } : AF.FS).WF := by
    have := u0.live.wf.setFuse (n := (m : Int)) (by omega)
    rw [set_fuse] at this
    exact this
  refine ⟨_, rfl, ?_⟩
  have hget : ∀ {F' : List HProp} {h' : Heap} {i c : Nat} {K : Int → Prop}, sat (old h :: F') h' → cs[i]? = some c → K (c : Int) → IdxA sa sl (i : Int) 1 fun a => Ld h' a fun v => DI .u8 v K := by
    intro F' h' i c K H' hc hK
    exact IdxA_nat (hi.old H') (by rw [List.length_map, hil]) (by rw [List.getElem?_map, hc]; rfl) fun b hb hcell => ⟨nv c, hcell, (c : Int), rfl, hK⟩
  have K0 : KI 0 0 { B0 with fuse := some m } ⟨dN, [], [], []⟩ [] :=
    { wf := W0, inv := (by rw [er_fuse rfl]; exact I0), dur := D0, dir := rfl, vals := fun k => rfl, sl := Nat.le_refl _, room := rfl, used := Nat.le_refl _, steps := (show 1 ≤ 2 by decide), le := Nat.le_refl _ }
  -- fs, l, b0, old
  refine LoopH.by (fun s h' => ∃ (d i : Nat) (A : AF.FS) (M : Meta) (T : Dirc), s = ((d : Int), (i : Int)) ∧ i ≤ 30 ∧ KI d i A M T ∧ sat (logM l fb M :: fsP fb A :: old h :: [pt b0 (.cells #[.bool false] 4 (0, 0))]) h') (fun s => 31 - s.2.toNat)
    ⟨0, 0, _, _, _, rfl, by decide, K0, H4.ordT 4 [1, 0, 3, 2]⟩ ?_
  rintro s h5 again ⟨d, i, A, M, T, rfl, hi30, K, H5⟩ go
  have hst := K.steps
  have fin : ∀ {A : AF.FS} {M : Meta} {h' : Heap}, A.WF → Dur A dN (KeepP d) → A.steps ≤ 4000 → sat (logM l fb M :: fsP fb A :: old h :: [pt b0 (.cells #[.bool false] 4 (0, 0))]) h' → keepT pa pl pc b0 (some ⟨fb, 0, none⟩) ((d : Int), (i : Int)) h' (Good h) := by
    intro A M h' W D hs H'
    exact keepT_spec hp W D (by omega) (by have := K.le; omega) ((H'.mv 1).ordT 4 [0, 2, 3])
  have out : keepT pa pl pc b0 (some ⟨fb, 0, none⟩) ((d : Int), (i : Int)) h5 (Good h) := fin K.wf K.keep (by omega) H5
  dsimp only
  by_cases hisl : i < sl
  rotate_left
  · rw [decide_eq_false (show ¬ ((i : Int) < (sl : Int)) by omega), cond_false]
    exact out
  rw [decide_eq_true (show ((i : Int) < (sl : Int)) by omega), cond_true]
  by_cases hi29 : i < 30
  rotate_left
  · rw [decide_eq_false (show ¬ ((i : Int) < 30) by omega), cond_false]
    exact out
  rw [decide_eq_true (show ((i : Int) < 30) by omega), cond_true]
  obtain ⟨c, hc⟩ : ∃ x, cs[i]? = some x := ⟨_, List.getElem?_eq_getElem (by omega)⟩
  have hus := K.used
  have hrm := K.room
  have hsl := K.sl
  have hle := K.le
  have hwt := K.wt
  have hd : M.dir.size < 4611686018427387904 := by rw [K.dir]; decide
  have hFo : M.Fo.length ≤ 1 := by
    rcases K.inv.fold with ⟨e, _⟩ | ⟨_, e⟩ <;> rw [e] <;> simp
  refine hget (H5.mv 2) hc ⟨by decide, ?_⟩
  cases ht : (Int.tmod (c : Int) 3 == 0) with
  | true =>
    rw [cond_true]
    refine hget (H5.mv 2) hc ⟨by decide, by decide, ?_⟩
    generalize IntKind.wrap .i64 ((d : Int) - (IntKind.wrap .i64 (Int.tmod (IntKind.wrap .u8 (Int.tdiv (c : Int) 3)) 4))) = upto
    have hel := AF.len_wt M.entries
    refine (F31_spec (upto := upto) K.wf (by omega) hd (fun p hp => ⟨(K.inv.okE p hp).1.1, (K.inv.okE p hp).2.1, by have := (K.inv.okE p hp).2.2; omega⟩) (by omega) (fun m => ?_) H5).mono ?_
    · have h1 : AF.wt (upTo M.entries m) ≤ AF.wt M.entries := AF.wt_filter _ _
      have h2 := AF.len_wt (upTo M.entries m)
      have := AF.pairsE_wt (E := upTo M.entries m) (fun p hp => (K.inv.okE p (List.mem_filter.1 hp).1).2.2) (by omega)
      omega
    rintro v h6 ⟨rfl, W6, hs6, H6⟩
    rcases AF.fold_fz K.inv K.dur upto (w := 1000) (by omega) (by decide) (by omega) (by omega) with ⟨A', M', T', e, ef, he, _, I', hdir, hent, hSl, u, D'⟩ | ⟨he, D'⟩
    · rw [ef] at W6 hs6 H6 ⊢
      have us : A'.used ≤ A.used + (13 + 1000) := u.used
      have us2 : A'.steps ≤ A.steps + (M.S.length + 8) := u.steps
      have us3 : A'.room = A.room := u.room
      have K' : KI d (i + 1) A' M' T' := ⟨W6, I', by rw [hdir]; exact D', by rw [hdir, K.dir], fun k => by rw [← K.vals, ← I'.getE, hent, K.inv.getE], by omega, by omega, by omega, by omega, by omega⟩
      have nxt := go _ _ ⟨d, i + 1, A', M', T', rfl, by omega, K', H6⟩ (by simp only [Int.toNat_natCast]; omega)
      refine ⟨_, rfl, ?_⟩
      have hw : IntKind.wrap .i64 ((i : Int) + 1) = ((i + 1 : Nat) : Int) := wrap64_succ (by omega)
      rw [← hw] at nxt
      rcases he with rfl | rfl
      · dsimp only
        rw [show (((0 : Nat) : Int) == 91) = false from rfl, cond_false, show (((0 : Nat) : Int) != 0) = false from rfl, cond_false]
        exact nxt
      · dsimp only
        rw [show (((91 : Nat) : Int) == 91) = true from rfl, cond_true, cond_false]
        exact nxt
    · refine ⟨_, rfl, ?_⟩
      dsimp only
      rw [he, show (((60 : Nat) : Int) == 91) = false from rfl, cond_false, show (((60 : Nat) : Int) != 0) = true from rfl, cond_true]
      have D2 := D'
      rw [K.dir] at D2
      refine fin W6 (D2.mono fun U hU => ?_) (by omega) H6
      obtain ⟨M', m1, m2, m3⟩ := hU
      exact ⟨M', m1, m2, d, .inl rfl, fun k => by rw [m3, K.vals]⟩
  | false =>
    rw [cond_false]
    have e1 : IntKind.wrap .u8 (d : Int) = ((d : Nat) : Int) := by rw [u8_of_nat, Nat.mod_eq_of_lt (by omega)]
    have e2 : IntKind.wrap .u8 (IntKind.wrap .i64 ((d : Int) * 3)) = ((3 * d : Nat) : Int) := by
      rw [IntWalk.i64_in _ (by omega), show (d : Int) * 3 = ((3 * d : Nat) : Int) by omega, u8_of_nat, Nat.mod_eq_of_lt (by omega)]
    rw [e1, e2]
    refine Al_sat H5 fun b5 h6 H6 => ?_
    have h8 : B8 [d, 3 * d] := fun x hx => by simp at hx; omega
    have hg : M.get (d : Int) = none := by rw [K.vals, kE_get, if_neg (by omega)]
    refine (F29_spec (id := (d : Int)) (bs := [d, 3 * d]) K.wf (by omega) hd (fun x hx => (K.inv.getB hx).1) (fun h' hh => RdCf hh rfl) h8 rfl (show 2 ≤ 140737488355328 by decide) (H6.ordT 5 [1, 2, 0, 3, 4])).mono ?_
    rintro v h7 ⟨rfl, W7, hs7, H7⟩
    -- l, fs, b5, old, b0
    rcases AF.put_fzM K.inv K.dur (id := (d : Int)) (b := [d, 3 * d]) ⟨by omega, by omega⟩ hg h8 (show 2 ≤ 5000 by decide) (by show A.used + (8 + 2) ≤ A.room; omega) (by omega) with ⟨A', T', ef, I', u, D'⟩ | ⟨he, D'⟩
    · rw [ef] at W7 hs7 H7 ⊢
      have us : A'.used ≤ A.used + (8 + 2) := u.used
      have us2 : A'.steps ≤ A.steps + 5 := u.steps
      have us3 : A'.room = A.room := u.room
      have K' : KI (d + 1) (i + 1) A' { M with S := setT (d : Int) [d, 3 * d] M.S } T' := ⟨W7, I', D', K.dir, fun k => by rw [kE_succ, ← K.vals]; exact AF.get_putM hg k, by have := (AF.setT_length (d : Int) [d, 3 * d] M.S).1; simp only; omega, by omega, by omega, by omega, by omega⟩
      have nxt := go _ _ ⟨d + 1, i + 1, A', _, T', rfl, by omega, K', H7.ordT 5 [0, 1, 3, 4]⟩ (by simp only [Int.toNat_natCast]; omega)
      refine ⟨_, rfl, ?_⟩
      have hw : IntKind.wrap .i64 ((i : Int) + 1) = ((i + 1 : Nat) : Int) := wrap64_succ (by omega)
      have hw2 : IntKind.wrap .i64 ((d : Int) + 1) = ((d + 1 : Nat) : Int) := wrap64_succ (by omega)
      rw [← hw, ← hw2] at nxt
      dsimp only
      rw [show (((0 : Nat) : Int) == 0) = true from rfl, cond_true, show (((0 : Nat) : Int) != 0) = false from rfl, cond_false]
      exact nxt
    · refine ⟨_, rfl, ?_⟩
      dsimp only
      rw [he, show (((60 : Nat) : Int) == 0) = false from rfl, cond_false, show (((60 : Nat) : Int) != 0) = true from rfl, cond_true]
      have D2 := D'
      rw [K.dir] at D2
      refine fin W7 (D2.mono fun U hU => ?_) (by omega) (H7.ordT 5 [0, 1, 3, 4])
      obtain ⟨M', m1, m2, m3⟩ := hU
      rcases m3 with m3 | m3
      · exact ⟨M', m1, m2, d, .inl rfl, fun k => by rw [m3, K.vals]⟩
      · exact ⟨M', m1, m2, d + 1, .inr rfl, fun k => by rw [m3, kE_succ, K.vals]⟩
end Go.Proofs.YticjjdhaikbdaaaGreat
