/- How heaps are dealt: the walk (seat D). -/
import Derived.Test.YticjjdhaikbdaaaGreatDoorSnDl1
import Derived.Test.YticjjdhaikbdaaaGreatDoorSnFwB
import Derived.Test.YticjjdhaikbdaaaGreatDoorSnTn
import Derived.Laws.MakeOwn
namespace Go.Proofs.YticjjdhaikbdaaaGreatDoor
open Go Go.RowKit
open Dl (LP pass_idle isOpen cnt pass Ref Fits each cnt_cons pass_fst pass_len pass_left pass_snoc pass_fits each_ref)
set_option linter.unusedVariables false
set_option linter.unusedSimpArgs false

def intInfo (P : Program) (e : TypeId) : Bool :=
  match P.info? e with
  | some i => (match i.zero with
    | some (.int .i64 0) => true
    | _ => false) && (i.size == 1 && i.bytes == 8)
  | none => false
theorem intInfo_ex {P : Program} {e : TypeId} (h : intInfo P e = true) : ∃ i, P.info? e = some i ∧ i.zero = some (.int .i64 0) ∧ i.size = 1 ∧ i.bytes = 8 := by
  unfold intInfo at h
  cases hi : P.info? e with
  | none => rw [hi] at h; cases h
  | some i =>
    rw [hi] at h
    simp only [Bool.and_eq_true, beq_iff_eq] at h
    obtain ⟨hz, h1, h2⟩ := h
    refine ⟨i, rfl, ?_, h1, h2⟩
    split at hz
    · assumption
    · cases hz
/-- A new row of whole numbers. -/
theorem make_sat {P : Program} {t e : TypeId} {n : Nat} {h : Heap} {F : List HProp} {K : Value → Heap → Prop} (ht : P.underlying t = some (.slice e)) (hi : intInfo P e = true) (hn : n ≤ 1000000) (H : sat F h)
    (hK : ∀ a h', sat (ownS e 1 a n n (List.replicate n (iv 0)) :: F) h' → K (.slice a n n) h') : RunH P (Instr.makeSlice t (.int .i64 (n : Int)) (.int .i64 (n : Int))) h K := by
  obtain ⟨i, h1, h2, h3, h4⟩ := intInfo_ex hi
  intro w hw
  subst hw
  have hr := run_makeSlice (P := P) w t e i (.int .i64 0) ht h1 h2 .i64 .i64 (n : Int) (n : Int) (by omega) (Int.le_refl _) (by rw [h3, Int.toNat_natCast]; omega) (by rw [h4]; omega) (by omega)
  rw [Int.toNat_natCast, h3, Nat.mul_one] at hr
  refine ⟨_, _, hr, ⟨rfl, rfl, rfl⟩, ?_⟩
  refine hK _ _ ?_
  have H2 := H.push (.cells (madeCells (Value.cells (.int .i64 0)) n) e)
  refine ownS_mk H2 (by intro j hj; simp) (Nat.le_refl _) (by unfold maxLen; omega) (by rw [size_madeCells, Nat.mul_one]) ?_
  rw [Nat.mul_one, List.take_of_length_le (by simp [madeCells])]
  apply List.ext_getElem
  · simp [madeCells]
  · intro j hj1 hj2
    simp [madeCells, Value.cells, Nat.mod_one]
    rfl
theorem numRead {la : Option Addr} {ll i : Nat} {s : Int} {hh : Heap} {K : Addr → Prop} {xs : List Value} (hr : RdC hh la xs) (hl : xs.length = ll) (hs : xs[i]? = some (iv s))
    (hK : ∀ b, cellAt hh b = some (iv s) → K b) : IdxA la ll (i : Int) 1 K :=
  IdxA_nat (v := iv s) hr hl hs fun b hb hc => hK _ hc
theorem CI {h : Heap} {a : Addr} {x : Int} {K : Int → Prop} (hv : cellAt h a = some (iv x)) (hK : K x) : Ld h a fun v => DI .i64 v K := ⟨_, hv, by show DI .i64 (.int .i64 x) K; rw [DI_int]; exact hK⟩
theorem cnt_append (l m : LP) : cnt (l ++ m) = cnt l + cnt m := by
  unfold Dl.cnt
  rw [List.filter_append, List.length_append]
theorem set_mid {α : Type} {x y : List α} {p q : α} {j : Nat} (h : x.length = j) : (x ++ p :: y).set j q = x ++ q :: y := by
  subst h
  induction x with
  | nil => rfl
  | cons a x ih => rw [List.cons_append, List.length_cons, List.set_cons_succ, ih]; rfl
/-- Nothing dealt yet. -/
def zs (hs : List Int) : LP := hs.map fun x => (x, 0)
theorem zs_fst (hs : List Int) : (zs hs).map (·.1) = hs := by
  unfold zs
  rw [List.map_map]
  exact List.map_id hs
theorem zs_snd (hs : List Int) : ((zs hs).map fun p => iv p.2) = List.replicate hs.length (iv 0) := by
  unfold zs
  rw [List.map_map]
  induction hs with
  | nil => rfl
  | cons x hs ih => rw [List.map_cons, List.length_cons, List.replicate_succ, ih]; rfl
theorem zs_fits (hs : List Int) : Fits (zs hs) := fun p hp => by
  obtain ⟨x, _, rfl⟩ := List.mem_map.1 hp
  exact ⟨Int.le_refl _, .inr rfl⟩
/-- What was dealt, in memory. -/
abbrev dealt (e : TypeId) (a : Option Addr) (n : Nat) (l : LP) : HProp := ownS e 1 a n n (l.map fun p => iv p.2)
theorem F11_spec {hs : List Int} {a : Option Addr} {n c : Nat} {most : Int} {h : Heap} {F : List HProp} (hr : ∀ h', sat F h' → RdC h' a (hs.map iv)) (hn : hs.length = n) (hm : n ≤ 1000000) (hi : ∀ x ∈ hs, -9223372036854775808 ≤ x ∧ x ≤ 9223372036854775807) (hmo : most ≤ 9223372036854775807) (H : sat F h) :
    CallsH Tryz.prog 11 [.slice a n c, .int .i64 most] h fun v h' => ∃ a' l, v = .slice a' n n ∧ Ref (zs hs) most l ∧ l.map (·.1) = hs ∧ Fits l ∧ sat (dealt 3 a' n l :: F) h' := by
  apply F11_ok
  unfold F11
  refine make_sat (e := 3) (by kernel_rfl) (by kernel_rfl) (by omega) H fun a1 h1 H1 => ?_
  rw [DSl_slice]
  have hn0 : (zs hs).length = n := by rw [zs, List.length_map, hn]
  refine ⟨fun m hh => ∃ l : LP, l.map (·.1) = hs ∧ Fits l ∧ m ≤ 9223372036854775807 ∧ (∀ r, Ref l m r → Ref (zs hs) most r) ∧ sat (dealt 3 a1 n l :: F) hh, fun m _ => m.toNat, ⟨zs hs, zs_fst hs, zs_fits hs, hmo, fun r h => h, ?_⟩, ?_⟩
  · unfold dealt
    rw [zs_snd, hn]
    exact H1
  rintro m h2 ⟨l, hl1, hF, hmm, hR, H2⟩
  have hll : l.length = n := by rw [← hn, ← hl1, List.length_map]
  have each1 : ∀ {i : Nat} {p : Int × Int}, l[i]? = some p → hs[i]? = some p.1 := fun {i p} hp => by rw [← hl1, List.getElem?_map, hp]; rfl
  have bnd : ∀ {i : Nat} {p : Int × Int}, l[i]? = some p → (-9223372036854775808 ≤ p.1 ∧ p.1 ≤ 9223372036854775807) ∧ 0 ≤ p.2 ∧ (p.2 ≤ p.1 ∨ p.2 = 0) := fun {i p} hp => ⟨hi _ (List.mem_of_getElem? (each1 hp)), hF p (List.mem_of_getElem? hp)⟩
  by_cases hm0 : m > 0
  case neg =>
    rw [decide_eq_false hm0, cond_false]
    exact ⟨a1, l, rfl, hR l (.done (by omega)), hl1, hF, H2⟩
  case pos =>
  rw [decide_eq_true hm0, cond_true]
  refine ⟨fun st hh => hh = h2 ∧ ∃ (i : Nat) (least : Int), st = ((cnt (l.take i) : Int), least, (i : Int)) ∧ i ≤ n ∧ 1 ≤ least ∧ least ≤ m ∧ ∀ p ∈ l.take i, isOpen p = true → least ≤ p.1 - p.2, fun st _ => ((n : Int) - st.2.2).toNat, ⟨rfl, 0, m, rfl, Nat.zero_le _, by omega, Int.le_refl _, fun p hp => by cases hp⟩, ?_⟩
  rintro st h3 ⟨rfl, i, least, rfl, hin, h1l, hlm, hleast⟩
  simp only []
  by_cases hlt : i < n
  case pos =>
    rw [decide_eq_true (show ((i : Int) < (n : Int)) by omega), cond_true]
    obtain ⟨p, hp⟩ : ∃ p, l[i]? = some p := ⟨_, List.getElem?_eq_getElem (by omega)⟩
    have hb := bnd hp
    have ht : l.take (i + 1) = l.take i ++ [p] := by rw [List.take_add_one, hp]; rfl
    have wi : IntKind.wrap .i64 ((i : Int) + 1) = ((i + 1 : Nat) : Int) := wrap64_succ (by omega)
    have hme : ((n : Int) - ((i + 1 : Nat) : Int)).toNat < ((n : Int) - (i : Int)).toNat := by omega
    have hcle : cnt (l.take i) ≤ i := Nat.le_trans (List.length_filter_le _ _) (by rw [List.length_take]; omega)
    refine numRead (hr h3 H2.drop) (by rw [List.length_map]; exact hn) (by rw [List.getElem?_map, each1 hp]; rfl) fun b hc => CI hc ?_
    refine numRead (s := p.2) (ownS_read H2) (by rw [List.length_map]; exact hll) (by rw [List.getElem?_map, hp]; rfl) fun b hc => CI hc ?_
    by_cases hpos : p.1 > 0
    · rw [decide_eq_true hpos, cond_true]
      have ew : IntKind.wrap .i64 (p.1 - p.2) = p.1 - p.2 := IntWalk.i64_in _ (by omega)
      rw [ew]
      by_cases hop : p.1 - p.2 > 0
      · have ho : isOpen p = true := by unfold isOpen; rw [decide_eq_true hpos, decide_eq_true hop]; rfl
        rw [decide_eq_true hop, cond_true, wi, wrap64_succ (by omega)]
        refine ⟨⟨by trivial, i + 1, (if p.1 - p.2 < least then p.1 - p.2 else least), ?_, by omega, by split <;> omega, by split <;> omega, fun q hq hqo => ?_⟩, hme⟩
        · rw [ht, cnt_append, cnt_cons, ho]
          rfl
        · rw [ht] at hq
          rcases List.mem_append.1 hq with hq | hq
          · have := hleast q hq hqo
            split <;> omega
          · rw [List.mem_singleton] at hq
            subst hq
            split <;> omega
      · have ho : isOpen p = false := by unfold isOpen; rw [decide_eq_false hop, Bool.and_false]
        rw [decide_eq_false hop, cond_false, wi]
        refine ⟨⟨by trivial, i + 1, least, ?_, by omega, h1l, hlm, fun q hq hqo => ?_⟩, hme⟩
        · rw [ht, cnt_append, cnt_cons, ho]
          rfl
        · rw [ht] at hq
          rcases List.mem_append.1 hq with hq | hq
          · exact hleast q hq hqo
          · rw [List.mem_singleton] at hq
            subst hq
            rw [ho] at hqo
            cases hqo
    · have ho : isOpen p = false := by unfold isOpen; rw [decide_eq_false hpos, Bool.false_and]
      rw [decide_eq_false hpos, cond_false, wi]
      refine ⟨⟨by trivial, i + 1, least, ?_, by omega, h1l, hlm, fun q hq hqo => ?_⟩, hme⟩
      · rw [ht, cnt_append, cnt_cons, ho]
        rfl
      · rw [ht] at hq
        rcases List.mem_append.1 hq with hq | hq
        · exact hleast q hq hqo
        · rw [List.mem_singleton] at hq
          subst hq
          rw [ho] at hqo
          cases hqo
  case neg =>
  rw [decide_eq_false (by omega), cond_false]
  rw [List.take_of_length_le (by omega)] at hleast ⊢
  by_cases hc0 : cnt l = 0
  · rw [hc0, show (((0 : Nat) : Int) == 0) = true from rfl, cond_true]
    exact ⟨a1, l, rfl, hR l (.none hc0), hl1, hF, H2⟩
  rw [show (((cnt l : Nat) : Int) == 0) = false from by simp only [beq_eq_false_iff_ne, ne_eq]; omega, cond_false]
  have ewd : IntKind.wrap .i64 (Int.tdiv m (cnt l : Int)) = Int.tdiv m (cnt l : Int) := by
    refine IntWalk.i64_in _ ?_
    obtain ⟨M, rfl⟩ : ∃ M : Nat, m = (M : Int) := ⟨m.toNat, by omega⟩
    rw [tdiv_nat]
    have := Nat.div_le_self M (cnt l)
    generalize M / cnt l = d at *
    omega
  refine ⟨by omega, ?_⟩
  rw [ewd]
  have he := each_ref (r := l) hm0 hc0 h1l hleast
  have heR := fun r => (each_ref (r := r) hm0 hc0 h1l hleast).2.2
  have hel := fun p hp ho => Int.le_trans he.2.1 (hleast p hp ho)
  change LoopH _ _ _
  have hdef : (if (1 : Int) > (if Int.tdiv m (cnt l : Int) < least then Int.tdiv m (cnt l : Int) else least) then 1 else (if Int.tdiv m (cnt l : Int) < least then Int.tdiv m (cnt l : Int) else least)) = each m least (cnt l) := rfl
  simp only [hdef]
  generalize each m least (cnt l) = e at *
  refine ⟨fun st hh => ∃ j : Nat, st = ((pass e (l.take j) m).2, (j : Int)) ∧ j ≤ n ∧ sat (dealt 3 a1 n ((pass e (l.take j) m).1 ++ l.drop j) :: F) hh, fun st _ => ((n : Int) - st.2).toNat, ⟨0, rfl, Nat.zero_le _, H2⟩, ?_⟩
  rintro st h4 ⟨j, rfl, hjn, H4⟩
  simp only []
  by_cases hlt2 : j < n
  case neg =>
    rw [decide_eq_false (by omega), cond_false]
    rw [List.take_of_length_le (by omega), List.drop_of_length_le (by omega), List.append_nil] at H4
    rw [List.take_of_length_le (by omega)]
    have hpl := (pass_left e (by omega) l m)
    refine ⟨⟨(pass e l m).1, by rw [pass_fst, hl1], pass_fits e (by omega) l m hF hel, by omega, fun r hr => hR r (heR r hr), H4⟩, ?_⟩
    have := hpl.2 hc0 hm0
    show ((pass e l m).2).toNat < m.toNat
    omega
  case pos =>
  rw [decide_eq_true (show ((j : Int) < (n : Int)) by omega), cond_true]
  obtain ⟨p, hp⟩ : ∃ p, l[j]? = some p := ⟨_, List.getElem?_eq_getElem (by omega)⟩
  have hb := bnd hp
  have ht : l.take (j + 1) = l.take j ++ [p] := by rw [List.take_add_one, hp]; rfl
  have hd : l.drop j = p :: l.drop (j + 1) := List.drop_eq_getElem?_toList_append .. |>.trans (by rw [hp]; rfl)
  have wj : IntKind.wrap .i64 ((j : Int) + 1) = ((j + 1 : Nat) : Int) := wrap64_succ (by omega)
  have hme : ((n : Int) - ((j + 1 : Nat) : Int)).toNat < ((n : Int) - (j : Int)).toNat := by omega
  have hpl : (pass e (l.take j) m).1.length = j := by rw [pass_len, List.length_take]; omega
  have hlen4 : ((pass e (l.take j) m).1 ++ l.drop j).length = n := by rw [List.length_append, hpl, List.length_drop]; omega
  have hget : ((pass e (l.take j) m).1 ++ l.drop j)[j]? = some p := by rw [List.getElem?_append_right (by omega), hpl, Nat.sub_self, hd]; rfl
  have hsn := pass_snoc e p (l.take j) m
  rw [← ht] at hsn
  have skip : ¬ (isOpen p = true ∧ (pass e (l.take j) m).2 > 0) → sat (dealt 3 a1 n ((pass e (l.take (j + 1)) m).1 ++ l.drop (j + 1)) :: F) h4 ∧ (pass e (l.take (j + 1)) m).2 = (pass e (l.take j) m).2 := fun hno => by
    rw [hsn, if_neg hno]
    refine ⟨?_, rfl⟩
    rw [List.append_assoc]
    show sat (dealt 3 a1 n ((pass e (l.take j) m).1 ++ p :: l.drop (j + 1)) :: F) h4
    rw [← hd]
    exact H4
  have hm2 := (pass_left e (by omega) (l.take j) m).1
  refine numRead (hr h4 H4.drop) (by rw [List.length_map]; exact hn) (by rw [List.getElem?_map, each1 hp]; rfl) fun b hc => CI hc ?_
  by_cases hpos : p.1 > 0
  case neg =>
    rw [decide_eq_false hpos, cond_false, wj]
    obtain ⟨h5, h6⟩ := skip (fun h => by unfold isOpen at h; rw [decide_eq_false hpos, Bool.false_and] at h; cases h.1)
    exact ⟨⟨j + 1, by rw [h6], by omega, h5⟩, hme⟩
  rw [decide_eq_true hpos, cond_true]
  have rd : ∀ {K : Addr → Prop}, (∀ b, cellAt h4 b = some (iv p.2) → K b) → IdxA a1 n (j : Int) 1 K := fun {K} hK => numRead (s := p.2) (ownS_read H4) (by rw [List.length_map]; exact hlen4) (by rw [List.getElem?_map, hget]; rfl) hK
  refine rd fun b hc => CI hc ?_
  have ew : IntKind.wrap .i64 (p.1 - p.2) = p.1 - p.2 := IntWalk.i64_in _ (by omega)
  rw [ew]
  by_cases hop : p.1 - p.2 > 0
  case neg =>
    rw [decide_eq_false hop, cond_false, wj]
    obtain ⟨h5, h6⟩ := skip (fun h => by unfold isOpen at h; rw [decide_eq_false hop, Bool.and_false] at h; cases h.1)
    exact ⟨⟨j + 1, by rw [h6], by omega, h5⟩, hme⟩
  rw [decide_eq_true hop, cond_true]
  have ho : isOpen p = true := by unfold isOpen; rw [decide_eq_true hpos, decide_eq_true hop]; rfl
  by_cases hmj : (pass e (l.take j) m).2 > 0
  case neg =>
    rw [decide_eq_false hmj, cond_false, wj]
    obtain ⟨h5, h6⟩ := skip (fun h => hmj h.2)
    exact ⟨⟨j + 1, by rw [h6], by omega, h5⟩, hme⟩
  rw [decide_eq_true hmj, cond_true]
  have hle := hel p (List.mem_of_getElem? hp) ho
  refine rd fun b hc => CI hc ?_
  refine IdxA_nat (v := iv p.2) (ownS_read H4) (by rw [List.length_map]; exact hlen4) (by rw [List.getElem?_map, hget]; rfl) fun b hb2 hc2 => ?_
  subst hb2
  have eo : IntKind.wrap .i64 (p.2 + e) = p.2 + e := IntWalk.i64_in _ (by omega)
  have em : IntKind.wrap .i64 ((pass e (l.take j) m).2 - e) = (pass e (l.take j) m).2 - e := IntWalk.i64_in _ (by omega)
  rw [addr_add0, eo, em, wj]
  refine ownS_set H4 (by rw [List.length_map, hlen4]; exact hlt2) fun h5 H5 => ⟨⟨j + 1, ?_, by omega, ?_⟩, hme⟩
  · rw [hsn, if_pos ⟨ho, hmj⟩]
  · rw [hsn, if_pos ⟨ho, hmj⟩]
    have e1 : (((pass e (l.take j) m).1 ++ l.drop j).map fun p => iv p.2).set j (iv (p.2 + e)) = (((pass e (l.take j) m).1 ++ [(p.1, p.2 + e)] ++ l.drop (j + 1)).map fun p => iv p.2) := by
      rw [hd, List.map_append, List.map_cons, set_mid (by rw [List.length_map, hpl]), List.append_assoc, List.map_append]
      rfl
    unfold dealt
    rw [← e1]
    exact H5
end Go.Proofs.YticjjdhaikbdaaaGreatDoor
