/- The laws SourceDeals and SourceFair (seat D). -/
import Derived.Test.YticjjdhaikbdaaaGreatDoorSfDl4
import Derived.Test.YticjjdhaikbdaaaGreatDoorSfDl5
namespace Go.Proofs.YticjjdhaikbdaaaGreatDoor
open Go Go.RowKit
open Dl (LP isOpen cnt pass Ref Fits sm pos got all Lvl Ord)
set_option linter.unusedVariables false
set_option linter.unusedSimpArgs false
set_option maxRecDepth 8000

theorem sm_bound {B : Int} : ∀ (l : List Int), (∀ x ∈ l, 0 ≤ x ∧ x ≤ B) → 0 ≤ sm l ∧ sm l ≤ (l.length : Int) * B
  | [], _ => by simp [sm]
  | x :: l, h => by
    have h1 := h x (by simp)
    have h2 := sm_bound l fun y hy => h y (by simp [hy])
    rw [sm, List.length_cons, show ((l.length + 1 : Nat) : Int) = (l.length : Int) + 1 by omega, Int.add_mul, Int.one_mul]
    omega
theorem sm_take {l : List Int} {i : Nat} {x : Int} (h : l[i]? = some x) : sm (l.take (i + 1)) = sm (l.take i) + x := by
  rw [List.take_add_one, h, Dl.sm_append]
  simp [sm]
theorem zs_lvl (hs : List Int) : Lvl 0 (zs hs) := fun p hp => by
  obtain ⟨x, _, rfl⟩ := List.mem_map.1 hp
  have := Dl.pos_spec x
  show 0 = if pos x ≤ 0 then pos x else 0
  split <;> omega
theorem zs_got : ∀ (hs : List Int), got (zs hs) = 0
  | [] => rfl
  | x :: hs => by
    have := zs_got hs
    show 0 + got (zs hs) = 0
    omega
theorem zs_all : ∀ (hs : List Int), all (zs hs) = sm (hs.map pos)
  | [] => rfl
  | x :: hs => by
    show pos x + all (zs hs) = pos x + sm (hs.map pos)
    rw [zs_all hs]
theorem pos_if (x : Int) : (if (0 : Int) > x then 0 else x) = pos x := rfl
theorem Ref_pos {hs : List Int} {most : Int} {l : LP} (h : Ref (zs hs) most l) : Ref (zs hs) (pos most) l := by
  rcases Dl.pos_spec most with ⟨h1, h2⟩ | ⟨h1, h2⟩
  · rw [h2]
    have : l = zs hs := h.uniq (.done (by omega))
    rw [this]
    exact .done (Int.le_refl _)
  · rw [h2]
    exact h
abbrev i32 (x : Int) : Value := .int .i32 x
theorem SourceFair_law {hs : List Int} {a : Option Addr} {n c : Nat} {most : Int} (h : Heap) (hra : RdC h a (hs.map i32)) (hn : hs.length = n) (hi : ∀ x ∈ hs, -2147483648 ≤ x ∧ x ≤ 2147483647) (hmo : most ≤ 9223372036854775807) :
    CallsH Tryz.prog 4 [.slice a n c, .int .i64 most] h (Good h) := by
  apply F4_ok
  unfold F4
  refine (F8_spec (sat_old h)).mono ?_
  rintro v h0 ⟨rfl, H0⟩
  rw [DB_bool, Bool.not_true, cond_false]
  by_cases h40 : n ≤ 40
  case neg =>
    rw [decide_eq_true (by omega), cond_true]
    exact good_of H0
  rw [decide_eq_false (by omega), cond_false]
  have posb : ∀ x ∈ hs, 0 ≤ pos x ∧ pos x ≤ 2147483647 := fun x hx => by
    have := hi x hx
    have := Dl.pos_spec x
    omega
  refine ⟨fun st hh => ∃ (i : Nat) (oa : Option Addr) (oc : Nat), st = (⟨oa, i, oc⟩, sm ((hs.map pos).take i), (i : Int)) ∧ i ≤ n ∧ sat (ownS 3 1 oa i oc ((hs.take i).flatMap fun x => [iv x]) :: [old h]) hh,
    fun st _ => ((n : Int) - st.2.2).toNat, ⟨0, none, 0, rfl, Nat.zero_le _, ownS_nil 3 1 H0⟩, ?_⟩
  rintro st h1 ⟨i, oa, oc, rfl, hin, H1⟩
  simp only []
  have smb : ∀ i, i ≤ n → 0 ≤ sm ((hs.map pos).take i) ∧ sm ((hs.map pos).take i) ≤ 85899345880 := fun i hin => by
    have := sm_bound (B := 2147483647) ((hs.map pos).take i) (fun x hx => by
      obtain ⟨y, hy, rfl⟩ := List.mem_map.1 (List.mem_of_mem_take hx)
      exact posb y hy)
    refine ⟨this.1, Int.le_trans this.2 ?_⟩
    rw [List.length_take, List.length_map]
    omega
  by_cases hlt : i < n
  · rw [decide_eq_true (show ((i : Int) < (n : Int)) by omega), cond_true]
    obtain ⟨x, hx⟩ : ∃ x, hs[i]? = some x := ⟨_, List.getElem?_eq_getElem (by omega)⟩
    have hxi := hi x (List.mem_of_getElem? hx)
    have ew : IntKind.wrap .i64 x = x := IntWalk.i64_in _ (by omega)
    refine IdxA_nat (v := i32 x) (hra.old (H1.mv 1)) (by rw [List.length_map]; exact hn) (by rw [List.getElem?_map, hx]; rfl) fun b _ hc => ⟨_, hc, ?_⟩
    show DI .i32 (.int .i32 x) _
    rw [DI_int, ew]
    refine pushEl (f := fun x => [iv x]) (sz := 1) (by_ := 8) (x := x) (by kernel_rfl) (by kernel_rfl) (by kernel_rfl) (fun _ => rfl) (fun v hv => ?_) rfl (by rw [List.length_take]; omega) (by omega) H1 fun a' c' h' H2 => ?_
    · rw [List.mem_singleton] at hv
      subst hv
      rfl
    · refine IdxA_nat (v := i32 x) (hra.old (H2.mv 1)) (by rw [List.length_map]; exact hn) (by rw [List.getElem?_map, hx]; rfl) fun b _ hc => ⟨_, hc, ?_⟩
      show DI .i32 (.int .i32 x) _
      rw [DI_int, ew, pos_if, wrap64_succ (by omega)]
      have hs1 := smb i hin
      have hp1 := posb x (List.mem_of_getElem? hx)
      rw [IntWalk.i64_in _ (show _ by omega)]
      refine ⟨⟨i + 1, a', c', ?_, by omega, ?_⟩, by show ((n : Int) - ((i + 1 : Nat) : Int)).toNat < ((n : Int) - (i : Int)).toNat; omega⟩
      · rw [sm_take (x := pos x) (by rw [List.getElem?_map, hx]; rfl)]
      · rw [List.take_add_one, hx]
        exact H2
  rw [decide_eq_false (by omega), cond_false]
  have ei : i = n := by omega
  subst ei
  rw [List.take_of_length_le (by omega), ← List.map_eq_flatMap] at H1
  have hs2 := smb i (Nat.le_refl _)
  rw [List.take_of_length_le (by rw [List.length_map]; omega)] at hs2 ⊢
  refine (F11_spec (hs := hs) (fun h' H' => ownS_read H') hn (by omega) (fun x hx => by have := hi x hx; omega) hmo H1).mono ?_
  rintro v h2 ⟨a2, l, rfl, hR, hl1, hF, H2⟩
  rw [DSl_slice, show (((i : Nat) : Int) != (i : Int)) = false from by simp, cond_false]
  have hll : l.length = i := by rw [← hn, ← hl1, List.length_map]
  obtain ⟨hO, hA, hG⟩ := (Ref_pos hR).fair (Int.le_refl 0) (zs_lvl hs) (by have := Dl.pos_spec most; omega)
  rw [zs_got, zs_all, Int.zero_add] at hG
  have hr1 := ownS_read H2
  have hr2 := ownS_read (H2.mv 1)
  have each : ∀ {j : Nat} {p : Int × Int}, l[j]? = some p → hs[j]? = some p.1 := fun {j p} hp => by rw [← hl1, List.getElem?_map, hp]; rfl
  have rdG : ∀ {j : Nat} {p : Int × Int} {K : Addr → Prop}, l[j]? = some p → (∀ b, cellAt h2 b = some (iv p.2) → K b) → IdxA a2 i (j : Int) 1 K := fun {j p K} hp hK =>
    numRead (s := p.2) hr1 (by rw [List.length_map]; exact hll) (by rw [List.getElem?_map, hp]; rfl) hK
  have rdL : ∀ {j : Nat} {p : Int × Int} {K : Addr → Prop}, l[j]? = some p → (∀ b, cellAt h2 b = some (iv p.1) → K b) → IdxA oa i (j : Int) 1 K := fun {j p K} hp hK =>
    numRead (s := p.1) hr2 (by rw [List.length_map]; exact hn) (by rw [List.getElem?_map, each hp]; rfl) hK
  have bnd : ∀ {j : Nat} {p : Int × Int}, l[j]? = some p → (-2147483648 ≤ p.1 ∧ p.1 ≤ 2147483647) ∧ 0 ≤ p.2 ∧ (p.2 ≤ p.1 ∨ p.2 = 0) := fun {j p} hp => ⟨hi _ (List.mem_of_getElem? (each hp)), hF p (List.mem_of_getElem? hp)⟩
  have gb : ∀ j, 0 ≤ sm ((l.map (·.2)).take j) ∧ sm ((l.map (·.2)).take j) ≤ 85899345880 := fun j => by
    have := sm_bound (B := 2147483647) ((l.map (·.2)).take j) (fun x hx => by
      obtain ⟨p, hp, rfl⟩ := List.mem_map.1 (List.mem_of_mem_take hx)
      obtain ⟨k, hk⟩ := List.getElem?_of_mem hp
      have := bnd hk
      omega)
    refine ⟨this.1, Int.le_trans this.2 ?_⟩
    rw [List.length_take, List.length_map]
    omega
  refine ⟨fun st hh => hh = h2 ∧ ∃ j : Nat, st = (sm ((l.map (·.2)).take j), (j : Int)) ∧ j ≤ i, fun st _ => ((i : Int) - st.2).toNat, ⟨rfl, 0, rfl, Nat.zero_le _⟩, ?_⟩
  rintro st h3 ⟨rfl, j, rfl, hj⟩
  simp only []
  by_cases hlt2 : j < i
  · rw [decide_eq_true (show ((j : Int) < (i : Int)) by omega), cond_true]
    obtain ⟨p, hp⟩ : ∃ p, l[j]? = some p := ⟨_, List.getElem?_eq_getElem (by omega)⟩
    have hb := bnd hp
    have hps := Dl.pos_spec p.1
    refine rdG hp fun b hc => CI hc ?_
    rw [decide_eq_false (by omega), cond_false]
    refine rdG hp fun b hc => CI hc ?_
    refine rdL hp fun b hc => CI hc ?_
    rw [pos_if, decide_eq_false (by omega), cond_false]
    refine rdG hp fun b hc => CI hc ?_
    refine ⟨fun st hh => hh = h3 ∧ ∃ k : Nat, st = (k : Int) ∧ k ≤ j, fun st _ => ((j : Int) - st).toNat, ⟨rfl, 0, rfl, Nat.zero_le _⟩, ?_⟩
    rintro st h4 ⟨rfl, k, rfl, hk⟩
    have mek : ((j : Int) - ((k + 1 : Nat) : Int)).toNat < ((j : Int) - (k : Int)).toNat ∨ ¬ k < j := by omega
    by_cases hlt3 : k < j
    · rw [decide_eq_true (show ((k : Int) < (j : Int)) by omega), cond_true]
      have nxt : ∀ {P : Prop}, P → P := fun h => h
      have hme : ((j : Int) - ((k + 1 : Nat) : Int)).toNat < ((j : Int) - (k : Int)).toNat := by omega
      obtain ⟨q, hq⟩ : ∃ q, l[k]? = some q := ⟨_, List.getElem?_eq_getElem (by omega)⟩
      have hbq := bnd hq
      refine rdG hp fun b hc => CI hc ?_
      refine rdL hp fun b hc => CI hc ?_
      by_cases h1 : p.2 < p.1
      · rw [decide_eq_true h1, cond_true]
        refine rdG hq fun b hc => CI hc ?_
        refine rdL hq fun b hc => CI hc ?_
        by_cases h2 : q.2 < q.1
        · rw [decide_eq_true h2, cond_true]
          have ho := List.pairwise_iff_getElem.1 hO k j (by omega) (by omega) hlt3
          rw [show l[j]'(by omega) = p from by have := List.getElem?_eq_some_iff.1 hp; exact this.2, show l[k]'(by omega) = q from by have := List.getElem?_eq_some_iff.1 hq; exact this.2] at ho
          have ho := ho h1 h2
          refine rdG hq fun b hc => CI hc ?_
          refine rdG hp fun b hc => CI hc ?_
          rw [decide_eq_false (by omega), cond_false]
          refine rdG hq fun b hc => CI hc ?_
          refine rdG hp fun b hc => CI hc ?_
          rw [IntWalk.i64_in (p.2 + 1) (by omega), decide_eq_false (by omega), cond_false, wrap64_succ (by omega)]
          exact ⟨⟨rfl, k + 1, rfl, by omega⟩, hme⟩
        · rw [decide_eq_false h2, cond_false, wrap64_succ (by omega)]
          exact ⟨⟨rfl, k + 1, rfl, by omega⟩, hme⟩
      · rw [decide_eq_false h1, cond_false, wrap64_succ (by omega)]
        exact ⟨⟨rfl, k + 1, rfl, by omega⟩, hme⟩
    · rw [decide_eq_false (by omega), cond_false]
      have hg := gb j
      rw [IntWalk.i64_in _ (show _ by omega), wrap64_succ (by omega)]
      refine ⟨⟨rfl, j + 1, ?_, by omega⟩, by show ((i : Int) - ((j + 1 : Nat) : Int)).toNat < ((i : Int) - (j : Int)).toNat; omega⟩
      rw [sm_take (x := p.2) (by rw [List.getElem?_map, hp]; rfl)]
  · rw [decide_eq_false (by omega), cond_false, pos_if]
    rw [List.take_of_length_le (by rw [List.length_map]; omega)]
    have e : sm (l.map (·.2)) = if pos most < sm (hs.map pos) then pos most else sm (hs.map pos) := hG
    rw [← e, show (sm (l.map (·.2)) == sm (l.map (·.2))) = true from by simp]
    exact good_of (H2.mv 2)

end Go.Proofs.YticjjdhaikbdaaaGreatDoor
