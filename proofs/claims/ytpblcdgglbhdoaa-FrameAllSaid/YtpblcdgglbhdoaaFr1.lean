/- Frames as plain lists of bytes: a frame is told back, what is cut off or turned is none. -/
import Derived.Test.YtpblcdgglbhdoaaFw11
import Derived.Test.YtpblcdgglbhdoaaCr1
namespace Go.Proofs.Ytpblcdgglbhdoaa
theorem B8.append {a b : List Nat} (ha : B8 a) (hb : B8 b) : B8 (a ++ b) := fun n h => (List.mem_append.1 h).elim (ha n) (hb n)
theorem B8.take {a : List Nat} (ha : B8 a) (k : Nat) : B8 (a.take k) := fun n h => ha n (List.mem_of_mem_take h)
theorem B8.drop {a : List Nat} (ha : B8 a) (k : Nat) : B8 (a.drop k) := fun n h => ha n (List.mem_of_mem_drop h)
theorem B8.getD {l : List Nat} (h : B8 l) (i : Nat) : l.getD i 0 < 256 := by
  rw [List.getD_eq_getElem?_getD]
  cases he : l[i]? with
  | none => decide
  | some x => exact h x (List.mem_of_getElem? he)
namespace Frame
open Crc (Run More)
set_option linter.unusedVariables false
set_option linter.unusedSimpArgs false

def be4 (n : Nat) : List Nat := [n / 16777216 % 256, n / 65536 % 256, n / 256 % 256, n % 256]
def val4 (l : List Nat) : Nat := l.getD 0 0 * 16777216 + l.getD 1 0 * 65536 + l.getD 2 0 * 256 + l.getD 3 0
theorem be4_B8 (n : Nat) : B8 (be4 n) := by
  intro x hx
  simp only [be4, List.mem_cons, List.mem_nil_iff, or_false] at hx
  rcases hx with rfl | rfl | rfl | rfl <;> exact Nat.mod_lt _ (by decide)
theorem be4_length (n : Nat) : (be4 n).length = 4 := rfl
theorem val4_be4 {n : Nat} (h : n < 4294967296) (rest : List Nat) : val4 (be4 n ++ rest) = n := by
  simp [val4, be4]
  omega
theorem be4_val4 {l : List Nat} (h : B8 l) (hl : 4 ≤ l.length) : be4 (val4 l) = l.take 4 := by
  match l, hl with
  | a :: b :: c :: d :: r, _ =>
    have ha : a < 256 := h a (by simp)
    have hb : b < 256 := h b (by simp)
    have hc : c < 256 := h c (by simp)
    have hd : d < 256 := h d (by simp)
    simp [be4, val4]
    omega
theorem val4_lt {l : List Nat} (h : B8 l) : val4 l < 4294967296 := by
  have := h.getD 0; have := h.getD 1; have := h.getD 2; have := h.getD 3
  unfold val4
  omega
theorem val4_take {l : List Nat} {k : Nat} (hk : 4 ≤ k) : val4 (l.take k) = val4 l := by
  unfold val4
  simp only [List.getD_eq_getElem?_getD, List.getElem?_take]
  rw [if_pos (by omega), if_pos (by omega), if_pos (by omega), if_pos (by omega)]

def packN (x : List Nat) : List Nat := be4 x.length ++ be4 (More 0 (be4 x.length ++ x)) ++ x
theorem packN_length (x : List Nat) : (packN x).length = 8 + x.length := by simp [packN, be4]; omega
theorem packN_B8 {x : List Nat} (h : B8 x) : B8 (packN x) := ((be4_B8 _).append (be4_B8 _)).append h
def firstN (bs : List Nat) : Option (List Nat) :=
  if bs.length < 8 then none
  else if val4 bs > 16777208 then none
  else if val4 bs > bs.length - 8 then none
  else if val4 (bs.drop 4) = More (More 0 (bs.take 4)) ((bs.drop 8).take (val4 bs)) then some ((bs.drop 8).take (val4 bs)) else none
theorem firstN_pack {x : List Nat} (hx : B8 x) (hl : x.length ≤ 16777208) (rest : List Nat) : firstN (packN x ++ rest) = some x := by
  have e1 : packN x ++ rest = be4 x.length ++ (be4 (More 0 (be4 x.length ++ x)) ++ (x ++ rest)) := by simp [packN]
  have hlen : (packN x ++ rest).length = 8 + x.length + rest.length := by rw [List.length_append, packN_length]
  have hv : val4 (packN x ++ rest) = x.length := by rw [e1]; exact val4_be4 (by omega) _
  have hd4 : (packN x ++ rest).drop 4 = be4 (More 0 (be4 x.length ++ x)) ++ (x ++ rest) := by rw [e1]; rfl
  have hd8 : (packN x ++ rest).drop 8 = x ++ rest := by rw [e1]; rfl
  have ht4 : (packN x ++ rest).take 4 = be4 x.length := by rw [e1]; rfl
  have hbody : ((packN x ++ rest).drop 8).take x.length = x := by rw [hd8]; exact List.take_left
  unfold firstN
  rw [hlen, hv, hbody, hd4, ht4, val4_be4 (Crc.More_lt (by decide) ((be4_B8 _).append hx)), ← Crc.More_append, if_neg (by omega), if_neg (by omega), if_neg (by omega), if_pos rfl]
theorem firstN_some {bs x : List Nat} (hb : B8 bs) (h : firstN bs = some x) : bs = packN x ++ bs.drop (8 + x.length) ∧ x.length ≤ 16777208 ∧ 8 + x.length ≤ bs.length ∧ x = (bs.drop 8).take x.length ∧ val4 bs = x.length ∧ B8 x := by
  unfold firstN at h
  split at h
  · cases h
  · split at h
    · cases h
    · split at h
      · cases h
      · split at h
        · rename_i h1 h2 h3 h4
          simp only [Option.some.injEq] at h
          have hxl : x.length = val4 bs := by
            rw [← h, List.length_take, List.length_drop]
            omega
          have hx8 : B8 x := by rw [← h]; exact (hb.drop 8).take _
          have e4 : be4 x.length = bs.take 4 := by rw [hxl]; exact be4_val4 hb (by omega)
          have e5 : be4 (More 0 (be4 x.length ++ x)) = (bs.drop 4).take 4 := by
            rw [Crc.More_append, e4, ← h, ← h4]
            exact be4_val4 (hb.drop 4) (by rw [List.length_drop]; omega)
          refine ⟨?_, by omega, by omega, by rw [hxl]; exact h.symm, hxl.symm, hx8⟩
          unfold packN
          rw [e5, e4]
          have hx2 : x = (bs.drop 8).take x.length := by rw [hxl]; exact h.symm
          conv => rhs; rw [List.append_assoc]; rhs; lhs; rw [hx2]
          rw [← List.drop_drop, List.take_append_drop, List.append_assoc]
          have e6 : bs.drop 8 = (bs.drop 4).drop 4 := by rw [List.drop_drop]
          rw [e6, List.take_append_drop, List.take_append_drop]
        · cases h
/-- The document's answer for the frame at the beginning. -/
def refAt (bs : List Nat) : List Nat × Bool :=
  if bs.length < 8 then ([], false)
  else if val4 bs > bs.length - 8 then ([], false)
  else ((bs.drop 8).take (val4 bs), decide (val4 bs ≤ 16777208) && decide (packN ((bs.drop 8).take (val4 bs)) = bs.take (8 + val4 bs)))
theorem firstN_refAt {bs : List Nat} (hb : B8 bs) : firstN bs = if (refAt bs).2 then some (refAt bs).1 else none := by
  by_cases h1 : bs.length < 8
  · simp [firstN, refAt, h1]
  · by_cases h2 : val4 bs > bs.length - 8
    · simp [firstN, refAt, h1, h2]
    · by_cases h3 : val4 bs > 16777208
      · have h3' : ¬ val4 bs ≤ 16777208 := by omega
        simp [firstN, refAt, h1, h2, h3, h3']
      · have h3' : val4 bs ≤ 16777208 := by omega
        have hbl : ((bs.drop 8).take (val4 bs)).length = val4 bs := by rw [List.length_take, List.length_drop]; omega
        cases hf : firstN bs with
        | some x =>
          obtain ⟨e, hl, hle, hx, hv, _⟩ := firstN_some hb hf
          have hx' : (bs.drop 8).take (val4 bs) = x := by rw [hv]; exact hx.symm
          have hp : packN x = bs.take (8 + val4 bs) := by
            rw [hv, e, List.take_append_of_le_length (by rw [packN_length]; omega), List.take_of_length_le (by rw [packN_length]; omega)]
          simp [refAt, h1, h2, h3', hx', hp]
        | none =>
          have hn : ¬ packN ((bs.drop 8).take (val4 bs)) = bs.take (8 + val4 bs) := fun hp => by
            have e : bs = packN ((bs.drop 8).take (val4 bs)) ++ bs.drop (8 + val4 bs) := by rw [hp, List.take_append_drop]
            have := firstN_pack ((hb.drop 8).take (val4 bs)) (by omega) (bs.drop (8 + val4 bs))
            rw [← e, hf] at this
            cases this
          simp [refAt, h1, h2, h3', hn]
def scanF : Nat → List Nat → List (List Nat)
  | 0, _ => []
  | k + 1, bs => match firstN bs with
    | none => []
    | some x => x :: scanF k (bs.drop (8 + x.length))
theorem scanF_fuel : ∀ (k k' : Nat) (bs : List Nat), bs.length < k → bs.length < k' → scanF k bs = scanF k' bs
  | 0, _, _, h, _ => by omega
  | _ + 1, 0, _, _, h => by omega
  | k + 1, k' + 1, bs, h, h' => by
    simp only [scanF]
    cases hf : firstN bs with
    | none => rfl
    | some x =>
      simp only []
      congr 1
      have : 8 ≤ bs.length := by
        unfold firstN at hf
        split at hf
        · cases hf
        · omega
      exact scanF_fuel k k' _ (by rw [List.length_drop]; omega) (by rw [List.length_drop]; omega)
def scanN (bs : List Nat) : List (List Nat) := scanF (bs.length + 1) bs
theorem scanN_eq (bs : List Nat) : scanN bs = match firstN bs with
    | none => []
    | some x => x :: scanN (bs.drop (8 + x.length)) := by
  show scanF (bs.length + 1) bs = _
  simp only [scanF]
  cases hf : firstN bs with
  | none => rfl
  | some x =>
    simp only []
    congr 1
    have : 8 ≤ bs.length := by
      unfold firstN at hf
      split at hf
      · cases hf
      · omega
    exact scanF_fuel _ _ _ (by rw [List.length_drop]; omega) (by omega)
def reach (l : List (List Nat)) : Nat := (l.map fun x => 8 + x.length).sum
theorem scanN_pack {x : List Nat} (hx : B8 x) (hl : x.length ≤ 16777208) (rest : List Nat) : scanN (packN x ++ rest) = x :: scanN rest := by
  rw [scanN_eq, firstN_pack hx hl]
  simp only []
  rw [List.drop_append_of_le_length (by rw [packN_length]; omega), List.drop_of_length_le (by rw [packN_length]; omega), List.nil_append]
theorem scanN_packs : ∀ (l : List (List Nat)) (rest : List Nat), (∀ x ∈ l, B8 x ∧ x.length ≤ 16777208) → scanN ((l.map packN).flatten ++ rest) = l ++ scanN rest
  | [], rest, _ => rfl
  | x :: l, rest, h => by
    rw [List.map_cons, List.flatten_cons, List.append_assoc, scanN_pack (h x (by simp)).1 (h x (by simp)).2, scanN_packs l rest fun y hy => h y (by simp [hy])]
    rfl
theorem reach_packs : ∀ (l : List (List Nat)), ((l.map packN).flatten).length = reach l
  | [] => rfl
  | x :: l => by
    rw [List.map_cons, List.flatten_cons, List.length_append, packN_length, reach_packs l]
    rfl
theorem firstN_cut {x : List Nat} (hl : x.length ≤ 16777208) (rest : List Nat) {k : Nat} (hk : k < 8 + x.length) : firstN ((packN x ++ rest).take k) = none := by
  have hlen : ((packN x ++ rest).take k).length = k := by rw [List.length_take, List.length_append, packN_length]; omega
  unfold firstN
  by_cases h8 : k < 8
  · rw [if_pos (by omega)]
  · have hv : val4 ((packN x ++ rest).take k) = x.length := by
      rw [val4_take (by omega), packN, List.append_assoc, List.append_assoc]
      exact val4_be4 (by omega) _
    rw [if_neg (by omega), if_neg (by omega), hv, if_pos (by omega)]
theorem scanN_cut {x : List Nat} (hx : B8 x) (hl : x.length ≤ 16777208) (rest : List Nat) (k : Nat) :
    scanN ((packN x ++ rest).take k) = if 8 + x.length ≤ k then x :: scanN (rest.take (k - (8 + x.length))) else [] := by
  split
  · rename_i h
    rw [List.take_append, packN_length, List.take_of_length_le (by rw [packN_length]; exact h)]
    exact scanN_pack hx hl _
  · rename_i h
    rw [scanN_eq, firstN_cut hl rest (by omega)]
theorem scanN_nil : scanN [] = [] := by rw [scanN_eq]; rfl

end Frame
end Go.Proofs.Ytpblcdgglbhdoaa
