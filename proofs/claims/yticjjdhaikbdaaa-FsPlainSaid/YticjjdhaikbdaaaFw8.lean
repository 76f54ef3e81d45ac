/- Heaps in parts: what is owned, what is never written again; a list of parts holds of a heap. -/
import Derived.Test.YticjjdhaikbdaaaFw7
import Derived.Maps.AppendAt
namespace Go.Proofs.Yticjjdhaikbdaaa
open Go Go.RowKit
set_option linter.unusedVariables false
set_option linter.unusedSimpArgs false

abbrev PHeap := Nat → Option (Obj × Bool)
abbrev HProp := PHeap → Prop
def disj (r s : PHeap) : Prop := ∀ b x y, r b = some x → s b = some y → x = y ∧ x.2 = true
def union (r s : PHeap) : PHeap := fun b => match r b with
  | some x => some x
  | none => s b
def sep (A B : HProp) : HProp := fun r => ∃ r1 r2, disj r1 r2 ∧ r = union r1 r2 ∧ A r1 ∧ B r2
def emp : HProp := fun r => ∀ b, r b = none
def star : List HProp → HProp
  | [] => emp
  | A :: l => sep A (star l)
def sub (r : PHeap) (h : Heap) : Prop := ∀ b x, r b = some x → h[b]? = some x.1
def sat (l : List HProp) (h : Heap) : Prop := ∃ r, star l r ∧ sub r h

theorem disj_comm {r s : PHeap} (h : disj r s) : disj s r := fun b x y hx hy => by
  obtain ⟨e, t⟩ := h b y x hy hx
  exact ⟨e.symm, e ▸ t⟩
theorem union_comm {r s : PHeap} (h : disj r s) : union r s = union s r := by
  funext b
  unfold union
  cases hr : r b with
  | none => cases hs : s b <;> rfl
  | some x =>
    cases hs : s b with
    | none => rfl
    | some y => simp only []; rw [(h b x y hr hs).1]
theorem union_assoc (r s t : PHeap) : union (union r s) t = union r (union s t) := by
  funext b
  unfold union
  cases hr : r b <;> rfl
theorem union_left {r s : PHeap} {b : Nat} {x : Obj × Bool} (h : r b = some x) : union r s b = some x := by simp [union, h]
theorem union_right {r s : PHeap} {b : Nat} {x : Obj × Bool} (hd : disj r s) (h : s b = some x) : union r s b = some x := by
  rw [union_comm hd]; exact union_left h
theorem disj_union {r s t : PHeap} : disj (union r s) t ↔ disj r t ∧ disj s t ∨ (disj r t ∧ ∀ b x y, r b = none → s b = some x → t b = some y → x = y ∧ x.2 = true) := by
  constructor
  · intro h
    refine .inr ⟨fun b x y hx hy => h b x y (union_left hx) hy, fun b x y hr hx hy => h b x y (by simp [union, hr, hx]) hy⟩
  · rintro (⟨h1, h2⟩ | ⟨h1, h2⟩) b x y hx hy
    · unfold union at hx
      cases hr : r b with
      | none => rw [hr] at hx; exact h2 b x y hx hy
      | some z => rw [hr] at hx; exact h1 b x y (by rw [hr]; exact hx) hy
    · unfold union at hx
      cases hr : r b with
      | none => rw [hr] at hx; exact h2 b x y hr hx hy
      | some z => rw [hr] at hx; exact h1 b x y (by rw [hr]; exact hx) hy
theorem sep_comm {A B : HProp} {r : PHeap} (h : sep A B r) : sep B A r := by
  obtain ⟨r1, r2, hd, rfl, ha, hb⟩ := h
  exact ⟨r2, r1, disj_comm hd, union_comm hd, hb, ha⟩
theorem disj_of {r1 r2 r3 : PHeap} (h12 : disj r1 r2) (h : disj (union r1 r2) r3) : disj r1 r3 ∧ disj r2 r3 :=
  ⟨fun b x y hx hy => h b x y (union_left hx) hy, fun b x y hx hy => h b x y (union_right h12 hx) hy⟩
theorem disj_mk {r1 r2 r3 : PHeap} (h13 : disj r1 r3) (h23 : disj r2 r3) : disj (union r1 r2) r3 := disj_union.2 (.inl ⟨h13, h23⟩)
theorem sep_assoc {A B C : HProp} {r : PHeap} (h : sep (sep A B) C r) : sep A (sep B C) r := by
  obtain ⟨r12, r3, hd, rfl, ⟨r1, r2, hd2, rfl, ha, hb⟩, hc⟩ := h
  obtain ⟨d13, d23⟩ := disj_of hd2 hd
  exact ⟨r1, union r2 r3, disj_comm (disj_mk (disj_comm hd2) (disj_comm d13)), union_assoc _ _ _, ha, r2, r3, d23, rfl, hb, hc⟩
theorem sep_assoc' {A B C : HProp} {r : PHeap} (h : sep A (sep B C) r) : sep (sep A B) C r :=
  sep_comm (sep_assoc (sep_comm (sep_assoc (sep_comm h))))
theorem sep_mono {A A' B B' : HProp} (ha : ∀ r, A r → A' r) (hb : ∀ r, B r → B' r) {r : PHeap} (h : sep A B r) : sep A' B' r :=
  let ⟨r1, r2, hd, e, h1, h2⟩ := h
  ⟨r1, r2, hd, e, ha _ h1, hb _ h2⟩
theorem sep_swap {A B C : HProp} {r : PHeap} (h : sep A (sep B C) r) : sep B (sep A C) r :=
  sep_assoc (sep_mono (fun _ h => sep_comm h) (fun _ h => h) (sep_assoc' h))
theorem emp_sep {A : HProp} {r : PHeap} (h : A r) : sep emp A r :=
  ⟨fun _ => none, r, fun _ _ _ h _ => by simp at h, by funext b; rfl, fun _ => rfl, h⟩
theorem sep_emp {A : HProp} {r : PHeap} (h : sep emp A r) : A r := by
  obtain ⟨r1, r2, _, rfl, he, ha⟩ := h
  rwa [show union r1 r2 = r2 from by funext b; simp [union, he b]]
theorem star_append {l m : List HProp} {r : PHeap} : star (l ++ m) r ↔ sep (star l) (star m) r := by
  induction l generalizing r with
  | nil => exact ⟨emp_sep, sep_emp⟩
  | cons A l ih =>
    simp only [List.cons_append, star]
    exact ⟨fun h => sep_assoc' (sep_mono (fun _ h => h) (fun _ h => ih.1 h) h), fun h => sep_mono (fun _ h => h) (fun _ h => ih.2 h) (sep_assoc h)⟩

/-- The k-th part to the front; the front part to the k-th place. -/
def mvL : Nat → List HProp → List HProp
  | 0, l => l
  | _ + 1, [] => []
  | k + 1, a :: l => match mvL k l with
    | [] => [a]
    | x :: r => x :: a :: r
def bkL : Nat → List HProp → List HProp
  | 0, l => l
  | _ + 1, [] => []
  | _ + 1, [a] => [a]
  | k + 1, a :: b :: l => b :: bkL k (a :: l)
theorem star_mv : ∀ (k : Nat) (l : List HProp) (r : PHeap), star l r → star (mvL k l) r
  | 0, l, r, h => h
  | k + 1, [], r, h => h
  | k + 1, a :: l, r, h => by
    have h2 : sep a (star (mvL k l)) r := sep_mono (fun _ h => h) (fun r h => star_mv k l r h) h
    simp only [mvL]
    cases he : mvL k l with
    | nil => rw [he] at h2; exact h2
    | cons x t => rw [he] at h2; exact sep_swap h2
theorem star_bk : ∀ (k : Nat) (l : List HProp) (r : PHeap), star l r → star (bkL k l) r
  | 0, l, r, h => h
  | k + 1, [], r, h => h
  | k + 1, [a], r, h => h
  | k + 1, a :: b :: l, r, h => sep_mono (fun _ h => h) (fun r h => star_bk k (a :: l) r h) (sep_swap h)
section
variable {h : Heap} {l m : List HProp} {A B : HProp}
theorem sat.mv (k : Nat) (H : sat l h) : sat (mvL k l) h := let ⟨r, hr, hs⟩ := H; ⟨r, star_mv k l r hr, hs⟩
theorem sat.bk (k : Nat) (H : sat l h) : sat (bkL k l) h := let ⟨r, hr, hs⟩ := H; ⟨r, star_bk k l r hr, hs⟩
theorem sat.imp (hi : ∀ r, A r → B r) (H : sat (A :: l) h) : sat (B :: l) h := let ⟨r, hr, hs⟩ := H; ⟨r, sep_mono hi (fun _ h => h) hr, hs⟩
theorem sat.drop (H : sat (A :: l) h) : sat l h := by
  obtain ⟨r, ⟨r1, r2, hd, rfl, _, h2⟩, hs⟩ := H
  exact ⟨r2, h2, fun b x hx => hs b x (union_right hd hx)⟩
theorem sat.dropTail (H : sat (l ++ m) h) : sat l h := by
  obtain ⟨r, hr, hs⟩ := H
  obtain ⟨r1, r2, hd, rfl, h1, _⟩ := star_append.1 hr
  exact ⟨r1, h1, fun b x hx => hs b x (union_left hx)⟩
/-- Several parts as one. -/
def Many (m : List HProp) : HProp := star m
theorem sat.open (H : sat (Many m :: l) h) : sat (m ++ l) h := let ⟨r, hr, hs⟩ := H; ⟨r, star_append.2 hr, hs⟩
theorem sat.shut (H : sat (m ++ l) h) : sat (Many m :: l) h := let ⟨r, hr, hs⟩ := H; ⟨r, star_append.1 hr, hs⟩
def pur (p : Prop) : HProp := fun r => p ∧ emp r
theorem sat_pur {p : Prop} : sat (pur p :: l) h ↔ p ∧ sat l h := by
  constructor
  · rintro ⟨r, ⟨r1, r2, hd, rfl, ⟨hp, he⟩, h2⟩, hs⟩
    exact ⟨hp, r2, h2, fun b x hx => hs b x (union_right hd hx)⟩
  · rintro ⟨hp, r, hr, hs⟩
    obtain ⟨r1, r2, hd, e, h1, h2⟩ := emp_sep hr
    exact ⟨r, ⟨r1, r2, hd, e, ⟨hp, h1⟩, h2⟩, hs⟩
def exi {α : Sort _} (A : α → HProp) : HProp := fun r => ∃ x, A x r
theorem sat_exi {α : Sort _} {A : α → HProp} : sat (exi A :: l) h ↔ ∃ x, sat (A x :: l) h := by
  constructor
  · rintro ⟨r, ⟨r1, r2, hd, e, ⟨x, hx⟩, h2⟩, hs⟩
    exact ⟨x, r, ⟨r1, r2, hd, e, hx, h2⟩, hs⟩
  · rintro ⟨x, r, ⟨r1, r2, hd, e, hx, h2⟩, hs⟩
    exact ⟨r, ⟨r1, r2, hd, e, ⟨x, hx⟩, h2⟩, hs⟩
/-- One block, owned; one block that is never written again. -/
def pt (b : Nat) (o : Obj) : HProp := fun r => r = fun c => if c = b then some (o, false) else none
def ro (b : Nat) (o : Obj) : HProp := fun r => r = fun c => if c = b then some (o, true) else none
theorem sat.get {b : Nat} {o : Obj} (H : sat (pt b o :: l) h) : h[b]? = some o := by
  obtain ⟨r, ⟨r1, r2, hd, rfl, rfl, h2⟩, hs⟩ := H
  exact hs b (o, false) (union_left (by simp))
theorem sat.getRo {b : Nat} {o : Obj} (H : sat (ro b o :: l) h) : h[b]? = some o := by
  obtain ⟨r, ⟨r1, r2, hd, rfl, rfl, h2⟩, hs⟩ := H
  exact hs b (o, true) (union_left (by simp))
theorem sat.upd {b : Nat} {o : Obj} (H : sat (pt b o :: l) h) {h' : Heap} (o' : Obj) (hb : h'[b]? = some o') (ho : ∀ c, c ≠ b → c < h.size → h'[c]? = h[c]?) : sat (pt b o' :: l) h' := by
  obtain ⟨r, ⟨r1, r2, hd, rfl, rfl, h2⟩, hs⟩ := H
  have hn : r2 b = none := by
    cases hr : r2 b with
    | none => rfl
    | some y =>
      have := hd b (o, false) y (by simp) hr
      exact absurd this.2 (by simp)
  refine ⟨_, ⟨fun c => if c = b then some (o', false) else none, r2, fun c x y hx hy => ?_, rfl, rfl, h2⟩, fun c x hx => ?_⟩
  · by_cases hc : c = b
    · subst hc; rw [hn] at hy; cases hy
    · simp [hc] at hx
  · by_cases hc : c = b
    · subst hc
      simp [union] at hx
      subst hx
      exact hb
    · simp only [union, hc, if_false] at hx
      have h1 := hs c x (by simp only [union, hc, if_false]; exact hx)
      rw [ho c hc (Array.getElem?_eq_some_iff.1 h1).1]
      exact h1
theorem sat.set {b : Nat} {o : Obj} (H : sat (pt b o :: l) h) (o' : Obj) : sat (pt b o' :: l) (h.setIfInBounds b o') := by
  have hb := H.get
  have hlt : b < h.size := (Array.getElem?_eq_some_iff.1 hb).1
  exact H.upd o' (by simp [Array.getElem?_setIfInBounds_self, hlt]) fun c hc _ => Array.getElem?_setIfInBounds_ne (Ne.symm hc)
theorem sat.grow (H : sat l h) {h' : Heap} (ho : ∀ c, c < h.size → h'[c]? = h[c]?) : sat l h' := by
  obtain ⟨r, hr, hs⟩ := H
  exact ⟨r, hr, fun b x hx => by have := hs b x hx; rw [ho b (Array.getElem?_eq_some_iff.1 this).1]; exact this⟩
theorem sat.new (H : sat l h) {h' : Heap} {b : Nat} {o : Obj} (hb : h'[b]? = some o) (hn : h.size ≤ b) (ho : ∀ c, c < h.size → h'[c]? = h[c]?) : sat (pt b o :: l) h' := by
  obtain ⟨r, hr, hs⟩ := H
  have hnone : r b = none := by
    cases he : r b with
    | none => rfl
    | some x =>
      have h1 := (Array.getElem?_eq_some_iff.1 (hs b x he)).1
      omega
  refine ⟨_, ⟨fun c => if c = b then some (o, false) else none, r, fun c x y hx hy => ?_, rfl, rfl, hr⟩, fun c x hx => ?_⟩
  · by_cases hc : c = b
    · subst hc; rw [hnone] at hy; cases hy
    · simp [hc] at hx
  · by_cases hc : c = b
    · subst hc
      simp [union] at hx
      subst hx
      exact hb
    · simp only [union, hc, if_false] at hx
      have h1 := hs c x hx
      rw [ho c (Array.getElem?_eq_some_iff.1 h1).1]
      exact h1
theorem sat.push (H : sat l h) (o : Obj) : sat (pt h.size o :: l) (h.push o) :=
  H.new (by simp) (Nat.le_refl _) fun c hc => by rw [Array.getElem?_push, if_neg (by omega)]
def Pers (A : HProp) : Prop := ∀ r, A r → ∀ b x, r b = some x → x.2 = true
theorem sat.dup (hp : Pers A) (H : sat (A :: l) h) : sat (A :: A :: l) h := by
  obtain ⟨r, ⟨r1, r2, hd, rfl, h1, h2⟩, hs⟩ := H
  refine ⟨union r1 r2, ⟨r1, union r1 r2, fun b x y hx hy => ?_, ?_, h1, r1, r2, hd, rfl, h1, h2⟩, hs⟩
  · rw [union_left hx] at hy; cases hy; exact ⟨rfl, hp _ h1 b x hx⟩
  · funext b
    unfold union
    cases r1 b <;> rfl
theorem ro_pers (b : Nat) (o : Obj) : Pers (ro b o) := by
  rintro r rfl c x hx
  by_cases hc : c = b
  · simp [hc] at hx; subst hx; rfl
  · simp [hc] at hx
theorem Pers.many : ∀ {m : List HProp}, (∀ A ∈ m, Pers A) → Pers (Many m)
  | [], _, r, hr, b, x, hx => by rw [show r b = none from hr b] at hx; cases hx
  | A :: m, hm, r, ⟨r1, r2, hd, e, h1, h2⟩, b, x, hx => by
    subst e
    unfold union at hx
    cases h : r1 b with
    | none => rw [h] at hx; exact Pers.many (fun A hA => hm A (by simp [hA])) r2 h2 b x hx
    | some y => rw [h] at hx; cases hx; exact hm A (by simp) r1 h1 b _ h
theorem Pers.exi {α : Sort _} {A : α → HProp} (h : ∀ x, Pers (A x)) : Pers (exi A) := fun r ⟨x, hx⟩ => h x r hx
theorem Pers.pur (p : Prop) : Pers (pur p) := fun r ⟨_, he⟩ b x hx => by rw [he b] at hx; cases hx
theorem sat.freeze {b : Nat} {o : Obj} (H : sat (pt b o :: l) h) : sat (ro b o :: l) h := by
  obtain ⟨r, ⟨r1, r2, hd, rfl, rfl, h2⟩, hs⟩ := H
  refine ⟨_, ⟨fun c => if c = b then some (o, true) else none, r2, fun c x y hx hy => ?_, rfl, rfl, h2⟩, fun c x hx => ?_⟩
  · by_cases hc : c = b
    · subst hc
      have := hd c (o, false) y (by simp) hy
      exact absurd this.2 (by simp)
    · simp [hc] at hx
  · by_cases hc : c = b
    · subst hc
      simp [union] at hx
      subst hx
      exact hs c (o, false) (union_left (by simp))
    · simp only [union, hc, if_false] at hx
      exact hs c x (by simp only [union, hc, if_false]; exact hx)
/-- A whole heap that is never written again. -/
def old (h0 : Heap) : HProp := fun r => r = fun b => (h0[b]?).map fun o => (o, true)
theorem old_pers (h0 : Heap) : Pers (old h0) := by
  rintro r rfl b x hx
  cases hb : h0[b]? with
  | none => simp [hb] at hx
  | some o => simp [hb] at hx; subst hx; rfl
theorem sat_old (h0 : Heap) : sat [old h0] h0 := by
  refine ⟨_, ⟨_, fun _ => none, fun b x y hx hy => by simp at hy, rfl, rfl, fun _ => rfl⟩, fun b x hx => ?_⟩
  unfold union at hx
  cases hb : h0[b]? with
  | none => simp [hb] at hx
  | some o => simp [hb] at hx; subst hx; rfl
theorem sat.oldGet {h0 : Heap} (H : sat (old h0 :: l) h) {b : Nat} (hb : b < h0.size) : h[b]? = h0[b]? := by
  obtain ⟨r, ⟨r1, r2, hd, rfl, rfl, h2⟩, hs⟩ := H
  have : h0[b]? = some h0[b] := by simp [hb]
  rw [this]
  exact hs b (h0[b], true) (union_left (by simp [this]))
theorem sat.oldSize {h0 : Heap} (H : sat (old h0 :: l) h) : h0.size ≤ h.size := by
  rcases Nat.lt_or_ge h.size h0.size with hlt | hge
  · have h1 := H.oldGet (b := h.size) hlt
    have : h[h.size]? = none := by simp
    rw [this] at h1
    simp [hlt] at h1
  · exact hge
theorem sat.oldCell {h0 : Heap} (H : sat (old h0 :: l) h) {a : Addr} {v : Value} (hv : cellAt h0 a = some v) : cellAt h a = some v := by
  unfold cellAt at hv ⊢
  cases hb : h0[a.block]? with
  | none => rw [hb] at hv; cases hv
  | some o => rw [H.oldGet (Array.getElem?_eq_some_iff.1 hb).1]; exact hv
/-- Two owned blocks are two. -/
theorem sat.ne {b c : Nat} {o p : Obj} (H : sat (pt b o :: pt c p :: l) h) : b ≠ c := by
  rintro rfl
  obtain ⟨r, ⟨r1, r2, hd, rfl, rfl, ⟨r3, r4, hd2, rfl, rfl, _⟩⟩, hs⟩ := H
  have := hd b (o, false) (p, false) (by simp) (union_left (by simp))
  exact absurd this.2 (by simp)
end

/-! ### the texts' words at parts -/
theorem cellAt_of {h : Heap} {b : Nat} {c : Array Value} {e : TypeId} {fr : Nat × Nat} (hb : h[b]? = some (.cells c e fr)) (i : Nat) : cellAt h ⟨b, i, none⟩ = c[i]? := by
  simp [cellAt, hb]
theorem frozenAt_of {h : Heap} {b : Nat} {c : Array Value} {e : TypeId} {lo hi : Nat} (hb : h[b]? = some (.cells c e (lo, hi))) (i : Nat) : frozenAt h ⟨b, i, none⟩ = (decide (lo ≤ i) && decide (i < hi)) := by
  simp [frozenAt, hb]
theorem Ld_of {h : Heap} {a : Addr} {v : Value} {K : Value → Prop} (hc : cellAt h a = some v) (hK : K v) : Ld h a K := ⟨v, hc, hK⟩
@[simp] theorem DI_int (k : IntKind) (x : Int) (K : Int → Prop) : DI k (.int k x) K = K x := by simp [DI]
@[simp] theorem DB_bool (x : Bool) (K : Bool → Prop) : DB (.bool x) K = K x := by simp [DB]
@[simp] theorem DS_string (x : ByteArray) (K : ByteArray → Prop) : DS (.string x) K = K x := by simp [DS]
@[simp] theorem DP_pointer (x : Option Addr) (K : Option Addr → Prop) : DP (.pointer x) K = K x := by simp [DP]
@[simp] theorem DM_map (x : Option Nat) (K : Option Nat → Prop) : DM (.map x) K = K x := by simp [DM]
@[simp] theorem DSl_slice (p : Option Addr) (l c : Nat) (K : Option Addr → Nat → Nat → Prop) : DSl (.slice p l c) K = K p l c := by
  simp only [DSl, eq_iff_iff]
  constructor
  · rintro ⟨p', l', c', h, hk⟩; cases h; exact hk
  · exact fun hk => ⟨p, l, c, rfl, hk⟩
@[simp] theorem NN'_some (a : Addr) (K : Addr → Prop) : NN' (some a) K = K a := rfl
@[simp] theorem addr_add0 (a : Addr) : a.add 0 = a := by simp [Addr.add]
@[simp] theorem addr_add (b o n : Nat) : (Addr.mk b o none).add n = ⟨b, o + n, none⟩ := by
  unfold Addr.add; split
  · next h => subst h; rfl
  · rfl
theorem Al_sat {l : List HProp} {h : Heap} {o : Obj} {K : Nat → Heap → Prop} (H : sat l h) (hK : ∀ b h', sat (pt b o :: l) h' → K b h') : Al h o K := hK _ _ (H.push o)
theorem setC_set {h : Heap} {b i : Nat} {c : Array Value} {e : TypeId} {fr : Nat × Nat} {v : Value} (hb : h[b]? = some (.cells c e fr)) : setC h ⟨b, i, none⟩ v = h.setIfInBounds b (.cells (c.setIfInBounds i v) e fr) := by
  obtain ⟨hlt, hb'⟩ := Array.getElem?_eq_some_iff.1 hb
  apply Array.ext_getElem?
  intro j
  simp only [setC]
  by_cases hj : j = b
  · subst hj
    rw [Array.getElem?_modify, if_pos rfl, hb]
    simp [hlt]
  · rw [Array.getElem?_modify, if_neg (fun e => hj e.symm), Array.getElem?_setIfInBounds_ne (Ne.symm hj)]
theorem StC_sat {l : List HProp} {h : Heap} {b i : Nat} {c : Array Value} {e : TypeId} {lo hi : Nat} {v : Value} {K : Heap → Prop} (H : sat (pt b (.cells c e (lo, hi)) :: l) h)
    (hi' : i < c.size) (hf : ¬ (lo ≤ i ∧ i < hi)) (hK : ∀ h', sat (pt b (.cells (c.setIfInBounds i v) e (lo, hi)) :: l) h' → K h') : StC h ⟨b, i, none⟩ v K := by
  have hb := H.get
  refine ⟨⟨c[i], by rw [cellAt_of hb]; simp [hi']⟩, ?_, ?_⟩
  · rw [frozenAt_of hb]
    by_cases h1 : lo ≤ i
    · have : ¬ i < hi := fun h2 => hf ⟨h1, h2⟩
      simp [this]
    · simp [h1]
  · rw [setC_set hb]
    exact hK _ (H.set _)

end Go.Proofs.Yticjjdhaikbdaaa
