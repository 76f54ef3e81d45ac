/- Regions that draw their order and whose operations write: whatever order is drawn. -/
import Derived.Test.YticjjdhaikbdaaaFw4
namespace Go.Proofs.Yticjjdhaikbdaaa
open Go Go.RowKit
set_option linter.unusedVariables false
set_option linter.unusedSimpArgs false

/-- What a region's plan tells: of each operation, which must come ahead of it; which operations write. -/
structure Plan where
  bef : List Nat
  eff : Nat
def Plan.befOf (p : Plan) (i : Nat) : Nat := p.bef.getD i 0
def subM (a b : Nat) : Bool := Nat.beq (Nat.land a b) a
def dstsFrom (ops : List Oper) (k m : Nat) : Nat :=
  match ops with
  | [] => 0
  | o :: rest => match o.dst with
    | some d => bif bitOf m k then Nat.lor (2 ^ d) (dstsFrom rest (k + 1) m) else dstsFrom rest (k + 1) m
    | none => dstsFrom rest (k + 1) m
def hide (ops : Array Oper) (m : Nat) (φ : Fr) : Fr :=
  { s := fun t => bif bitOf (opsMask ops.toList) t && !bitOf (dstsFrom ops.toList 0 m) t then none else φ.s t
    m := φ.m }
def SameV (x : Option Value) (u : Value) : Prop := x = some u
def isV (φ : Fr) (d : Option Tmp) (u : Value) : Prop :=
  match d with
  | some d => SameV (φ.s d) u
  | none => True
/-- One operation, quiet; one that writes. -/
def gq (P : Program) (n : Nat) (ops : Array Oper) (b : Nat) (o : Oper) (φ : Fr) (h : Heap) (K : Fr → Value → Prop) : Prop :=
  match o.guard with
  | none => opQQ P n o (hide ops b φ) h fun v => K φ v
  | some (j, want) =>
    match dstOf ops j with
    | none => False
    | some d =>
      match ev n (hide ops b φ) (.tmp d) with
      | some (.bool t) => cond t
        (cond want (opQQ P n o (hide ops b (φ.put (some d) (.bool true))) h fun v => K (φ.put (some d) (.bool true)) v) (K (φ.put (some d) (.bool true)) undef))
        (cond want (K (φ.put (some d) (.bool false)) undef) (opQQ P n o (hide ops b (φ.put (some d) (.bool false))) h fun v => K (φ.put (some d) (.bool false)) v))
      | some (.tuple _) => K φ undef
      | _ => False
def gE (P : Program) (n : Nat) (et : List TypeId) (ops : Array Oper) (b : Nat) (o : Oper) (φ : Fr) (h : Heap) (K : Fr → Value → Heap → Prop) : Prop :=
  match o.guard with
  | none => opPT P n et o (hide ops b φ) h fun v h' => K φ v h'
  | some (j, want) =>
    match dstOf ops j with
    | none => False
    | some d =>
      match ev n (hide ops b φ) (.tmp d) with
      | some (.bool t) => cond t
        (cond want (opPT P n et o (hide ops b (φ.put (some d) (.bool true))) h fun v h' => K (φ.put (some d) (.bool true)) v h') (K (φ.put (some d) (.bool true)) undef h))
        (cond want (K (φ.put (some d) (.bool false)) undef h) (opPT P n et o (hide ops b (φ.put (some d) (.bool false))) h fun v h' => K (φ.put (some d) (.bool false)) v h'))
      | some (.tuple _) => K φ undef h
      | _ => False
/-- The first quiet operation that may come; the writing ones that may. -/
def nextQ (p : Plan) (past : Nat) : Nat → Nat → Option Nat
  | 0, _ => none
  | f + 1, i => bif !bitOf past i && !bitOf p.eff i && subM (p.befOf i) past then some i else nextQ p past f (i + 1)
def nextE (p : Plan) (past : Nat) : Nat → Nat → List Nat
  | 0, _ => []
  | f + 1, i => bif !bitOf past i && bitOf p.eff i && subM (p.befOf i) past then i :: nextE p past f (i + 1) else nextE p past f (i + 1)
/-- The quiet operations that were told and need not lie ahead of the one that wrote, told again. -/
def again (P : Program) (n : Nat) (ops : Array Oper) (p : Plan) (past b : Nat) (φ : Fr) (h : Heap) : Nat → Nat → Prop → Prop
  | 0, _, K => K
  | f + 1, i, K => bif bitOf past i && !bitOf p.eff i && !bitOf b i then
      match ops[i]? with
      | some o => gq P n ops (p.befOf i) o φ h (fun φ' u => isV φ' o.dst u) ∧ again P n ops p past b φ h f (i + 1) K
      | none => False
    else again P n ops p past b φ h f (i + 1) K
def conjL : List Nat → (Nat → Prop) → Prop
  | [], _ => False
  | [i], f => f i
  | i :: j :: r, f => f i ∧ conjL (j :: r) f
def dPT (P : Program) (n : Nat) (et : List TypeId) (ops : Array Oper) (p : Plan) : (fuel : Nat) → (past : Nat) → Fr → Heap → (Fr → Heap → Prop) → Prop
  | 0, _, _, _, _ => False
  | fuel + 1, past, φ, h, K =>
    match nextQ p past ops.size 0 with
    | some i => match ops[i]? with
      | some o => gq P n ops (p.befOf i) o φ h fun φ' v => dPT P n et ops p fuel (Nat.lor past (2 ^ i)) (φ'.put o.dst v) h K
      | none => False
    | none => bif Nat.beq past (2 ^ ops.size - 1) then K φ h else
      conjL (nextE p past ops.size 0) fun i => match ops[i]? with
        | some o => gE P n et ops (p.befOf i) o φ h fun φ' v h' => again P n ops p past (p.befOf i) (φ'.put o.dst v) h' ops.size 0 (dPT P n et ops p fuel (Nat.lor past (2 ^ i)) (φ'.put o.dst v) h' K)
        | none => False
/-- That the plan is the region's. -/
def distinct : List Nat → Bool
  | [] => true
  | x :: r => !r.any (Nat.beq x) && distinct r
def planOf (p : Plan) (o : Oper) : Nat := o.after.toList.foldr (fun e s => bif Region.binds .any e then Nat.lor (Nat.lor (2 ^ e.on) (p.befOf e.on)) s else s) 0
def planFrom (p : Plan) : List Oper → Nat → Bool
  | [], _ => true
  | o :: rest, i => Nat.beq (p.befOf i) (planOf p o) && o.after.toList.all (fun e => !Region.binds .any e || Nat.blt e.on i) && (bif bitOf p.eff i then noSel o.op else namedCall o.op) && planFrom p rest (i + 1)
def planOK (p : Plan) (ops : Array Oper) : Bool := planFrom p ops.toList 0 && distinct (ops.toList.filterMap (fun o : Oper => o.dst))

/-! ### masks -/
theorem subM_iff {a b : Nat} : subM a b = true ↔ ∀ i, bitOf a i = true → bitOf b i = true := by
  unfold subM
  constructor
  · intro h i hi
    have e := Nat.eq_of_beq_eq_true h
    rw [bitOf_eq] at hi ⊢
    have := congrArg (fun x => x.testBit i) e
    simp only [show Nat.land a b = a &&& b from rfl, Nat.testBit_and, hi, Bool.true_and] at this
    exact this
  · intro h
    have : Nat.land a b = a := by
      apply Nat.eq_of_testBit_eq
      intro i
      rw [show Nat.land a b = a &&& b from rfl, Nat.testBit_and]
      cases ha : a.testBit i with
      | false => rfl
      | true =>
        have := h i (by rw [bitOf_eq]; exact ha)
        rw [bitOf_eq] at this
        rw [this]; rfl
    rw [this]
    exact Nat.beq_refl a
theorem bitOf_pow_iff (i j : Nat) : bitOf (2 ^ i) j = true ↔ i = j := by
  rw [bitOf_eq, Nat.testBit_two_pow]
  simp
theorem bitOf_zero (j : Nat) : bitOf 0 j = false := by rw [bitOf_eq]; simp
theorem bitOf_lor_pow {m i j : Nat} : bitOf (Nat.lor m (2 ^ i)) j = true ↔ bitOf m j = true ∨ j = i := by
  rw [bitOf_lor, Bool.or_eq_true, bitOf_pow_iff]
  constructor <;> rintro (h | h) <;> first | exact .inl h | exact .inr h.symm
theorem dstsFrom_cons (o : Oper) (l : List Oper) (k m : Nat) : dstsFrom (o :: l) k m = match o.dst with
    | some d => bif bitOf m k then Nat.lor (2 ^ d) (dstsFrom l (k + 1) m) else dstsFrom l (k + 1) m
    | none => dstsFrom l (k + 1) m := rfl
theorem dstsFrom_mem : ∀ (l : List Oper) (k m t : Nat), bitOf (dstsFrom l k m) t = true ↔ ∃ i o, l[i]? = some o ∧ bitOf m (k + i) = true ∧ o.dst = some t
  | [], k, m, t => by simp [dstsFrom, bitOf_zero]
  | o :: l, k, m, t => by
    have ih := dstsFrom_mem l (k + 1) m t
    have shift : (∃ i o', (o :: l)[i]? = some o' ∧ bitOf m (k + i) = true ∧ o'.dst = some t) ↔ (bitOf m k = true ∧ o.dst = some t) ∨ ∃ i o', l[i]? = some o' ∧ bitOf m (k + 1 + i) = true ∧ o'.dst = some t := by
      constructor
      · rintro ⟨i, o', h1, h2, h3⟩
        cases i with
        | zero => simp at h1; subst h1; exact .inl ⟨h2, h3⟩
        | succ i => exact .inr ⟨i, o', by simpa using h1, by rw [Nat.add_assoc, Nat.add_comm 1]; exact h2, h3⟩
      · rintro (⟨h2, h3⟩ | ⟨i, o', h1, h2, h3⟩)
        · exact ⟨0, o, by simp, h2, h3⟩
        · exact ⟨i + 1, o', by simpa using h1, by rw [Nat.add_assoc, Nat.add_comm 1] at h2; exact h2, h3⟩
    rw [shift, ← ih, dstsFrom_cons]
    cases hd : o.dst with
    | none => simp
    | some d =>
      simp only []
      cases hb : bitOf m k with
      | false => simp
      | true =>
        rw [cond_true, bitOf_lor, Bool.or_eq_true, bitOf_pow_iff]
        simp [Option.some.injEq]
theorem opsMask_iff {l : List Oper} {t : Nat} : bitOf (opsMask l) t = true ↔ ∃ o ∈ l, o.dst = some t := by
  constructor
  · induction l with
    | nil => intro h; rw [opsMask, List.foldr_nil, bitOf_zero] at h; cases h
    | cons o l ih =>
      intro h
      simp only [opsMask, List.foldr_cons] at h
      cases hd : o.dst with
      | none => rw [hd] at h; obtain ⟨o', h1, h2⟩ := ih h; exact ⟨o', by simp [h1], h2⟩
      | some d =>
        rw [hd] at h
        simp only [] at h
        rw [bitOf_lor, Bool.or_eq_true, bitOf_pow_iff] at h
        rcases h with h | h
        · obtain ⟨o', h1, h2⟩ := ih h; exact ⟨o', by simp [h1], h2⟩
        · exact ⟨o, by simp, by rw [hd, h]⟩
  · rintro ⟨o, ho, hd⟩
    exact opsMask_mem ho hd

section
variable {P : Program} {n : Nat} {et : List TypeId} {ops : Array Oper} {p : Plan}
theorem planFrom_at : ∀ (l : List Oper) (k i : Nat) (o : Oper), planFrom p l k = true → l[i]? = some o → p.befOf (k + i) = planOf p o ∧ (∀ e ∈ o.after.toList, Region.binds .any e = true → e.on < k + i) ∧ (bitOf p.eff (k + i) = false → namedCall o.op = true) ∧ noSel o.op = true
  | [], _, _, _, _, h => by simp at h
  | x :: l, k, 0, o, hp, h => by
    simp at h; subst h
    simp only [planFrom, Bool.and_eq_true, List.all_eq_true] at hp
    refine ⟨Nat.eq_of_beq_eq_true hp.1.1.1, fun e he hb => ?_, ?_⟩
    · have := hp.1.1.2 e he
      rw [hb] at this
      simp only [Bool.not_true, Bool.false_or] at this
      have := Nat.le_of_ble_eq_true this
      omega
    · have h1 := hp.1.2
      rw [Nat.add_zero]
      cases hb : bitOf p.eff k with
      | true => rw [hb] at h1; exact ⟨fun e => (by cases e), h1⟩
      | false => rw [hb] at h1; exact ⟨fun _ => h1, namedCall_noSel h1⟩
  | x :: l, k, i + 1, o, hp, h => by
    simp only [planFrom, Bool.and_eq_true] at hp
    have := planFrom_at l (k + 1) i o hp.2 (by simpa using h)
    rwa [show k + 1 + i = k + (i + 1) by omega] at this
theorem planOf_bit {o : Oper} {j : Nat} : bitOf (planOf p o) j = true ↔ ∃ e ∈ o.after.toList, Region.binds .any e = true ∧ (j = e.on ∨ bitOf (p.befOf e.on) j = true) := by
  unfold planOf
  induction o.after.toList with
  | nil => simp [bitOf_zero]
  | cons e l ih =>
    simp only [List.foldr_cons]
    cases hb : Region.binds .any e with
    | false =>
      rw [cond_false, ih]
      constructor
      · rintro ⟨e', h1, h2⟩; exact ⟨e', by simp [h1], h2⟩
      · rintro ⟨e', h1, h2, h3⟩
        rcases List.mem_cons.1 h1 with rfl | h1
        · rw [hb] at h2; cases h2
        · exact ⟨e', h1, h2, h3⟩
    | true =>
      rw [cond_true, bitOf_lor, bitOf_lor, Bool.or_eq_true, Bool.or_eq_true, bitOf_pow_iff, ih]
      constructor
      · rintro ((h | h) | ⟨e', h1, h2⟩)
        · exact ⟨e, by simp, hb, .inl h.symm⟩
        · exact ⟨e, by simp, hb, .inr h⟩
        · exact ⟨e', by simp [h1], h2⟩
      · rintro ⟨e', h1, h2, h3⟩
        rcases List.mem_cons.1 h1 with rfl | h1
        · rcases h3 with h3 | h3
          · exact .inl (.inl h3.symm)
          · exact .inl (.inr h3)
        · exact .inr ⟨e', h1, h2, h3⟩
theorem distinct_spec : ∀ (l : List Oper) (i j : Nat) (oi oj : Oper) (d : Tmp), distinct (l.filterMap (fun o : Oper => o.dst)) = true → l[i]? = some oi → l[j]? = some oj → oi.dst = some d → oj.dst = some d → i = j
  | [], _, _, _, _, _, _, h, _, _, _ => by simp at h
  | x :: l, i, j, oi, oj, d, hd, hi, hj, di, dj => by
    have mem : ∀ (k : Nat) (o : Oper), l[k]? = some o → o.dst = some d → d ∈ l.filterMap (fun o : Oper => o.dst) := fun k o hk ho => List.mem_filterMap.2 ⟨o, List.mem_of_getElem? hk, ho⟩
    have hl : distinct (l.filterMap (fun o : Oper => o.dst)) = true := by
      simp only [List.filterMap_cons] at hd
      cases hx : x.dst with
      | none => rw [hx] at hd; exact hd
      | some y => rw [hx] at hd; simp only [distinct, Bool.and_eq_true] at hd; exact hd.2
    have clash : ∀ (k : Nat) (o : Oper), l[k]? = some o → o.dst = some d → x.dst = some d → False := fun k o hk ho hx => by
      simp only [List.filterMap_cons, hx, distinct, Bool.and_eq_true, Bool.not_eq_true', List.any_eq_false] at hd
      exact hd.1 d (mem k o hk ho) (Nat.beq_refl d)
    cases i with
    | zero =>
      simp at hi; subst hi
      cases j with
      | zero => rfl
      | succ j => exact (clash j oj (by simpa using hj) dj di).elim
    | succ i =>
      cases j with
      | zero => simp at hj; subst hj; exact (clash i oi (by simpa using hi) di dj).elim
      | succ j => rw [distinct_spec l i j oi oj d hl (by simpa using hi) (by simpa using hj) di dj]

/-! ### frames -/
theorem hide_m (m : Nat) (φ : Fr) : (hide ops m φ).m = φ.m := rfl
theorem hide_some {m : Nat} {φ : Fr} {t : Nat} {v : Value} (h : (hide ops m φ).s t = some v) : φ.s t = some v ∧ (bitOf (opsMask ops.toList) t = false ∨ bitOf (dstsFrom ops.toList 0 m) t = true) := by
  simp only [hide] at h
  cases h1 : bitOf (opsMask ops.toList) t <;> cases h2 : bitOf (dstsFrom ops.toList 0 m) t <;> rw [h1, h2] at h <;> simp at h <;> simp [h]
theorem hide_mono {m m' : Nat} (h : ∀ i, bitOf m i = true → bitOf m' i = true) {φ : Fr} {a : Act} (ha : FA n (hide ops m' φ) a) : FA n (hide ops m φ) a := by
  refine ⟨ha.defers, ha.size, fun t v hv ht => ha.slots t v ?_ ht⟩
  obtain ⟨h1, h2⟩ := hide_some hv
  simp only [hide]
  rcases h2 with h2 | h2
  · rw [h2]; exact h1
  · have : bitOf (dstsFrom ops.toList 0 m') t = true := by
      rw [dstsFrom_mem] at h2 ⊢
      obtain ⟨i, o, e1, e2, e3⟩ := h2
      exact ⟨i, o, e1, h _ e2, e3⟩
    rw [this]
    simp [h1]
theorem put_self {φ : Fr} {d : Tmp} {v : Value} (h : φ.s d = some v) : φ.put (some d) v = φ := by
  cases φ with
  | mk s m =>
    simp only [Fr.put]
    congr 1
    funext t
    cases hb : Nat.beq t d with
    | false => rfl
    | true =>
      obtain rfl := Nat.eq_of_beq_eq_true hb
      exact h.symm
/-- Slots that earlier operations do not show stay hidden. -/
theorem hide_put {m i : Nat} {o : Oper} (hd : distinct (ops.toList.filterMap (fun o : Oper => o.dst)) = true) (hi : ops[i]? = some o) (hm : bitOf m i = false) (φ : Fr) (v : Value) : hide ops m (φ.put o.dst v) = hide ops m φ := by
  cases hdst : o.dst with
  | none => rfl
  | some d =>
    simp only [hide, Fr.put]
    congr 1
    funext t
    cases hb : Nat.beq t d with
    | false => rfl
    | true =>
      obtain rfl := Nat.eq_of_beq_eq_true hb
      have h1 : bitOf (opsMask ops.toList) t = true := opsMask_iff.2 ⟨o, by simpa using Array.mem_of_getElem? hi, hdst⟩
      have h2 : bitOf (dstsFrom ops.toList 0 m) t = false := by
        cases hb2 : bitOf (dstsFrom ops.toList 0 m) t with
        | false => rfl
        | true =>
          obtain ⟨j, o', e1, e2, e3⟩ := (dstsFrom_mem _ _ _ _).1 hb2
          have := distinct_spec _ i j o o' t hd (by simpa using hi) e1 hdst e3
          subst this
          rw [Nat.zero_add, hm] at e2
          cases e2
      rw [h1, h2]
      rfl
theorem FA_listed {D i : Nat} {o : Oper} {φ : Fr} {a : Act} {v : Value} (hi : ops[i]? = some o) (ha : FA n (hide ops D φ) a) (hv : ∀ d, o.dst = some d → φ.s d = some v) : FA n (hide ops (Nat.lor D (2 ^ i)) φ) (a.put o.dst v) := by
  have hs : ∀ t u, (hide ops (Nat.lor D (2 ^ i)) φ).s t = some u → o.dst = some t ∨ (hide ops D φ).s t = some u := by
    intro t u hu
    obtain ⟨h1, h2⟩ := hide_some hu
    rcases h2 with h2 | h2
    · right; simp only [hide, h2]; exact h1
    · obtain ⟨j, o', e1, e2, e3⟩ := (dstsFrom_mem _ _ _ _).1 h2
      rw [Nat.zero_add, bitOf_lor_pow] at e2
      rcases e2 with e2 | rfl
      · right
        have : bitOf (dstsFrom ops.toList 0 D) t = true := (dstsFrom_mem _ _ _ _).2 ⟨j, o', e1, by rw [Nat.zero_add]; exact e2, e3⟩
        simp only [hide, this]
        simpa using h1
      · left
        have : some o' = some o := by rw [← e1]; simpa using hi
        simp only [Option.some.injEq] at this
        rw [← this]
        exact e3
  cases hd : o.dst with
  | none =>
    refine ⟨ha.defers, ha.size, fun t u hu ht => ?_⟩
    rcases hs t u hu with h | h
    · rw [hd] at h; cases h
    · exact ha.slots t u h ht
  | some d =>
    refine ⟨ha.defers, by simp [Act.put, ha.size], fun t u hu ht => ?_⟩
    simp only [Act.put]
    by_cases e : t = d
    · subst e
      rw [Array.getElem?_setIfInBounds_self]
      have h1 := (hide_some hu).1
      rw [hv t hd] at h1
      simp only [Option.some.injEq] at h1
      simp [ha.size, ht, h1]
    · rw [Array.getElem?_setIfInBounds_ne (Ne.symm e)]
      rcases hs t u hu with h | h
      · rw [hd] at h; simp only [Option.some.injEq] at h; exact absurd h.symm e
      · exact ha.slots t u h ht

/-! ### one operation -/
theorem quietAt_value {o : Oper} {a : Act} {w0 : World} {h : Heap} {v : Value} (hr : ∀ w, w.heap = h → (execOp a.eval o).run P w = .ok (.value v) w) (w : World) (hw : CC w0 h w) : o.quietAtIn (FW none) 0 P a (CC w0 h) w v := by
  unfold Oper.quietAtIn
  rw [hr w hw.1]
  exact ⟨rfl, rfl⟩
theorem opQQ_val {o : Oper} {φ : Fr} {h : Heap} {K : Value → Prop} (H : opQQ P n o φ h K) (hc : namedCall o.op = true) :
    ∃ v, K v ∧ ∀ a w0, FA n φ a → ∀ w, CC w0 h w → o.quietAtIn (FW none) 0 P a (CC w0 h) w v := by
  unfold opQQ at H
  split at H
  · rename_i f args ts hop
    obtain ⟨vf, hf, H1⟩ := rd_sound H
    obtain ⟨vs, hvs, v0, hcall, hd⟩ := rds_sound H1
    refine ⟨v0, dec_sound hd, fun a w0 ha w hw => ?_⟩
    have e1 : args.map a.eval = vs.toArray := by rw [← hvs a ha]; apply Array.ext'; simp
    have := quietIn_call (next := fun _ => True) (w0 := w0) hcall (a := a) (o := o) (by simp only [execOp, hop, resolve, ev_sound ha hf, e1]) trivial (fun l x y e => by
      have := namedCall_ny hc _ _ _ hop vf hf
      rw [e] at this; cases this)
    obtain ⟨v, hv, _⟩ := this
    have hv2 := hv w hw
    -- the value of the call is v0
    unfold Oper.quietAtIn at hv2 ⊢
    have hr : execOp a.eval o = (do let d ← Deferred.ofValue vf vs.toArray; invoke d.target d.args) := by simp only [execOp, hop, resolve, ev_sound ha hf, e1]
    rw [hr] at hv2 ⊢
    unfold CallV at hcall
    split at hcall
    · rename_i f first cap
      have h1 : (do let d ← Deferred.ofValue (.func (.func f) first cap) vs.toArray; invoke d.target d.args).run P w = .ok (.enter f (first.toList ++ vs ++ cap.toList).toArray) w := by
        simp only [Deferred.ofValue, Sem.run_bind, Sem.run_pure, Result.andThen_ok, invoke]
        rw [show (first ++ vs.toArray ++ cap) = (first.toList ++ vs ++ cap.toList).toArray from Array.ext' (by simp)]
        exact callable_run hcall.1 _ _
      rw [h1]
      refine ⟨rfl, fwDepth, callsFW (CallsIn.mono (hcall.2 w hw.1) fun e w' ⟨v, he, q, s⟩ => ?_)⟩
      exact ⟨by rw [he, q.1], q.2, hw.2.trans s⟩
    · have := namedCall_ny hc _ _ _ hop _ hf
      cases this
    · exact hcall.elim
  · cases hq : isQ P o.op with
    | false => rw [hq] at H; exact H.elim
    | true =>
      rw [hq] at H
      obtain ⟨v, hv, H⟩ := opQ_sound hq H
      exact ⟨v, H, fun a w0 ha w hw => quietAt_value (fun w hw => hv a w ha hw) w hw⟩
def YQ (P : Program) (n : Nat) (ops : Array Oper) (o : Oper) (ψ : Fr) (h : Heap) (v : Value) : Prop := ∀ (a : Act) (w0 : World), FA n ψ a → YieldsQuiet (FW none) 0 P ops (CC w0 h) o v a
theorem ev_slot {ψ : Fr} {d : Tmp} {v : Value} (h : ev n ψ (.tmp d) = some v) : ψ.s d = some v := by
  simp only [ev] at h
  cases hb : Nat.blt d n with
  | false => rw [hb] at h; cases h
  | true => rw [hb] at h; exact h
theorem gq_sound {b : Nat} {o : Oper} {φ : Fr} {h : Heap} {K : Fr → Value → Prop} (H : gq P n ops b o φ h K) (hc : namedCall o.op = true) : ∃ v, K φ v ∧ YQ P n ops o (hide ops b φ) h v := by
  unfold gq at H
  split at H
  · rename_i hg
    obtain ⟨v, hK, hv⟩ := opQQ_val H hc
    exact ⟨v, hK, fun a w0 ha => ⟨fun _ _ _ _ => trivial, .inl ⟨by simp [Region.wanted, hg], hv a w0 ha⟩⟩⟩
  · rename_i j want hg
    split at H
    · exact H.elim
    · rename_i d hd
      split at H
      · rename_i t ht
        have hs := (hide_some (ev_slot ht)).1
        have wt : ∀ a, FA n (hide ops b φ) a → Region.wanted o (yielded ops a.tmps) = (t == want) := fun a ha => wanted_of hg hd (ev_tmp ha ht)
        have yes : (t == want) = true → opQQ P n o (hide ops b φ) h (fun v => K φ v) → ∃ v, K φ v ∧ YQ P n ops o (hide ops b φ) h v := fun e H => by
          obtain ⟨v, hK, hv⟩ := opQQ_val H hc
          exact ⟨v, hK, fun a w0 ha => ⟨fun _ _ _ _ => trivial, .inl ⟨by rw [wt a ha]; exact e, hv a w0 ha⟩⟩⟩
        have no : (t == want) = false → K φ undef → ∃ v, K φ v ∧ YQ P n ops o (hide ops b φ) h v := fun e H =>
          ⟨undef, H, fun a w0 ha => ⟨fun _ _ _ _ => trivial, .inr ⟨by rw [wt a ha]; exact e, rfl⟩⟩⟩
        cases t <;> cases want <;> simp only [cond_true, cond_false, put_self hs] at H
        · exact yes rfl H
        · exact no rfl H
        · exact no rfl H
        · exact yes rfl H
      · rename_i vs ht
        exact ⟨undef, H, fun a w0 ha => ⟨fun _ _ _ _ => trivial, .inr ⟨wanted_of hg hd (ev_tmp ha ht), rfl⟩⟩⟩
      · exact H.elim
theorem gE_sound {b i : Nat} {o : Oper} {φ : Fr} {h : Heap} {K : Fr → Value → Heap → Prop} {a : Act} {w : World} {next : Act → World → Prop} {Q : Exit → Act → World → Prop} (hi : ops[i]? = some o)
    (H : gE P n et ops b o φ h K) (ha : FA n (hide ops b φ) a) (hw : w.heap = h) (hn : ∀ v w', K φ v w'.heap → Same w w' → next (a.put o.dst v) w') : wpOpIn (FW none) 0 P ops Q i next a w := by
  unfold wpOpIn
  simp only [hi]
  unfold gE at H
  split at H
  · rename_i hg
    rw [if_pos (by simp [Region.wanted, hg])]
    exact opPT_sound H ha hw hn
  · rename_i j want hg
    split at H
    · exact H.elim
    · rename_i d hd
      split at H
      · rename_i t ht
        have hs := (hide_some (ev_slot ht)).1
        have wt : Region.wanted o (yielded ops a.tmps) = (t == want) := wanted_of hg hd (ev_tmp ha ht)
        rw [wt]
        subst hw
        cases t <;> cases want <;> simp only [cond_true, cond_false, put_self hs] at H
        · exact if_pos rfl ▸ opPT_sound H ha rfl hn
        · rw [if_neg (by simp)]; exact ⟨fun _ _ => trivial, hn _ _ H (.refl w)⟩
        · rw [if_neg (by simp)]; exact ⟨fun _ _ => trivial, hn _ _ H (.refl w)⟩
        · exact if_pos rfl ▸ opPT_sound H ha rfl hn
      · rename_i vs ht
        have wt := wanted_of hg hd (ev_tmp ha ht)
        simp only [] at wt
        rw [wt, if_neg (by simp)]
        subst hw
        exact ⟨fun _ _ => trivial, hn _ _ H (.refl w)⟩
      · exact H.elim

/-! ### which come next -/
theorem nextQ_none {past : Nat} : ∀ (f i : Nat), nextQ p past f i = none → ∀ j, i ≤ j → j < i + f → bitOf past j = false → bitOf p.eff j = false → subM (p.befOf j) past = true → False
  | 0, i, _, j, h1, h2, _, _, _ => by omega
  | f + 1, i, h, j, h1, h2, h3, h4, h5 => by
    unfold nextQ at h
    cases hb : (!bitOf past i && !bitOf p.eff i && subM (p.befOf i) past) with
    | true => rw [hb] at h; cases h
    | false =>
      rw [hb] at h
      rcases Nat.eq_or_lt_of_le h1 with rfl | h1
      · rw [h3, h4, h5] at hb; cases hb
      · exact nextQ_none f (i + 1) h j h1 (by omega) h3 h4 h5
theorem nextQ_some {past k : Nat} : ∀ (f i : Nat), nextQ p past f i = some k → k < i + f ∧ bitOf past k = false ∧ bitOf p.eff k = false ∧ subM (p.befOf k) past = true
  | 0, i, h => by cases h
  | f + 1, i, h => by
    unfold nextQ at h
    cases hb : (!bitOf past i && !bitOf p.eff i && subM (p.befOf i) past) with
    | true =>
      rw [hb] at h
      simp only [cond_true, Option.some.injEq] at h
      subst h
      simp only [Bool.and_eq_true, Bool.not_eq_true'] at hb
      exact ⟨by omega, hb.1.1, hb.1.2, hb.2⟩
    | false =>
      rw [hb] at h
      have := nextQ_some f (i + 1) h
      exact ⟨by omega, this.2⟩
theorem nextE_mem {past : Nat} : ∀ (f i j : Nat), i ≤ j → j < i + f → bitOf past j = false → bitOf p.eff j = true → subM (p.befOf j) past = true → j ∈ nextE p past f i
  | 0, i, j, h1, h2, _, _, _ => by omega
  | f + 1, i, j, h1, h2, h3, h4, h5 => by
    unfold nextE
    rcases Nat.eq_or_lt_of_le h1 with rfl | h1
    · rw [h3, h4, h5]; exact List.mem_cons_self
    · have := nextE_mem f (i + 1) j h1 (by omega) h3 h4 h5
      cases (!bitOf past i && bitOf p.eff i && subM (p.befOf i) past) with
      | true => exact List.mem_cons_of_mem _ this
      | false => exact this
theorem conjL_mem {f : Nat → Prop} : ∀ {l : List Nat} {i : Nat}, conjL l f → i ∈ l → f i
  | [], _, h, _ => h.elim
  | [j], i, h, hi => by simp at hi; subst hi; exact h
  | j :: k :: r, i, h, hi => by
    rcases List.mem_cons.1 hi with rfl | hi
    · exact h.1
    · exact conjL_mem h.2 hi
theorem again_spec {past b : Nat} {φ : Fr} {h : Heap} {K : Prop} : ∀ (f i : Nat), again P n ops p past b φ h f i K → K ∧ ∀ j, i ≤ j → j < i + f → bitOf past j = true → bitOf p.eff j = false → bitOf b j = false → ∃ o, ops[j]? = some o ∧ gq P n ops (p.befOf j) o φ h (fun φ' u => isV φ' o.dst u)
  | 0, i, H => ⟨H, fun j h1 h2 => by omega⟩
  | f + 1, i, H => by
    unfold again at H
    cases hb : (bitOf past i && !bitOf p.eff i && !bitOf b i) with
    | true =>
      rw [hb, cond_true] at H
      cases ho : ops[i]? with
      | none => rw [ho] at H; exact H.elim
      | some o =>
        rw [ho] at H
        obtain ⟨hK, hr⟩ := again_spec f (i + 1) H.2
        refine ⟨hK, fun j h1 h2 h3 h4 h5 => ?_⟩
        rcases Nat.eq_or_lt_of_le h1 with rfl | h1
        · exact ⟨o, ho, H.1⟩
        · exact hr j h1 (by omega) h3 h4 h5
    | false =>
      rw [hb, cond_false] at H
      obtain ⟨hK, hr⟩ := again_spec f (i + 1) H
      refine ⟨hK, fun j h1 h2 h3 h4 h5 => ?_⟩
      rcases Nat.eq_or_lt_of_le h1 with rfl | h1
      · rw [h3, h4, h5] at hb; cases hb
      · exact hr j h1 (by omega) h3 h4 h5
end

/-! ### whatever order is drawn -/
structure Inv (P : Program) (n : Nat) (ops : Array Oper) (p : Plan) (m0 : List Nat) (w0 : World) (a0 : Act) (past : Nat) (φ : Fr) (h : Heap) (D : Nat) (a : Act) (w : World) : Prop where
  closed : ∀ i, bitOf D i = true → ∀ j, bitOf (p.befOf i) j = true → bitOf D j = true
  sub : ∀ i, bitOf D i = true → bitOf past i = true
  effs : ∀ i, bitOf past i = true → bitOf p.eff i = true → bitOf D i = true
  lt : ∀ i, bitOf past i = true → i < ops.size
  pclosed : ∀ i, bitOf past i = true → ∀ j, bitOf (p.befOf i) j = true → bitOf past j = true
  facts : ∀ i o, bitOf past i = true → bitOf p.eff i = false → bitOf D i = false → ops[i]? = some o → ∃ v, (∀ d, o.dst = some d → φ.s d = some v) ∧ YQ P n ops o (hide ops (p.befOf i) φ) h v
  fa : FA n (hide ops D φ) a
  heap : w.heap = h
  same : Same w0 w
  agree : Agree (opsMask ops.toList) a0 a
  marks : φ.m = m0
structure Listed (ops : Array Oper) (D : Nat) (listed : Array Bool) : Prop where
  size : listed.size = ops.size
  bits : ∀ i, i < ops.size → bitOf D i = listed.getD i false
theorem getD_false_true {l : Array Bool} {i : Nat} (h : i < l.size) : l.getD i true = l.getD i false := by simp [Array.getD, h]
section
variable {P : Program} {n : Nat} {et : List TypeId} {ops : Array Oper} {p : Plan} {m0 : List Nat} {w0 : World} {a0 : Act}
theorem plan_at (hp : planOK p ops = true) {i : Nat} {o : Oper} (hi : ops[i]? = some o) : p.befOf i = planOf p o ∧ (∀ e ∈ o.after.toList, Region.binds .any e = true → e.on < i) ∧ (bitOf p.eff i = false → namedCall o.op = true) ∧ noSel o.op = true := by
  simp only [planOK, Bool.and_eq_true] at hp
  have := planFrom_at ops.toList 0 i o hp.1 (by simpa using hi)
  rwa [Nat.zero_add] at this
theorem plan_distinct (hp : planOK p ops = true) : distinct (ops.toList.filterMap (fun o : Oper => o.dst)) = true := by
  simp only [planOK, Bool.and_eq_true] at hp
  exact hp.2
theorem put_other {o o' : Oper} {i j : Nat} (hp : planOK p ops = true) (hi : ops[i]? = some o) (hj : ops[j]? = some o') (hij : i ≠ j) (φ : Fr) (v : Value) {d : Tmp} (hd : o'.dst = some d) : (φ.put o.dst v).s d = φ.s d := by
  cases hdo : o.dst with
  | none => rfl
  | some e =>
    have : d ≠ e := fun h => hij (distinct_spec _ i j o o' e (plan_distinct hp) (by simpa using hi) (by simpa using hj) hdo (by rw [hd, h]))
    simp only [Fr.put]
    cases hb : Nat.beq d e with
    | false => rfl
    | true => exact absurd (Nat.eq_of_beq_eq_true hb) this
theorem put_same {φ : Fr} {o : Oper} {v : Value} {d : Tmp} (hd : o.dst = some d) : (φ.put o.dst v).s d = some v := by
  rw [hd]
  simp only [Fr.put]
  rw [show Nat.beq d d = true from Nat.beq_refl d]
  rfl
theorem saturate (hp : planOK p ops = true) {h : Heap} {D : Nat} {a : Act} {w : World} {K : Fr → Heap → Prop} : ∀ (fuel past : Nat) (φ : Fr), Inv P n ops p m0 w0 a0 past φ h D a w → dPT P n et ops p fuel past φ h K →
    ∃ fuel past φ, Inv P n ops p m0 w0 a0 past φ h D a w ∧ nextQ p past ops.size 0 = none ∧ dPT P n et ops p fuel past φ h K
  | 0, _, _, _, H => H.elim
  | fuel + 1, past, φ, I, H => by
    cases hq : nextQ p past ops.size 0 with
    | none => exact ⟨fuel + 1, past, φ, I, hq, H⟩
    | some i =>
      unfold dPT at H
      rw [hq] at H
      simp only [] at H
      obtain ⟨hlt, hnp, hne, hsub⟩ := nextQ_some _ _ hq
      rw [Nat.zero_add] at hlt
      cases ho : ops[i]? with
      | none => rw [ho] at H; exact H.elim
      | some o =>
        rw [ho] at H
        obtain ⟨hbef, hon, hnc⟩ := plan_at hp ho
        obtain ⟨v, H2, hy⟩ := gq_sound H (hnc.1 hne)
        have hsub' := subM_iff.1 hsub
        have hnD : bitOf D i = false := by
          cases hb : bitOf D i with
          | false => rfl
          | true => rw [I.sub i hb] at hnp; cases hnp
        have keep : ∀ j, (∀ k, bitOf (p.befOf j) k = true → bitOf past k = true) → hide ops (p.befOf j) (φ.put o.dst v) = hide ops (p.befOf j) φ := fun j hj => by
          refine hide_put (plan_distinct hp) ho ?_ φ v
          cases hb : bitOf (p.befOf j) i with
          | false => rfl
          | true => rw [hj i hb] at hnp; cases hnp
        refine saturate hp fuel _ _ ⟨I.closed, fun j hj => bitOf_lor_pow.2 (.inl (I.sub j hj)), fun j hj he => ?_, fun j hj => ?_, fun j hj k hk => ?_, fun j o' hj he hD ho' => ?_, ?_, I.heap, I.same, I.agree, ?_⟩ H2
        · rcases bitOf_lor_pow.1 hj with hj | rfl
          · exact I.effs j hj he
          · rw [hne] at he; cases he
        · rcases bitOf_lor_pow.1 hj with hj | rfl
          · exact I.lt j hj
          · exact hlt
        · refine bitOf_lor_pow.2 (.inl ?_)
          rcases bitOf_lor_pow.1 hj with hj | rfl
          · exact I.pclosed j hj k hk
          · exact hsub' k hk
        · rcases bitOf_lor_pow.1 hj with hj | rfl
          · obtain ⟨u, hu, hyq⟩ := I.facts j o' hj he hD ho'
            have hij : i ≠ j := fun e => by subst e; rw [hj] at hnp; cases hnp
            refine ⟨u, fun d hd => by rw [put_other hp ho ho' hij φ v hd]; exact hu d hd, ?_⟩
            rw [keep j (I.pclosed j hj)]
            exact hyq
          · have : o' = o := by rw [ho] at ho'; simpa using ho'.symm
            subst this
            refine ⟨v, fun d hd => put_same hd, ?_⟩
            rw [keep j hsub']
            exact hy
        · rw [hide_put (plan_distinct hp) ho hnD φ v]
          exact I.fa
        · rw [Fr.put_m]; exact I.marks
theorem count_set {l : Array Bool} {i f : Nat} (hi : i < l.size) (h0 : l.getD i true = false) (hc : l.toList.count false ≤ f + 1) : (l.setIfInBounds i true).toList.count false ≤ f := by
  have hi' : i < l.toList.length := by simpa using hi
  have hv : l.toList[i] = false := by
    simp [Array.getD, hi] at h0
    simpa using h0
  have hcs := List.count_set (a := true) (b := false) hi'
  have hpos : 0 < l.toList.count false := List.count_pos_iff.2 (hv ▸ List.getElem_mem hi')
  have e1 : (l.setIfInBounds i true).toList.count false = l.toList.count false - 1 := by
    rw [Array.toList_setIfInBounds, hcs]
    have h1 : (l.toList[i] == false) = true := by rw [hv]; rfl
    rw [if_pos h1, if_neg (by decide)]
    rfl
  rw [e1]
  omega
theorem listed_set {D i : Nat} {listed : Array Bool} (hL : Listed ops D listed) (hi : i < ops.size) : Listed ops (Nat.lor D (2 ^ i)) (listed.setIfInBounds i true) := by
  refine ⟨by simp [hL.size], fun j hj => ?_⟩
  have hb := hL.bits j hj
  have hsz := hL.size
  by_cases e : j = i
  · subst e
    have : bitOf (Nat.lor D (2 ^ j)) j = true := bitOf_lor_pow.2 (.inr rfl)
    rw [this]
    simp [Array.getD, hsz, hj]
  · have h1 : bitOf (Nat.lor D (2 ^ i)) j = bitOf D j := by
      rw [Bool.eq_iff_iff, bitOf_lor_pow]
      exact ⟨fun h => h.elim id fun h => absurd h e, .inl⟩
    rw [h1, hb]
    simp [Array.getD, hsz, hj, Array.getElem_setIfInBounds, Ne.symm e]
theorem dmain (hp : planOK p ops = true) {K : Fr → Heap → Prop} {Q : Exit → Act → World → Prop}
    (hK : ∀ φ a w, K φ w.heap → FA n φ a → Same w0 w → Agree (opsMask ops.toList) a0 a → φ.m = m0 → Q .normal a w) :
    ∀ (fw : Nat) (listed : Array Bool) (D : Nat) (a : Act) (w : World) (fuel past : Nat) (φ : Fr) (h : Heap), Listed ops D listed → listed.toList.count false ≤ fw → Inv P n ops p m0 w0 a0 past φ h D a w → dPT P n et ops p fuel past φ h K →
      wpAnyIn (FW none) 0 P .any ops Q fw listed a w := by
  have done : ∀ (listed : Array Bool) (D : Nat) (a : Act) (w : World) (fuel past : Nat) (φ : Fr) (h : Heap), Listed ops D listed → Inv P n ops p m0 w0 a0 past φ h D a w → dPT P n et ops p fuel past φ h K →
      Region.ready .any ops listed = [] → Q .normal a w := by
    intro listed D a w fuel past φ h hL I0 H0 hr
    obtain ⟨fuel, past, φ, I, hq, H⟩ := saturate hp fuel past φ I0 H0
    have hall : ∀ i, i < ops.size → bitOf D i = true := by
      intro i
      induction i using Nat.strongRecOn with
      | ind i ih =>
        intro hi
        cases hb : bitOf D i with
        | true => rfl
        | false =>
          exfalso
          have ho : ops[i]? = some ops[i] := Array.getElem?_eq_getElem hi
          have : i ∈ Region.ready .any ops listed := by
            refine mem_ready.2 ⟨by rw [getD_false_true (by rw [hL.size]; exact hi), ← hL.bits i hi]; exact hb, ops[i], ho, fun e he hbi => ?_⟩
            have hon := (plan_at hp ho).2.1 e (by simpa using he) hbi
            rw [← hL.bits e.on (by omega)]
            exact ih e.on hon (by omega)
          rw [hr] at this
          cases this
    have hpast : past = 2 ^ ops.size - 1 := by
      apply Nat.eq_of_testBit_eq
      intro i
      rw [Nat.testBit_two_pow_sub_one]
      by_cases hi : i < ops.size
      · have := I.sub i (hall i hi)
        rw [bitOf_eq] at this
        simp [hi, this]
      · have : bitOf past i = false := by
          cases hb : bitOf past i with
          | false => rfl
          | true => exact absurd (I.lt i hb) hi
        rw [bitOf_eq] at this
        simp [hi, this]
    cases fuel with
    | zero => exact H.elim
    | succ fuel =>
      unfold dPT at H
      rw [hq] at H
      simp only [] at H
      rw [hpast, Nat.beq_refl, cond_true] at H
      refine hK φ a w (I.heap ▸ H) ?_ I.same I.agree I.marks
      have hfa := I.fa
      refine ⟨hfa.defers, hfa.size, fun t v hv ht => hfa.slots t v ?_ ht⟩
      simp only [hide]
      cases hm : bitOf (opsMask ops.toList) t with
      | false => exact hv
      | true =>
        obtain ⟨o, ho, hd⟩ := opsMask_iff.1 hm
        obtain ⟨j, hj⟩ := List.getElem?_of_mem ho
        have hjl : j < ops.size := by
          have := (List.getElem?_eq_some_iff.1 hj).1
          simpa using this
        have : bitOf (dstsFrom ops.toList 0 D) t = true := (dstsFrom_mem _ _ _ _).2 ⟨j, o, hj, by rw [Nat.zero_add]; exact hall j hjl, hd⟩
        rw [this]
        exact hv
  intro fw
  induction fw with
  | zero =>
    intro listed D a w fuel past φ h hL hc I H
    have hr : Region.ready .any ops listed = [] := by
      apply List.eq_nil_iff_forall_not_mem.2
      intro i hi
      obtain ⟨h0, o, ho, _⟩ := mem_ready.1 hi
      have hlt : i < ops.size := (Array.getElem?_eq_some_iff.1 ho).1
      have hil : i < listed.toList.length := by simpa [hL.size] using hlt
      have hv : listed.toList[i] = false := by
        simp [Array.getD, hL.size, hlt] at h0
        simpa using h0
      have : 0 < listed.toList.count false := List.count_pos_iff.2 (hv ▸ List.getElem_mem hil)
      omega
    exact ⟨hr, done listed D a w fuel past φ h hL I H hr⟩
  | succ fw ih =>
    intro listed D a w fuel past φ h hL hc I0 H0
    refine ⟨fun hr => done listed D a w fuel past φ h hL I0 H0 hr, fun i hi => ?_⟩
    obtain ⟨fuel, past, φ, I, hq, H⟩ := saturate hp fuel past φ I0 H0
    obtain ⟨h0, o, ho, hafter⟩ := mem_ready.1 hi
    have hlt : i < ops.size := (Array.getElem?_eq_some_iff.1 ho).1
    obtain ⟨hbef, hon, hnc⟩ := plan_at hp ho
    have hnD : bitOf D i = false := by
      rw [hL.bits i hlt, ← getD_false_true (by rw [hL.size]; exact hlt)]
      exact h0
    have hbD : ∀ j, bitOf (p.befOf i) j = true → bitOf D j = true := by
      intro j hj
      rw [hbef, planOf_bit] at hj
      obtain ⟨e, he, hbi, hj⟩ := hj
      have h1 : bitOf D e.on = true := by
        rw [hL.bits e.on (by have := hon e he hbi; omega)]
        exact hafter e (by simpa using he) hbi
      rcases hj with rfl | hj
      · exact h1
      · exact I.closed _ h1 j hj
    have hL' := listed_set hL hlt
    have hc' := count_set (by rw [hL.size]; exact hlt) h0 hc
    have hfa := hide_mono hbD I.fa
    have closed' : ∀ j, bitOf (Nat.lor D (2 ^ i)) j = true → ∀ k, bitOf (p.befOf j) k = true → bitOf (Nat.lor D (2 ^ i)) k = true := fun j hj k hk => by
      refine bitOf_lor_pow.2 (.inl ?_)
      rcases bitOf_lor_pow.1 hj with hj | rfl
      · exact I.closed j hj k hk
      · exact hbD k hk
    have agree' : ∀ v, Agree (opsMask ops.toList) a0 (a.put o.dst v) := fun v => I.agree.put (fun d hd => opsMask_mem (by simpa using Array.mem_of_getElem? ho) hd) v
    cases hpi : bitOf past i with
    | true =>
      have hne : bitOf p.eff i = false := by
        cases hb : bitOf p.eff i with
        | false => rfl
        | true => rw [I.effs i hpi hb] at hnD; cases hnD
      obtain ⟨v, hv, hy⟩ := I.facts i o hpi hne hnD ho
      refine wpOpIn_of_qOpIn (C := CC w0 h) (K := fun a' => a' = a.put o.dst v) rfl ⟨I.heap, I.same⟩ (fun a' w' hw' hK' => ?_) ((hy a w0 hfa).qOpIn ho rfl)
      subst hK'
      refine ih _ (Nat.lor D (2 ^ i)) _ w' fuel past φ h hL' hc' ⟨closed', fun j hj => ?_, fun j hj he => bitOf_lor_pow.2 (.inl (I.effs j hj he)), I.lt, I.pclosed, fun j o' hj he hD ho' => I.facts j o' hj he ?_ ho', FA_listed ho I.fa hv, hw'.1, hw'.2, agree' v, I.marks⟩ H
      · rcases bitOf_lor_pow.1 hj with hj | rfl
        · exact I.sub j hj
        · exact hpi
      · cases hb : bitOf D j with
        | false => rfl
        | true => rw [bitOf_lor_pow.2 (.inl hb)] at hD; cases hD
    | false =>
      have hsubp : subM (p.befOf i) past = true := subM_iff.2 fun j hj => I.sub j (hbD j hj)
      have heff : bitOf p.eff i = true := by
        cases hb : bitOf p.eff i with
        | true => rfl
        | false => exact (nextQ_none _ _ hq i (Nat.zero_le _) (by omega) hpi hb hsubp).elim
      cases fuel with
      | zero => exact H.elim
      | succ fuel =>
        unfold dPT at H
        rw [hq] at H
        simp only [] at H
        have hnfull : Nat.beq past (2 ^ ops.size - 1) = false := by
          cases hb : Nat.beq past (2 ^ ops.size - 1) with
          | false => rfl
          | true =>
            exfalso
            have e := Nat.eq_of_beq_eq_true hb
            have : past.testBit i = true := by rw [e, Nat.testBit_two_pow_sub_one]; simpa using hlt
            rw [← bitOf_eq, hpi] at this
            cases this
        rw [hnfull, cond_false] at H
        have HE := conjL_mem H (nextE_mem _ _ i (Nat.zero_le _) (by omega) hpi heff hsubp)
        rw [ho] at HE
        refine gE_sound ho HE hfa I.heap fun v w' hag hs => ?_
        obtain ⟨Hn, hagain⟩ := again_spec _ _ hag
        have keepD : hide ops D (φ.put o.dst v) = hide ops D φ := hide_put (plan_distinct hp) ho hnD φ v
        refine ih _ (Nat.lor D (2 ^ i)) _ w' fuel _ _ _ hL' hc' ⟨closed', fun j hj => ?_, fun j hj he => ?_, fun j hj => ?_, fun j hj k hk => ?_, fun j o' hj he hD ho' => ?_, FA_listed ho (by rw [keepD]; exact I.fa) (fun d hd => put_same hd), rfl, I.same.trans hs, agree' v, by rw [Fr.put_m]; exact I.marks⟩ Hn
        · refine bitOf_lor_pow.2 ?_
          rcases bitOf_lor_pow.1 hj with hj | rfl
          · exact .inl (I.sub j hj)
          · exact .inr rfl
        · refine bitOf_lor_pow.2 ?_
          rcases bitOf_lor_pow.1 hj with hj | rfl
          · exact .inl (I.effs j hj he)
          · exact .inr rfl
        · rcases bitOf_lor_pow.1 hj with hj | rfl
          · exact I.lt j hj
          · exact hlt
        · refine bitOf_lor_pow.2 (.inl ?_)
          rcases bitOf_lor_pow.1 hj with hj | rfl
          · exact I.pclosed j hj k hk
          · exact I.sub k (hbD k hk)
        · rcases bitOf_lor_pow.1 hj with hj | rfl
          · have hnb : bitOf (p.befOf i) j = false := by
              cases hb : bitOf (p.befOf i) j with
              | false => rfl
              | true => rw [bitOf_lor_pow.2 (.inl (hbD j hb))] at hD; cases hD
            obtain ⟨o2, ho2, hg⟩ := hagain j (Nat.zero_le _) (by have := I.lt j hj; omega) hj he hnb
            have : o2 = o' := by rw [ho'] at ho2; simpa using ho2.symm
            subst this
            obtain ⟨u, hu, hy⟩ := gq_sound hg ((plan_at hp ho').2.2.1 he)
            refine ⟨u, fun d hd => ?_, hy⟩
            unfold isV at hu
            rw [hd] at hu
            exact hu
          · rw [heff] at he; cases he
theorem drawE_sound {id : Nat} {r : Option Nat} {Q : Exit → Act → World → Prop} {K : Fr → Heap → Prop} {φ : Fr} {h : Heap} {a : Act} {w : World} {fuel : Nat}
    (hm : P.follows .mixedOrders = true) (hp : planOK p ops = true) (H : dPT P n et ops p fuel 0 φ h K) (ha : FA n φ a) (hw : w.heap = h)
    (hK : ∀ φ' a' w', K φ' w'.heap → FA n φ' a' → Same w w' → Agree (opsMask ops.toList) a a' → φ'.m = φ.m → Q .normal a' w') :
    (Code.region id ops true).wpIn (FW r) 0 P Q a w := by
  have hns : ∀ (i : Nat) (o : Oper), ops[i]? = some o → noSel o.op = true := fun i o ho => (plan_at hp ho).2.2.2
  refine wpIn_region_draw fun t => wpOpsIn_round hns _ _ _ ?_
  simp only [Region.schedule, hm, Bool.true_or, if_true]
  refine wpAnyIn_sound ops.size t _ a _ ?_
  refine dmain (w0 := w) (a0 := a) (m0 := φ.m) hp hK ops.size (Array.replicate ops.size false) 0 a _ fuel 0 φ h ⟨by simp, fun i hi => by simp [bitOf_zero, Array.getD, hi]⟩ (by simp) ?_ H
  refine ⟨fun i hi => ?_, fun i hi => ?_, fun i hi => ?_, fun i hi => ?_, fun i hi => ?_, fun i o hi => ?_, ?_, hw, ⟨rfl, rfl, rfl⟩, .refl _ a, rfl⟩
  all_goals first | (rw [bitOf_zero] at hi; cases hi) | skip
  refine ⟨ha.defers, ha.size, fun t v hv ht => ha.slots t v (hide_some hv).1 ht⟩
end

end Go.Proofs.Yticjjdhaikbdaaa
