/- Regions of operations, in the text's order and in a drawn one, as predicate transformers over heaps, and that these are sound. -/
import Derived.Test.YticjjdhaikbdaaaFw2
namespace Go.Proofs.Yticjjdhaikbdaaa
open Go Go.RowKit
set_option linter.unusedVariables false
set_option linter.unusedSimpArgs false

/-- What a step of an iterator hands back. -/
def nextV (isS : Bool) (v : Value) (K : Value → Prop) : Prop :=
  (v = .tuple #[.bool false] ∧ K (.tuple #[.bool false])) ∨
  cond isS (∃ i c : Int, v = .tuple #[.bool true, .int .i64 i, .int .i32 c] ∧ K (.tuple #[.bool true, .int .i64 i, .int .i32 c]))
    (∃ k x : Value, v = .tuple #[.bool true, k, x] ∧ K (.tuple #[.bool true, k, x]))
theorem nextV_sound {isS : Bool} {v : Value} {K : Value → Prop} (h : nextV isS v K) : K v := by
  rcases h with ⟨rfl, h⟩ | h
  · exact h
  · cases isS with
    | true => obtain ⟨i, c, rfl, h⟩ := h; exact h
    | false => obtain ⟨k, x, rfl, h⟩ := h; exact h
/-- What makes or writes memory, and calls. -/
def opE (P : Program) (n : Nat) (et : List TypeId) (o : Oper) (φ : Fr) (h : Heap) (K : Value → Heap → Prop) : Prop :=
  match o.op with
  | .call { callee := .value f, args, .. } => rd n φ f fun vf => rds n φ args.toList fun vs => CallV P vf vs h fun v h' => dec P o.type v fun v => K v h'
  | .call { callee := .builtin .append, args, argTypes } => rds n φ args.toList fun vs => RunH P (Builtin.append_ argTypes o.type vs.toArray) h fun v h' => dec P o.type v fun v => K v h'
  | .call { callee := .builtin .copy, args, argTypes } => rds n φ args.toList fun vs => RunH P (Builtin.copy_ argTypes o.type vs.toArray) h fun v h' => dec P o.type v fun v => K v h'
  | .call { callee := .builtin .delete, args, argTypes } => rds n φ args.toList fun vs => RunH P (Builtin.delete_ argTypes o.type vs.toArray) h fun v h' => K v h'
  | .convert s d x => rd n φ x fun v => RunH P (Go.convert s d v) h fun v h' => dec P d v fun v => K v h'
  | .makeSlice T l c => rd n φ l fun vl => rd n φ c fun vc => RunH P (Instr.makeSlice T vl vc) h fun v h' => dec P T v fun v => K v h'
  | .range T x => rd n φ x fun v => RunH P (Instr.range T v) h fun v h' => ∃ p : Option Addr, v = .pointer p ∧ K (.pointer p) h'
  | .next it isS => rd n φ it fun v => RunH P (Instr.next v isS o.type) h fun v h' => nextV isS v fun v => K v h'
  | .entry it => rd n φ it fun v => RunH P (Instr.entry v) h fun v h' => exs P et fun l => v = .tuple l.toArray ∧ K (.tuple l.toArray) h'
  | .mapUpdate T m k x => rd n φ m fun vm => rd n φ k fun vk => rd n φ x fun vx => RunU P (Instr.mapUpdate T vm vk vx) h fun h' => K undef h'
  | .insert T m k x => rd n φ m fun vm => rd n φ k fun vk => rd n φ x fun vx => RunU P (Instr.mapUpdate T vm vk vx) h fun h' => K undef h'
  | _ => cond (allRead n φ o.op.operands.toList) (SemH P (execOp (evD n φ) o) h fun nx h' => match nx with
    | .value v => K v h'
    | .skip => K undef h'
    | _ => False) False
def noSel (o : Op) : Bool :=
  match o with
  | .select .. => false
  | .defer _ => false
  | _ => true
def opPT (P : Program) (n : Nat) (et : List TypeId) (o : Oper) (φ : Fr) (h : Heap) (K : Value → Heap → Prop) : Prop :=
  cond (noSel o.op) (cond (isQ P o.op) (opQ P n o φ h fun v => K v h) (opE P n et o φ h K)) False

theorem callsFW {r : Option Nat} {n : Nat} {P : Program} {f : FuncId} {args : Array Value} {w : World} {R : Ending → World → Prop} (h : CallsIn Fence.wide n P f args w R) : CallsIn (FW r) n P f args w R := h
theorem roundFW {r : Option Nat} {n : Nat} {P : Program} {l : Nat} {f : FuncId} {tmps : Array Value} {a b : Code} {w : World} {R : Ending → World → Prop} (h : RoundIn Fence.wide n P l f tmps a b w R) : RoundIn (FW r) n P l f tmps a b w R := h
theorem fwDepth {r : Option Nat} {n : Nat} : (FW r).depth.isSome = true → 1 ≤ n := fun h => by cases h

section
variable {P : Program} {n : Nat} {et : List TypeId} {o : Oper} {φ : Fr} {h : Heap} {a : Act} {w : World} {r : Option Nat} {next : Act → World → Prop} {Q : Exit → Act → World → Prop}
theorem semAt_of (hs : noSel o.op = true) : Oper.semAt (FW r).round a.eval o = execOp a.eval o :=
  Oper.semAt_eq _ _ _ fun c hc => by rw [hc] at hs; cases hs
theorem wpIn_value (hs : noSel o.op = true) {v : Value} {w' : World} (hr : (execOp a.eval o).run P w = .ok (.value v) w') (hn : next (a.put o.dst v) w') : o.wpIn (FW r) 0 P a w next Q :=
  ⟨fun _ _ => trivial, by rw [semAt_of hs, hr]; exact hn⟩
theorem wpIn_skipped (hs : noSel o.op = true) {w' : World} (hr : (execOp a.eval o).run P w = .ok .skip w') (hn : next (a.put o.dst undef) w') : o.wpIn (FW r) 0 P a w next Q :=
  ⟨fun _ _ => trivial, by rw [semAt_of hs, hr]; exact hn⟩
theorem opE_call {P : Program} {vf : Value} {vs : List Value} {h : Heap} {R : Value → Heap → Prop} (H : CallV P vf vs h R) (hw : w.heap = h) (hs : noSel o.op = true)
    (hr : execOp a.eval o = (do let d ← Deferred.ofValue vf vs.toArray; invoke d.target d.args)) (hn : ∀ v w', R v w'.heap → Same w w' → next (a.put o.dst v) w') : o.wpIn (FW r) 0 P a w next Q := by
  refine ⟨fun _ _ => trivial, ?_⟩
  rw [semAt_of hs, hr]
  unfold CallV at H
  split at H
  · rename_i f first cap
    have h1 : (do let d ← Deferred.ofValue (.func (.func f) first cap) vs.toArray; invoke d.target d.args).run P w = .ok (.enter f (first.toList ++ vs ++ cap.toList).toArray) w := by
      simp only [Deferred.ofValue, Sem.run_bind, Sem.run_pure, Result.andThen_ok, invoke]
      rw [show (first ++ vs.toArray ++ cap) = (first.toList ++ vs ++ cap.toList).toArray from Array.ext' (by simp)]
      exact callable_run H.1 _ _
    rw [h1]
    refine ⟨fwDepth, callsFW (CallsIn.mono (H.2 w hw) fun e w' ⟨v, he, q, s⟩ => ?_)⟩
    subst he
    exact hn v w' q s
  · rename_i l first cap
    obtain ⟨f, tmps, as, body, hy, hR⟩ := H w hw
    have h1 : (do let d ← Deferred.ofValue (.func (.yield l) first cap) vs.toArray; invoke d.target d.args).run P w = .ok (.round l f tmps as body) w := by
      simp only [Deferred.ofValue, Sem.run_bind, Sem.run_pure, Result.andThen_ok, invoke]
      rw [show (first ++ vs.toArray) = (first.toList ++ vs).toArray from Array.ext' (by simp)]
      exact hy
    rw [h1]
    refine ⟨fwDepth, roundFW (RoundIn.mono hR fun e w' ⟨v, he, q, s⟩ => ?_)⟩
    subst he
    exact hn v w' q s
  · exact H.elim

theorem opE_sound {K : Value → Heap → Prop} (hs : noSel o.op = true) (H : opE P n et o φ h K) (ha : FA n φ a) (hw : w.heap = h)
    (hn : ∀ v w', K v w'.heap → Same w w' → next (a.put o.dst v) w') : o.wpIn (FW r) 0 P a w next Q := by
  have vals : ∀ {xs : Array Operand} {vs : List Value}, (∀ a, FA n φ a → xs.toList.map a.eval = vs) → xs.map a.eval = vs.toArray := fun hvs => by
    rw [← hvs a ha]; apply Array.ext'; simp
  unfold opE at H
  split at H
  · rename_i f args _ hop
    obtain ⟨vf, hf, H1⟩ := rd_sound H
    obtain ⟨vs, hvs, H2⟩ := rds_sound H1
    refine opE_call H2 hw hs ?_ (fun v w' q s => hn v w' (dec_sound q) s)
    simp only [execOp, hop, resolve, ev_sound ha hf, vals hvs]
  · rename_i args argTypes hop
    obtain ⟨vs, hvs, H1⟩ := rds_sound H
    obtain ⟨v, w', hr, s, q⟩ := H1 w hw
    refine wpIn_value hs (v := v) (w' := w') ?_ (hn v w' (dec_sound q) s)
    simp only [execOp, hop, resolve, invoke, builtin, vals hvs, Sem.run_bind, Sem.run_pure, Result.andThen_ok, hr]
  · rename_i args argTypes hop
    obtain ⟨vs, hvs, H1⟩ := rds_sound H
    obtain ⟨v, w', hr, s, q⟩ := H1 w hw
    refine wpIn_value hs (v := v) (w' := w') ?_ (hn v w' (dec_sound q) s)
    simp only [execOp, hop, resolve, invoke, builtin, vals hvs, Sem.run_bind, Sem.run_pure, Result.andThen_ok, hr]
  · rename_i args argTypes hop
    obtain ⟨vs, hvs, H1⟩ := rds_sound H
    obtain ⟨v, w', hr, s, q⟩ := H1 w hw
    refine wpIn_value hs (v := v) (w' := w') ?_ (hn v w' q s)
    simp only [execOp, hop, resolve, invoke, builtin, vals hvs, Sem.run_bind, Sem.run_pure, Result.andThen_ok, hr]
  · rename_i sT dT x hop
    obtain ⟨vx, hx, H1⟩ := rd_sound H
    obtain ⟨v, w', hr, s, q⟩ := H1 w hw
    refine wpIn_value hs (v := v) (w' := w') ?_ (hn v w' (dec_sound q) s)
    simp only [execOp, hop, ev_sound ha hx, Sem.run_bind, Sem.run_pure, Result.andThen_ok, hr]
  · rename_i T l c hop
    obtain ⟨vl, hl, H1⟩ := rd_sound H
    obtain ⟨vc, hc, H2⟩ := rd_sound H1
    obtain ⟨v, w', hr, s, q⟩ := H2 w hw
    refine wpIn_value hs (v := v) (w' := w') ?_ (hn v w' (dec_sound q) s)
    simp only [execOp, hop, ev_sound ha hl, ev_sound ha hc, Sem.run_bind, Sem.run_pure, Result.andThen_ok, hr]
  · rename_i T x hop
    obtain ⟨vx, hx, H1⟩ := rd_sound H
    obtain ⟨v, w', hr, s, p, rfl, q⟩ := H1 w hw
    refine wpIn_value hs (w' := w') ?_ (hn _ w' q s)
    simp only [execOp, hop, ev_sound ha hx, Sem.run_bind, Sem.run_pure, Result.andThen_ok, hr]
  · rename_i it isS hop
    obtain ⟨vx, hx, H1⟩ := rd_sound H
    obtain ⟨v, w', hr, s, q⟩ := H1 w hw
    refine wpIn_value hs (w' := w') ?_ (hn _ w' (nextV_sound q) s)
    simp only [execOp, hop, ev_sound ha hx, Sem.run_bind, Sem.run_pure, Result.andThen_ok, hr]
  · rename_i it hop
    obtain ⟨vx, hx, H1⟩ := rd_sound H
    obtain ⟨v, w', hr, s, q⟩ := H1 w hw
    obtain ⟨l, e, q⟩ := exs_sound q
    refine wpIn_value hs (w' := w') ?_ (hn v w' (e ▸ q) s)
    simp only [execOp, hop, ev_sound ha hx, Sem.run_bind, Sem.run_pure, Result.andThen_ok, hr]
  · rename_i T m k x hop
    obtain ⟨vm, hm, H1⟩ := rd_sound H
    obtain ⟨vk, hk, H2⟩ := rd_sound H1
    obtain ⟨vx, hx, H3⟩ := rd_sound H2
    obtain ⟨w', hr, s, q⟩ := H3 w hw
    refine wpIn_skipped hs (w' := w') ?_ (hn _ w' q s)
    simp only [execOp, hop, ev_sound ha hm, ev_sound ha hk, ev_sound ha hx, Sem.run_bind, Sem.run_pure, Result.andThen_ok, hr]
  · rename_i T m k x hop
    obtain ⟨vm, hm, H1⟩ := rd_sound H
    obtain ⟨vk, hk, H2⟩ := rd_sound H1
    obtain ⟨vx, hx, H3⟩ := rd_sound H2
    obtain ⟨w', hr, s, q⟩ := H3 w hw
    refine wpIn_skipped hs (w' := w') ?_ (hn _ w' q s)
    simp only [execOp, hop, ev_sound ha hm, ev_sound ha hk, ev_sound ha hx, Sem.run_bind, Sem.run_pure, Result.andThen_ok, hr]
  · cases hr : allRead n φ o.op.operands.toList with
    | false => rw [hr] at H; exact H.elim
    | true =>
      rw [hr] at H
      obtain ⟨x, w', hx, s, H⟩ := SemH_sound H w hw
      have hsel : ∀ cs b, o.op ≠ .select cs b := fun cs b hc => by rw [hc] at hs; cases hs
      rw [← evD_sound hsel hr ha] at hx
      cases x <;> simp only [] at H <;> first | exact H.elim | skip
      · exact wpIn_value hs hx (hn _ w' H s)
      · exact wpIn_skipped hs hx (hn _ w' H s)

theorem opPT_sound {K : Value → Heap → Prop} (H : opPT P n et o φ h K) (ha : FA n φ a) (hw : w.heap = h)
    (hn : ∀ v w', K v w'.heap → Same w w' → next (a.put o.dst v) w') : o.wpIn (FW r) 0 P a w next Q := by
  unfold opPT at H
  cases hs : noSel o.op with
  | false => rw [hs] at H; exact H.elim
  | true =>
    rw [hs] at H
    cases hq : isQ P o.op with
    | true =>
      rw [hq] at H
      obtain ⟨v, hv, H⟩ := opQ_sound hq H
      exact wpIn_value hs (hv a w ha hw) (hn v w (hw ▸ H) (.refl w))
    | false =>
      rw [hq] at H
      exact opE_sound hs H ha hw hn
end

/-! ### a region in the text's order -/
def dstOf (ops : Array Oper) (j : Nat) : Option Tmp := (ops[j]?).bind (·.dst)
def opsPT (P : Program) (n : Nat) (et : List TypeId) (ops : Array Oper) : List Oper → Fr → Heap → (Fr → Heap → Prop) → Prop
  | [], φ, h, K => K φ h
  | o :: rest, φ, h, K =>
    match o.guard with
    | none => opPT P n et o φ h fun v h' => opsPT P n et ops rest (φ.put o.dst v) h' K
    | some (j, want) =>
      match dstOf ops j with
      | none => False
      | some d =>
        match ev n φ (.tmp d) with
        | some (.bool t) => cond t
          (cond want (opPT P n et o (φ.put (some d) (.bool true)) h fun v h' => opsPT P n et ops rest ((φ.put (some d) (.bool true)).put o.dst v) h' K)
            (opsPT P n et ops rest ((φ.put (some d) (.bool true)).put o.dst undef) h K))
          (cond want (opsPT P n et ops rest ((φ.put (some d) (.bool false)).put o.dst undef) h K)
            (opPT P n et o (φ.put (some d) (.bool false)) h fun v h' => opsPT P n et ops rest ((φ.put (some d) (.bool false)).put o.dst v) h' K))
        | some (.tuple _) => opsPT P n et ops rest (φ.put o.dst undef) h K
        | _ => False

theorem FA.again {n : Nat} {φ : Fr} {a : Act} (h : FA n φ a) {d : Tmp} {v : Value} (hv : ev n φ (.tmp d) = some v) : FA n (φ.put (some d) v) a := by
  refine ⟨h.defers, h.size, fun t u hu ht => ?_⟩
  simp only [Fr.put] at hu
  cases hb : Nat.beq t d with
  | false => rw [hb] at hu; exact h.slots t u hu ht
  | true =>
    rw [hb] at hu
    obtain rfl := Nat.eq_of_beq_eq_true hb
    simp only [cond_true, Option.some.injEq] at hu
    subst hu
    simp only [ev] at hv
    cases hb : Nat.blt t n with
    | false => rw [hb] at hv; cases hv
    | true => rw [hb] at hv; exact h.slots t v hv ht
theorem ev_tmp {n : Nat} {φ : Fr} {a : Act} (h : FA n φ a) {d : Tmp} {v : Value} (hv : ev n φ (.tmp d) = some v) : a.tmps[d]? = some v := by
  simp only [ev] at hv
  cases hb : Nat.blt d n with
  | false => rw [hb] at hv; cases hv
  | true => rw [hb] at hv; exact h.slots d v hv (by have := Nat.le_of_ble_eq_true hb; omega)
theorem wanted_of {ops : Array Oper} {o : Oper} {tmps : Array Value} {j : Nat} {want : Bool} {d : Tmp} (hg : o.guard = some (j, want)) (hd : dstOf ops j = some d) {v : Value} (hv : tmps[d]? = some v) :
    Region.wanted o (yielded ops tmps) = (match v with
      | .bool b => b == want
      | _ => false) := by
  unfold dstOf at hd
  simp only [Region.wanted, hg, yielded, hd, Option.bind_some, hv]
  cases v <;> simp
def bitOf (m t : Nat) : Bool := Nat.beq (Nat.land (Nat.shiftRight m t) 1) 1
def Agree (m : Nat) (a a' : Act) : Prop := ∀ t, bitOf m t = false → a'.tmps[t]? = a.tmps[t]?
theorem Agree.refl (m : Nat) (a : Act) : Agree m a a := fun _ _ => rfl
theorem Agree.trans {m : Nat} {a b c : Act} (h : Agree m a b) (k : Agree m b c) : Agree m a c := fun t ht => (k t ht).trans (h t ht)
theorem Agree.put {m : Nat} {a0 a : Act} (h : Agree m a0 a) {d : Option Tmp} (hd : ∀ x, d = some x → bitOf m x = true) (v : Value) : Agree m a0 (a.put d v) := by
  cases d with
  | none => exact h
  | some d =>
    refine h.trans fun t ht => ?_
    have : d ≠ t := fun e => by subst e; rw [hd d rfl] at ht; cases ht
    simp [Act.put, Array.getElem?_setIfInBounds_ne this]
theorem bitOf_eq (m t : Nat) : bitOf m t = m.testBit t := by
  have h1 : Nat.land (Nat.shiftRight m t) 1 = (m >>> t) % 2 := Nat.and_one_is_mod _
  have h2 : m.testBit t = decide ((m >>> t) % 2 = 1) := by
    rw [Nat.testBit_eq_decide_div_mod_eq, Nat.shiftRight_eq_div_pow]
  unfold bitOf
  rw [h1, h2]
  rcases Nat.mod_two_eq_zero_or_one (m >>> t) with h | h <;> rw [h] <;> rfl
theorem bitOf_lor (a b t : Nat) : bitOf (Nat.lor a b) t = (bitOf a t || bitOf b t) := by
  rw [bitOf_eq, bitOf_eq, bitOf_eq]
  exact Nat.testBit_or a b t
theorem bitOf_pow (d : Nat) : bitOf (2 ^ d) d = true := by
  rw [bitOf_eq]; simp
theorem Agree.mono {m m' : Nat} {a a' : Act} (h : Agree m a a') (hm : ∀ t, bitOf m t = true → bitOf m' t = true) : Agree m' a a' := fun t ht => h t (by
  cases hb : bitOf m t with
  | false => rfl
  | true => rw [hm t hb] at ht; cases ht)
theorem Agree.left {m m' : Nat} {a a' : Act} (h : Agree m a a') : Agree (Nat.lor m m') a a' := h.mono fun t ht => by rw [bitOf_lor, ht]; rfl
theorem Agree.right {m m' : Nat} {a a' : Act} (h : Agree m' a a') : Agree (Nat.lor m m') a a' := h.mono fun t ht => by rw [bitOf_lor, ht]; simp
def opsMask (ops : List Oper) : Nat := ops.foldr (fun o m => match o.dst with
  | some d => Nat.lor m (2 ^ d)
  | none => m) 0
theorem opsMask_mem : ∀ {ops : List Oper} {o : Oper} {d : Tmp}, o ∈ ops → o.dst = some d → bitOf (opsMask ops) d = true := by
  intro ops
  induction ops with
  | nil => intro o d h; cases h
  | cons x xs ih =>
    intro o d ho hd
    simp only [opsMask, List.foldr_cons]
    rcases List.mem_cons.1 ho with rfl | h
    · rw [hd]; simp only []; rw [bitOf_lor, bitOf_pow]; simp
    · have := ih h hd
      cases hx : x.dst with
      | none => exact this
      | some e => simp only []; rw [bitOf_lor]; unfold opsMask at this; rw [this]; rfl

theorem Fr.put_m (φ : Fr) (d : Option Tmp) (v : Value) : (φ.put d v).m = φ.m := by cases d <;> rfl

theorem opsPT_sound {P : Program} {n : Nat} {et : List TypeId} {ops : Array Oper} {r : Option Nat} {Q : Exit → Act → World → Prop} {K : Fr → Heap → Prop} {w0 : World}
    {m : Nat} {a0 : Act} {m0 : List Nat} (hK : ∀ φ a w, K φ w.heap → FA n φ a → Same w0 w → Agree m a0 a → φ.m = m0 → Q .normal a w) :
    ∀ (l : List Oper) (φ : Fr) (h : Heap) (a : Act) (w : World), (∀ o ∈ l, ∀ d, o.dst = some d → bitOf m d = true) → opsPT P n et ops l φ h K → FA n φ a → w.heap = h → Same w0 w → Agree m a0 a → φ.m = m0 → wpListIn (FW r) 0 P ops Q l a w := by
  intro l
  induction l with
  | nil => intro φ h a w _ H ha hw hs hag hm0; subst hw; exact hK φ a w H ha hs hag hm0
  | cons o rest ih =>
    intro φ h a w hm H ha hw hs hag hm0
    have hmo := hm o (by simp)
    have hmr : ∀ o ∈ rest, ∀ d, o.dst = some d → bitOf m d = true := fun o ho => hm o (by simp [ho])
    have run : ∀ φ', φ'.m = m0 → FA n φ' a → (opPT P n et o φ' h fun v h' => opsPT P n et ops rest (φ'.put o.dst v) h' K) → o.wpIn (FW r) 0 P a w (wpListIn (FW r) 0 P ops Q rest) Q := fun φ' hm' ha' H' =>
      opPT_sound H' ha' hw fun v w' q s => ih _ _ _ _ hmr q (ha'.put _ _) rfl (hs.trans s) (hag.put hmo _) ((Fr.put_m _ _ _).trans hm')
    have pass : ∀ φ', φ'.m = m0 → FA n φ' a → (opsPT P n et ops rest (φ'.put o.dst undef) h K) → wpListIn (FW r) 0 P ops Q rest (a.put o.dst undef) w := fun φ' hm' ha' H' =>
      ih _ _ _ _ hmr H' (ha'.put _ _) hw hs (hag.put hmo _) ((Fr.put_m _ _ _).trans hm')
    unfold opsPT at H
    unfold wpListIn
    split at H
    · rename_i hg
      rw [if_pos (by simp [Region.wanted, hg])]
      exact run φ hm0 ha H
    · rename_i j want hg
      split at H
      · exact H.elim
      · rename_i d hd
        split at H
        · rename_i t ht
          have hw1 := wanted_of hg hd (ev_tmp ha ht)
          simp only [] at hw1
          rw [hw1]
          have ha' := ha.again ht
          cases t <;> cases want <;> simp only [cond_true, cond_false] at H
          · exact if_pos rfl ▸ run _ ((Fr.put_m _ _ _).trans hm0) ha' H
          · rw [if_neg (by simp)]; exact ⟨fun _ _ => trivial, pass _ ((Fr.put_m _ _ _).trans hm0) ha' H⟩
          · rw [if_neg (by simp)]; exact ⟨fun _ _ => trivial, pass _ ((Fr.put_m _ _ _).trans hm0) ha' H⟩
          · exact if_pos rfl ▸ run _ ((Fr.put_m _ _ _).trans hm0) ha' H
        · rename_i vs ht
          have hw1 := wanted_of hg hd (ev_tmp ha ht)
          simp only [] at hw1
          rw [hw1, if_neg (by simp)]
          exact ⟨fun _ _ => trivial, pass φ hm0 ha H⟩
        · exact H.elim

theorem region_sound {P : Program} {n : Nat} {et : List TypeId} {ops : Array Oper} {id : Nat} {r : Option Nat} {Q : Exit → Act → World → Prop} {K : Fr → Heap → Prop} {φ : Fr} {h : Heap} {a : Act} {w : World}
    (H : opsPT P n et ops ops.toList φ h K) (ha : FA n φ a) (hw : w.heap = h) (hK : ∀ φ' a' w', K φ' w'.heap → FA n φ' a' → Same w w' → Agree (opsMask ops.toList) a a' → φ'.m = φ.m → Q .normal a' w') : (Code.region id ops false).wpIn (FW r) 0 P Q a w :=
  wpIn_region_list (opsPT_sound (w0 := w) (a0 := a) hK ops.toList φ h a w (fun o ho d hd => opsMask_mem ho hd) H ha hw (.refl w) (.refl _ a) rfl)

end Go.Proofs.Yticjjdhaikbdaaa
