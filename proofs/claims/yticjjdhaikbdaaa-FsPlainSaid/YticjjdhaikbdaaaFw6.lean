/- The transformer of code is sound; a function's contract out of its body. -/
import Derived.Test.YticjjdhaikbdaaaFw5
namespace Go.Proofs.Yticjjdhaikbdaaa
open Go Go.RowKit
set_option linter.unusedVariables false
set_option linter.unusedSimpArgs false

theorem slotOf_mem : ∀ {l : List (Nat × Value)} {t : Nat} {v : Value}, slotOf l t = some v → (t, v) ∈ l := by
  intro l
  induction l with
  | nil => intro t v h; cases h
  | cons p r ih =>
    intro t v h
    obtain ⟨u, x⟩ := p
    simp only [slotOf] at h
    cases hb : Nat.beq t u with
    | true =>
      rw [hb] at h
      obtain rfl := Nat.eq_of_beq_eq_true hb
      simp only [cond_true, Option.some.injEq] at h
      subst h
      exact List.mem_cons_self
    | false =>
      rw [hb] at h
      exact List.mem_cons_of_mem _ (ih h)
theorem loopFr_FA {n m : Nat} {enc : List (Nat × Value)} {φ φ' : Fr} {a a' : Act} (ha : FA n φ a) (ha' : FA n φ' a') (hm : φ'.m = φ.m) (he : ∀ p ∈ enc, φ'.s p.1 = some p.2) (hag : Agree m a a') : FA n (loopFr enc m φ) a' := by
  refine ⟨by rw [ha'.defers, hm]; rfl, ha'.size, fun t v hv ht => ?_⟩
  simp only [loopFr] at hv
  split at hv
  · rename_i u hu
    simp only [Option.some.injEq] at hv
    subst hv
    exact ha'.slots t u (he _ (slotOf_mem hu)) ht
  · cases hb : bitOf m t with
    | true => rw [hb] at hv; cases hv
    | false =>
      rw [hb] at hv
      rw [hag t hb]
      exact ha.slots t v hv ht
theorem loopFrM_FA {n m : Nat} {enc : List (Nat × Value)} {φ φ' : Fr} {a a' : Act} (ha : FA n φ a) (ha' : FA n φ' a') (he : ∀ p ∈ enc, φ'.s p.1 = some p.2) (hag : Agree m a a') : FA n (loopFrM enc m φ φ'.m) a' := by
  refine ⟨ha'.defers, ha'.size, fun t v hv ht => ?_⟩
  simp only [loopFrM, loopFr] at hv
  split at hv
  · rename_i u hu
    simp only [Option.some.injEq] at hv
    subst hv
    exact ha'.slots t u (he _ (slotOf_mem hu)) ht
  · cases hb : bitOf m t with
    | true => rw [hb] at hv; cases hv
    | false =>
      rw [hb] at hv
      rw [hag t hb]
      exact ha.slots t v hv ht
theorem putAll_FA {n : Nat} : ∀ {ts : List Tmp} {vs : List Value} {φ : Fr} {a : Act}, FA n φ a → FA n (putAll φ ts vs) { a with tmps := (ts.zip vs).foldl (fun tmps p => tmps.setIfInBounds p.1 p.2) a.tmps }
  | [], _, φ, a, h => by simpa [putAll] using h
  | t :: ts, [], φ, a, h => by simpa [putAll] using h
  | t :: ts, v :: vs, φ, a, h => by
    have h1 := h.put (some t) v
    have h2 := putAll_FA (ts := ts) (vs := vs) h1
    simpa [putAll, Act.put] using h2
theorem putAll_m : ∀ {ts : List Tmp} {vs : List Value} {φ : Fr}, (putAll φ ts vs).m = φ.m
  | [], _, φ => by simp [putAll]
  | t :: ts, [], φ => by simp [putAll]
  | t :: ts, v :: vs, φ => by simp [putAll, putAll_m, Fr.put]

/-- Marks only grow where a range over a function stands. -/
theorem after_sound {P : Program} {r : Option Nat} {Q : Exit → Act → World → Prop} {K : Exit → Fr → Heap → Prop} {φ : Fr} {h : Heap} {a : Act} {w : World} {pend : Option Code} {js : List J}
    (H : after φ h K pend js) (hQ : ∀ e, K e φ h → Q e a w) :
    match pend with
    | none => Q .normal a w
    | some c => c.wpIn (FW r) 0 P Q a w := by
  have jm : ∀ j : J, jmp φ h K j → j.code.wpIn (FW r) 0 P Q a w := fun j hj => by
    cases j with
    | ret => exact wpIn_ret (hQ .ret hj)
    | exit i => exact wpIn_exit (hQ (.exit i) hj)
  match js, H with
  | [], ⟨h1, h2⟩ => subst h1; exact hQ _ h2
  | [j], ⟨h1, h2, h3⟩ =>
    rcases h1 with rfl | rfl
    · exact hQ _ (h2 rfl)
    · exact jm j (h3 rfl)
  | [j, j'], ⟨h1, h2, h3, h4⟩ =>
    rcases h1 with rfl | rfl | rfl
    · exact hQ _ (h2 rfl)
    · exact jm j (h3 rfl)
    · exact jm j' (h4 rfl)

theorem callF_run {P : Program} {vf : Value} {vs : List Value} {h : Heap} {R : Value → Heap → Prop} (H : CallF P vf vs h R) :
    ∃ f first cap, vf = .func (.func f) first cap ∧ CallsH P f (first.toList ++ vs ++ cap.toList) h R := by
  unfold CallF at H
  split at H
  · exact ⟨_, _, _, rfl, H⟩
  · exact H.elim

theorem fw_some (l : Nat) (r : Option Nat) : (FW r).inRound l = FW (some l) := rfl

section
variable {P : Program} {n : Nat} {ann : Nat → LoopAnn} {tys : Nat → List TypeId} {pl : Nat → Option Plan}

theorem rangeFn_yield {l : Nat} {rl : Go.Loop} {ps : Array Tmp} {assign body : Code} {cur : Nat} {φ : Fr} {a : Act}
    (ihA : ∀ r cur φ h K a w Q, cPT P n ann tys pl r assign cur φ h K → FA n φ a → w.heap = h → (∀ e φ' a' w', K e φ' w'.heap → FA n φ' a' → Same w w' → Agree (wrMask assign) a a' → (noRF assign = true → φ'.m = φ.m) → Q e a' w') → assign.wpIn (FW r) 0 P Q a w)
    (ihB : ∀ r cur φ h K a w Q, cPT P n ann tys pl r body cur φ h K → FA n φ a → w.heap = h → (∀ e φ' a' w', K e φ' w'.heap → FA n φ' a' → Same w w' → Agree (wrMask body) a a' → (noRF body = true → φ'.m = φ.m) → Q e a' w') → body.wpIn (FW r) 0 P Q a w)
    (ha : FA n φ a) (hps : rl.params = ps) (htm : rl.tmps = a.tmps) (hasg : rl.assign = assign) (hbody : rl.body = body)
    {args : List Value} {h1 : Heap} {Q : Value → Heap → Prop} (hlen : args.length = ps.size) (hl : h1[l]? = some (.loop { rl with state := .ready, pending := none }))
    (H : exs P (tys cur) fun vs => args = vs ∧ cPT P n ann tys pl (some l) assign cur (putAll { s := φ.s, m := [] } ps.toList vs) h1 fun e φ1 h2 => match e with
        | .normal => h2[l]? = some (.loop { rl with state := .ready, pending := none }) ∧ cPT P n ann tys pl (some l) body cur φ1 (h2.setIfInBounds l (.loop { rl with state := .busy, pending := none })) (roundEnd l (fun st p => .loop { rl with state := st, pending := p }) Q)
        | _ => False) : YieldH P l args h1 Q := by
  intro w1 hw1
  subst hw1
  obtain ⟨vs, rfl, H⟩ := exs_sound H
  have hy := run_yield (P := P) (w := w1) (args := args.toArray) hl (by simpa [hps] using hlen)
  refine ⟨_, _, _, _, hy, roundIn_of_wpIn trivial ?_⟩
  simp only [hps, htm, hasg, hbody]
  have hfa : FA n (putAll { s := φ.s, m := [] } ps.toList args) { tmps := (ps.zip args.toArray).foldl (fun tmps (t, a) => tmps.setIfInBounds t a) a.tmps, defers := [] } := by
    have h0 : FA n { s := φ.s, m := [] } { tmps := a.tmps, defers := [] } := ⟨rfl, ha.size, ha.slots⟩
    have := putAll_FA (ts := ps.toList) (vs := args) h0
    rw [← Array.foldl_toList]
    simpa using this
  rw [show (Fence.wide.inRound l) = FW (some l) from rfl]
  refine ihA (some l) cur _ _ _ _ _ _ H hfa rfl ?_
  intro e φ1 a1 w2 hq hfa1 hs1 _ _
  cases e <;> simp only [] at hq <;> first | exact hq.elim | skip
  obtain ⟨hl2, hb⟩ := hq
  refine ⟨_, run_beginRound hl2 rfl, ?_⟩
  refine ihB (some l) cur _ _ _ _ _ _ hb hfa1 rfl ?_
  intro e φ2 a2 w3 hq2 _ hs2 _ _
  have hs3 : Same w1 w3 := hs1.trans ⟨hs2.os, hs2.tape, hs2.output⟩
  cases e <;> simp only [roundEnd] at hq2 <;> first | exact hq2.elim | skip
  · exact ⟨_, _, run_endRound none hq2.1, _, rfl, hq2.2, ⟨hs3.os, hs3.tape, hs3.output⟩⟩
  · exact ⟨_, _, run_endRound (some (.exit _)) hq2.1, _, rfl, hq2.2, ⟨hs3.os, hs3.tape, hs3.output⟩⟩
  · exact ⟨_, _, run_endRound (some .ret) hq2.1, _, rfl, hq2.2, ⟨hs3.os, hs3.tape, hs3.output⟩⟩

theorem cPT_sound : ∀ (c : Code) (r : Option Nat) (cur : Nat) (φ : Fr) (h : Heap) (K : Exit → Fr → Heap → Prop) (a : Act) (w : World) (Q : Exit → Act → World → Prop),
    cPT P n ann tys pl r c cur φ h K → FA n φ a → w.heap = h →
    (∀ e φ' a' w', K e φ' w'.heap → FA n φ' a' → Same w w' → Agree (wrMask c) a a' → (noRF c = true → φ'.m = φ.m) → Q e a' w') → c.wpIn (FW r) 0 P Q a w := by
  intro c
  induction c with
  | skip => intro r cur φ h K a w Q H ha hw hQ; subst hw; exact wpIn_skip (hQ _ _ _ _ H ha (.refl w) (.refl _ a) fun _ => rfl)
  | label l => intro r cur φ h K a w Q H ha hw hQ; subst hw; exact wpIn_label (hQ _ _ _ _ H ha (.refl w) (.refl _ a) fun _ => rfl)
  | exit i => intro r cur φ h K a w Q H ha hw hQ; subst hw; exact wpIn_exit (hQ _ _ _ _ H ha (.refl w) (.refl _ a) fun _ => rfl)
  | ret => intro r cur φ h K a w Q H ha hw hQ; subst hw; exact wpIn_ret (hQ _ _ _ _ H ha (.refl w) (.refl _ a) fun _ => rfl)
  | goto l => intro r cur φ h K a w Q H; exact H.elim
  | scope c _ => intro r cur φ h K a w Q H; exact H.elim
  | refuse why => intro r cur φ h K a w Q H; exact H.elim
  | seq x y ihx ihy =>
    intro r cur φ h K a w Q H ha hw hQ
    refine wpIn_seq (ihx r cur φ h _ a w _ H ha hw ?_)
    intro e φ' a' w' hq ha' hs hag hm
    cases e with
    | normal =>
      refine ihy r cur φ' _ K a' w' _ hq ha' rfl ?_
      intro e φ2 a2 w2 hq2 ha2 hs2 hag2 hm2
      refine hQ e φ2 a2 w2 hq2 ha2 (hs.trans hs2) (hag.left.trans hag2.right) fun hn => ?_
      simp only [noRF, Bool.and_eq_true] at hn
      exact (hm2 hn.2).trans (hm hn.1)
    | exit i => exact hQ _ _ _ _ hq ha' hs hag.left fun hn => hm (by simp only [noRF, Bool.and_eq_true] at hn; exact hn.1)
    | goto i => exact hQ _ _ _ _ hq ha' hs hag.left fun hn => hm (by simp only [noRF, Bool.and_eq_true] at hn; exact hn.1)
    | ret => exact hQ _ _ _ _ hq ha' hs hag.left fun hn => hm (by simp only [noRF, Bool.and_eq_true] at hn; exact hn.1)
    | panic ch => exact hQ _ _ _ _ hq ha' hs hag.left fun hn => hm (by simp only [noRF, Bool.and_eq_true] at hn; exact hn.1)
    | outgrown => exact hQ _ _ _ _ hq ha' hs hag.left fun hn => hm (by simp only [noRF, Bool.and_eq_true] at hn; exact hn.1)
  | cond c x y ihx ihy =>
    intro r cur φ h K a w Q H ha hw hQ
    obtain ⟨v, hv, H⟩ := rd_sound H
    cases v <;> simp only [] at H <;> first | exact H.elim | skip
    rename_i t
    refine wpIn_cond (ev_sound ha hv) ?_
    cases t with
    | true => exact ihx r cur φ h K a w _ H ha hw fun e φ' a' w' hq ha' hs hag hm => hQ e φ' a' w' hq ha' hs hag.left fun hn => hm (by simp only [noRF, Bool.and_eq_true] at hn; exact hn.1)
    | false => exact ihy r cur φ h K a w _ H ha hw fun e φ' a' w' hq ha' hs hag hm => hQ e φ' a' w' hq ha' hs hag.right fun hn => hm (by simp only [noRF, Bool.and_eq_true] at hn; exact hn.2)
  | block id c ih =>
    intro r cur φ h K a w Q H ha hw hQ
    refine wpIn_block (ih r id φ h _ a w _ H ha hw ?_)
    intro e φ' a' w' hq ha' hs hag hm
    cases e with
    | exit i =>
      simp only [] at hq
      simp only [Exit.inBlock]
      cases hb : Nat.beq i id with
      | true =>
        rw [hb] at hq
        rw [if_pos (Nat.eq_of_beq_eq_true hb)]
        exact hQ _ _ _ _ hq ha' hs hag hm
      | false =>
        rw [hb] at hq
        rw [if_neg (fun e => by rw [e, Nat.beq_refl] at hb; cases hb)]
        exact hQ _ _ _ _ hq ha' hs hag hm
    | normal => exact hQ _ _ _ _ hq ha' hs hag hm
    | goto i => exact hQ _ _ _ _ hq ha' hs hag hm
    | ret => exact hQ _ _ _ _ hq ha' hs hag hm
    | panic ch => exact hQ _ _ _ _ hq ha' hs hag hm
    | outgrown => exact hQ _ _ _ _ hq ha' hs hag hm
  | loop c ih =>
    intro r cur φ h K a w Q H ha hw hQ
    simp only [cPT] at H
    cases hn : noRF c with
    | false =>
      rw [hn] at H
      obtain ⟨s0, hs0, J, μ, h0, hround⟩ := (ann cur).ok _ _ H
      have hno : noRF (.loop c) = true → False := fun e => by simp only [noRF] at e; rw [hn] at e; cases e
      refine wpIn_loop_ghost (fun k a' w' => ∃ s ms, J (s, ms) w'.heap ∧ μ (s, ms) w'.heap = k ∧ FA n (loopFrM ((ann cur).enc s) (wrMask c) φ ms) a' ∧ Agree (wrMask c) a a' ∧ Same w w') (μ (s0, φ.m) h)
        ⟨s0, φ.m, hw ▸ h0, by rw [hw], loopFrM_FA ha ha hs0 (.refl _ a), .refl _ a, .refl w⟩ ?_
      rintro k a1 w1 ⟨s, ms, hJ, rfl, ha1, hag1, hs1⟩
      refine ih r cur _ _ _ a1 w1 _ (hround (s, ms) w1.heap hJ) ha1 rfl ?_
      intro e φ2 a2 w2 hq ha2 hs2 hag2 hm2
      cases e with
      | normal =>
        obtain ⟨s', he, hJ', hlt⟩ := (ann cur).ok _ _ hq
        exact ⟨_, hlt, s', φ2.m, hJ', rfl, loopFrM_FA ha ha2 he (hag1.trans hag2), hag1.trans hag2, hs1.trans hs2⟩
      | exit i => exact hQ _ _ _ _ hq ha2 (hs1.trans hs2) (hag1.trans hag2) fun e => (hno e).elim
      | goto i => exact hQ _ _ _ _ hq ha2 (hs1.trans hs2) (hag1.trans hag2) fun e => (hno e).elim
      | ret => exact hQ _ _ _ _ hq ha2 (hs1.trans hs2) (hag1.trans hag2) fun e => (hno e).elim
      | panic ch => exact hQ _ _ _ _ hq ha2 (hs1.trans hs2) (hag1.trans hag2) fun e => (hno e).elim
      | outgrown => exact hQ _ _ _ _ hq ha2 (hs1.trans hs2) (hag1.trans hag2) fun e => (hno e).elim
    | true =>
      rw [hn] at H
      obtain ⟨s0, hs0, J, μ, h0, hround⟩ := (ann cur).ok _ _ H
      refine wpIn_loop_ghost (fun k a' w' => ∃ s, J s w'.heap ∧ μ s w'.heap = k ∧ FA n (loopFr ((ann cur).enc s) (wrMask c) φ) a' ∧ Agree (wrMask c) a a' ∧ Same w w') (μ s0 h)
        ⟨s0, hw ▸ h0, by rw [hw], loopFr_FA ha ha rfl hs0 (.refl _ a), .refl _ a, .refl w⟩ ?_
      rintro k a1 w1 ⟨s, hJ, rfl, ha1, hag1, hs1⟩
      refine ih r cur _ _ _ a1 w1 _ (hround s w1.heap hJ) ha1 rfl ?_
      intro e φ2 a2 w2 hq ha2 hs2 hag2 hm2
      have hm2' : φ2.m = φ.m := hm2 hn
      cases e with
      | normal =>
        obtain ⟨s', he, hJ', hlt⟩ := (ann cur).ok _ _ hq
        exact ⟨_, hlt, s', hJ', rfl, loopFr_FA ha ha2 hm2' he (hag1.trans hag2), hag1.trans hag2, hs1.trans hs2⟩
      | exit i => exact hQ _ _ _ _ hq ha2 (hs1.trans hs2) (hag1.trans hag2) fun _ => hm2'
      | goto i => exact hQ _ _ _ _ hq ha2 (hs1.trans hs2) (hag1.trans hag2) fun _ => hm2'
      | ret => exact hQ _ _ _ _ hq ha2 (hs1.trans hs2) (hag1.trans hag2) fun _ => hm2'
      | panic ch => exact hQ _ _ _ _ hq ha2 (hs1.trans hs2) (hag1.trans hag2) fun _ => hm2'
      | outgrown => exact hQ _ _ _ _ hq ha2 (hs1.trans hs2) (hag1.trans hag2) fun _ => hm2'
  | region id ops draw =>
    intro r cur φ h K a w Q H ha hw hQ
    simp only [cPT] at H
    cases draw with
    | false =>
      exact region_sound H ha hw fun φ' a' w' hq ha' hs hag hm => hQ _ _ _ _ hq ha' hs hag fun _ => hm
    | true =>
      simp only [cond_true] at H
      split at H
      · rename_i p hpl
        cases hb : (P.follows .mixedOrders && planOK p ops) with
        | false => rw [hb] at H; exact H.elim
        | true =>
          rw [hb] at H
          simp only [Bool.and_eq_true] at hb
          exact drawE_sound hb.1 hb.2 H ha hw fun φ' a' w' hq ha' hs hag hm => hQ _ _ _ _ hq ha' hs hag fun _ => hm
      cases hb : (P.follows .mixedOrders && Region.lexB .any ops && ops.toList.all (fun o => namedCall o.op)) with
      | false => rw [hb] at H; exact H.elim
      | true =>
        rw [hb] at H
        simp only [Bool.and_eq_true] at hb
        have hall : ops.all (fun o => namedCall o.op) = true := by rw [← Array.all_toList]; exact hb.2
        exact draw_sound hb.1.1 hb.1.2 hall H ha hw fun φ' a' w' hq ha' hw' hs hag hm => hQ _ _ _ _ (hw' ▸ hq) ha' hs hag fun _ => hm
  | rangeFunc f ps assign body ihA ihB =>
    intro r cur φ h K a w Q H ha hw hQ
    obtain ⟨vf, hf, H⟩ := rd_sound H
    refine wpIn_rangeFunc fun fn hfn => ?_
    subst hw
    cases r with
    | none =>
      simp only [RangeFn] at H
      have H1 := H (fun st p => .loop { state := st, pending := p, fn := fn, tmps := a.tmps, params := ps, assign := assign, body := body, defers := w.heap.size }) (fun _ _ => rfl)
        (fun args h1 Q hlen hl hB => rangeFn_yield (rl := { state := .ready, pending := none, fn := fn, tmps := a.tmps, params := ps, assign := assign, body := body, defers := w.heap.size }) ihA ihB ha rfl rfl rfl rfl hlen hl hB)
      obtain ⟨f, first, cap, rfl, H2⟩ := callF_run H1
      refine ⟨w.heap.size + 1, [{ target := .collected w.heap.size, args := #[] }], ((w.alloc (.deferred (some []))).alloc (.loop { state := .ready, pending := none, fn := fn, tmps := a.tmps, params := ps, assign := assign, body := body, defers := w.heap.size })), { target := .fn (.func f) cap, args := first ++ #[.func (.yield (w.heap.size + 1)) #[] #[]] }, ((w.alloc (.deferred (some []))).alloc (.loop { state := .ready, pending := none, fn := fn, tmps := a.tmps, params := ps, assign := assign, body := body, defers := w.heap.size })), f,
        (first.toList ++ [Value.func (.yield (w.heap.size + 1)) #[] #[]] ++ cap.toList).toArray, ((w.alloc (.deferred (some []))).alloc (.loop { state := .ready, pending := none, fn := fn, tmps := a.tmps, params := ps, assign := assign, body := body, defers := w.heap.size })), run_enterLoop_outer _ _ _ _ _, ?_, fun _ _ => trivial, ?_, fwDepth, ?_⟩
      · have e1 : ∀ v : Value, Array.map a.eval #[Operand.const v] = #[v] := fun v => by simp [Act.eval]
        simp only [resolve, ev_sound ha hf, Deferred.ofValue, e1]
        rfl
      · simp only [invoke]
        rw [show (first ++ #[Value.func (.yield (w.heap.size + 1)) #[] #[]] ++ cap) = (first.toList ++ [Value.func (.yield (w.heap.size + 1)) #[] #[]] ++ cap.toList).toArray from Array.ext' (by simp)]
        exact callable_run H2.1 _ _
      · refine callsFW (CallsIn.mono (H2.2 _ rfl) ?_)
        rintro e w3 ⟨v, rfl, ⟨st, pend, hl3, hst, hA⟩, hs3⟩
        refine ⟨pend, _, run_endLoop hl3 hst, ?_⟩
        have hfa : FA n (Go.Proofs.Yticjjdhaikbdaaa.mark none φ w.heap.size) { a with defers := [{ target := .collected w.heap.size, args := #[] }] ++ a.defers } :=
          ⟨by simp [Go.Proofs.Yticjjdhaikbdaaa.mark, ha.defers], ha.size, ha.slots⟩
        have := after_sound (P := P) (r := none) (Q := Q) (a := { a with defers := [{ target := .collected w.heap.size, args := #[] }] ++ a.defers }) (w := w3.putObj (w.heap.size + 1) (.loop { state := .exhausted, pending := pend, fn := fn, tmps := a.tmps, params := ps, assign := assign, body := body, defers := w.heap.size })) hA
          (fun e he => hQ e _ _ _ he hfa ⟨hs3.os, hs3.tape, hs3.output⟩ (fun _ _ => rfl) (fun hn => by cases hn))
        cases pend <;> exact this
    | some l0 =>
      simp only [RangeFn] at H
      obtain ⟨⟨r0, hr0⟩, H⟩ := H
      have H1 := H (fun st p => .loop { state := st, pending := p, fn := fn, tmps := a.tmps, params := ps, assign := assign, body := body, defers := r0.defers }) (fun _ _ => rfl)
        (fun args h1 Q hlen hl hB => rangeFn_yield (rl := { state := .ready, pending := none, fn := fn, tmps := a.tmps, params := ps, assign := assign, body := body, defers := r0.defers }) ihA ihB ha rfl rfl rfl rfl hlen hl hB)
      obtain ⟨f, first, cap, rfl, H2⟩ := callF_run H1
      refine ⟨w.heap.size, [], (w.alloc (.loop { state := .ready, pending := none, fn := fn, tmps := a.tmps, params := ps, assign := assign, body := body, defers := r0.defers })), { target := .fn (.func f) cap, args := first ++ #[.func (.yield w.heap.size) #[] #[]] }, (w.alloc (.loop { state := .ready, pending := none, fn := fn, tmps := a.tmps, params := ps, assign := assign, body := body, defers := r0.defers })), f,
        (first.toList ++ [Value.func (.yield w.heap.size) #[] #[]] ++ cap.toList).toArray, (w.alloc (.loop { state := .ready, pending := none, fn := fn, tmps := a.tmps, params := ps, assign := assign, body := body, defers := r0.defers })), run_enterLoop_inner hr0 _ _ _ _ _, ?_, fun _ _ => trivial, ?_, fwDepth, ?_⟩
      · have e1 : ∀ v : Value, Array.map a.eval #[Operand.const v] = #[v] := fun v => by simp [Act.eval]
        simp only [resolve, ev_sound ha hf, Deferred.ofValue, e1]
        rfl
      · simp only [invoke]
        rw [show (first ++ #[Value.func (.yield w.heap.size) #[] #[]] ++ cap) = (first.toList ++ [Value.func (.yield w.heap.size) #[] #[]] ++ cap.toList).toArray from Array.ext' (by simp)]
        exact callable_run H2.1 _ _
      · refine callsFW (CallsIn.mono (H2.2 _ rfl) ?_)
        rintro e w3 ⟨v, rfl, ⟨st, pend, hl3, hst, hA⟩, hs3⟩
        refine ⟨pend, _, run_endLoop hl3 hst, ?_⟩
        have := after_sound (P := P) (r := some l0) (Q := Q) (a := a) (w := w3.putObj w.heap.size (.loop { state := .exhausted, pending := pend, fn := fn, tmps := a.tmps, params := ps, assign := assign, body := body, defers := r0.defers })) hA
          (fun e he => hQ e _ _ _ he ha ⟨hs3.os, hs3.tape, hs3.output⟩ (fun _ _ => rfl) (fun hn => by cases hn))
        cases pend <;> exact this
end

/-! ### a function's contract -/
def initFr (args : List Value) (n : Nat) : Fr :=
  { s := fun t => match args[t]? with
      | some v => some v
      | none => some undef
    m := [] }
def rdRes (P : Program) (n : Nat) (φ : Fr) (h : Heap) : List ResultVar → (List Value → Prop) → Prop
  | [], K => K []
  | .tmp t :: rs, K => rd n φ (.tmp t) fun v => rdRes P n φ h rs fun vs => K (v :: vs)
  | .cell a T :: rs, K => rd n φ (.tmp a) fun v => match v with
    | .pointer (some ad) => SemQ P (loadVar T ad) h fun v => dec P T v fun v => rdRes P n φ h rs fun vs => K (v :: vs)
    | _ => False
def oneOf (vs : List Value) : Value :=
  match vs with
  | [v] => v
  | vs => .tuple vs.toArray
def leaveH : List Nat → Heap → (Heap → Prop) → Prop
  | [], h, K => K h
  | d :: ds, h, K => h[d]? = some (.deferred (some [])) ∧ leaveH ds (h.setIfInBounds d (.deferred none)) K
def fnPT (P : Program) (fn : Func) (ann : Nat → LoopAnn) (tys : Nat → List TypeId) (pl : Nat → Option Plan) (args : List Value) (h : Heap) (Q : Value → Heap → Prop) : Prop :=
  match fn.body with
  | none => False
  | some c => cond (decide (args.length ≤ fn.ntmps)) (cPT P fn.ntmps ann tys pl none c 0 (initFr args fn.ntmps) h fun e φ h' => match e with
    | .normal => leaveH φ.m h' fun h' => rdRes P fn.ntmps φ h' fn.results.toList fun vs => Q (oneOf vs) h'
    | .ret => leaveH φ.m h' fun h' => rdRes P fn.ntmps φ h' fn.results.toList fun vs => Q (oneOf vs) h'
    | _ => False) False

def resOf (tmps : Array Value) : ResultVar → Sem Value
  | .tmp t => pure (tmps.getD t undef)
  | .cell a t => do loadVar t (← asAddr (tmps.getD a undef))
theorem rdRes_sound {P : Program} {n : Nat} {φ : Fr} {a : Act} (ha : FA n φ a) {w : World} : ∀ {rs : List ResultVar} {K : List Value → Prop}, rdRes P n φ w.heap rs K →
    ∃ vs, (rs.mapM (resOf a.tmps)).run P w = .ok vs w ∧ K vs
  | [], K, h => ⟨[], rfl, h⟩
  | .tmp t :: rs, K, h => by
    obtain ⟨v, hv, h⟩ := rd_sound h
    obtain ⟨vs, hvs, h⟩ := rdRes_sound ha h
    have : a.tmps.getD t undef = v := ev_sound ha hv
    exact ⟨v :: vs, by simp only [List.mapM_cons, Sem.run_bind, resOf, Sem.run_pure, Result.andThen_ok, this, hvs], h⟩
  | .cell ad t :: rs, K, h => by
    obtain ⟨v, hv, h⟩ := rd_sound h
    split at h
    · obtain ⟨u, hu, h⟩ := SemQ_sound h
      obtain ⟨vs, hvs, h⟩ := rdRes_sound ha (dec_sound h)
      have : a.tmps.getD ad undef = _ := ev_sound ha hv
      refine ⟨u :: vs, ?_, h⟩
      have e : (resOf a.tmps (.cell ad t)).run P w = .ok u w := by
        simp only [resOf, this, asAddr, Sem.run_bind, Sem.run_pure, Result.andThen_ok, hu w rfl]
      simp only [List.mapM_cons, Sem.run_bind, e, Result.andThen_ok, hvs, Sem.run_pure]
    · exact h.elim
theorem results_sound {P : Program} {fn : Func} {φ : Fr} {a : Act} {w : World} {Q : Value → Prop} (ha : FA fn.ntmps φ a) (h : rdRes P fn.ntmps φ w.heap fn.results.toList fun vs => Q (oneOf vs)) :
    ∃ v, (results fn a.tmps).run P w = .ok v w ∧ Q v := by
  obtain ⟨vs, hvs, h⟩ := rdRes_sound ha h
  refine ⟨oneOf vs, ?_, h⟩
  have e : results fn a.tmps = (do
      let l ← fn.results.toList.mapM (resOf a.tmps)
      pure (oneOf l)) := by
    show (do
      let vs ← fn.results.mapM (resOf a.tmps)
      pure (if h : vs.size = 1 then vs[0] else .tuple vs)) = _
    rw [Array.mapM_eq_mapM_toList]
    simp only [map_eq_pure_bind, bind_assoc, pure_bind]
    congr 1
    funext l
    congr 1
    match l with
    | [] => rfl
    | [v] => rfl
    | v :: u :: r => simp [oneOf]
  rw [e]
  simp only [Sem.run_bind, hvs, Result.andThen_ok, Sem.run_pure]

theorem leaves_of {P : Program} {fn : Func} {tmps : Array Value} {w0 : World} {Q : Value → Heap → Prop} :
    ∀ {ds : List Nat} {w : World}, (leaveH ds w.heap fun h' => ∀ w', w'.heap = h' → ∃ v, (results fn tmps).run P w' = .ok v w' ∧ Q v w'.heap) → Same w0 w →
      LeavesInM Fence.wide 0 P fn tmps (fun e w' => ∃ v, e = .returned v ∧ Q v w'.heap ∧ Same w0 w') (ds.map fun d => { target := .collected d, args := #[] }) .returning w
  | [], w, h, hs => by
    obtain ⟨v, hv, hq⟩ := h w rfl
    exact ⟨v, hv, v, rfl, hq, hs⟩
  | d :: ds, w, h, hs => by
    refine ⟨by simp, .inl ⟨d, _, rfl, run_takeDeferred h.1, ?_⟩⟩
    exact leaves_of (w := w.putObj d (.deferred none)) h.2 ⟨hs.os, hs.tape, hs.output⟩

theorem leaveH_mono {K K' : Heap → Prop} (hk : ∀ h, K h → K' h) : ∀ {ds : List Nat} {h : Heap}, leaveH ds h K → leaveH ds h K'
  | [], _, h => hk _ h
  | _ :: _, _, h => ⟨h.1, leaveH_mono hk h.2⟩

theorem callsH_of {P : Program} {f : FuncId} {fn : Func} {ann : Nat → LoopAnn} {tys : Nat → List TypeId} {pl : Nat → Option Plan} {args : List Value} {h : Heap} {Q : Value → Heap → Prop}
    (hf : P.funcs[f]? = some fn) (hc : callable P f = true) (H : fnPT P fn ann tys pl args h Q) : CallsH P f args h Q := by
  refine ⟨hc, fun w hw => ?_⟩
  subst hw
  unfold fnPT at H
  split at H
  · exact H.elim
  · rename_i c hb
    cases hlen : decide (args.length ≤ fn.ntmps) with
    | false => rw [hlen] at H; exact H.elim
    | true =>
      rw [hlen] at H
      have hlen' : args.length ≤ fn.ntmps := of_decide_eq_true hlen
      refine callsIn_of_wp_marks hf hb trivial ?_
      refine cPT_sound c none 0 _ _ _ _ w _ H ?_ rfl ?_
      · refine ⟨rfl, by simp; omega, fun t v hv ht => ?_⟩
        simp only [initFr] at hv
        cases ht2 : args[t]? with
        | some u =>
          rw [ht2] at hv
          simp only [Option.some.injEq] at hv
          subst hv
          have hlt : t < args.length := (List.getElem?_eq_some_iff.1 ht2).1
          rw [Array.getElem?_append_left (by simpa using hlt)]
          simpa using ht2
        | none =>
          rw [ht2] at hv
          simp only [Option.some.injEq] at hv
          subst hv
          have hge : args.length ≤ t := List.getElem?_eq_none_iff.1 ht2
          rw [Array.getElem?_append_right (by simpa using hge)]
          rw [Array.getElem?_replicate, if_pos (by simp; omega)]
      · intro e φ' a' w' hq ha' hs _ _
        have fin : (leaveH φ'.m w'.heap fun h' => rdRes P fn.ntmps φ' h' fn.results.toList fun vs => Q (oneOf vs) h') →
            LeavesInM Fence.wide 0 P fn a'.tmps (fun e w' => ∃ v, e = .returned v ∧ Q v w'.heap ∧ Same w w') a'.defers .returning w' := fun hq => by
          rw [ha'.defers]
          refine leaves_of (leaveH_mono (fun h' hr w2 hw2 => ?_) hq) hs
          subst hw2
          exact results_sound ha' hr
        cases e <;> simp only [] at hq <;> first | exact hq.elim | exact fin hq

end Go.Proofs.Yticjjdhaikbdaaa
