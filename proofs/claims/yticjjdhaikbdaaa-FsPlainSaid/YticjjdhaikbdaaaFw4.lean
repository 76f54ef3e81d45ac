/- Regions that draw their order and whose operations leave the heap alone. -/
import Derived.Test.YticjjdhaikbdaaaFw3
namespace Go.Proofs.Yticjjdhaikbdaaa
open Go Go.RowKit
set_option linter.unusedVariables false
set_option linter.unusedSimpArgs false

/-- A quiet operation: it reads, computes, or calls what leaves the heap as it was. -/
def opQQ (P : Program) (n : Nat) (o : Oper) (φ : Fr) (h : Heap) (K : Value → Prop) : Prop :=
  match o.op with
  | .call { callee := .value f, args, .. } => rd n φ f fun vf => rds n φ args.toList fun vs => ∃ v0, CallV P vf vs h (fun v h' => v = v0 ∧ h' = h) ∧ dec P o.type v0 K
  | _ => cond (isQ P o.op) (opQ P n o φ h K) False
def qopsPT (P : Program) (n : Nat) (ops : Array Oper) : List Oper → Fr → Heap → (Fr → Prop) → Prop
  | [], φ, h, K => K φ
  | o :: rest, φ, h, K =>
    match o.guard with
    | none => opQQ P n o φ h fun v => qopsPT P n ops rest (φ.put o.dst v) h K
    | some (j, want) =>
      match dstOf ops j with
      | none => False
      | some d =>
        match ev n φ (.tmp d) with
        | some (.bool t) => cond t
          (cond want (opQQ P n o (φ.put (some d) (.bool true)) h fun v => qopsPT P n ops rest ((φ.put (some d) (.bool true)).put o.dst v) h K)
            (qopsPT P n ops rest ((φ.put (some d) (.bool true)).put o.dst undef) h K))
          (cond want (qopsPT P n ops rest ((φ.put (some d) (.bool false)).put o.dst undef) h K)
            (opQQ P n o (φ.put (some d) (.bool false)) h fun v => qopsPT P n ops rest ((φ.put (some d) (.bool false)).put o.dst v) h K))
        | some (.tuple _) => qopsPT P n ops rest (φ.put o.dst undef) h K
        | _ => False

def CC (w0 : World) (h : Heap) (w : World) : Prop := w.heap = h ∧ Same w0 w

theorem quietIn_value {P : Program} {o : Oper} {a : Act} {w0 : World} {h : Heap} {next : Act → Prop} {v : Value}
    (hr : ∀ w, w.heap = h → (execOp a.eval o).run P w = .ok (.value v) w) (hn : next (a.put o.dst v)) : o.quietIn (FW none) 0 P a (CC w0 h) next :=
  ⟨v, fun w hw => by unfold Oper.quietAtIn; rw [hr w hw.1]; exact ⟨rfl, rfl⟩, hn⟩

theorem quietIn_call {P : Program} {o : Oper} {a : Act} {w0 : World} {h : Heap} {next : Act → Prop} {vf v0 : Value} {vs : List Value}
    (H : CallV P vf vs h (fun v h' => v = v0 ∧ h' = h)) (hr : execOp a.eval o = (do let d ← Deferred.ofValue vf vs.toArray; invoke d.target d.args))
    (hn : next (a.put o.dst v0)) (hf : ∀ l x y, vf ≠ .func (.yield l) x y) : o.quietIn (FW none) 0 P a (CC w0 h) next := by
  refine ⟨v0, fun w hw => ?_, hn⟩
  unfold Oper.quietAtIn
  rw [hr]
  unfold CallV at H
  split at H
  · rename_i f first cap
    have h1 : (do let d ← Deferred.ofValue (.func (.func f) first cap) vs.toArray; invoke d.target d.args).run P w = .ok (.enter f (first.toList ++ vs ++ cap.toList).toArray) w := by
      simp only [Deferred.ofValue, Sem.run_bind, Sem.run_pure, Result.andThen_ok, invoke]
      rw [show (first ++ vs.toArray ++ cap) = (first.toList ++ vs ++ cap.toList).toArray from Array.ext' (by simp)]
      exact callable_run H.1 _ _
    rw [h1]
    refine ⟨rfl, fwDepth, callsFW (CallsIn.mono (H.2 w hw.1) fun e w' ⟨v, he, q, s⟩ => ?_)⟩
    exact ⟨by rw [he, q.1], q.2, hw.2.trans s⟩
  · exact absurd rfl (hf _ _ _)
  · exact H.elim

def noYield (v : Value) : Bool :=
  match v with
  | .func (.yield _) _ _ => false
  | _ => true
theorem opQQ_sound {P : Program} {n : Nat} {o : Oper} {φ : Fr} {h : Heap} {a : Act} {w0 : World} {K : Value → Prop} {next : Act → Prop}
    (H : opQQ P n o φ h K) (ha : FA n φ a) (hs : noSel o.op = true) (hny : ∀ f args ts, o.op = .call { callee := .value f, args := args, argTypes := ts } → ∀ v, ev n φ f = some v → noYield v = true)
    (hn : ∀ v, K v → next (a.put o.dst v)) : o.quietIn (FW none) 0 P a (CC w0 h) next := by
  unfold opQQ at H
  split at H
  · rename_i f args ts hop
    obtain ⟨vf, hf, H1⟩ := rd_sound H
    obtain ⟨vs, hvs, v0, hc, hd⟩ := rds_sound H1
    refine quietIn_call hc ?_ (hn v0 (dec_sound hd)) (fun l x y e => ?_)
    · have e1 : args.map a.eval = vs.toArray := by rw [← hvs a ha]; apply Array.ext'; simp
      simp only [execOp, hop, resolve, ev_sound ha hf, e1]
    · have := hny _ _ _ hop vf hf
      rw [e] at this; cases this
  · cases hq : isQ P o.op with
    | false => rw [hq] at H; exact H.elim
    | true =>
      rw [hq] at H
      obtain ⟨v, hv, H⟩ := opQ_sound hq H
      exact quietIn_value (fun w hw => hv a w ha hw) (hn v H)

/-- Calls of a region go to functions that the text names. -/
def namedCall (o : Op) : Bool :=
  match o with
  | .call { callee := .value (.func _), .. } => true
  | .call { callee := .value _, .. } => false
  | .select .. => false
  | .defer _ => false
  | _ => true
theorem namedCall_noSel {o : Op} (h : namedCall o = true) : noSel o = true := by
  cases o <;> first | rfl | cases h
theorem namedCall_ny {n : Nat} {φ : Fr} {o : Oper} (h : namedCall o.op = true) (f : Operand) (args : Array Operand) (ts : Array TypeId) (hop : o.op = .call { callee := .value f, args := args, argTypes := ts }) (v : Value) (hv : ev n φ f = some v) : noYield v = true := by
  rw [hop] at h
  cases f <;> simp only [namedCall, Bool.false_eq_true] at h
  simp only [ev, Option.some.injEq] at hv
  subst hv
  rfl

theorem qopsPT_sound {P : Program} {n : Nat} {ops : Array Oper} {h : Heap} {w0 : World} {Q' : Act → Prop} {K : Fr → Prop} {m : Nat} {a0 : Act} {m0 : List Nat} (hK : ∀ φ a, K φ → FA n φ a → Agree m a0 a → φ.m = m0 → Q' a) :
    ∀ (l : List Oper) (φ : Fr) (a : Act), (∀ o ∈ l, ∀ d, o.dst = some d → bitOf m d = true) → (∀ o ∈ l, namedCall o.op = true) → qopsPT P n ops l φ h K → FA n φ a → Agree m a0 a → φ.m = m0 → wpQuietIn (FW none) 0 P ops (CC w0 h) Q' l a := by
  intro l
  induction l with
  | nil => intro φ a _ _ H ha hag hm0; exact hK φ a H ha hag hm0
  | cons o rest ih =>
    intro φ a hm hcs H ha hag hm0
    have hmo := hm o (by simp)
    have hmr : ∀ o ∈ rest, ∀ d, o.dst = some d → bitOf m d = true := fun o ho => hm o (by simp [ho])
    have hc := hcs o (by simp)
    have hcs' : ∀ o ∈ rest, namedCall o.op = true := fun o ho => hcs o (by simp [ho])
    have run : ∀ φ', φ'.m = m0 → FA n φ' a → (opQQ P n o φ' h fun v => qopsPT P n ops rest (φ'.put o.dst v) h K) → o.quietIn (FW none) 0 P a (CC w0 h) (wpQuietIn (FW none) 0 P ops (CC w0 h) Q' rest) := fun φ' hm' ha' H' =>
      opQQ_sound H' ha' (namedCall_noSel hc) (namedCall_ny hc) fun v q => ih _ _ hmr hcs' q (ha'.put _ _) (hag.put hmo _) ((Fr.put_m _ _ _).trans hm')
    have pass : ∀ φ', φ'.m = m0 → FA n φ' a → (qopsPT P n ops rest (φ'.put o.dst undef) h K) → wpQuietIn (FW none) 0 P ops (CC w0 h) Q' rest (a.put o.dst undef) := fun φ' hm' ha' H' =>
      ih _ _ hmr hcs' H' (ha'.put _ _) (hag.put hmo _) ((Fr.put_m _ _ _).trans hm')
    unfold qopsPT at H
    unfold wpQuietIn
    refine ⟨fun _ _ _ _ => trivial, ?_⟩
    split at H
    · rename_i hg
      rw [if_pos (by simp [Region.wanted, hg])]
      exact run φ hm0 ha H
    · rename_i j want hg
      split at H
      · exact H.elim
      · rename_i d hd
        split at H
        · rename_i t ht
          have hw1 := wanted_of hg hd (ev_tmp ha ht)
          simp only [] at hw1
          rw [hw1]
          have ha' := ha.again ht
          cases t <;> cases want <;> simp only [cond_true, cond_false] at H
          · exact if_pos rfl ▸ run _ ((Fr.put_m _ _ _).trans hm0) ha' H
          · rw [if_neg (by simp)]; exact pass _ ((Fr.put_m _ _ _).trans hm0) ha' H
          · rw [if_neg (by simp)]; exact pass _ ((Fr.put_m _ _ _).trans hm0) ha' H
          · exact if_pos rfl ▸ run _ ((Fr.put_m _ _ _).trans hm0) ha' H
        · rename_i vs ht
          have hw1 := wanted_of hg hd (ev_tmp ha ht)
          simp only [] at hw1
          rw [hw1, if_neg (by simp)]
          exact pass φ hm0 ha H
        · exact H.elim

theorem wpOpsIn_round {P : Program} {ops : Array Oper} {Q : Exit → Act → World → Prop} {r : Option Nat} (hs : ∀ (i : Nat) (o : Oper), ops[i]? = some o → noSel o.op = true) :
    ∀ (l : List Nat) (a : Act) (w : World), wpOpsIn (FW none) 0 P ops Q l a w → wpOpsIn (FW r) 0 P ops Q l a w := by
  intro l
  induction l with
  | nil => exact fun a w h => h
  | cons i rest ih =>
    intro a w h
    simp only [wpOpsIn] at h ⊢
    cases ho : ops[i]? with
    | none => rw [ho] at h; exact ih a w h
    | some o =>
      rw [ho] at h
      simp only [] at h ⊢
      split
      · rename_i hw
        rw [if_pos hw] at h
        have h2 := Oper.wpIn_mono (fun a w => ih a w) h
        refine ⟨fun _ _ => trivial, ?_⟩
        have h3 := h2.2
        rw [semAt_of (r := none) (hs i o ho)] at h3
        rw [semAt_of (hs i o ho)]
        exact h3
      · rename_i hw
        rw [if_neg hw] at h
        exact ⟨fun _ _ => trivial, ih _ _ h.2⟩

theorem draw_sound {P : Program} {n : Nat} {ops : Array Oper} {id : Nat} {r : Option Nat} {Q : Exit → Act → World → Prop} {K : Fr → Prop} {φ : Fr} {h : Heap} {a : Act} {w : World}
    (hm : P.follows .mixedOrders = true) (hB : Region.lexB .any ops = true) (hc : ops.all (fun o => namedCall o.op) = true)
    (H : qopsPT P n ops ops.toList φ h K) (ha : FA n φ a) (hw : w.heap = h) (hK : ∀ φ' a' w', K φ' → FA n φ' a' → w'.heap = h → Same w w' → Agree (opsMask ops.toList) a a' → φ'.m = φ.m → Q .normal a' w') :
    (Code.region id ops true).wpIn (FW r) 0 P Q a w := by
  have hall : ∀ o ∈ ops.toList, namedCall o.op = true := fun o ho => Array.all_eq_true'.1 hc o (by simpa using ho)
  refine wpIn_region_draw fun t => wpOpsIn_round (fun i o ho => namedCall_noSel (hall o (by simpa using Array.mem_of_getElem? ho))) _ _ _ ?_
  simp only [Region.schedule, hm, Bool.true_or, if_true]
  refine wpAnyIn_sound ops.size t _ a _ ?_
  simp only [Region.lexB, Bool.and_eq_true] at hB
  refine wpAnyIn_of_quiet (F := FW none) (C := CC w h) (Q := fun a' => ∀ w', CC w h w' → Q .normal a' w') rfl (fun _ w' hw' h => h w' hw') _ _ _ _ ⟨hw, rfl, rfl, rfl⟩ ?_
  have h1 : wpQuietIn (FW none) 0 P ops (CC w h) (fun a' => ∀ w', CC w h w' → Q .normal a' w') ops.toList a :=
    qopsPT_sound (Q' := fun a' => ∀ w', CC w h w' → Q .normal a' w') (m := opsMask ops.toList) (a0 := a) (m0 := φ.m) (fun φ a q hf hag hm w' hw' => hK φ a w' q hf hw'.1 hw'.2 hag hm) ops.toList φ a (fun o ho d hd => opsMask_mem ho hd) hall H ha (.refl _ a) rfl
  have := wpAnyQIn_lex (F := FW none) (n := 0) (C := CC w h) (md := .any) hB.1 ops.toList 0 (Array.replicate ops.size false) a (by simp) (by simpa using hB.2) h1
  simpa using this

end Go.Proofs.Yticjjdhaikbdaaa
