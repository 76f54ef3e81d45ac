/- Functions that defer one closure at their start, and end without a panic. -/
import Derived.Test.YtibdiikcigokjaaGreatDoorKsFwA
namespace Go.Proofs.YtibdiikcigokjaaGreatDoor
open Go Go.RowKit
set_option linter.unusedVariables false
set_option linter.unusedSimpArgs false
variable {base : List Deferred}
def deferOf (ops : Array Oper) : Option (Tmp × FuncId × List Operand) :=
 match ops.toList with
 | [o1, o2] => match o1.dst, o1.op, o1.guard, o2.dst, o2.op, o2.guard with
   | some t, .makeFunc (.func g) first caps, none, none, .defer { callee := .value (.tmp t'), args, .. }, none => cond (Nat.beq t t' && Nat.beq first.size 0 && Nat.beq args.size 0) (some (t, g, caps.toList)) none
   | _, _, _, _, _, _ => none
 | _ => none
def DeferH (P : Program) (f : FuncId) (args : List Value) (h : Heap) (K : Heap → Prop) : Prop :=
 callable P f = true ∧ ∀ w : World, w.heap = h → CallsDIn Fence.wide 0 P f args.toArray .returning w fun e u' w' => (∃ v, e = .returned v) ∧ u' = .returning ∧ K w'.heap ∧ Same w w'
def fnPTd (P : Program) (fn : Func) (ann : Nat → LoopAnn) (tys : Nat → List TypeId) (pl : Nat → Option Plan) (args : List Value) (h : Heap) (Q : Value → Heap → Prop) : Prop :=
 match fn.body with
 | some (.seq a (.seq (.region _ ops false) rest)) => match deferOf ops with
   | some (t, g, caps) => cond (decide (args.length ≤ fn.ntmps) && noRF a && decide (t < fn.ntmps)) (cPT P fn.ntmps ann tys pl none a 0 (initFr args fn.ntmps) h fun e φ1 h1 => match e with
     | .normal => rds fn.ntmps φ1 caps fun vs => cPT P fn.ntmps ann tys pl none rest 0 (φ1.put (some t) (.func (.func g) #[] vs.toArray)) h1 fun e φ2 h2 => match e with
       | .normal => leaveH φ2.m h2 fun h3 => DeferH P g vs h3 fun h4 => rdRes P fn.ntmps φ2 h4 fn.results.toList fun rs => Q (oneOf rs) h4
       | .ret => leaveH φ2.m h2 fun h3 => DeferH P g vs h3 fun h4 => rdRes P fn.ntmps φ2 h4 fn.results.toList fun rs => Q (oneOf rs) h4
       | _ => False
     | _ => False) False
   | none => False
 | _ => False
theorem leavesD_of {P : Program} {fn : Func} {tmps : Array Value} {w0 : World} {Q : Value → Heap → Prop} {g : FuncId} {vs : List Value} :
  ∀ {ds : List Nat} {w : World}, (leaveH ds w.heap fun h3 => DeferH P g vs h3 fun h4 => ∀ w', w'.heap = h4 → ∃ v, (results fn tmps).run P w' = .ok v w' ∧ Q v w'.heap) → Same w0 w →
    LeavesInM Fence.wide 0 P fn tmps (fun e w' => ∃ v, e = .returned v ∧ Q v w'.heap ∧ Same w0 w') (ds.map (fun d => { target := .collected d, args := #[] }) ++ [{ target := .fn (.func g) vs.toArray, args := #[] }]) .returning w
 | [], w, h, hs => by
   obtain ⟨hc, h⟩ := h;refine ⟨by simp, .inr ⟨(fun hh => by cases hh), .func g, vs.toArray, g, vs.toArray, rfl, ?_, fun _ _ => trivial, ?_⟩⟩
   · simp only [invoke];rw [show (#[] ++ vs.toArray : Array Value) = vs.toArray from by simp];exact callable_run hc _ _
   · refine (h w rfl).mono ?_;rintro e u' w' ⟨⟨v, rfl⟩, rfl, hk, hs2⟩;obtain ⟨v, hv, hq⟩ := hk w' rfl;exact ⟨v, hv, v, rfl, hq, hs.trans hs2⟩
 | d :: ds, w, h, hs => by
   refine ⟨by simp, .inl ⟨d, _, rfl, run_takeDeferred h.1, ?_⟩⟩;exact leavesD_of (w := w.putObj d (.deferred none)) h.2 ⟨hs.os, hs.tape, hs.output⟩
theorem DeferH.mono {P : Program} {f : FuncId} {args : List Value} {h : Heap} {K K' : Heap → Prop} (H : DeferH P f args h K) (hk : ∀ h, K h → K' h) : DeferH P f args h K' :=
 ⟨H.1, fun w hw => (H.2 w hw).mono fun e u' w' ⟨a, b, c, d⟩ => ⟨a, b, hk _ c, d⟩⟩
theorem callsHd_of {P : Program} {f : FuncId} {fn : Func} {ann : Nat → LoopAnn} {tys : Nat → List TypeId} {pl : Nat → Option Plan} {args : List Value} {h : Heap} {Q : Value → Heap → Prop}
  (hf : P.funcs[f]? = some fn) (hc : callable P f = true) (H : fnPTd P fn ann tys pl args h Q) : CallsH P f args h Q := by
 refine ⟨hc, fun w hw => ?_⟩
 subst hw
 unfold fnPTd at H
 split at H <;> first | exact H.elim | skip
 rename_i a id ops rest hb
 split at H <;> first | exact H.elim | skip
 rename_i t g caps hd
 cases hlen : (decide (args.length ≤ fn.ntmps) && noRF a && decide (t < fn.ntmps)) with
 | false => rw [hlen] at H; exact H.elim
 | true =>
   rw [hlen] at H;rw [Bool.and_eq_true, Bool.and_eq_true] at hlen;have hlen' : args.length ≤ fn.ntmps := of_decide_eq_true hlen.1.1;refine callsIn_of_wp_marks hf hb trivial ?_;refine wpIn_seq (cPT_sound (base := []) a none 0 _ _ _ _ w _ H ?_ rfl ?_)
   · refine ⟨rfl, by simp; omega, fun t v hv ht => ?_⟩;simp only [initFr] at hv
     cases ht2 : args[t]? with
     | some u =>
       rw [ht2] at hv;simp only [Option.some.injEq] at hv;subst hv;have hlt : t < args.length := (List.getElem?_eq_some_iff.1 ht2).1;rw [Array.getElem?_append_left (by simpa using hlt)];simpa using ht2
     | none =>
       rw [ht2] at hv;simp only [Option.some.injEq] at hv;subst hv;have hge : args.length ≤ t := List.getElem?_eq_none_iff.1 ht2;rw [Array.getElem?_append_right (by simpa using hge)];rw [Array.getElem?_replicate, if_pos (by simp; omega)]
   · intro e φ1 a1 w1 hq ha1 hs1 _ hm1;cases e <;> simp only [] at hq <;> first | exact hq.elim | skip
     have hm0 : φ1.m = [] := hm1 hlen.1.2;obtain ⟨vs, hvs, H2⟩ := rds_sound hq;unfold deferOf at hd;split at hd <;> first | cases hd; done | skip
     rename_i o1 o2 hops;split at hd <;> first | cases hd; done | skip
     rename_i t1 g1 first1 caps1 t2 args2 _ e1 e2 e3 e4 e5 e6
     cases hcnd : (Nat.beq t1 t2 && Nat.beq first1.size 0 && Nat.beq args2.size 0) with
     | false => rw [hcnd] at hd; cases hd
     | true =>
       rw [hcnd] at hd;simp only [cond_true, Option.some.injEq, Prod.mk.injEq] at hd;obtain ⟨rfl, rfl, rfl⟩ := hd;simp only [Bool.and_eq_true] at hcnd;have ht12 : t1 = t2 := Nat.eq_of_beq_eq_true hcnd.1.1;subst ht12;have hf0 : first1 = #[] := Array.eq_empty_of_size_eq_zero (Nat.eq_of_beq_eq_true hcnd.1.2);have ha0 : args2 = #[] := Array.eq_empty_of_size_eq_zero (Nat.eq_of_beq_eq_true hcnd.2);subst hf0 ha0;have ha1' : FA [] fn.ntmps (φ1.put (some t1) (.func (.func g1) #[] vs.toArray)) (a1.put (some t1) (.func (.func g1) #[] vs.toArray)) := ha1.put _ _;have hcap : caps1.map a1.eval = vs.toArray := by
        apply Array.ext';rw [Array.toList_map];simpa using hvs a1 ha1
       refine wpIn_seq (wpIn_region_list ?_);rw [hops];unfold wpListIn;rw [if_pos (by simp [Region.wanted, e3])];refine wpIn_value (r := none) (by rw [e2]; rfl) (v := .func (.func g1) #[] vs.toArray) (w' := w1) ?_ ?_
       · simp only [execOp, e2, Instr.makeFunc, hcap, Array.map_empty]
         rfl
       rw [e1];unfold wpListIn;rw [if_pos (by simp [Region.wanted, e6])];refine ⟨fun _ _ => trivial, ?_⟩;have he : (Oper.semAt Fence.wide.round (a1.put (some t1) (.func (.func g1) #[] vs.toArray)).eval o2).run P w1 = .ok (.defer { target := .fn (.func g1) vs.toArray, args := #[] }) w1 := by
        show (execOp _ o2).run P w1 = _;have ev : (a1.put (some t1) (.func (.func g1) #[] vs.toArray)).eval (.tmp t1) = .func (.func g1) #[] vs.toArray := by
         refine ev_sound ha1' (x := .tmp t1) ?_;have htn : t1 < fn.ntmps := of_decide_eq_true hlen.2;have hb2 : Nat.blt t1 fn.ntmps = true := by rw [Nat.blt_eq]; exact htn
         show (bif Nat.blt t1 fn.ntmps then (bif Nat.beq t1 t1 then some (Value.func (.func g1) #[] vs.toArray) else φ1.s t1) else none) = _;rw [hb2, Nat.beq_refl, cond_true, cond_true]
        simp only [execOp, e5, resolve, ev, Deferred.ofValue, Array.map_empty]
        rfl
       rw [he, Oper.uponIn_defer, e4];refine cPT_sound (base := [{ target := .fn (.func g1) vs.toArray, args := #[] }]) rest none 0 _ _ _ _ w1 _ H2 ?_ rfl ?_
       · refine ⟨?_, ha1'.size, ha1'.slots⟩;have h1 := ha1'.defers;rw [Fr.put_m, hm0] at h1 ⊢;simp only [List.map_nil, List.nil_append] at h1 ⊢;show _ :: (a1.put (some t1) (.func (.func g1) #[] vs.toArray)).defers = _;rw [h1]
       · intro e φ2 a2 w2 hq2 ha2 hs2 _ _;have fin : (leaveH φ2.m w2.heap fun h3 => DeferH P g1 vs h3 fun h4 => rdRes P fn.ntmps φ2 h4 fn.results.toList fun rs => Q (oneOf rs) h4) →
          LeavesInM Fence.wide 0 P fn a2.tmps (fun e w' => ∃ v, e = .returned v ∧ Q v w'.heap ∧ Same w w') a2.defers .returning w2 := fun hq => by
          rw [ha2.defers];refine leavesD_of (leaveH_mono (fun h3 hr => hr.mono fun h4 hr2 w4 hw4 => ?_) hq) (hs1.trans hs2);subst hw4;exact results_sound ha2 hr2
         cases e <;> simp only [] at hq2 <;> first | exact hq2.elim | exact fin hq2
theorem od4 {P : Program} {f : FuncId} {fn : Func} {α0 α1 α2 α3 : Type} {F : α0 → α1 → α2 → α3 → Heap → QP → Prop} {g : α0 → α1 → α2 → α3 → List Value} (ann : Nat → LoopAnn) (tys : Nat → List TypeId) (pl : Nat → Option Plan) (hf : P.funcs[f]? = some fn) (hc : callable P f = true) (e : (fun a0 a1 a2 a3 h Q => fnPTd P fn ann tys pl (g a0 a1 a2 a3) h Q) = F) : K4 P F f g := ⟨fun H => callsHd_of hf hc (by subst e; exact H)⟩
end Go.Proofs.YtibdiikcigokjaaGreatDoor
