/- The code of a function as a predicate transformer over heaps, loops by invariants, ranges over functions by what a round does; and that it is sound. -/
import Derived.Test.YticjjdhaikbdaaaFwD
import Derived.RangeFuncRecord
import Derived.RangeFuncNested
namespace Go.Proofs.Yticjjdhaikbdaaa
open Go Go.RowKit
set_option linter.unusedVariables false
set_option linter.unusedSimpArgs false

/-! ### what loops carry -/
structure Cod (α : Type) where
  enc : α → Value
  dec : Option Value → (α → Prop) → Prop
  ok : ∀ v K, dec v K → ∃ x, v = some (enc x) ∧ K x
def codI (k : IntKind) : Cod Int where
  enc x := .int k x
  dec v K := match v with
    | some (.int k' x) => cond (decide (k' = k)) (K x) False
    | _ => False
  ok v K h := by
    split at h
    · rename_i k' x
      by_cases e : k' = k
      · subst e; simp only [decide_true, cond_true] at h; exact ⟨x, rfl, h⟩
      · simp only [e, decide_false, cond_false] at h
    · exact h.elim
def codB : Cod Bool where
  enc x := .bool x
  dec v K := match v with
    | some (.bool x) => K x
    | _ => False
  ok v K h := by (split at h <;> first | exact h.elim | exact ⟨_, rfl, h⟩)
def codS : Cod ByteArray where
  enc x := .string x
  dec v K := match v with
    | some (.string x) => K x
    | _ => False
  ok v K h := by (split at h <;> first | exact h.elim | exact ⟨_, rfl, h⟩)
def codP : Cod (Option Addr) where
  enc x := .pointer x
  dec v K := match v with
    | some (.pointer x) => K x
    | _ => False
  ok v K h := by (split at h <;> first | exact h.elim | exact ⟨_, rfl, h⟩)
def codA : Cod Addr where
  enc x := .pointer (some x)
  dec v K := match v with
    | some (.pointer (some x)) => K x
    | _ => False
  ok v K h := by (split at h <;> first | exact h.elim | exact ⟨_, rfl, h⟩)
def codM : Cod (Option Nat) where
  enc x := .map x
  dec v K := match v with
    | some (.map x) => K x
    | _ => False
  ok v K h := by (split at h <;> first | exact h.elim | exact ⟨_, rfl, h⟩)
structure Sl where
  a : Option Addr
  l : Nat
  c : Nat
def codSl : Cod Sl where
  enc x := .slice x.a x.l x.c
  dec v K := match v with
    | some (.slice a l c) => K ⟨a, l, c⟩
    | _ => False
  ok v K h := by (split at h <;> first | exact h.elim | exact ⟨_, rfl, h⟩)
def codV : Cod Value where
  enc x := x
  dec v K := match v with
    | some x => K x
    | _ => False
  ok v K h := by (split at h <;> first | exact h.elim | exact ⟨_, rfl, h⟩)
structure CodL (α : Type) where
  enc : α → List Value
  dec : List Value → (α → Prop) → Prop
  ok : ∀ v K, dec v K → ∃ x, v = enc x ∧ K x
def codNil : CodL Unit where
  enc _ := []
  dec v K := match v with
    | [] => K ()
    | _ => False
  ok v K h := by (split at h <;> first | exact h.elim | exact ⟨_, rfl, h⟩)
def codCons {α β : Type} (c : Cod α) (r : CodL β) : CodL (α × β) where
  enc x := c.enc x.1 :: r.enc x.2
  dec v K := match v with
    | u :: us => c.dec (some u) fun a => r.dec us fun b => K (a, b)
    | _ => False
  ok v K h := by
    split at h
    · obtain ⟨a, ha, h1⟩ := c.ok _ _ h
      obtain ⟨b, hb, h2⟩ := r.ok _ _ h1
      simp only [Option.some.injEq] at ha
      exact ⟨(a, b), by rw [ha, hb], h2⟩
    · exact h.elim
def codAgg {α : Type} (r : CodL α) : Cod α where
  enc x := .agg (r.enc x).toArray
  dec v K := match v with
    | some (.agg cs) => r.dec cs.toList K
    | _ => False
  ok v K h := by
    split at h
    · rename_i cs
      obtain ⟨b, hb, h⟩ := r.ok _ _ h
      exact ⟨b, by rw [← hb], h⟩
    · exact h.elim
structure LoopAnn where
  S : Type
  enc : S → List (Nat × Value)
  dec : (Nat → Option Value) → (S → Prop) → Prop
  ok : ∀ f K, dec f K → ∃ x, (∀ p ∈ enc x, f p.1 = some p.2) ∧ K x
def annNil : LoopAnn where
  S := Unit
  enc _ := []
  dec _ K := K ()
  ok f K h := ⟨(), by simp, h⟩
def annOne {α : Type} (t : Nat) (c : Cod α) : LoopAnn where
  S := α
  enc x := [(t, c.enc x)]
  dec f K := c.dec (f t) K
  ok f K h := let ⟨x, hx, h⟩ := c.ok _ _ h; ⟨x, by simp [hx], h⟩
def annCons {α : Type} (t : Nat) (c : Cod α) (A : LoopAnn) : LoopAnn where
  S := α × A.S
  enc x := (t, c.enc x.1) :: A.enc x.2
  dec f K := c.dec (f t) fun a => A.dec f fun b => K (a, b)
  ok f K h := by
    obtain ⟨a, ha, h⟩ := c.ok _ _ h
    obtain ⟨b, hb, h⟩ := A.ok _ _ h
    exact ⟨(a, b), by simpa [ha] using hb, h⟩
/-- What a loop comes to: an invariant and a measure that every round lowers. -/
def LoopH {S : Type} (F : (S → Heap → Prop) → S → Heap → Prop) (s : S) (h : Heap) : Prop :=
  ∃ (I : S → Heap → Prop) (μ : S → Heap → Nat), I s h ∧ ∀ s h, I s h → F (fun s' h' => I s' h' ∧ μ s' h' < μ s h) s h

/-! ### which slots code writes, and how it may be left -/
def wrMask : Code → Nat
  | .region _ ops _ => opsMask ops.toList
  | .seq a b => Nat.lor (wrMask a) (wrMask b)
  | .cond _ a b => Nat.lor (wrMask a) (wrMask b)
  | .block _ c => wrMask c
  | .loop c => wrMask c
  | _ => 0
def noRF : Code → Bool
  | .seq a b => noRF a && noRF b
  | .cond _ a b => noRF a && noRF b
  | .block _ c => noRF c
  | .loop c => noRF c
  | .rangeFunc .. => false
  | _ => true
inductive J where
  | ret
  | exit (id : Nat)
def J.code : J → Code
  | .ret => .ret
  | .exit i => .exit i
def J.beq : J → J → Bool
  | .ret, .ret => true
  | .exit i, .exit j => Nat.beq i j
  | _, _ => false
def jadd (j : J) (l : List J) : List J := bif l.any (J.beq j) then l else j :: l
def jumpsOf : Code → List J
  | .ret => [.ret]
  | .exit i => [.exit i]
  | .seq a b => (jumpsOf a).foldr jadd (jumpsOf b)
  | .cond _ a b => (jumpsOf a).foldr jadd (jumpsOf b)
  | .block id c => (jumpsOf c).filter fun j => match j with
    | .exit i => !Nat.beq i id
    | _ => true
  | .loop c => jumpsOf c
  | .rangeFunc _ _ _ c => jumpsOf c
  | _ => []

def jmp (φ : Fr) (h : Heap) (K : Exit → Fr → Heap → Prop) : J → Prop
  | .ret => K .ret φ h
  | .exit i => K (.exit i) φ h
/-- Behind a range over a function: on, or by the jump that a round left. -/
def after (φ : Fr) (h : Heap) (K : Exit → Fr → Heap → Prop) (pend : Option Code) : List J → Prop
  | [] => pend = none ∧ K .normal φ h
  | [j] => (pend = none ∨ pend = some j.code) ∧ (pend = none → K .normal φ h) ∧ (pend = some j.code → jmp φ h K j)
  | [j, j'] => (pend = none ∨ pend = some j.code ∨ pend = some j'.code) ∧ (pend = none → K .normal φ h) ∧ (pend = some j.code → jmp φ h K j) ∧ (pend = some j'.code → jmp φ h K j')
  | _ => False
def CallF (P : Program) (v : Value) (args : List Value) (h : Heap) (Q : Value → Heap → Prop) : Prop :=
  match v with
  | .func (.func f) first cap => CallsH P f (first.toList ++ args ++ cap.toList) h Q
  | _ => False
/-- A range over a function, the loop's record at block l: B tells what a round comes to. -/
def RangeFn (P : Program) (vf : Value) (np : Nat) (r : Option Nat) (h : Heap) (B : Nat → (LoopState → Option Code → Obj) → List Value → Heap → (Value → Heap → Prop) → Prop)
    (A : Option Code → Heap → Prop) : Prop :=
  match r with
  | none => ∀ (rec : LoopState → Option Code → Obj), (∀ s p, isC (rec s p) = false) →
      (∀ args h1 Q, args.length = np → h1[h.size + 1]? = some (rec .ready none) → B (h.size + 1) rec args h1 Q → YieldH P (h.size + 1) args h1 Q) →
      CallF P vf [.func (.yield (h.size + 1)) #[] #[]] ((h.push (.deferred (some []))).push (rec .ready none)) fun _ h2 =>
        ∃ st pend, h2[h.size + 1]? = some (rec st pend) ∧ st ≠ .busy ∧ A pend (h2.setIfInBounds (h.size + 1) (rec .exhausted pend))
  | some l0 => (∃ r0, h[l0]? = some (.loop r0)) ∧ ∀ (rec : LoopState → Option Code → Obj), (∀ s p, isC (rec s p) = false) →
      (∀ args h1 Q, args.length = np → h1[h.size]? = some (rec .ready none) → B h.size rec args h1 Q → YieldH P h.size args h1 Q) →
      CallF P vf [.func (.yield h.size) #[] #[]] (h.push (rec .ready none)) fun _ h2 =>
        ∃ st pend, h2[h.size]? = some (rec st pend) ∧ st ≠ .busy ∧ A pend (h2.setIfInBounds h.size (rec .exhausted pend))
/-- How a round ends. -/
def roundEnd (l : Nat) (rec : LoopState → Option Code → Obj) (Q : Value → Heap → Prop) (e : Exit) (φ : Fr) (h : Heap) : Prop :=
  match e with
  | .normal => h[l]? = some (rec .busy none) ∧ Q (.bool true) (h.setIfInBounds l (rec .ready none))
  | .ret => h[l]? = some (rec .busy none) ∧ Q (.bool false) (h.setIfInBounds l (rec .done (some .ret)))
  | .exit i => h[l]? = some (rec .busy none) ∧ Q (.bool false) (h.setIfInBounds l (rec .done (some (.exit i))))
  | _ => False
def putAll (φ : Fr) : List Tmp → List Value → Fr
  | t :: ts, v :: vs => putAll (φ.put (some t) v) ts vs
  | _, _ => φ
def mark (r : Option Nat) (φ : Fr) (d : Nat) : Fr :=
  match r with
  | none => { s := φ.s, m := d :: φ.m }
  | some _ => φ
def slotOf (l : List (Nat × Value)) (t : Nat) : Option Value :=
  match l with
  | [] => none
  | (u, v) :: r => bif Nat.beq t u then some v else slotOf r t
def loopFr (enc : List (Nat × Value)) (m : Nat) (φ : Fr) : Fr :=
  { s := fun t => match slotOf enc t with
      | some v => some v
      | none => bif bitOf m t then none else φ.s t
    m := φ.m }

def loopFrM (enc : List (Nat × Value)) (m : Nat) (φ : Fr) (ms : List Nat) : Fr := { s := (loopFr enc m φ).s, m := ms }

def cPT (P : Program) (n : Nat) (ann : Nat → LoopAnn) (tys : Nat → List TypeId) (pl : Nat → Option Plan) : (r : Option Nat) → Code → Nat → Fr → Heap → (Exit → Fr → Heap → Prop) → Prop
  | _, .skip, _, φ, h, K => K .normal φ h
  | _, .label _, _, φ, h, K => K .normal φ h
  | r, .seq a b, cur, φ, h, K => cPT P n ann tys pl r a cur φ h fun e φ' h' => match e with
    | .normal => cPT P n ann tys pl r b cur φ' h' K
    | e => K e φ' h'
  | r, .cond c x y, cur, φ, h, K => rd n φ c fun v => match v with
    | .bool t => cond t (cPT P n ann tys pl r x cur φ h K) (cPT P n ann tys pl r y cur φ h K)
    | _ => False
  | r, .block id c, cur, φ, h, K => cPT P n ann tys pl r c id φ h fun e φ' h' => match e with
    | .exit i => cond (Nat.beq i id) (K .normal φ' h') (K (.exit i) φ' h')
    | e => K e φ' h'
  | _, .exit i, _, φ, h, K => K (.exit i) φ h
  | _, .ret, _, φ, h, K => K .ret φ h
  | r, .loop c, cur, φ, h, K => cond (noRF c) ((ann cur).dec φ.s fun s0 => LoopH (fun again s h => cPT P n ann tys pl r c cur (loopFr ((ann cur).enc s) (wrMask c) φ) h fun e φ' h' => match e with
    | .normal => (ann cur).dec φ'.s fun s' => again s' h'
    | e => K e φ' h') s0 h)
      ((ann cur).dec φ.s fun s0 => LoopH (fun again sm h => cPT P n ann tys pl r c cur (loopFrM ((ann cur).enc sm.1) (wrMask c) φ sm.2) h fun e φ' h' => match e with
        | .normal => (ann cur).dec φ'.s fun s' => again (s', φ'.m) h'
        | e => K e φ' h') (s0, φ.m) h)
  | _, .region id ops draw, _, φ, h, K => cond draw
      (match pl id with
      | some p => cond (P.follows .mixedOrders && planOK p ops) (dPT P n (tys (1000 + id)) ops p (ops.size + 1) 0 φ h fun φ' h' => K .normal φ' h') False
      | none => cond (P.follows .mixedOrders && Region.lexB .any ops && ops.toList.all (fun o => namedCall o.op)) (qopsPT P n ops ops.toList φ h fun φ' => K .normal φ' h) False)
      (opsPT P n (tys (1000 + id)) ops ops.toList φ h fun φ' h' => K .normal φ' h')
  | r, .rangeFunc f ps assign body, cur, φ, h, K => rd n φ f fun vf => RangeFn P vf ps.size r h
      (fun l rec args h1 Q => exs P (tys cur) fun vs => args = vs ∧ cPT P n ann tys pl (some l) assign cur (putAll { s := φ.s, m := [] } ps.toList vs) h1 fun e φ1 h2 => match e with
        | .normal => h2[l]? = some (rec .ready none) ∧ cPT P n ann tys pl (some l) body cur φ1 (h2.setIfInBounds l (rec .busy none)) (roundEnd l rec Q)
        | _ => False)
      (fun pend h2 => after (mark r φ h.size) h2 K pend (jumpsOf body))
  | _, _, _, _, _, _ => False

end Go.Proofs.Yticjjdhaikbdaaa
