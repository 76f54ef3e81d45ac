/- A program logic over heaps: the code of a function as a predicate transformer that computes, and that it is sound. -/
import Derived.RangeFuncLeaves
import Derived.Sort.QuietThIn
import Derived.Sort.LoopGhostIn
import Derived.Below
import Derived.KernelRfl
import Derived.WalkKit
namespace Go.Proofs.Yticjjdhaikbdaaa
open Go Go.RowKit
set_option linter.unusedVariables false
set_option linter.unusedSimpArgs false

abbrev Heap := Array Obj
abbrev FW (r : Option Nat) : Fence := { Fence.wide with round := r }

structure Same (w w' : World) : Prop where
  os : w'.os = w.os
  tape : w'.tape = w.tape
  output : w'.output = w.output
theorem Same.refl (w : World) : Same w w := ⟨rfl, rfl, rfl⟩
theorem Same.trans {a b c : World} (h : Same a b) (k : Same b c) : Same a c := ⟨k.os.trans h.os, k.tape.trans h.tape, k.output.trans h.output⟩

structure Fr where
  s : Nat → Option Value
  m : List Nat
def Fr.put (φ : Fr) (d : Option Tmp) (v : Value) : Fr :=
  match d with
  | some d => { s := fun t => bif Nat.beq t d then some v else φ.s t, m := φ.m }
  | none => φ

structure FA (n : Nat) (φ : Fr) (a : Act) : Prop where
  defers : a.defers = φ.m.map (fun d => { target := .collected d, args := #[] })
  size : a.tmps.size = n
  slots : ∀ t v, φ.s t = some v → t < n → a.tmps[t]? = some v
structure WA (w0 : World) (h : Heap) (w : World) : Prop where
  heap : w.heap = h
  same : Same w0 w

theorem FA.put {n : Nat} {φ : Fr} {a : Act} (h : FA n φ a) (d : Option Tmp) (v : Value) : FA n (φ.put d v) (a.put d v) := by
  cases d with
  | none => exact h
  | some d =>
    refine ⟨h.defers, by simp [Act.put, h.size], fun t u hu ht => ?_⟩
    simp only [Fr.put] at hu
    simp only [Act.put]
    by_cases e : t = d
    · subst e
      rw [show Nat.beq t t = true from Nat.beq_refl t] at hu
      simp only [cond_true, Option.some.injEq] at hu
      subst hu
      rw [Array.getElem?_setIfInBounds_self]
      simp [h.size, ht]
    · have hb : Nat.beq t d = false := by
        cases hh : Nat.beq t d with
        | false => rfl
        | true => exact absurd (Nat.eq_of_beq_eq_true hh) e
      rw [hb] at hu
      simp only [cond_false] at hu
      rw [Array.getElem?_setIfInBounds_ne (Ne.symm e)]
      exact h.slots t u hu ht

def ev (n : Nat) (φ : Fr) : Operand → Option Value
  | .tmp t => bif Nat.blt t n then φ.s t else none
  | .const v => some v
  | .global g => some (.pointer (some ⟨g, 0, none⟩))
  | .func f => some (.func (.func f) #[] #[])
theorem ev_sound {n : Nat} {φ : Fr} {a : Act} (h : FA n φ a) {x : Operand} {v : Value} (hx : ev n φ x = some v) : a.eval x = v := by
  cases x with
  | tmp t =>
    simp only [ev] at hx
    cases hb : Nat.blt t n with
    | false => rw [hb] at hx; cases hx
    | true =>
      rw [hb] at hx
      simp only [cond_true] at hx
      have := h.slots t v hx (by have := Nat.le_of_ble_eq_true hb; omega)
      simp [Act.eval, Array.getD_eq_getD_getElem?, this]
  | const u => simpa [ev, Act.eval] using hx
  | global g => simpa [ev, Act.eval] using hx
  | func f => simpa [ev, Act.eval] using hx

def rd (n : Nat) (φ : Fr) (x : Operand) (K : Value → Prop) : Prop :=
  match ev n φ x with
  | some v => K v
  | none => False
theorem rd_sound {n : Nat} {φ : Fr} {x : Operand} {K : Value → Prop} (h : rd n φ x K) : ∃ v, ev n φ x = some v ∧ K v := by
  unfold rd at h
  cases he : ev n φ x with
  | none => rw [he] at h; exact h.elim
  | some v => rw [he] at h; exact ⟨v, rfl, h⟩
def rds (n : Nat) (φ : Fr) : List Operand → (List Value → Prop) → Prop
  | [], K => K []
  | x :: xs, K => rd n φ x fun v => rds n φ xs fun vs => K (v :: vs)
theorem rds_sound {n : Nat} {φ : Fr} : ∀ {xs : List Operand} {K : List Value → Prop}, rds n φ xs K →
    ∃ vs, (∀ a, FA n φ a → xs.map a.eval = vs) ∧ K vs
  | [], K, h => ⟨[], fun _ _ => rfl, h⟩
  | x :: xs, K, h => by
    obtain ⟨v, hv, h⟩ := rd_sound h
    obtain ⟨vs, hvs, h⟩ := rds_sound h
    exact ⟨v :: vs, fun a ha => by simp [ev_sound ha hv, hvs a ha], h⟩
def rdParts (n : Nat) (φ : Fr) : List (Nat × Operand) → (List (Nat × Value) → Prop) → Prop
  | [], K => K []
  | (i, x) :: xs, K => rd n φ x fun v => rdParts n φ xs fun vs => K ((i, v) :: vs)
theorem rdParts_sound {n : Nat} {φ : Fr} : ∀ {xs : List (Nat × Operand)} {K : List (Nat × Value) → Prop}, rdParts n φ xs K →
    ∃ vs, (∀ a, FA n φ a → xs.map (fun p => (p.1, a.eval p.2)) = vs) ∧ K vs
  | [], K, h => ⟨[], fun _ _ => rfl, h⟩
  | (i, x) :: xs, K, h => by
    obtain ⟨v, hv, h⟩ := rd_sound h
    obtain ⟨vs, hvs, h⟩ := rdParts_sound h
    exact ⟨(i, v) :: vs, fun a ha => by simp [ev_sound ha hv, hvs a ha], h⟩

/-! ### cells of a heap -/
def cellAt (h : Heap) (a : Addr) : Option Value :=
  match h[a.block]? with
  | some (.cells c _ _) => if a.spot.isSome then none else c[a.off]?
  | _ => none
def frozenAt (h : Heap) (a : Addr) : Bool :=
  match h[a.block]? with
  | some (.cells _ _ (lo, hi)) => lo ≤ a.off && a.off < hi
  | _ => false
def setC (h : Heap) (a : Addr) (v : Value) : Heap :=
  h.modify a.block fun
    | .cells c elem frozen => .cells (if a.spot.isSome then c else c.setIfInBounds a.off v) elem frozen
    | o => o
theorem cell_world (w : World) (a : Addr) : w.cell? a = cellAt w.heap a := rfl
theorem frozen_world (w : World) (a : Addr) : w.frozen? a = frozenAt w.heap a := rfl
theorem setC_world (w : World) (a : Addr) (v : Value) : (w.setCell a v).heap = setC w.heap a v := rfl

/-! ### values by their types -/
def exS (P : Program) (T : TypeId) (K : Value → Prop) : Prop :=
  match P.underlying T with
  | some (.int k) => ∃ x : Int, K (.int k x)
  | some .bool => ∃ b : Bool, K (.bool b)
  | some .string => ∃ s : ByteArray, K (.string s)
  | some (.pointer _) => ∃ p : Option Addr, K (.pointer p)
  | some (.slice _) => ∃ (p : Option Addr) (l c : Nat), K (.slice p l c)
  | some (.map _ _) => ∃ m : Option Nat, K (.map m)
  | _ => ∃ v : Value, K v
theorem exS_sound {P : Program} {T : TypeId} {K : Value → Prop} (h : exS P T K) : ∃ v, K v := by
  unfold exS at h
  split at h
  · obtain ⟨_, h⟩ := h; exact ⟨_, h⟩
  · obtain ⟨_, h⟩ := h; exact ⟨_, h⟩
  · obtain ⟨_, h⟩ := h; exact ⟨_, h⟩
  · obtain ⟨_, h⟩ := h; exact ⟨_, h⟩
  · obtain ⟨_, _, _, h⟩ := h; exact ⟨_, h⟩
  · obtain ⟨_, h⟩ := h; exact ⟨_, h⟩
  · obtain ⟨_, h⟩ := h; exact ⟨_, h⟩
def cts (P : Program) : (fuel : Nat) → TypeId → List TypeId
  | 0, T => [T]
  | d + 1, T =>
    match P.underlying T with
    | some (.struct fs) => fs.toList.flatMap fun f => cts P d f.type
    | some (.array k e) => (List.replicate k (cts P d e)).flatten
    | _ => [T]
def exCells (P : Program) : List TypeId → (List Value → Prop) → Prop
  | [], K => K []
  | T :: Ts, K => exS P T fun v => exCells P Ts fun vs => K (v :: vs)
theorem exCells_sound {P : Program} : ∀ {Ts : List TypeId} {K : List Value → Prop}, exCells P Ts K → ∃ vs, vs.length = Ts.length ∧ K vs
  | [], K, h => ⟨[], rfl, h⟩
  | T :: Ts, K, h => by
    obtain ⟨v, h⟩ := exS_sound h
    obtain ⟨vs, hl, h⟩ := exCells_sound h
    exact ⟨v :: vs, by simp [hl], h⟩
def aggT (P : Program) (T : TypeId) : Bool :=
  match P.underlying T with
  | some (.struct _) => true
  | some (.array _ _) => true
  | _ => false
def ex1 (P : Program) (T : TypeId) (K : Value → Prop) : Prop :=
  bif aggT P T then exCells P (cts P 8 T) (fun l => K (.agg l.toArray)) else exS P T K
theorem ex1_sound {P : Program} {T : TypeId} {K : Value → Prop} (h : ex1 P T K) : ∃ v, K v := by
  unfold ex1 at h
  cases hb : aggT P T with
  | true => rw [hb] at h; obtain ⟨l, _, h⟩ := exCells_sound h; exact ⟨_, h⟩
  | false => rw [hb] at h; exact exS_sound h
def exs (P : Program) : List TypeId → (List Value → Prop) → Prop
  | [], K => K []
  | T :: Ts, K => ex1 P T fun v => exs P Ts fun vs => K (v :: vs)
theorem exs_sound {P : Program} : ∀ {Ts : List TypeId} {K : List Value → Prop}, exs P Ts K → ∃ vs, K vs
  | [], K, h => ⟨[], h⟩
  | T :: Ts, K, h => by
    obtain ⟨v, h⟩ := ex1_sound h
    obtain ⟨vs, h⟩ := exs_sound h
    exact ⟨v :: vs, h⟩
/-- The value v, by its type. -/
def dec (P : Program) (T : TypeId) (v : Value) (K : Value → Prop) : Prop :=
  match P.underlying T with
  | some (.tuple Ts) => exs P Ts.toList fun l => v = .tuple l.toArray ∧ K (.tuple l.toArray)
  | _ => ex1 P T fun u => v = u ∧ K u
theorem dec_sound {P : Program} {T : TypeId} {v : Value} {K : Value → Prop} (h : dec P T v K) : K v := by
  unfold dec at h
  split at h
  · obtain ⟨l, h1, h2⟩ := exs_sound h; exact h1 ▸ h2
  · obtain ⟨u, h1, h2⟩ := ex1_sound h; exact h1 ▸ h2

/-! ### runs -/
def RunH (P : Program) (s : Sem Value) (h : Heap) (K : Value → Heap → Prop) : Prop :=
  ∀ w : World, w.heap = h → ∃ v w', s.run P w = .ok v w' ∧ Same w w' ∧ K v w'.heap
def RunU (P : Program) (s : Sem Unit) (h : Heap) (K : Heap → Prop) : Prop :=
  ∀ w : World, w.heap = h → ∃ w', s.run P w = .ok () w' ∧ Same w w' ∧ K w'.heap

def callable (P : Program) (f : FuncId) : Bool :=
  match P.funcs[f]? with
  | some fn => fn.body.isSome && !(fn.name == "runtime.NumGoroutine")
  | none => false
theorem callable_run {P : Program} {f : FuncId} (h : callable P f = true) (args : Array Value) (w : World) : (callFunc f args).run P w = .ok (.enter f args) w := by
  unfold callable at h
  unfold callFunc
  cases hf : P.funcs[f]? with
  | none => rw [hf] at h; cases h
  | some fn =>
    rw [hf] at h
    simp only [Bool.and_eq_true, Bool.not_eq_true'] at h
    simp only [Sem.run_bind, run_program, Result.andThen_ok, hf, h.2]
    cases hb : fn.body with
    | none => rw [hb] at h; simp at h
    | some c => simp

def CallsH (P : Program) (f : FuncId) (args : List Value) (h : Heap) (Q : Value → Heap → Prop) : Prop :=
  callable P f = true ∧ ∀ w : World, w.heap = h → CallsIn Fence.wide 0 P f args.toArray w (fun e w' => ∃ v, e = .returned v ∧ Q v w'.heap ∧ Same w w')
def YieldH (P : Program) (l : Nat) (args : List Value) (h : Heap) (Q : Value → Heap → Prop) : Prop :=
  ∀ w : World, w.heap = h → ∃ f tmps assign body, (Instr.yield l args.toArray).run P w = .ok (.round l f tmps assign body) w ∧
    RoundIn Fence.wide 0 P l f tmps assign body w (fun e w' => ∃ v, e = .returned v ∧ Q v w'.heap ∧ Same w w')
def CallV (P : Program) (v : Value) (args : List Value) (h : Heap) (Q : Value → Heap → Prop) : Prop :=
  match v with
  | .func (.func f) first cap => CallsH P f (first.toList ++ args ++ cap.toList) h Q
  | .func (.yield l) first _ => YieldH P l (first.toList ++ args) h Q
  | _ => False
theorem CallsH.mono {P : Program} {f : FuncId} {args : List Value} {h : Heap} {Q Q' : Value → Heap → Prop} (H : CallsH P f args h Q) (hq : ∀ v h', Q v h' → Q' v h') : CallsH P f args h Q' :=
  ⟨H.1, fun w hw => CallsIn.mono (H.2 w hw) fun e w' ⟨v, he, q, s⟩ => ⟨v, he, hq _ _ q, s⟩⟩
theorem YieldH.mono {P : Program} {l : Nat} {args : List Value} {h : Heap} {Q Q' : Value → Heap → Prop} (H : YieldH P l args h Q) (hq : ∀ v h', Q v h' → Q' v h') : YieldH P l args h Q' :=
  fun w hw => let ⟨f, t, a, b, hr, hR⟩ := H w hw; ⟨f, t, a, b, hr, RoundIn.mono hR fun e w' ⟨v, he, q, s⟩ => ⟨v, he, hq _ _ q, s⟩⟩
theorem CallV.mono {P : Program} {v : Value} {args : List Value} {h : Heap} {Q Q' : Value → Heap → Prop} (H : CallV P v args h Q) (hq : ∀ v h', Q v h' → Q' v h') : CallV P v args h Q' := by
  unfold CallV at *
  split at H
  · exact H.mono hq
  · exact H.mono hq
  · exact H.elim

/-! ### the operations -/
def NN (p : Option Addr) (K : Addr → Prop) : Prop := ∃ a, p = some a ∧ K a
def bitsI (op : BinOp) (k : IntKind) (x y : Int) : Int :=
  match op with
  | .and => k.wrap ((BitVec.ofInt k.bits x &&& BitVec.ofInt k.bits y).toNat)
  | .or => k.wrap ((BitVec.ofInt k.bits x ||| BitVec.ofInt k.bits y).toNat)
  | .xor => k.wrap ((BitVec.ofInt k.bits x ^^^ BitVec.ofInt k.bits y).toNat)
  | _ => k.wrap ((BitVec.ofInt k.bits x &&& ~~~BitVec.ofInt k.bits y).toNat)
def shlI (k : IntKind) (x y : Int) : Int := k.wrap (x * 2 ^ (min y.toNat k.bits))
def shrI (k : IntKind) (x y : Int) : Int := x.fdiv (2 ^ (min y.toNat k.bits))
def strLt (a b : ByteArray) : Bool := Op.bytesLess a.toList b.toList
def strEq (a b : ByteArray) : Bool := a.toList == b.toList
/-- Two whole numbers of one kind. -/
def intPT (op : BinOp) (k : IntKind) (a b : Int) (K : Value → Prop) : Prop :=
  match op with
  | .add => K (.int k (k.wrap (a + b)))
  | .sub => K (.int k (k.wrap (a - b)))
  | .mul => K (.int k (k.wrap (a * b)))
  | .quo => b ≠ 0 ∧ K (.int k (k.wrap (a.tdiv b)))
  | .rem => b ≠ 0 ∧ K (.int k (a.tmod b))
  | .and => K (.int k (bitsI .and k a b))
  | .or => K (.int k (bitsI .or k a b))
  | .xor => K (.int k (bitsI .xor k a b))
  | .andNot => K (.int k (bitsI .andNot k a b))
  | .eql => K (.bool (a == b))
  | .neq => K (.bool (a != b))
  | .lss => K (.bool (decide (a < b)))
  | .leq => K (.bool (decide (a ≤ b)))
  | .gtr => K (.bool (decide (a > b)))
  | .geq => K (.bool (decide (a ≥ b)))
  | _ => False
theorem intPT_sound {P : Program} {op : BinOp} {k : IntKind} {a b : Int} {K : Value → Prop} (hs : op ≠ .shl ∧ op ≠ .shr) (h : intPT op k a b K) (T : TypeId) :
    ∃ v, (∀ w, (Go.binOp op T (.int k a) (.int k b)).run P w = .ok v w) ∧ K v := by
  unfold intPT at h
  cases op <;> simp only [] at h <;>
    first
    | exact h.elim
    | exact absurd rfl hs.1
    | exact absurd rfl hs.2
    | (refine ⟨_, fun w => ?_, h.2⟩; simp [Go.binOp, Op.intDiv, h.1]; done)
    | (refine ⟨_, fun w => ?_, h⟩; simp [Go.binOp, Op.intArith, Op.intCmp]; done)
    | (refine ⟨_, fun w => ?_, h⟩; simp only [Go.binOp, ne_eq, not_true_eq_false, if_false]; rfl)
def strPT (op : BinOp) (a b : ByteArray) (K : Value → Prop) : Prop :=
  match op with
  | .add => a.size + b.size ≤ 9223372036854775807 ∧ K (.string (a ++ b))
  | .eql => K (.bool (strEq a b))
  | .neq => K (.bool (!strEq a b))
  | .lss => K (.bool (strLt a b))
  | .leq => K (.bool (strLt a b || strEq a b))
  | .gtr => K (.bool (!(strLt a b || strEq a b)))
  | .geq => K (.bool (!strLt a b))
  | _ => False
theorem strPT_sound {P : Program} {op : BinOp} {a b : ByteArray} {K : Value → Prop} (h : strPT op a b K) (T : TypeId) :
    ∃ v, (∀ w, (Go.binOp op T (.string a) (.string b)).run P w = .ok v w) ∧ K v := by
  unfold strPT at h
  cases op <;> simp only [] at h <;>
    first
    | exact h.elim
    | exact ⟨_, fun w => by simp [Go.binOp, Op.stringOp, strEq, strLt], h⟩
    | (refine ⟨_, fun w => ?_, h.2⟩
       have h1 : ¬ (((a.size + b.size : Nat) : Int) > IntKind.i64.max) := by
         have := h.1
         simp only [IntKind.max, IntKind.signed, IntKind.bits]
         omega
       simp only [Go.binOp, Op.stringOp]
       rw [if_neg h1]
       rfl)
/-- Equality where one side is nil, and of bools. -/
def nilEq {α : Type} (a b : Option α) : Option Bool :=
  match b with
  | none => some a.isNone
  | some _ => match a with
    | none => some false
    | some _ => none
def eqV (P : Program) (T : TypeId) (x y : Value) : Option Bool :=
  match P.underlying T, x, y with
  | some .bool, .bool a, .bool b => some (a == b)
  | some (.pointer _), .pointer a, .pointer b => nilEq a b
  | some (.slice _), .slice a _ _, .slice b _ _ => nilEq a b
  | some (.map _ _), .map a, .map b => nilEq a b
  | _, _, _ => none
theorem eqV_sound {P : Program} {T : TypeId} {x y : Value} {b : Bool} (h : eqV P T x y = some b) (w : World) : (Op.equal T x y).run P w = .ok b w := by
  unfold Op.equal
  rw [show Op.maxDepth = 9999 + 1 from rfl]
  unfold Op.equalIn
  unfold eqV at h
  split at h
  · rename_i h1; simp only [Option.some.injEq] at h; subst h; simp [run_underlying h1]
  · rename_i a c h1
    unfold nilEq at h
    cases c with
    | none => simp only [Option.some.injEq] at h; subst h; cases a <;> simp [run_underlying h1]
    | some c =>
      cases a with
      | none => simp only [Option.some.injEq] at h; subst h; simp [run_underlying h1]
      | some a => cases h
  · rename_i a _ _ c _ _ h1
    unfold nilEq at h
    cases c with
    | none => simp only [Option.some.injEq] at h; subst h; cases a <;> simp [run_underlying h1]
    | some c =>
      cases a with
      | none => simp only [Option.some.injEq] at h; subst h; simp [run_underlying h1]
      | some a => cases h
  · rename_i a c h1
    unfold nilEq at h
    cases c with
    | none => simp only [Option.some.injEq] at h; subst h; cases a <;> simp [run_underlying h1]
    | some c =>
      cases a with
      | none => simp only [Option.some.injEq] at h; subst h; simp [run_underlying h1]
      | some a => cases h
  · cases h

end Go.Proofs.Yticjjdhaikbdaaa
