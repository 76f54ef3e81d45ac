/- The operations of a function as predicate transformers over heaps, and that these are sound. -/
import Derived.Test.YticjjdhaikbdaaaFw1
namespace Go.Proofs.Yticjjdhaikbdaaa
open Go Go.RowKit
set_option linter.unusedVariables false
set_option linter.unusedSimpArgs false

def shapeAt (h : Heap) (r : Nat) : Option (TypeId × Nat) :=
  match h[r]? with
  | some (.cells c elem _) => some (elem, c.size)
  | _ => none
def freezeH (h : Heap) (a : Addr) (n : Nat) : Heap :=
  if n = 0 then h else
  h.modify a.block fun
    | .cells c elem (lo, hi) => .cells c elem (if lo == hi then (a.off, a.off + n) else (min lo a.off, max hi (a.off + n)))
    | o => o
def isC : Obj → Bool
  | .cells .. => true
  | _ => false
/-- A run that leaves the heap alone and whose answer the heap alone decides. -/
def SemQ (P : Program) {α : Type} : Sem α → Heap → (α → Prop) → Prop
  | .pure a, _, K => K a
  | .load _ a k, h, K => ∃ v, cellAt h a = some v ∧ SemQ P (k v) h K
  | .shape r k, h, K => SemQ P (k (shapeAt h r)) h K
  | .frozen a k, h, K => SemQ P (k (frozenAt h a)) h K
  | .program k, h, K => SemQ P (k P) h K
  | .mark _ k, h, K => SemQ P k h K
  | _, _, _ => False
theorem SemQ_sound {P : Program} {α : Type} : ∀ {s : Sem α} {h : Heap} {K : α → Prop}, SemQ P s h K →
    ∃ a, (∀ w : World, w.heap = h → s.run P w = .ok a w) ∧ K a := by
  intro s
  induction s with
  | pure a => exact fun H => ⟨a, fun _ _ => rfl, H⟩
  | load m a k ih =>
    intro h K H
    obtain ⟨v, hv, H⟩ := H
    obtain ⟨x, hx, H⟩ := ih v H
    exact ⟨x, fun w hw => by simp only [Sem.run, cell_world, hw, hv]; exact hx w hw, H⟩
  | shape r k ih =>
    intro h K H
    obtain ⟨x, hx, H⟩ := ih _ H
    exact ⟨x, fun w hw => by subst hw; exact hx w rfl, H⟩
  | frozen a k ih =>
    intro h K H
    obtain ⟨x, hx, H⟩ := ih _ H
    exact ⟨x, fun w hw => by subst hw; exact hx w rfl, H⟩
  | program k ih =>
    intro h K H
    obtain ⟨x, hx, H⟩ := ih _ H
    exact ⟨x, fun w hw => hx w hw, H⟩
  | mark m k ih =>
    intro h K H
    obtain ⟨x, hx, H⟩ := ih H
    exact ⟨x, fun w hw => hx w hw, H⟩
  | _ => exact fun H => H.elim
def SemH (P : Program) {α : Type} : Sem α → Heap → (α → Heap → Prop) → Prop
  | .pure a, h, K => K a h
  | .load _ a k, h, K => ∃ v, cellAt h a = some v ∧ SemH P (k v) h K
  | .store _ a v k, h, K => cond v.oneCell' ((∃ u, cellAt h a = some u) ∧ frozenAt h a = false ∧ SemH P k (setC h a v) K) False
  | .new o k, h, K => SemH P (k h.size) (h.push o) K
  | .shape r k, h, K => SemH P (k (shapeAt h r)) h K
  | .freeze a n k, h, K => SemH P k (freezeH h a n) K
  | .frozen a k, h, K => SemH P (k (frozenAt h a)) h K
  | .getObj r k, h, K => ∃ o, h[r]? = some o ∧ isC o = false ∧ SemH P (k o) h K
  | .setObj r o k, h, K => (∃ o', h[r]? = some o' ∧ isC o' = false) ∧ SemH P k (h.setIfInBounds r o) K
  | .choose q k, h, K => ∀ t, SemH P (k (cond q.forced 0 (q.cut t))) h K
  | .program k, h, K => SemH P (k P) h K
  | .mark _ k, h, K => SemH P k h K
  | _, _, _ => False
theorem SemH_sound {P : Program} {α : Type} : ∀ {s : Sem α} {h : Heap} {K : α → Heap → Prop}, SemH P s h K → ∀ w : World, w.heap = h →
    ∃ a w', s.run P w = .ok a w' ∧ Same w w' ∧ K a w'.heap := by
  intro s
  induction s with
  | pure a => exact fun H w hw => ⟨a, w, rfl, .refl w, hw ▸ H⟩
  | load m a k ih =>
    intro h K H w hw
    obtain ⟨v, hv, H⟩ := H
    obtain ⟨x, w', hx, r⟩ := ih v H w hw
    exact ⟨x, w', by simp only [Sem.run, cell_world, hw, hv]; exact hx, r⟩
  | store m a v k ih =>
    intro h K H w hw
    simp only [SemH] at H
    cases hv : v.oneCell' with
    | false => rw [hv] at H; exact H.elim
    | true =>
      rw [hv] at H
      obtain ⟨⟨u, hu⟩, hf, H⟩ := H
      obtain ⟨x, w', hx, s, hK⟩ := ih H (w.setCell a v) (by rw [setC_world, hw])
      have h1 : w.cell? a = some u := by rw [cell_world, hw]; exact hu
      have h2 : w.frozen? a = false := by rw [frozen_world, hw]; exact hf
      refine ⟨x, w', ?_, ⟨s.os, s.tape, s.output⟩, hK⟩
      cases v <;> simp only [Value.oneCell', Bool.false_eq_true] at hv <;> simp only [Sem.run, h1, h2, Bool.false_eq_true, if_false] <;> exact hx
  | new o k ih =>
    intro h K H w hw
    subst hw
    obtain ⟨x, w', hx, s, hK⟩ := ih _ H { w with heap := w.heap.push o } rfl
    exact ⟨x, w', hx, ⟨s.os, s.tape, s.output⟩, hK⟩
  | shape r k ih =>
    intro h K H w hw
    subst hw
    exact ih _ H w rfl
  | freeze a n k ih =>
    intro h K H w hw
    subst hw
    obtain ⟨x, w', hx, s, hK⟩ := ih H (w.freeze a n) (by simp only [World.freeze, freezeH]; split <;> rfl)
    have hs : (w.freeze a n).os = w.os ∧ (w.freeze a n).tape = w.tape ∧ (w.freeze a n).output = w.output := by
      simp only [World.freeze]; split <;> exact ⟨rfl, rfl, rfl⟩
    exact ⟨x, w', hx, ⟨s.os.trans hs.1, s.tape.trans hs.2.1, s.output.trans hs.2.2⟩, hK⟩
  | frozen a k ih =>
    intro h K H w hw
    subst hw
    exact ih _ H w rfl
  | getObj r k ih =>
    intro h K H w hw
    obtain ⟨o, ho, hc, H⟩ := H
    obtain ⟨x, w', hx, rr⟩ := ih o H w hw
    refine ⟨x, w', ?_, rr⟩
    simp only [Sem.run, hw, ho]
    cases o <;> first | exact hx | (simp [isC] at hc)
  | setObj r o k ih =>
    intro h K H w hw
    obtain ⟨⟨o', ho, hc⟩, H⟩ := H
    subst hw
    obtain ⟨x, w', hx, s, hK⟩ := ih H { w with heap := w.heap.setIfInBounds r o } rfl
    refine ⟨x, w', ?_, ⟨s.os, s.tape, s.output⟩, hK⟩
    simp only [Sem.run, ho]
    cases o' <;> first | exact hx | (simp [isC] at hc)
  | choose q k ih =>
    intro h K H w hw
    cases hq : q.forced with
    | true =>
      have H0 := H 0
      rw [hq] at H0
      obtain ⟨x, w', hx, rr⟩ := ih _ H0 w hw
      exact ⟨x, w', by simp only [Sem.run, hq, if_true]; exact hx, rr⟩
    | false =>
      have H0 := H (w.tape w.drawn q)
      rw [hq] at H0
      obtain ⟨x, w', hx, s, hK⟩ := ih _ H0 { w with drawn := w.drawn + 1 } hw
      exact ⟨x, w', by simp only [Sem.run, hq, Bool.false_eq_true, if_false]; exact hx, ⟨s.os, s.tape, s.output⟩, hK⟩
  | program k ih => exact fun H w hw => ih _ H w hw
  | mark m k ih => exact fun H w hw => ih H w hw
  | _ => exact fun H => H.elim

/-! ### the operands -/
def evD (n : Nat) (φ : Fr) (x : Operand) : Value :=
  match ev n φ x with
  | some v => v
  | none => undef
def allRead (n : Nat) (φ : Fr) (xs : List Operand) : Bool := xs.all fun x => (ev n φ x).isSome
theorem evD_sound {n : Nat} {φ : Fr} {o : Oper} (hs : ∀ cs b, o.op ≠ .select cs b) (h : allRead n φ o.op.operands.toList = true) {a : Act} (ha : FA n φ a) :
    execOp a.eval o = execOp (evD n φ) o :=
  execOp_congr o hs fun x hx => by
    have := List.all_eq_true.1 h x (by simpa using hx)
    obtain ⟨v, hv⟩ := Option.isSome_iff_exists.1 this
    rw [ev_sound ha hv]; simp [evD, hv]

/-! ### texts of single operations -/
def NN' (p : Option Addr) (K : Addr → Prop) : Prop :=
  match p with
  | some a => K a
  | none => False
def bt (s : ByteArray) (i : Int) : Int := ((s.data.toList[i.toNat]?).getD 0).toNat
def IdxA (a : Option Addr) (l : Nat) (ix : Int) (sz : Nat) (K : Addr → Prop) : Prop := ∃ b, a = some b ∧ 0 ≤ ix ∧ ix < (l : Int) ∧ K (b.add (ix.toNat * sz))
def SlS (s : ByteArray) (lo hi : Int) (K : ByteArray → Prop) : Prop := 0 ≤ lo ∧ lo ≤ hi ∧ hi ≤ (s.size : Int) ∧ K (s.extract lo.toNat hi.toNat)
def subA (a : Option Addr) (l m sz : Nat) : Option Addr := if m = l then a else a.map (·.add (l * sz))
def SlV (a : Option Addr) (c sz : Nat) (lo hi mx : Int) (K : Option Addr → Nat → Nat → Prop) : Prop :=
  0 ≤ lo ∧ lo ≤ hi ∧ hi ≤ mx ∧ mx ≤ (c : Int) ∧ K (subA a lo.toNat mx.toNat sz) (hi.toNat - lo.toNat) (mx.toNat - lo.toNat)
def BytesIn (h : Heap) (a : Option Addr) (l : Nat) (bs : ByteArray) : Prop :=
  match a with
  | none => bs = .empty
  | some a => bs.size = l ∧ ∀ i, i < l → cellAt h (a.add i) = some (.int .u8 ((bs.data.toList.getD i 0).toNat : Nat))
def mapEs (h : Heap) (m : Option Nat) (es : Array MapEntry) : Prop :=
  match m with
  | none => es = #[]
  | some r => ∃ clock, h[r]? = some (.map es clock)
def plainKey (P : Program) (T : TypeId) : Bool :=
  match P.underlying T with
  | some (.int _) => true
  | some .string => true
  | some .bool => true
  | _ => false
def kindOf (P : Program) (T : TypeId) : TypeDesc := (P.underlying T).getD .string

/-- Reads, and what only computes. -/
def opQ (P : Program) (n : Nat) (o : Oper) (φ : Fr) (h : Heap) (K : Value → Prop) : Prop :=
  match o.op with
  | .pick c a b => rd n φ c fun vc => match vc with
    | .bool t => cond t (rd n φ a K) (rd n φ b K)
    | _ => False
  | .load T x => rd n φ x fun v => match v with
    | .pointer (some a) => SemQ P (loadVar T a) h fun v => dec P T v K
    | _ => False
  | .nilCheck x => rd n φ x fun v => match v with
    | .pointer p => NN' p fun a => K (.pointer (some a))
    | .func (.func f) x y => K (.func (.func f) x y)
    | .func (.yield f) x y => K (.func (.yield f) x y)
    | _ => False
  | .binOp op T x y _ => rd n φ x fun vx => rd n φ y fun vy =>
    match vx, vy with
    | .int k a, .int k' b => (match op with
      | .shl => 0 ≤ b ∧ K (.int k (shlI k a b))
      | .shr => 0 ≤ b ∧ K (.int k (shrI k a b))
      | op => cond (decide (k = k')) (intPT op k a b K) False)
    | .string a, .string b => strPT op a b K
    | vx, vy => (match op, eqV P T vx vy with
      | .eql, some b => K (.bool b)
      | .neq, some b => K (.bool (!b))
      | _, _ => False)
  | .convert s d x => rd n φ x fun v => match P.underlying s, P.underlying d, v with
    | some (.slice e), some .string, .slice a l _ => (match P.underlying e with
      | some (.int .u8) => ∃ bs : ByteArray, BytesIn h a l bs ∧ K (.string bs)
      | _ => False)
    | _, some (.slice _), _ => False
    | _, _, v => SemQ P (Go.convert s d v) h K
  | .indexAddr T x i => rd n φ x fun vx => rd n φ i fun vi => match P.underlying T, vx, vi with
    | some (.slice e), .slice a l _, .int _ ix => (match P.info? e with
      | some j => IdxA a l ix j.size fun a => K (.pointer (some a))
      | none => False)
    | some (.array m e), .pointer (some b), .int _ ix => (match P.info? e with
      | some j => 0 ≤ ix ∧ ix < (m : Int) ∧ K (.pointer (some (b.add (ix.toNat * j.size))))
      | none => False)
    | _, _, _ => False
  | .index T x i => rd n φ x fun vx => rd n φ i fun vi => match P.underlying T, vx, vi with
    | some .string, .string s, .int _ ix => 0 ≤ ix ∧ ix < (s.size : Int) ∧ K (.int .u8 (bt s ix))
    | _, _, _ => False
  | .slice T x lo hi mx => rd n φ x fun vx => rds n φ lo.toList fun vlo => rds n φ hi.toList fun vhi => rds n φ mx.toList fun vmx =>
    match P.underlying T, vx with
    | some .string, .string s => (match vlo, vhi, vmx with
      | [], [], [] => K (.string (s.extract 0 s.size))
      | [.int _ lo], [], [] => SlS s lo s.size fun s => K (.string s)
      | [], [.int _ hi], [] => SlS s 0 hi fun s => K (.string s)
      | [.int _ lo], [.int _ hi], [] => SlS s lo hi fun s => K (.string s)
      | _, _, _ => False)
    | some (.slice e), .slice a l c => (match P.info? e with
      | none => False
      | some j => (match vlo, vhi, vmx with
        | [], [], [] => SlV a c j.size 0 l c fun a l c => K (.slice a l c)
        | [.int _ lo], [], [] => SlV a c j.size lo l c fun a l c => K (.slice a l c)
        | [], [.int _ hi], [] => SlV a c j.size 0 hi c fun a l c => K (.slice a l c)
        | [.int _ lo], [.int _ hi], [] => SlV a c j.size lo hi c fun a l c => K (.slice a l c)
        | [], [.int _ hi], [.int _ mx] => SlV a c j.size 0 hi mx fun a l c => K (.slice a l c)
        | [.int _ lo], [.int _ hi], [.int _ mx] => SlV a c j.size lo hi mx fun a l c => K (.slice a l c)
        | _, _, _ => False))
    | _, _ => False
  | .lookup T x i ok => rd n φ x fun vx => rd n φ i fun vi => match P.underlying T, vx with
    | some (.map key elem), .map m => cond (plainKey P key)
        (∃ es, mapEs h m es ∧ ∃ f, Instr.findNow (kindOf P key) vi es.toList 0 = some f ∧
          (match (P.info? elem).bind (·.zero) with
           | some z => dec P elem ((f.map (·.2)).getD z) fun v => K (cond ok (.tuple #[v, .bool f.isSome]) v)
           | none => False)) False
    | _, _ => False
  | .call { callee := .builtin .len, args, argTypes } => rds n φ args.toList fun vs => match argTypes.toList, vs with
    | [T], [.map m] => (match P.underlying T with
      | some (.map _ _) => ∃ es, mapEs h m es ∧ K (.int .i64 es.size)
      | _ => False)
    | _, _ => cond (allRead n φ o.op.operands.toList) (SemQ P (execOp (evD n φ) o) h fun nx => match nx with
      | .value v => K v
      | _ => False) False
  | _ => cond (allRead n φ o.op.operands.toList) (SemQ P (execOp (evD n φ) o) h fun nx => match nx with
    | .value v => K v
    | _ => False) False

def isQ (P : Program) (o : Op) : Bool :=
  match o with
  | .move _ => true
  | .assign _ => true
  | .pick .. => true
  | .load .. => true
  | .nilCheck _ => true
  | .binOp .. => true
  | .unOp .. => true
  | .convert _ d _ => (match P.underlying d with
    | some (.slice _) => false
    | _ => true)
  | .fieldAddr .. => true
  | .field .. => true
  | .indexAddr .. => true
  | .index .. => true
  | .slice .. => true
  | .extract .. => true
  | .makeFunc .. => true
  | .makeInterface .. => true
  | .lookup .. => true
  | .build .. => true
  | .call { callee := .builtin .len, .. } => true
  | .call { callee := .builtin .min, .. } => true
  | .call { callee := .builtin .max, .. } => true
  | .call { callee := .builtin .cap, .. } => true
  | _ => false

theorem bt_some {s : ByteArray} {i : Int} (h0 : 0 ≤ i) (h1 : i < (s.size : Int)) : (if 0 ≤ i then s[i.toNat]? else none) = some ((s.data.toList[i.toNat]?).getD 0) := by
  rw [if_pos h0]
  have hlt : i.toNat < s.size := by omega
  rw [ByteArray.getElem?_lt' s _ hlt]
  have h2 : i.toNat < s.data.toList.length := by simpa using hlt
  simp only [List.getElem?_eq_getElem h2, Option.getD_some]
  simp [ByteArray.getElem_eq_getElem_data]

theorem run_toString {P : Program} {h : Heap} {a : Option Addr} {l c : Nat} {bs : ByteArray} (H : BytesIn h a l bs) (w : World) (hw : w.heap = h) :
    (Conv.bytesToString (.slice a l c)).run P w = .ok (.string bs) w := by
  cases a with
  | none => simp only [BytesIn] at H; subst H; rfl
  | some a =>
    obtain ⟨h1, h2⟩ := H
    have hlen : (bs.data.toList.map fun b => Value.int .u8 (b.toNat : Int)).length = l := by simpa using h1
    have hload : (loadCells a l).run P w = .ok (bs.data.toList.map fun b => Value.int .u8 (b.toNat : Int)).toArray w := by
      have := run_loadCells_list (P := P) (w := w) a (bs.data.toList.map fun b => Value.int .u8 (b.toNat : Int)) (fun j v hv => ?_)
      · rw [hlen] at this; exact this
      · rw [cell_world, hw]
        obtain ⟨hj, hv⟩ := List.getElem?_eq_some_iff.1 hv
        subst hv
        have hj' : j < bs.data.toList.length := by simpa using hj
        rw [h2 j (by omega)]
        simp [List.getD_eq_getElem?_getD, List.getElem?_eq_getElem hj']
    have := run_bytesToString (P := P) w a l c (bs.data.toList.map fun b => (b.toNat : Int)) (by rw [hload]; simp [Function.comp_def])
    rw [this]
    congr 2
    rw [foldl_push_bytes]
    apply ByteArray.ext
    simp [Function.comp_def]

theorem eqGuard_quiet {P : Program} {op : BinOp} {T : TypeId} {x y : Operand} {u v : Value} (hu : (∀ k, u ≠ .agg k) ∧ u ≠ .nilIface) (w : World) : (eqGuard op T x y u v).run P w = .ok () w := by
  unfold eqGuard
  cases op <;> first | rfl | skip
  all_goals
    cases u <;> first | rfl | exact absurd rfl hu.2 | exact absurd rfl (hu.1 _)

theorem def_sound {P : Program} {n : Nat} {o : Oper} {φ : Fr} {h : Heap} {K : Value → Prop} (hs : ∀ cs b, o.op ≠ .select cs b)
    (H : cond (allRead n φ o.op.operands.toList) (SemQ P (execOp (evD n φ) o) h fun nx => match nx with
      | .value v => K v
      | _ => False) False) : ∃ v, (∀ a w, FA n φ a → w.heap = h → (execOp a.eval o).run P w = .ok (.value v) w) ∧ K v := by
  cases hr : allRead n φ o.op.operands.toList with
  | false => rw [hr] at H; exact H.elim
  | true =>
    rw [hr] at H
    obtain ⟨x, hx, H⟩ := SemQ_sound H
    cases x <;> simp only [] at H <;> first | exact H.elim | skip
    rename_i v
    exact ⟨v, fun a w ha hw => by rw [evD_sound hs hr ha]; exact hx w hw, H⟩

theorem eqV_bin {P : Program} {T : TypeId} {x y : Value} {b : Bool} (h : eqV P T x y = some b) (w : World) :
    (Go.binOp .eql T x y).run P w = .ok (.bool b) w ∧ (Go.binOp .neq T x y).run P w = .ok (.bool (!b)) w := by
  have h1 := eqV_sound h w
  unfold eqV at h
  split at h <;> first | (cases h; done) | (constructor <;> simp [Go.binOp, h1])

theorem opQ_sound {P : Program} {n : Nat} {o : Oper} {φ : Fr} {h : Heap} {K : Value → Prop} (hq : isQ P o.op = true) (H : opQ P n o φ h K) :
    ∃ v, (∀ a w, FA n φ a → w.heap = h → (execOp a.eval o).run P w = .ok (.value v) w) ∧ K v := by
  unfold opQ at H
  split at H
  · -- pick
    rename_i c a b hop
    obtain ⟨vc, hc, H⟩ := rd_sound H
    cases vc <;> simp only [] at H <;> first | exact H.elim | skip
    rename_i t
    cases t with
    | true =>
      obtain ⟨v, hv, H⟩ := rd_sound H
      exact ⟨v, fun ac w ha hw => by simp [execOp, hop, ev_sound ha hc, ev_sound ha hv, asBool], H⟩
    | false =>
      obtain ⟨v, hv, H⟩ := rd_sound H
      exact ⟨v, fun ac w ha hw => by simp [execOp, hop, ev_sound ha hc, ev_sound ha hv, asBool], H⟩
  · -- load
    rename_i T x hop
    obtain ⟨v, hv, H⟩ := rd_sound H
    split at H
    · obtain ⟨u, hu, H⟩ := SemQ_sound H
      refine ⟨u, fun ac w ha hw => ?_, dec_sound H⟩
      simp only [execOp, hop, Instr.loadAt, Instr.sureAddr, ev_sound ha hv, Sem.run_bind, Sem.run_pure, Result.andThen_ok, hu w hw]
    · exact H.elim
  · -- nilCheck
    rename_i x hop
    obtain ⟨v, hv, H⟩ := rd_sound H
    split at H
    · rename_i p
      cases p with
      | none => exact H.elim
      | some a => exact ⟨_, fun ac w ha hw => by simp [execOp, hop, ev_sound ha hv], H⟩
    · exact ⟨_, fun ac w ha hw => by simp [execOp, hop, ev_sound ha hv], H⟩
    · exact ⟨_, fun ac w ha hw => by simp [execOp, hop, ev_sound ha hv], H⟩
    · exact H.elim
  · -- binOp
    rename_i op T x y yT hop
    obtain ⟨vx, hx, H1⟩ := rd_sound H
    clear H
    obtain ⟨vy, hy, H⟩ := rd_sound H1
    clear H1
    have key : ∀ (v : Value), (∀ w, (Go.binOp op T vx vy).run P w = .ok v w) → ((∀ k, vx ≠ .agg k) ∧ vx ≠ .nilIface) →
        (∀ a w, FA n φ a → w.heap = h → (execOp a.eval o).run P w = .ok (.value v) w) := fun v hv hne a w ha _ => by
      simp only [execOp, hop, ev_sound ha hx, ev_sound ha hy, Sem.run_bind, eqGuard_quiet hne w, Result.andThen_ok, hv w, Sem.run_pure]
    split at H
    · rename_i k a k' b
      split at H
      · obtain ⟨h0, H⟩ := H
        refine ⟨_, key _ (fun w => ?_) ⟨fun _ => by simp, by simp⟩, H⟩
        show (Op.shift .shl k a k' b).run P w = _
        unfold Op.shift
        rw [if_neg (by omega)]
        rfl
      · obtain ⟨h0, H⟩ := H
        refine ⟨_, key _ (fun w => ?_) ⟨fun _ => by simp, by simp⟩, H⟩
        show (Op.shift .shr k a k' b).run P w = _
        unfold Op.shift
        rw [if_neg (by omega)]
        rfl
      · rename_i hn1 hn2
        by_cases hk : k = k'
        · subst hk
          simp only [decide_true, cond_true] at H
          obtain ⟨v, hv, H⟩ := intPT_sound (P := P) ⟨hn1, hn2⟩ H T
          exact ⟨v, key v hv ⟨fun _ => by simp, by simp⟩, H⟩
        · simp only [hk, decide_false, cond_false] at H
    · obtain ⟨v, hv, H⟩ := strPT_sound (P := P) H T
      exact ⟨v, key v hv ⟨fun _ => by simp, by simp⟩, H⟩
    · rename_i hni hns
      have hne : ∀ b, eqV P T vx vy = some b → ((∀ k, vx ≠ .agg k) ∧ vx ≠ .nilIface) := fun b hb => by
        unfold eqV at hb
        split at hb <;> first | (cases hb; done) | exact ⟨fun _ => by simp, by simp⟩
      split at H
      · rename_i b hb
        exact ⟨_, key _ (fun w => (eqV_bin hb w).1) (hne b hb), H⟩
      · rename_i b hb
        exact ⟨_, key _ (fun w => (eqV_bin hb w).2) (hne b hb), H⟩
      · exact H.elim
  · -- convert
    rename_i sT dT x hop
    obtain ⟨v, hv, H1⟩ := rd_sound H
    clear H
    split at H1
    · rename_i e a l c hs hd
      split at H1
      · rename_i he
        obtain ⟨bs, hb, H⟩ := H1
        refine ⟨_, fun ac w ha hw => ?_, H⟩
        simp only [execOp, hop, ev_sound ha hv, Sem.run_bind, run_convert_bytes_string w sT dT e a l c hs he hd, run_toString hb w hw, Result.andThen_ok, Sem.run_pure]
      · exact H1.elim
    · exact H1.elim
    · obtain ⟨u, hu, H⟩ := SemQ_sound H1
      refine ⟨u, fun ac w ha hw => ?_, H⟩
      simp only [execOp, hop, ev_sound ha hv, Sem.run_bind, hu w hw, Result.andThen_ok, Sem.run_pure]
  · -- indexAddr
    rename_i T x i hop
    obtain ⟨vx, hx, H1⟩ := rd_sound H
    clear H
    obtain ⟨vi, hi, H⟩ := rd_sound H1
    clear H1
    split at H
    · rename_i e a l c k ix hT
      split at H
      · rename_i j hj
        obtain ⟨b, rfl, h0, h1, H⟩ := H
        refine ⟨_, fun ac w ha hw => ?_, H⟩
        simp only [execOp, hop, ev_sound ha hx, ev_sound ha hi, Sem.run_bind, Instr.indexAt, asIntOf, run_underlying hT, Sem.run_pure, Result.andThen_ok, Bool.and_false]
        rw [if_pos ⟨h0, h1⟩]
        simp [sizeOf, typeInfo, hj]
      · exact H.elim
    · rename_i m e b k ix hT
      split at H
      · rename_i j hj
        obtain ⟨h0, h1, H⟩ := H
        refine ⟨_, fun ac w ha hw => ?_, H⟩
        simp only [execOp, hop, ev_sound ha hx, ev_sound ha hi, Sem.run_bind, Instr.indexAt, asIntOf, run_underlying hT, Sem.run_pure, Result.andThen_ok, Instr.sureAddr]
        rw [if_pos ⟨h0, h1⟩]
        simp [sizeOf, typeInfo, hj]
      · exact H.elim
    · exact H.elim
  · -- index
    rename_i T x i hop
    obtain ⟨vx, hx, H1⟩ := rd_sound H
    clear H
    obtain ⟨vi, hi, H⟩ := rd_sound H1
    clear H1
    split at H
    · rename_i s k ix hT
      obtain ⟨h0, h1, H⟩ := H
      refine ⟨_, fun ac w ha hw => ?_, H⟩
      simp only [execOp, hop, ev_sound ha hx, ev_sound ha hi, Sem.run_bind, Instr.index, asIntOf, run_underlying hT, Sem.run_pure, Result.andThen_ok, bt_some h0 h1]
      rfl
    · exact H.elim
  · -- slice
    rename_i T x lo hi mx hop
    obtain ⟨vx, hx, H1⟩ := rd_sound H
    clear H
    obtain ⟨vlo, hlo, H2⟩ := rds_sound H1
    clear H1
    obtain ⟨vhi, hhi, H3⟩ := rds_sound H2
    clear H2
    obtain ⟨vmx, hmx, H⟩ := rds_sound H3
    clear H3
    have hop' : ∀ ac, FA n φ ac → execOp ac.eval o = (do let v ← Instr.sliceAt T vx vlo.head? vhi.head? vmx.head?; pure (.value v)) := fun ac ha => by
      have e1 : lo.map ac.eval = vlo.head? := by rw [← hlo ac ha]; cases lo <;> rfl
      have e2 : hi.map ac.eval = vhi.head? := by rw [← hhi ac ha]; cases hi <;> rfl
      have e3 : mx.map ac.eval = vmx.head? := by rw [← hmx ac ha]; cases mx <;> rfl
      simp only [execOp, hop, ev_sound ha hx, e1, e2, e3]
    split at H
    · rename_i s hT
      split at H
      · refine ⟨_, fun ac w ha hw => ?_, H⟩
        rw [hop' ac ha]
        simp [Instr.sliceAt, run_underlying hT, Instr.slice, Instr.sliceBounds]
      · rename_i k lo
        obtain ⟨h0, h1, h2, H⟩ := H
        refine ⟨_, fun ac w ha hw => ?_, H⟩
        rw [hop' ac ha]
        have b1 : 0 ≤ lo ∧ lo ≤ (s.size : Int) := ⟨h0, h1⟩
        simp [Instr.sliceAt, run_underlying hT, Instr.slice, Instr.sliceBounds, Instr.sliceBound, asIntOf, b1]
      · rename_i k hi
        obtain ⟨h0, h1, h2, H⟩ := H
        refine ⟨_, fun ac w ha hw => ?_, H⟩
        rw [hop' ac ha]
        have b1 : 0 ≤ hi ∧ hi ≤ (s.size : Int) := ⟨h1, h2⟩
        simp [Instr.sliceAt, run_underlying hT, Instr.slice, Instr.sliceBounds, Instr.sliceBound, asIntOf, b1]
      · rename_i k lo k' hi
        obtain ⟨h0, h1, h2, H⟩ := H
        refine ⟨_, fun ac w ha hw => ?_, H⟩
        rw [hop' ac ha]
        have b1 : 0 ≤ hi ∧ hi ≤ (s.size : Int) := ⟨by omega, h2⟩
        have b2 : 0 ≤ lo ∧ lo ≤ (hi.toNat : Int) := ⟨h0, by omega⟩
        have b3 : lo ≤ max hi 0 := by omega
        simp [Instr.sliceAt, run_underlying hT, Instr.slice, Instr.sliceBounds, Instr.sliceBound, asIntOf, b1, b2, b3, h0]
      · exact H.elim
    · rename_i e a l c hT
      split at H
      · exact H.elim
      · rename_i j hj
        have hsz : ∀ w, (sizeOf e).run P w = .ok j.size w := fun w => by simp [sizeOf, typeInfo, hj]
        split at H
        · obtain ⟨h0, h1, h2, h3, H⟩ := H
          refine ⟨_, fun ac w ha hw => ?_, H⟩
          rw [hop' ac ha]
          simp [Instr.sliceAt, run_underlying hT, Instr.slice, Instr.sliceBounds, hsz, subA]
        · rename_i k lo
          obtain ⟨h0, h1, h2, h3, H⟩ := H
          refine ⟨_, fun ac w ha hw => ?_, H⟩
          rw [hop' ac ha]
          simp [Instr.sliceAt, run_underlying hT, Instr.slice, Instr.sliceBounds, Instr.sliceBound, asIntOf, hsz, subA, h0, h1]
        · rename_i k hi
          obtain ⟨h0, h1, h2, h3, H⟩ := H
          refine ⟨_, fun ac w ha hw => ?_, H⟩
          rw [hop' ac ha]
          simp [Instr.sliceAt, run_underlying hT, Instr.slice, Instr.sliceBounds, Instr.sliceBound, asIntOf, hsz, subA, h1, h2]
        · rename_i k lo k' hi
          obtain ⟨h0, h1, h2, h3, H⟩ := H
          refine ⟨_, fun ac w ha hw => ?_, H⟩
          rw [hop' ac ha]
          have b1 : 0 ≤ hi := by omega
          have b3 : lo ≤ max hi 0 := by omega
          simp [Instr.sliceAt, run_underlying hT, Instr.slice, Instr.sliceBounds, Instr.sliceBound, asIntOf, hsz, subA, h0, h2, b1, b3]
        · rename_i k hi k' mx
          obtain ⟨h0, h1, h2, h3, H⟩ := H
          refine ⟨_, fun ac w ha hw => ?_, H⟩
          rw [hop' ac ha]
          have b1 : 0 ≤ mx := by omega
          have b3 : hi ≤ max mx 0 := by omega
          simp [Instr.sliceAt, run_underlying hT, Instr.slice, Instr.sliceBounds, Instr.sliceBound, asIntOf, hsz, subA, h1, h3, b1, b3]
        · rename_i k lo k' hi k'' mx
          obtain ⟨h0, h1, h2, h3, H⟩ := H
          refine ⟨_, fun ac w ha hw => ?_, H⟩
          rw [hop' ac ha]
          have b1 : 0 ≤ mx := by omega
          have b2 : 0 ≤ hi := by omega
          have b3 : hi ≤ max mx 0 := by omega
          have b4 : lo ≤ max hi 0 := by omega
          simp [Instr.sliceAt, run_underlying hT, Instr.slice, Instr.sliceBounds, Instr.sliceBound, asIntOf, hsz, subA, h0, h3, b1, b2, b3, b4]
        · exact H.elim
    · exact H.elim
  · -- lookup
    rename_i T x i ok hop
    obtain ⟨vx, hx, H1⟩ := rd_sound H
    clear H
    obtain ⟨vi, hi, H⟩ := rd_sound H1
    clear H1
    split at H
    · rename_i key elem m hT
      cases hp : plainKey P key with
      | false => rw [hp] at H; exact H.elim
      | true =>
        rw [hp] at H
        obtain ⟨es, hes, f, hf, H⟩ := H
        split at H
        · rename_i z hz
          obtain ⟨d, hd, hkd⟩ : ∃ d, P.underlying key = some d ∧ kindOf P key = d := by
            unfold plainKey at hp
            cases hu : P.underlying key with
            | none => rw [hu] at hp; cases hp
            | some d => exact ⟨d, rfl, by simp [kindOf, hu]⟩
          rw [hkd] at hf
          have hck : ∀ b w, (Instr.checkKey b 10000 key vi).run P w = .ok () w := fun b w => by
            rw [show (10000 : Nat) = 9999 + 1 from rfl]
            unfold Instr.checkKey
            unfold plainKey at hp
            rw [hd] at hp
            simp only [Sem.run_bind, run_underlying hd, Result.andThen_ok]
            cases d <;> first | (cases hp; done) | rfl
          have hfk : ∀ w, (Instr.findKey key vi es.toList).run P w = .ok f w := fun w => by
            unfold Instr.findKey
            simp only [Sem.run_bind, run_underlying hd, Result.andThen_ok, hf]
            rfl
          have hzv : ∀ w, (zeroValue elem).run P w = .ok z w := fun w => by
            cases hin : P.info? elem with
            | none => rw [hin] at hz; cases hz
            | some inf =>
              rw [hin] at hz
              simp only [Option.bind_some] at hz
              simp [zeroValue, typeInfo, hin, hz]
          have H := dec_sound H
          refine ⟨_, fun ac w ha hw => ?_, H⟩
          have hrun : (Instr.lookup T (.map m) vi ok).run P w = .ok (cond ok (.tuple #[(f.map (·.2)).getD z, .bool f.isSome]) ((f.map (·.2)).getD z)) w := by
            unfold Instr.lookup
            cases m with
            | none =>
              simp only [mapEs] at hes; subst hes
              simp only [Sem.run_bind, run_underlying hT, Result.andThen_ok, hck, List.isEmpty_nil, Sem.run_pure]
              have hfk' := hfk w
              simp only [List.toList_toArray] at hfk'
              rw [hfk']
              cases f with
              | none => cases ok <;> simp [hzv]
              | some p => cases ok <;> simp
            | some r =>
              obtain ⟨clock, hr⟩ := hes
              subst hw
              have hg : (getObj r).run P w = .ok (.map es clock) w := by simp [getObj, Sem.run, hr]
              simp only [Sem.run_bind, run_underlying hT, Result.andThen_ok, hck, hg]
              cases f with
              | none => cases ok <;> simp [hzv, hfk, hck]
              | some p => cases ok <;> simp [hfk, hck]
          simp only [execOp, hop, ev_sound ha hx, ev_sound ha hi, Sem.run_bind, hrun, Result.andThen_ok, Sem.run_pure]
        · exact H.elim
    · exact H.elim
  · -- len
    rename_i args argTypes hop
    obtain ⟨vs, hvs, H1⟩ := rds_sound H
    clear H
    split at H1
    · rename_i T m hat
      split at H1
      · rename_i kt et hT
        obtain ⟨es, hes, H⟩ := H1
        refine ⟨_, fun ac w ha hw => ?_, H⟩
        have e1 : args.map ac.eval = #[.map m] := by
          have := hvs ac ha
          apply Array.ext'
          simpa using this
        have e2 : argTypes = #[T] := Array.ext' (by simpa using hat)
        subst e2
        simp only [execOp, hop, resolve, invoke, builtin, e1, Sem.run_bind, Sem.run_pure, Result.andThen_ok, Builtin.len_]
        cases m with
        | none => simp only [mapEs] at hes; subst hes; simp [run_underlying hT, goInt]
        | some r =>
          obtain ⟨clock, hr⟩ := hes
          subst hw
          have hg : (getObj r).run P w = .ok (.map es clock) w := by simp [getObj, Sem.run, hr]
          simp [run_underlying hT, hg, goInt]
      · exact H1.elim
    · exact def_sound (by intro cs b; rw [hop]; simp) H1
  · refine def_sound (fun cs b hcs => ?_) H
    rw [hcs] at hq
    cases hq

end Go.Proofs.Yticjjdhaikbdaaa
