/- The texts over heaps of functions of the program: written by a program of this claim's writer (decomp.py); Lean checks each against the code. -/
import Derived.Test.YtfpdejkcjijmmaaQiFwA
import Derived.Test.YtfpdejkcjijmmaaProg
namespace Go.Proofs.Ytfpdejkcjijmmaa
open Go Go.RowKit
set_option linter.unusedVariables false
set_option maxRecDepth 100000

/-- headgate/headgatelaw17.TableInts -/
def F7 (a0a : Option Addr) (a0l : Nat) (a0c : Nat) (b0a : Option Addr) (b0l : Nat) (b0c : Nat) (h : Heap) (Q : Value → Heap → Prop) : Prop :=
  CallsH Try.prog 8 [] h fun r0 h_0 =>
  DB r0 fun x0 =>
  (bif !x0 then
    Q (.bool false) h_0
  else
    (bif decide (((IntKind.wrap .i64 ((a0l : Int) + (b0l : Int))) : Int) > 600) then
      Q (.bool true) h_0
    else
      CallsH Try.prog 27 [.slice none 0 0] h_0 fun r1 h_1 =>
      DP r1 fun t0 =>
      CallsH Try.prog 27 [.slice none 0 0] h_1 fun r2 h_2 =>
      DP r2 fun u0 =>
      LoopH (fun again0 (s0 : Int) h_3 =>
        (bif decide ((s0 : Int) < (a0l : Int)) then
          IdxA a0a a0l s0 1 fun a1 =>
          Ld h_3 a1 fun v0 => DI .u8 v0 fun x1 =>
          (9 : Int) ≠ 0 ∧
          IdxA a0a a0l s0 1 fun a2 =>
          Ld h_3 a2 fun v1 => DI .u8 v1 fun x2 =>
          (9 : Int) ≠ 0 ∧
          Al h_3 (.cells #[.int .u8 (Int.tmod x1 9)] 5) fun b1 h_4 =>
          (SameV (some (.pointer t0)) (.pointer t0)) ∧
          (SameV (some (.slice a0a a0l a0c)) (.slice a0a a0l a0c)) ∧
          (SameV (some (.int .i64 s0)) (.int .i64 s0)) ∧
          (IdxA a0a a0l s0 1 fun a3 =>
          SameV (some (.pointer (some a2))) (.pointer (some a3))) ∧
          (Ld h_4 a2 fun v2 => DI .u8 v2 fun x3 =>
          SameV (some (.int .u8 x2)) (.int .u8 x3)) ∧
          ((9 : Int) ≠ 0 ∧
          SameV (some (.int .u8 (IntKind.wrap .u8 (Int.tdiv x2 9)))) (.int .u8 (IntKind.wrap .u8 (Int.tdiv x2 9)))) ∧
          ∃ bs0 : ByteArray, BytesIn h_4 (some (Addr.mk b1 0 none)) 1 bs0 ∧
          CallsH Try.prog 28 [.pointer t0, .string bs0, .int .u8 (IntKind.wrap .u8 (Int.tdiv x2 9))] h_4 fun r4 h_5 =>
          r4 = .tuple #[] ∧
          again0 (IntKind.wrap .i64 (s0 + 1)) h_5
        else
          LoopH (fun again1 (s1 : Int) h_6 =>
            (bif decide ((s1 : Int) < (b0l : Int)) then
              IdxA b0a b0l s1 1 fun a4 =>
              Ld h_6 a4 fun v3 => DI .u8 v3 fun x4 =>
              (9 : Int) ≠ 0 ∧
              IdxA b0a b0l s1 1 fun a5 =>
              Ld h_6 a5 fun v4 => DI .u8 v4 fun x5 =>
              (9 : Int) ≠ 0 ∧
              Al h_6 (.cells #[.int .u8 (Int.tmod x4 9)] 5) fun b2 h_7 =>
              (SameV (some (.pointer u0)) (.pointer u0)) ∧
              (SameV (some (.slice b0a b0l b0c)) (.slice b0a b0l b0c)) ∧
              (SameV (some (.int .i64 s1)) (.int .i64 s1)) ∧
              (IdxA b0a b0l s1 1 fun a6 =>
              SameV (some (.pointer (some a5))) (.pointer (some a6))) ∧
              (Ld h_7 a5 fun v5 => DI .u8 v5 fun x6 =>
              SameV (some (.int .u8 x5)) (.int .u8 x6)) ∧
              ((9 : Int) ≠ 0 ∧
              SameV (some (.int .u8 (IntKind.wrap .u8 (Int.tdiv x5 9)))) (.int .u8 (IntKind.wrap .u8 (Int.tdiv x5 9)))) ∧
              ∃ bs1 : ByteArray, BytesIn h_7 (some (Addr.mk b2 0 none)) 1 bs1 ∧
              CallsH Try.prog 28 [.pointer u0, .string bs1, .int .u8 (IntKind.wrap .u8 (Int.tdiv x5 9))] h_7 fun r6 h_8 =>
              r6 = .tuple #[] ∧
              again1 (IntKind.wrap .i64 (s1 + 1)) h_8
            else
              CallsH Try.prog 30 [.pointer t0, .pointer u0] h_6 fun r7 h_9 =>
              DSl r7 fun x7a x7l x7c =>
              CallsH Try.prog 29 [.pointer t0, .slice x7a x7l x7c] h_9 fun r8 h_10 =>
              DP r8 fun x8 =>
              LoopH (fun again2 (s2 : Int) h_11 =>
                (bif decide ((s2 : Int) < 9) then
                  Al h_11 (.cells #[.int .u8 (IntKind.wrap .u8 s2)] 5) fun b3 h_12 =>
                  ∃ bs2 : ByteArray, BytesIn h_12 (some (Addr.mk b3 0 none)) 1 bs2 ∧
                  CallsH Try.prog 31 [.pointer x8, .string bs2] h_12 fun r10 h_13 =>
                  ∃ (x9 : Int), ∃ (x10 : Bool), r10 = .tuple #[.int .u8 x9, .bool x10] ∧
                  Al h_13 (.cells #[.int .u8 (IntKind.wrap .u8 s2)] 5) fun b4 h_14 =>
                  ∃ bs3 : ByteArray, BytesIn h_14 (some (Addr.mk b4 0 none)) 1 bs3 ∧
                  CallsH Try.prog 31 [.pointer u0, .string bs3] h_14 fun r12 h_15 =>
                  ∃ (x11 : Int), ∃ (x12 : Bool), r12 = .tuple #[.int .u8 x11, .bool x12] ∧
                  (bif (x9 : Int) != x11 then
                    Q (.bool false) h_15
                  else
                    (bif !(x10 == x12) then
                      Q (.bool false) h_15
                    else
                      again2 (IntKind.wrap .i64 (s2 + 1)) h_15))
                else
                  CallsH Try.prog 32 [.pointer x8] h_11 fun r13 h_16 =>
                  DI .i64 r13 fun x13 =>
                  CallsH Try.prog 32 [.pointer u0] h_16 fun r14 h_17 =>
                  DI .i64 r14 fun x14 =>
                  Q (.bool ((x13 : Int) == x14)) h_17)) 0 h_10)) 0 h_3)) 0 h_2))
theorem F7_eq : (fun (a0a : Option Addr) (a0l : Nat) (a0c : Nat) (b0a : Option Addr) (b0l : Nat) (b0c : Nat) (h : Heap) (Q : Value → Heap → Prop) => fnPT Try.prog Try.f7 (fun i => bif Nat.beq i 0 then annOne 7 (codI .i64) else bif Nat.beq i 2 then annOne 8 (codI .i64) else bif Nat.beq i 4 then annOne 10 (codI .i64) else annNil) (fun _ => []) (fun i => bif Nat.beq i 10 then some ⟨[0, 0, 0, 6, 14, 30, 62, 126, 0, 0, 768, 1792, 3840, 8191], 8256⟩ else bif Nat.beq i 14 then some ⟨[0, 0, 0, 6, 14, 30, 62, 126, 0, 0, 768, 1792, 3840, 8191], 8256⟩ else none) [.slice a0a a0l a0c, .slice b0a b0l b0c] h Q) = F7 := by kernel_rfl
theorem F7_ok {a0a : Option Addr} {a0l : Nat} {a0c : Nat} {b0a : Option Addr} {b0l : Nat} {b0c : Nat} {h : Heap} {Q : Value → Heap → Prop} (H : F7 a0a a0l a0c b0a b0l b0c h Q) : CallsH Try.prog 7 [.slice a0a a0l a0c, .slice b0a b0l b0c] h Q :=
  callsH_of (ann := fun i => bif Nat.beq i 0 then annOne 7 (codI .i64) else bif Nat.beq i 2 then annOne 8 (codI .i64) else bif Nat.beq i 4 then annOne 10 (codI .i64) else annNil) (tys := fun _ => []) (pl := fun i => bif Nat.beq i 10 then some ⟨[0, 0, 0, 6, 14, 30, 62, 126, 0, 0, 768, 1792, 3840, 8191], 8256⟩ else bif Nat.beq i 14 then some ⟨[0, 0, 0, 6, 14, 30, 62, 126, 0, 0, 768, 1792, 3840, 8191], 8256⟩ else none) Try.func7 (by kernel_rfl) (by have e := F7_eq; exact (congrFun (congrFun (congrFun (congrFun (congrFun (congrFun (congrFun (congrFun (e) a0a) a0l) a0c) b0a) b0l) b0c) h) Q).symm ▸ H)

/-- headgate/headgatelaw17.alive -/
def F8 (h : Heap) (Q : Value → Heap → Prop) : Prop :=
  Al h (.cells #[.string ⟨#[97]⟩, .int .i64 1, .string ⟨#[98]⟩, .int .i64 2] 73) fun b0 h_0 =>
  CallsH Try.prog 33 [.slice (some (Addr.mk b0 0 none)) 2 2] h_0 fun r1 h_1 =>
  DP r1 fun a0 =>
  Al h_1 (.cells #[.string ⟨#[98]⟩, .int .i64 3] 73) fun b1 h_2 =>
  CallsH Try.prog 33 [.slice (some (Addr.mk b1 0 none)) 1 1] h_2 fun r3 h_3 =>
  DP r3 fun b2 =>
  CallsH Try.prog 34 [.pointer a0, .pointer b2] h_3 fun r4 h_4 =>
  DSl r4 fun l_0a l_0l l_0c =>
  (bif ((l_0l : Int) : Int) == 2 then
    IdxA l_0a l_0l 0 3 fun a1 =>
    Ld h_4 (a1.add 0) fun v0 => DS v0 fun x0 =>
    (bif strEq x0 ⟨#[97]⟩ then
      IdxA l_0a l_0l 0 3 fun a2 =>
      Ld h_4 (a2.add 2) fun v1 => DB v1 fun x1 =>
      (bif x1 then
        IdxA l_0a l_0l 1 3 fun a3 =>
        Ld h_4 (a3.add 0) fun v2 => DS v2 fun x2 =>
        (bif strEq x2 ⟨#[98]⟩ then
          IdxA l_0a l_0l 1 3 fun a4 =>
          Ld h_4 (a4.add 1) fun v3 => DI .i64 v3 fun x3 =>
          (bif (x3 : Int) == 3 then
            IdxA l_0a l_0l 1 3 fun a5 =>
            Ld h_4 (a5.add 2) fun v4 => DB v4 fun x4 =>
            Q (.bool (!x4)) h_4
          else
            Q (.bool false) h_4)
        else
          Q (.bool false) h_4)
      else
        Q (.bool false) h_4)
    else
      Q (.bool false) h_4)
  else
    Q (.bool false) h_4)
theorem F8_eq : (fun (h : Heap) (Q : Value → Heap → Prop) => fnPT Try.prog Try.f8 (fun _ => annNil) (fun _ => []) (fun _ => none) [] h Q) = F8 := by kernel_rfl
theorem F8_ok {h : Heap} {Q : Value → Heap → Prop} (H : F8 h Q) : CallsH Try.prog 8 [] h Q :=
  callsH_of (ann := fun _ => annNil) (tys := fun _ => []) (pl := fun _ => none) Try.func8 (by kernel_rfl) (by have e := F8_eq; exact (congrFun (congrFun (e) h) Q).symm ▸ H)

/-- headgate/table.New[uint8] -/
def F27 (l_0a : Option Addr) (l_0l : Nat) (l_0c : Nat) (h : Heap) (Q : Value → Heap → Prop) : Prop :=
  Al h (.map #[] 0) fun b0 h_0 =>
  Al h_0 (.cells #[.map (some b0), .slice none 0 0, .bool false] 95) fun b1 h_1 =>
  LoopH (fun again0 (s0 : Int) h_2 =>
    (bif decide ((s0 : Int) < (l_0l : Int)) then
      IdxA l_0a l_0l s0 2 fun a0 =>
      Ld h_2 (a0.add 0) fun c0 =>
      Ld h_2 (a0.add 1) fun c1 =>
      ∃ (x0 : ByteArray), ∃ (x1 : Int), (Value.agg #[c0, c1]) = .agg #[.string x0, .int .u8 x1] ∧
      Al h_2 (.cells #[.string .empty, .int .u8 0] 97) fun b2 h_3 =>
      StC h_3 ((Addr.mk b2 0 none).add 0) (.string x0) fun h_5 =>
      StC h_5 ((Addr.mk b2 0 none).add 1) (.int .u8 x1) fun h_6 =>
      Ld h_6 ((Addr.mk b1 0 none).add 0) fun v0 => DM v0 fun x2 =>
      Ld h_6 ((Addr.mk b2 0 none).add 0) fun v1 => DS v1 fun x3 =>
      Ld h_6 ((Addr.mk b2 0 none).add 1) fun v2 => DI .u8 v2 fun x4 =>
      RunU Try.prog (Instr.mapUpdate 93 (.map x2) (.string x3) (.int .u8 x4)) h_6 fun h_7 =>
      again0 (IntKind.wrap .i64 (s0 + 1)) h_7
    else
      Q (.pointer (some (Addr.mk b1 0 none))) h_2)) 0 h_1
theorem F27_eq : (fun (l_0a : Option Addr) (l_0l : Nat) (l_0c : Nat) (h : Heap) (Q : Value → Heap → Prop) => fnPT Try.prog Try.f27 (fun i => bif Nat.beq i 0 then annOne 11 (codI .i64) else annNil) (fun _ => []) (fun i => bif Nat.beq i 5 then some ⟨[0, 1, 3, 7, 0, 16, 0, 64, 255], 256⟩ else none) [.slice l_0a l_0l l_0c] h Q) = F27 := by kernel_rfl
theorem F27_ok {l_0a : Option Addr} {l_0l : Nat} {l_0c : Nat} {h : Heap} {Q : Value → Heap → Prop} (H : F27 l_0a l_0l l_0c h Q) : CallsH Try.prog 27 [.slice l_0a l_0l l_0c] h Q :=
  callsH_of (ann := fun i => bif Nat.beq i 0 then annOne 11 (codI .i64) else annNil) (tys := fun _ => []) (pl := fun i => bif Nat.beq i 5 then some ⟨[0, 1, 3, 7, 0, 16, 0, 64, 255], 256⟩ else none) Try.func27 (by kernel_rfl) (by have e := F27_eq; exact (congrFun (congrFun (congrFun (congrFun (congrFun (e) l_0a) l_0l) l_0c) h) Q).symm ▸ H)

/-- (*headgate/table.Table[uint8]).Put -/
def F28 (t0 : Option Addr) (key0 : ByteArray) (v0 : Int) (h : Heap) (Q : Value → Heap → Prop) : Prop :=
  (bif (t0).isNone then
    Q (.tuple #[]) h
  else
    NN' t0 fun a0 =>
    Ld h (a0.add 0) fun v1 => DM v1 fun x0 =>
    ∃ es0, mapEs h x0 es0 ∧ ∃ f0, Instr.findNow .string (.string key0) (es0 : Array MapEntry).toList 0 = some f0 ∧
    DI .u8 ((Option.map (fun x => x.2) f0).getD (.int .u8 0)) fun x1 =>
    (bif !(Option.isSome f0) then
      NN' t0 fun a1 =>
      StC h ((a1.add 2).add 0) (.bool false) fun h_1 =>
      NN' t0 fun a2 =>
      Ld h_1 (a2.add 0) fun v2 => DM v2 fun x2 =>
      RunU Try.prog (Instr.mapUpdate 93 (.map x2) (.string key0) (.int .u8 v0)) h_1 fun h_2 =>
      Q (.tuple #[]) h_2
    else
      NN' t0 fun a3 =>
      Ld h (a3.add 0) fun v3 => DM v3 fun x3 =>
      RunU Try.prog (Instr.mapUpdate 93 (.map x3) (.string key0) (.int .u8 v0)) h fun h_3 =>
      Q (.tuple #[]) h_3))
theorem F28_eq : (fun (t0 : Option Addr) (key0 : ByteArray) (v0 : Int) (h : Heap) (Q : Value → Heap → Prop) => fnPT Try.prog Try.f28 (fun _ => annNil) (fun _ => []) (fun _ => none) [.pointer t0, .string key0, .int .u8 v0] h Q) = F28 := by kernel_rfl
theorem F28_ok {t0 : Option Addr} {key0 : ByteArray} {v0 : Int} {h : Heap} {Q : Value → Heap → Prop} (H : F28 t0 key0 v0 h Q) : CallsH Try.prog 28 [.pointer t0, .string key0, .int .u8 v0] h Q :=
  callsH_of (ann := fun _ => annNil) (tys := fun _ => []) (pl := fun _ => none) Try.func28 (by kernel_rfl) (by have e := F28_eq; exact (congrFun (congrFun (congrFun (congrFun (congrFun (e) t0) key0) v0) h) Q).symm ▸ H)

/-- headgate/table.Apply[uint8] -/
def F29 (t0 : Option Addr) (l_0a : Option Addr) (l_0l : Nat) (l_0c : Nat) (h : Heap) (Q : Value → Heap → Prop) : Prop :=
  CallsH Try.prog 42 [.pointer t0] h fun r0 h_0 =>
  DP r0 fun c0 =>
  LoopH (fun again0 (s0 : Int) h_1 =>
    (bif decide ((s0 : Int) < (l_0l : Int)) then
      IdxA l_0a l_0l s0 3 fun a0 =>
      Ld h_1 (a0.add 0) fun c1 =>
      Ld h_1 (a0.add 1) fun c2 =>
      Ld h_1 (a0.add 2) fun c3 =>
      ∃ (x0 : ByteArray), ∃ (x1 : Int), ∃ (x2 : Bool), (Value.agg #[c1, c2, c3]) = .agg #[.string x0, .int .u8 x1, .bool x2] ∧
      Al h_1 (.cells #[.string .empty, .int .u8 0, .bool false] 100) fun b0 h_2 =>
      StC h_2 ((Addr.mk b0 0 none).add 0) (.string x0) fun h_4 =>
      StC h_4 ((Addr.mk b0 0 none).add 1) (.int .u8 x1) fun h_5 =>
      StC h_5 ((Addr.mk b0 0 none).add 2) (.bool x2) fun h_6 =>
      Ld h_6 ((Addr.mk b0 0 none).add 2) fun v0 => DB v0 fun x3 =>
      (bif x3 then
        Ld h_6 ((Addr.mk b0 0 none).add 0) fun v1 => DS v1 fun x4 =>
        CallsH Try.prog 43 [.pointer c0, .string x4] h_6 fun r3 h_7 =>
        DB r3 fun x5 =>
        again0 (IntKind.wrap .i64 (s0 + 1)) h_7
      else
        Ld h_6 ((Addr.mk b0 0 none).add 0) fun v2 => DS v2 fun x6 =>
        Ld h_6 ((Addr.mk b0 0 none).add 1) fun v3 => DI .u8 v3 fun x7 =>
        CallsH Try.prog 28 [.pointer c0, .string x6, .int .u8 x7] h_6 fun r4 h_8 =>
        r4 = .tuple #[] ∧
        again0 (IntKind.wrap .i64 (s0 + 1)) h_8)
    else
      Q (.pointer c0) h_1)) 0 h_0
theorem F29_eq : (fun (t0 : Option Addr) (l_0a : Option Addr) (l_0l : Nat) (l_0c : Nat) (h : Heap) (Q : Value → Heap → Prop) => fnPT Try.prog Try.f29 (fun i => bif Nat.beq i 0 then annOne 12 (codI .i64) else annNil) (fun _ => []) (fun _ => none) [.pointer t0, .slice l_0a l_0l l_0c] h Q) = F29 := by kernel_rfl
theorem F29_ok {t0 : Option Addr} {l_0a : Option Addr} {l_0l : Nat} {l_0c : Nat} {h : Heap} {Q : Value → Heap → Prop} (H : F29 t0 l_0a l_0l l_0c h Q) : CallsH Try.prog 29 [.pointer t0, .slice l_0a l_0l l_0c] h Q :=
  callsH_of (ann := fun i => bif Nat.beq i 0 then annOne 12 (codI .i64) else annNil) (tys := fun _ => []) (pl := fun _ => none) Try.func29 (by kernel_rfl) (by have e := F29_eq; exact (congrFun (congrFun (congrFun (congrFun (congrFun (congrFun (e) t0) l_0a) l_0l) l_0c) h) Q).symm ▸ H)

/-- headgate/table.Diff[uint8] -/
def F30 (a0 : Option Addr) (b0 : Option Addr) (h : Heap) (Q : Value → Heap → Prop) : Prop :=
  Al h (.cells #[.pointer a0] 61) fun b1 h_0 =>
  Al h_0 (.cells #[.pointer b0] 61) fun b2 h_1 =>
  Al h_1 (.cells #[.slice none 0 0] 65) fun b3 h_2 =>
  Ld h_2 (Addr.mk b2 0 none) fun v0 => DP v0 fun x0 =>
  CallsH Try.prog 44 [.pointer x0] h_2 fun r3 h_3 =>
  ∃ (x1 : Value), r3 = x1 ∧
  RangeFn Try.prog x1 2 none h_3 (fun l_0 rec_0 args0 h_4 Q_0 =>
    ∃ (y0 : ByteArray), ∃ (y1 : Int), args0 = [.string y0, .int .u8 y1] ∧
    h_4[l_0]? = some (rec_0 .ready none) ∧
    Ld (h_4.setIfInBounds l_0 (rec_0 .busy none)) (Addr.mk b1 0 none) fun v1 => DP v1 fun x2 =>
    CallsH Try.prog 31 [.pointer x2, .string y0] (h_4.setIfInBounds l_0 (rec_0 .busy none)) fun r4 h_5 =>
    ∃ (x3 : Int), ∃ (x4 : Bool), r4 = .tuple #[.int .u8 x3, .bool x4] ∧
    (bif !x4 then
      Ld h_5 (Addr.mk b3 0 none) fun v2 => DSl v2 fun x5a x5l x5c =>
      Al h_5 (.cells #[.string y0, .int .u8 y1, .bool false] 100) fun b4 h_6 =>
      RunH Try.prog (Builtin.append_ #[65, 65] 65 #[.slice x5a x5l x5c, .slice (some (Addr.mk b4 0 none)) 1 1]) h_6 fun r6 h_7 =>
      DSl r6 fun x6a x6l x6c =>
      StC h_7 ((Addr.mk b3 0 none).add 0) (.slice x6a x6l x6c) fun h_9 =>
      h_9[l_0]? = some (rec_0 .busy none) ∧ Q_0 (.bool true) (h_9.setIfInBounds l_0 (rec_0 .ready none))
    else
      (bif (x3 : Int) != y1 then
        Ld h_5 (Addr.mk b3 0 none) fun v3 => DSl v3 fun x7a x7l x7c =>
        Al h_5 (.cells #[.string y0, .int .u8 y1, .bool false] 100) fun b5 h_10 =>
        RunH Try.prog (Builtin.append_ #[65, 65] 65 #[.slice x7a x7l x7c, .slice (some (Addr.mk b5 0 none)) 1 1]) h_10 fun r9 h_11 =>
        DSl r9 fun x8a x8l x8c =>
        StC h_11 ((Addr.mk b3 0 none).add 0) (.slice x8a x8l x8c) fun h_13 =>
        h_13[l_0]? = some (rec_0 .busy none) ∧ Q_0 (.bool true) (h_13.setIfInBounds l_0 (rec_0 .ready none))
      else
        h_5[l_0]? = some (rec_0 .busy none) ∧ Q_0 (.bool true) (h_5.setIfInBounds l_0 (rec_0 .ready none))))) (fun pend0 h_14 =>
    pend0 = none ∧
    Ld h_14 (Addr.mk b1 0 none) fun v4 => DP v4 fun x9 =>
    CallsH Try.prog 44 [.pointer x9] h_14 fun r11 h_15 =>
    ∃ (x10 : Value), r11 = x10 ∧
    RangeFn Try.prog x10 2 none h_15 (fun l_1 rec_1 args1 h_16 Q_1 =>
      ∃ (y2 : ByteArray), ∃ (y3 : Int), args1 = [.string y2, .int .u8 y3] ∧
      h_16[l_1]? = some (rec_1 .ready none) ∧
      Ld (h_16.setIfInBounds l_1 (rec_1 .busy none)) (Addr.mk b2 0 none) fun v5 => DP v5 fun x11 =>
      CallsH Try.prog 31 [.pointer x11, .string y2] (h_16.setIfInBounds l_1 (rec_1 .busy none)) fun r12 h_17 =>
      ∃ (x12 : Int), ∃ (x13 : Bool), r12 = .tuple #[.int .u8 x12, .bool x13] ∧
      (bif !x13 then
        Ld h_17 (Addr.mk b3 0 none) fun v6 => DSl v6 fun x14a x14l x14c =>
        Al h_17 (.cells #[.string y2, .int .u8 0, .bool true] 100) fun b6 h_18 =>
        RunH Try.prog (Builtin.append_ #[65, 65] 65 #[.slice x14a x14l x14c, .slice (some (Addr.mk b6 0 none)) 1 1]) h_18 fun r14 h_19 =>
        DSl r14 fun x15a x15l x15c =>
        StC h_19 ((Addr.mk b3 0 none).add 0) (.slice x15a x15l x15c) fun h_21 =>
        h_21[l_1]? = some (rec_1 .busy none) ∧ Q_1 (.bool true) (h_21.setIfInBounds l_1 (rec_1 .ready none))
      else
        h_17[l_1]? = some (rec_1 .busy none) ∧ Q_1 (.bool true) (h_17.setIfInBounds l_1 (rec_1 .ready none)))) (fun pend1 h_22 =>
      pend1 = none ∧
      Ld h_22 (Addr.mk b3 0 none) fun v7 => DSl v7 fun x16a x16l x16c =>
      CallsH Try.prog 45 [.slice x16a x16l x16c, .func (.func 46) #[] #[]] h_22 fun r16 h_23 =>
      r16 = .tuple #[] ∧
      Ld h_23 (Addr.mk b3 0 none) fun v8 => DSl v8 fun x17a x17l x17c =>
      h_23[h_15.size]? = some (.deferred (some [])) ∧
      (h_23.setIfInBounds h_15.size (.deferred none))[h_3.size]? = some (.deferred (some [])) ∧
      Q (.slice x17a x17l x17c) ((h_23.setIfInBounds h_15.size (.deferred none)).setIfInBounds h_3.size (.deferred none))))
theorem F30_eq : (fun (a0 : Option Addr) (b0 : Option Addr) (h : Heap) (Q : Value → Heap → Prop) => fnPT Try.prog Try.f30 (fun _ => annNil) (fun i => bif Nat.beq i 0 then [9, 5] else bif Nat.beq i 2 then [9, 5] else []) (fun _ => none) [.pointer a0, .pointer b0] h Q) = F30 := by kernel_rfl
theorem F30_ok {a0 : Option Addr} {b0 : Option Addr} {h : Heap} {Q : Value → Heap → Prop} (H : F30 a0 b0 h Q) : CallsH Try.prog 30 [.pointer a0, .pointer b0] h Q :=
  callsH_of (ann := fun _ => annNil) (tys := fun i => bif Nat.beq i 0 then [9, 5] else bif Nat.beq i 2 then [9, 5] else []) (pl := fun _ => none) Try.func30 (by kernel_rfl) (by have e := F30_eq; exact (congrFun (congrFun (congrFun (congrFun (e) a0) b0) h) Q).symm ▸ H)

/-- (*headgate/table.Table[uint8]).Get -/
def F31 (t0 : Option Addr) (key0 : ByteArray) (h : Heap) (Q : Value → Heap → Prop) : Prop :=
  (bif (t0).isNone then
    Q (.tuple #[.int .u8 0, .bool false]) h
  else
    NN' t0 fun a0 =>
    Ld h (a0.add 0) fun v0 => DM v0 fun x0 =>
    ∃ es0, mapEs h x0 es0 ∧ ∃ f0, Instr.findNow .string (.string key0) (es0 : Array MapEntry).toList 0 = some f0 ∧
    DI .u8 ((Option.map (fun x => x.2) f0).getD (.int .u8 0)) fun x1 =>
    Q (.tuple #[.int .u8 x1, .bool (Option.isSome f0)]) h)
theorem F31_eq : (fun (t0 : Option Addr) (key0 : ByteArray) (h : Heap) (Q : Value → Heap → Prop) => fnPT Try.prog Try.f31 (fun _ => annNil) (fun _ => []) (fun _ => none) [.pointer t0, .string key0] h Q) = F31 := by kernel_rfl
theorem F31_ok {t0 : Option Addr} {key0 : ByteArray} {h : Heap} {Q : Value → Heap → Prop} (H : F31 t0 key0 h Q) : CallsH Try.prog 31 [.pointer t0, .string key0] h Q :=
  callsH_of (ann := fun _ => annNil) (tys := fun _ => []) (pl := fun _ => none) Try.func31 (by kernel_rfl) (by have e := F31_eq; exact (congrFun (congrFun (congrFun (congrFun (e) t0) key0) h) Q).symm ▸ H)

/-- (*headgate/table.Table[uint8]).Len -/
def F32 (t0 : Option Addr) (h : Heap) (Q : Value → Heap → Prop) : Prop :=
  (bif (t0).isNone then
    Q (.int .i64 0) h
  else
    NN' t0 fun a0 =>
    Ld h (a0.add 0) fun v0 => DM v0 fun x0 =>
    ∃ es0, mapEs h x0 es0 ∧
    Q (.int .i64 ((es0 : Array MapEntry).size : Int)) h)
theorem F32_eq : (fun (t0 : Option Addr) (h : Heap) (Q : Value → Heap → Prop) => fnPT Try.prog Try.f32 (fun _ => annNil) (fun _ => []) (fun _ => none) [.pointer t0] h Q) = F32 := by kernel_rfl
theorem F32_ok {t0 : Option Addr} {h : Heap} {Q : Value → Heap → Prop} (H : F32 t0 h Q) : CallsH Try.prog 32 [.pointer t0] h Q :=
  callsH_of (ann := fun _ => annNil) (tys := fun _ => []) (pl := fun _ => none) Try.func32 (by kernel_rfl) (by have e := F32_eq; exact (congrFun (congrFun (congrFun (e) t0) h) Q).symm ▸ H)

/-- headgate/table.New[int] -/
def F33 (l_0a : Option Addr) (l_0l : Nat) (l_0c : Nat) (h : Heap) (Q : Value → Heap → Prop) : Prop :=
  Al h (.map #[] 0) fun b0 h_0 =>
  Al h_0 (.cells #[.map (some b0), .slice none 0 0, .bool false] 109) fun b1 h_1 =>
  LoopH (fun again0 (s0 : Int) h_2 =>
    (bif decide ((s0 : Int) < (l_0l : Int)) then
      IdxA l_0a l_0l s0 2 fun a0 =>
      Ld h_2 (a0.add 0) fun c0 =>
      Ld h_2 (a0.add 1) fun c1 =>
      ∃ (x0 : ByteArray), ∃ (x1 : Int), (Value.agg #[c0, c1]) = .agg #[.string x0, .int .i64 x1] ∧
      Al h_2 (.cells #[.string .empty, .int .i64 0] 73) fun b2 h_3 =>
      StC h_3 ((Addr.mk b2 0 none).add 0) (.string x0) fun h_5 =>
      StC h_5 ((Addr.mk b2 0 none).add 1) (.int .i64 x1) fun h_6 =>
      Ld h_6 ((Addr.mk b1 0 none).add 0) fun v0 => DM v0 fun x2 =>
      Ld h_6 ((Addr.mk b2 0 none).add 0) fun v1 => DS v1 fun x3 =>
      Ld h_6 ((Addr.mk b2 0 none).add 1) fun v2 => DI .i64 v2 fun x4 =>
      RunU Try.prog (Instr.mapUpdate 107 (.map x2) (.string x3) (.int .i64 x4)) h_6 fun h_7 =>
      again0 (IntKind.wrap .i64 (s0 + 1)) h_7
    else
      Q (.pointer (some (Addr.mk b1 0 none))) h_2)) 0 h_1
theorem F33_eq : (fun (l_0a : Option Addr) (l_0l : Nat) (l_0c : Nat) (h : Heap) (Q : Value → Heap → Prop) => fnPT Try.prog Try.f33 (fun i => bif Nat.beq i 0 then annOne 11 (codI .i64) else annNil) (fun _ => []) (fun i => bif Nat.beq i 5 then some ⟨[0, 1, 3, 7, 0, 16, 0, 64, 255], 256⟩ else none) [.slice l_0a l_0l l_0c] h Q) = F33 := by kernel_rfl
theorem F33_ok {l_0a : Option Addr} {l_0l : Nat} {l_0c : Nat} {h : Heap} {Q : Value → Heap → Prop} (H : F33 l_0a l_0l l_0c h Q) : CallsH Try.prog 33 [.slice l_0a l_0l l_0c] h Q :=
  callsH_of (ann := fun i => bif Nat.beq i 0 then annOne 11 (codI .i64) else annNil) (tys := fun _ => []) (pl := fun i => bif Nat.beq i 5 then some ⟨[0, 1, 3, 7, 0, 16, 0, 64, 255], 256⟩ else none) Try.func33 (by kernel_rfl) (by have e := F33_eq; exact (congrFun (congrFun (congrFun (congrFun (congrFun (e) l_0a) l_0l) l_0c) h) Q).symm ▸ H)

/-- headgate/table.Diff[int] -/
def F34 (a0 : Option Addr) (b0 : Option Addr) (h : Heap) (Q : Value → Heap → Prop) : Prop :=
  Al h (.cells #[.pointer a0] 70) fun b1 h_0 =>
  Al h_0 (.cells #[.pointer b0] 70) fun b2 h_1 =>
  Al h_1 (.cells #[.slice none 0 0] 74) fun b3 h_2 =>
  Ld h_2 (Addr.mk b2 0 none) fun v0 => DP v0 fun x0 =>
  CallsH Try.prog 47 [.pointer x0] h_2 fun r3 h_3 =>
  ∃ (x1 : Value), r3 = x1 ∧
  RangeFn Try.prog x1 2 none h_3 (fun l_0 rec_0 args0 h_4 Q_0 =>
    ∃ (y0 : ByteArray), ∃ (y1 : Int), args0 = [.string y0, .int .i64 y1] ∧
    h_4[l_0]? = some (rec_0 .ready none) ∧
    Ld (h_4.setIfInBounds l_0 (rec_0 .busy none)) (Addr.mk b1 0 none) fun v1 => DP v1 fun x2 =>
    CallsH Try.prog 48 [.pointer x2, .string y0] (h_4.setIfInBounds l_0 (rec_0 .busy none)) fun r4 h_5 =>
    ∃ (x3 : Int), ∃ (x4 : Bool), r4 = .tuple #[.int .i64 x3, .bool x4] ∧
    (bif !x4 then
      Ld h_5 (Addr.mk b3 0 none) fun v2 => DSl v2 fun x5a x5l x5c =>
      Al h_5 (.cells #[.string y0, .int .i64 y1, .bool false] 77) fun b4 h_6 =>
      RunH Try.prog (Builtin.append_ #[74, 74] 74 #[.slice x5a x5l x5c, .slice (some (Addr.mk b4 0 none)) 1 1]) h_6 fun r6 h_7 =>
      DSl r6 fun x6a x6l x6c =>
      StC h_7 ((Addr.mk b3 0 none).add 0) (.slice x6a x6l x6c) fun h_9 =>
      h_9[l_0]? = some (rec_0 .busy none) ∧ Q_0 (.bool true) (h_9.setIfInBounds l_0 (rec_0 .ready none))
    else
      (bif (x3 : Int) != y1 then
        Ld h_5 (Addr.mk b3 0 none) fun v3 => DSl v3 fun x7a x7l x7c =>
        Al h_5 (.cells #[.string y0, .int .i64 y1, .bool false] 77) fun b5 h_10 =>
        RunH Try.prog (Builtin.append_ #[74, 74] 74 #[.slice x7a x7l x7c, .slice (some (Addr.mk b5 0 none)) 1 1]) h_10 fun r9 h_11 =>
        DSl r9 fun x8a x8l x8c =>
        StC h_11 ((Addr.mk b3 0 none).add 0) (.slice x8a x8l x8c) fun h_13 =>
        h_13[l_0]? = some (rec_0 .busy none) ∧ Q_0 (.bool true) (h_13.setIfInBounds l_0 (rec_0 .ready none))
      else
        h_5[l_0]? = some (rec_0 .busy none) ∧ Q_0 (.bool true) (h_5.setIfInBounds l_0 (rec_0 .ready none))))) (fun pend0 h_14 =>
    pend0 = none ∧
    Ld h_14 (Addr.mk b1 0 none) fun v4 => DP v4 fun x9 =>
    CallsH Try.prog 47 [.pointer x9] h_14 fun r11 h_15 =>
    ∃ (x10 : Value), r11 = x10 ∧
    RangeFn Try.prog x10 2 none h_15 (fun l_1 rec_1 args1 h_16 Q_1 =>
      ∃ (y2 : ByteArray), ∃ (y3 : Int), args1 = [.string y2, .int .i64 y3] ∧
      h_16[l_1]? = some (rec_1 .ready none) ∧
      Ld (h_16.setIfInBounds l_1 (rec_1 .busy none)) (Addr.mk b2 0 none) fun v5 => DP v5 fun x11 =>
      CallsH Try.prog 48 [.pointer x11, .string y2] (h_16.setIfInBounds l_1 (rec_1 .busy none)) fun r12 h_17 =>
      ∃ (x12 : Int), ∃ (x13 : Bool), r12 = .tuple #[.int .i64 x12, .bool x13] ∧
      (bif !x13 then
        Ld h_17 (Addr.mk b3 0 none) fun v6 => DSl v6 fun x14a x14l x14c =>
        Al h_17 (.cells #[.string y2, .int .i64 0, .bool true] 77) fun b6 h_18 =>
        RunH Try.prog (Builtin.append_ #[74, 74] 74 #[.slice x14a x14l x14c, .slice (some (Addr.mk b6 0 none)) 1 1]) h_18 fun r14 h_19 =>
        DSl r14 fun x15a x15l x15c =>
        StC h_19 ((Addr.mk b3 0 none).add 0) (.slice x15a x15l x15c) fun h_21 =>
        h_21[l_1]? = some (rec_1 .busy none) ∧ Q_1 (.bool true) (h_21.setIfInBounds l_1 (rec_1 .ready none))
      else
        h_17[l_1]? = some (rec_1 .busy none) ∧ Q_1 (.bool true) (h_17.setIfInBounds l_1 (rec_1 .ready none)))) (fun pend1 h_22 =>
      pend1 = none ∧
      Ld h_22 (Addr.mk b3 0 none) fun v7 => DSl v7 fun x16a x16l x16c =>
      CallsH Try.prog 49 [.slice x16a x16l x16c, .func (.func 50) #[] #[]] h_22 fun r16 h_23 =>
      r16 = .tuple #[] ∧
      Ld h_23 (Addr.mk b3 0 none) fun v8 => DSl v8 fun x17a x17l x17c =>
      h_23[h_15.size]? = some (.deferred (some [])) ∧
      (h_23.setIfInBounds h_15.size (.deferred none))[h_3.size]? = some (.deferred (some [])) ∧
      Q (.slice x17a x17l x17c) ((h_23.setIfInBounds h_15.size (.deferred none)).setIfInBounds h_3.size (.deferred none))))
theorem F34_eq : (fun (a0 : Option Addr) (b0 : Option Addr) (h : Heap) (Q : Value → Heap → Prop) => fnPT Try.prog Try.f34 (fun _ => annNil) (fun i => bif Nat.beq i 0 then [9, 3] else bif Nat.beq i 2 then [9, 3] else []) (fun _ => none) [.pointer a0, .pointer b0] h Q) = F34 := by kernel_rfl
theorem F34_ok {a0 : Option Addr} {b0 : Option Addr} {h : Heap} {Q : Value → Heap → Prop} (H : F34 a0 b0 h Q) : CallsH Try.prog 34 [.pointer a0, .pointer b0] h Q :=
  callsH_of (ann := fun _ => annNil) (tys := fun i => bif Nat.beq i 0 then [9, 3] else bif Nat.beq i 2 then [9, 3] else []) (pl := fun _ => none) Try.func34 (by kernel_rfl) (by have e := F34_eq; exact (congrFun (congrFun (congrFun (congrFun (e) a0) b0) h) Q).symm ▸ H)

/-- slices.BinarySearch[[]string,string] -/
def F36 (x0a : Option Addr) (x0l : Nat) (x0c : Nat) (target0 : ByteArray) (h : Heap) (Q : Value → Heap → Prop) : Prop :=
  LoopH (fun again0 (s0 : Int × Int) h_0 =>
    (bif decide ((s0.1 : Int) < s0.2) then
      0 ≤ (1 : Int) ∧
      IdxA x0a x0l (IntKind.wrap .i64 (shrI .u64 (IntKind.wrap .u64 (IntKind.wrap .i64 (s0.1 + s0.2))) 1)) 1 fun a0 =>
      Ld h_0 a0 fun v0 => DS v0 fun x1 =>
      CallsH Try.prog 53 [.string x1, .string target0] h_0 fun r0 h_1 =>
      DB r0 fun x2 =>
      (bif x2 then
        again0 (IntKind.wrap .i64 ((IntKind.wrap .i64 (shrI .u64 (IntKind.wrap .u64 (IntKind.wrap .i64 (s0.1 + s0.2))) 1)) + 1), s0.2) h_1
      else
        again0 (s0.1, IntKind.wrap .i64 (shrI .u64 (IntKind.wrap .u64 (IntKind.wrap .i64 (s0.1 + s0.2))) 1)) h_1)
    else
      (bif decide ((s0.1 : Int) < (x0l : Int)) then
        IdxA x0a x0l s0.1 1 fun a1 =>
        Ld h_0 a1 fun v1 => DS v1 fun x3 =>
        (bif strEq x3 target0 then
          Q (.tuple #[.int .i64 s0.1, .bool true]) h_0
        else
          IdxA x0a x0l s0.1 1 fun a2 =>
          Ld h_0 a2 fun v2 => DS v2 fun x4 =>
          CallsH Try.prog 54 [.string x4] h_0 fun r1 h_2 =>
          DB r1 fun x5 =>
          (bif x5 then
            CallsH Try.prog 54 [.string target0] h_2 fun r2 h_3 =>
            DB r2 fun x6 =>
            Q (.tuple #[.int .i64 s0.1, .bool x6]) h_3
          else
            Q (.tuple #[.int .i64 s0.1, .bool false]) h_2))
      else
        Q (.tuple #[.int .i64 s0.1, .bool false]) h_0))) (0, (x0l : Int)) h
theorem F36_eq : (fun (x0a : Option Addr) (x0l : Nat) (x0c : Nat) (target0 : ByteArray) (h : Heap) (Q : Value → Heap → Prop) => fnPT Try.prog Try.f36 (fun i => bif Nat.beq i 0 then annCons 7 (codI .i64) (annOne 8 (codI .i64)) else annNil) (fun _ => []) (fun _ => none) [.slice x0a x0l x0c, .string target0] h Q) = F36 := by kernel_rfl
theorem F36_ok {x0a : Option Addr} {x0l : Nat} {x0c : Nat} {target0 : ByteArray} {h : Heap} {Q : Value → Heap → Prop} (H : F36 x0a x0l x0c target0 h Q) : CallsH Try.prog 36 [.slice x0a x0l x0c, .string target0] h Q :=
  callsH_of (ann := fun i => bif Nat.beq i 0 then annCons 7 (codI .i64) (annOne 8 (codI .i64)) else annNil) (tys := fun _ => []) (pl := fun _ => none) Try.func36 (by kernel_rfl) (by have e := F36_eq; exact (congrFun (congrFun (congrFun (congrFun (congrFun (congrFun (e) x0a) x0l) x0c) target0) h) Q).symm ▸ H)

/-- (*headgate/table.Table[uint8]).Copy -/
def F42 (t0 : Option Addr) (h : Heap) (Q : Value → Heap → Prop) : Prop :=
  (bif (t0).isNone then
    CallsH Try.prog 27 [.slice none 0 0] h fun r0 h_0 =>
    DP r0 fun x0 =>
    Q (.pointer x0) h_0
  else
    NN' t0 fun a0 =>
    Ld h (a0.add 0) fun v0 => DM v0 fun x1 =>
    NN' t0 fun a1 =>
    Ld h (a1.add 1) fun v1 => DSl v1 fun x2a x2l x2c =>
    NN' t0 fun a2 =>
    Ld h (a2.add 2) fun v2 => DB v2 fun x3 =>
    CallsH Try.prog 60 [.map x1] h fun r1 h_1 =>
    DM r1 fun x4 =>
    (SameV (some (.pointer t0)) (.pointer t0)) ∧
    (NN' t0 fun a3 =>
    SameV (some (.pointer (some a1))) (.pointer (some a3))) ∧
    (SameV (some (.pointer (some (a1.add 1)))) (.pointer (some (a1.add 1)))) ∧
    (Ld h_1 (a1.add 1) fun v3 => DSl v3 fun x5a x5l x5c =>
    SameV (some (.slice x2a x2l x2c)) (.slice x5a x5l x5c)) ∧
    (SameV (some (.pointer t0)) (.pointer t0)) ∧
    (NN' t0 fun a4 =>
    SameV (some (.pointer (some a2))) (.pointer (some a4))) ∧
    (SameV (some (.pointer (some (a2.add 2)))) (.pointer (some (a2.add 2)))) ∧
    (Ld h_1 (a2.add 2) fun v4 => DB v4 fun x6 =>
    SameV (some (.bool x3)) (.bool x6)) ∧
    Al h_1 (.cells #[.map x4, .slice x2a x2l x2c, .bool x3] 95) fun b0 h_2 =>
    Q (.pointer (some (Addr.mk b0 0 none))) h_2)
theorem F42_eq : (fun (t0 : Option Addr) (h : Heap) (Q : Value → Heap → Prop) => fnPT Try.prog Try.f42 (fun _ => annNil) (fun _ => []) (fun i => bif Nat.beq i 3 then some ⟨[0, 1, 3, 7, 15, 0, 32, 96, 224, 0, 512, 1536, 3584, 8191, 16383, 32767], 16400⟩ else none) [.pointer t0] h Q) = F42 := by kernel_rfl
theorem F42_ok {t0 : Option Addr} {h : Heap} {Q : Value → Heap → Prop} (H : F42 t0 h Q) : CallsH Try.prog 42 [.pointer t0] h Q :=
  callsH_of (ann := fun _ => annNil) (tys := fun _ => []) (pl := fun i => bif Nat.beq i 3 then some ⟨[0, 1, 3, 7, 15, 0, 32, 96, 224, 0, 512, 1536, 3584, 8191, 16383, 32767], 16400⟩ else none) Try.func42 (by kernel_rfl) (by have e := F42_eq; exact (congrFun (congrFun (congrFun (e) t0) h) Q).symm ▸ H)

/-- (*headgate/table.Table[uint8]).Del -/
def F43 (t0 : Option Addr) (key0 : ByteArray) (h : Heap) (Q : Value → Heap → Prop) : Prop :=
  CallsH Try.prog 31 [.pointer t0, .string key0] h fun r0 h_0 =>
  ∃ (x0 : Int), ∃ (x1 : Bool), r0 = .tuple #[.int .u8 x0, .bool x1] ∧
  (bif !x1 then
    Q (.bool false) h_0
  else
    NN' t0 fun a0 =>
    Ld h_0 (a0.add 0) fun v0 => DM v0 fun x2 =>
    RunH Try.prog (Builtin.delete_ #[93, 9] 0 #[.map x2, .string key0]) h_0 fun r1 h_1 =>
    NN' t0 fun a1 =>
    StC h_1 ((a1.add 2).add 0) (.bool false) fun h_3 =>
    Q (.bool true) h_3)
theorem F43_eq : (fun (t0 : Option Addr) (key0 : ByteArray) (h : Heap) (Q : Value → Heap → Prop) => fnPT Try.prog Try.f43 (fun _ => annNil) (fun _ => []) (fun _ => none) [.pointer t0, .string key0] h Q) = F43 := by kernel_rfl
theorem F43_ok {t0 : Option Addr} {key0 : ByteArray} {h : Heap} {Q : Value → Heap → Prop} (H : F43 t0 key0 h Q) : CallsH Try.prog 43 [.pointer t0, .string key0] h Q :=
  callsH_of (ann := fun _ => annNil) (tys := fun _ => []) (pl := fun _ => none) Try.func43 (by kernel_rfl) (by have e := F43_eq; exact (congrFun (congrFun (congrFun (congrFun (e) t0) key0) h) Q).symm ▸ H)

/-- (*headgate/table.Table[uint8]).All -/
def F44 (t0 : Option Addr) (h : Heap) (Q : Value → Heap → Prop) : Prop :=
  CallsH Try.prog 61 [.pointer t0, .string .empty] h fun r0 h_0 =>
  ∃ (x0 : Value), r0 = x0 ∧
  Q x0 h_0
theorem F44_eq : (fun (t0 : Option Addr) (h : Heap) (Q : Value → Heap → Prop) => fnPT Try.prog Try.f44 (fun _ => annNil) (fun _ => []) (fun _ => none) [.pointer t0] h Q) = F44 := by kernel_rfl
theorem F44_ok {t0 : Option Addr} {h : Heap} {Q : Value → Heap → Prop} (H : F44 t0 h Q) : CallsH Try.prog 44 [.pointer t0] h Q :=
  callsH_of (ann := fun _ => annNil) (tys := fun _ => []) (pl := fun _ => none) Try.func44 (by kernel_rfl) (by have e := F44_eq; exact (congrFun (congrFun (congrFun (e) t0) h) Q).symm ▸ H)

/-- (*headgate/table.Table[int]).All -/
def F47 (t0 : Option Addr) (h : Heap) (Q : Value → Heap → Prop) : Prop :=
  CallsH Try.prog 63 [.pointer t0, .string .empty] h fun r0 h_0 =>
  ∃ (x0 : Value), r0 = x0 ∧
  Q x0 h_0
theorem F47_eq : (fun (t0 : Option Addr) (h : Heap) (Q : Value → Heap → Prop) => fnPT Try.prog Try.f47 (fun _ => annNil) (fun _ => []) (fun _ => none) [.pointer t0] h Q) = F47 := by kernel_rfl
theorem F47_ok {t0 : Option Addr} {h : Heap} {Q : Value → Heap → Prop} (H : F47 t0 h Q) : CallsH Try.prog 47 [.pointer t0] h Q :=
  callsH_of (ann := fun _ => annNil) (tys := fun _ => []) (pl := fun _ => none) Try.func47 (by kernel_rfl) (by have e := F47_eq; exact (congrFun (congrFun (congrFun (e) t0) h) Q).symm ▸ H)

/-- (*headgate/table.Table[int]).Get -/
def F48 (t0 : Option Addr) (key0 : ByteArray) (h : Heap) (Q : Value → Heap → Prop) : Prop :=
  (bif (t0).isNone then
    Q (.tuple #[.int .i64 0, .bool false]) h
  else
    NN' t0 fun a0 =>
    Ld h (a0.add 0) fun v0 => DM v0 fun x0 =>
    ∃ es0, mapEs h x0 es0 ∧ ∃ f0, Instr.findNow .string (.string key0) (es0 : Array MapEntry).toList 0 = some f0 ∧
    DI .i64 ((Option.map (fun x => x.2) f0).getD (.int .i64 0)) fun x1 =>
    Q (.tuple #[.int .i64 x1, .bool (Option.isSome f0)]) h)
theorem F48_eq : (fun (t0 : Option Addr) (key0 : ByteArray) (h : Heap) (Q : Value → Heap → Prop) => fnPT Try.prog Try.f48 (fun _ => annNil) (fun _ => []) (fun _ => none) [.pointer t0, .string key0] h Q) = F48 := by kernel_rfl
theorem F48_ok {t0 : Option Addr} {key0 : ByteArray} {h : Heap} {Q : Value → Heap → Prop} (H : F48 t0 key0 h Q) : CallsH Try.prog 48 [.pointer t0, .string key0] h Q :=
  callsH_of (ann := fun _ => annNil) (tys := fun _ => []) (pl := fun _ => none) Try.func48 (by kernel_rfl) (by have e := F48_eq; exact (congrFun (congrFun (congrFun (congrFun (e) t0) key0) h) Q).symm ▸ H)

/-- slices.Sorted[string] -/
def F51 (seq0 : Value) (h : Heap) (Q : Value → Heap → Prop) : Prop :=
  CallsH Try.prog 65 [seq0] h fun r0 h_0 =>
  DSl r0 fun s0a s0l s0c =>
  CallsH Try.prog 66 [.slice s0a s0l s0c] h_0 fun r1 h_1 =>
  r1 = .tuple #[] ∧
  Q (.slice s0a s0l s0c) h_1
theorem F51_eq : (fun (seq0 : Value) (h : Heap) (Q : Value → Heap → Prop) => fnPT Try.prog Try.f51 (fun _ => annNil) (fun _ => []) (fun _ => none) [seq0] h Q) = F51 := by kernel_rfl
theorem F51_ok {seq0 : Value} {h : Heap} {Q : Value → Heap → Prop} (H : F51 seq0 h Q) : CallsH Try.prog 51 [seq0] h Q :=
  callsH_of (ann := fun _ => annNil) (tys := fun _ => []) (pl := fun _ => none) Try.func51 (by kernel_rfl) (by have e := F51_eq; exact (congrFun (congrFun (congrFun (e) seq0) h) Q).symm ▸ H)

/-- cmp.Less[string] -/
def F53 (x0 : ByteArray) (y0 : ByteArray) (h : Heap) (Q : Value → Heap → Prop) : Prop :=
  CallsH Try.prog 68 [.string x0] h fun r0 h_0 =>
  DB r0 fun x1 =>
  (bif x1 then
    CallsH Try.prog 68 [.string y0] h_0 fun r1 h_1 =>
    DB r1 fun x2 =>
    (bif !x2 then
      Q (.bool true) h_1
    else
      Q (.bool (strLt x0 y0)) h_1)
  else
    Q (.bool (strLt x0 y0)) h_0)
theorem F53_eq : (fun (x0 : ByteArray) (y0 : ByteArray) (h : Heap) (Q : Value → Heap → Prop) => fnPT Try.prog Try.f53 (fun _ => annNil) (fun _ => []) (fun _ => none) [.string x0, .string y0] h Q) = F53 := by kernel_rfl
theorem F53_ok {x0 : ByteArray} {y0 : ByteArray} {h : Heap} {Q : Value → Heap → Prop} (H : F53 x0 y0 h Q) : CallsH Try.prog 53 [.string x0, .string y0] h Q :=
  callsH_of (ann := fun _ => annNil) (tys := fun _ => []) (pl := fun _ => none) Try.func53 (by kernel_rfl) (by have e := F53_eq; exact (congrFun (congrFun (congrFun (congrFun (e) x0) y0) h) Q).symm ▸ H)

/-- slices.isNaN[string] -/
def F54 (x0 : ByteArray) (h : Heap) (Q : Value → Heap → Prop) : Prop :=
  Q (.bool (!strEq x0 x0)) h
theorem F54_eq : (fun (x0 : ByteArray) (h : Heap) (Q : Value → Heap → Prop) => fnPT Try.prog Try.f54 (fun _ => annNil) (fun _ => []) (fun _ => none) [.string x0] h Q) = F54 := by kernel_rfl
theorem F54_ok {x0 : ByteArray} {h : Heap} {Q : Value → Heap → Prop} (H : F54 x0 h Q) : CallsH Try.prog 54 [.string x0] h Q :=
  callsH_of (ann := fun _ => annNil) (tys := fun _ => []) (pl := fun _ => none) Try.func54 (by kernel_rfl) (by have e := F54_eq; exact (congrFun (congrFun (congrFun (e) x0) h) Q).symm ▸ H)

/-- headgate/table.over[string]$1 -/
def F55 (yield0 : Value) (c0 : Addr) (c1 : Addr) (h : Heap) (Q : Value → Heap → Prop) : Prop :=
  Ld h c0 fun v0 => DSl v0 fun x0a x0l x0c =>
  LoopH (fun again0 (s0 : Int) h_0 =>
    (bif decide ((s0 : Int) < (x0l : Int)) then
      IdxA x0a x0l s0 1 fun a0 =>
      Ld h_0 a0 fun v1 => DS v1 fun k0 =>
      Ld h_0 c1 fun v2 => DM v2 fun x1 =>
      ∃ es0, mapEs h_0 x1 es0 ∧ ∃ f0, Instr.findNow .string (.string k0) (es0 : Array MapEntry).toList 0 = some f0 ∧
      DS ((Option.map (fun x => x.2) f0).getD (.string .empty)) fun x2 =>
      CallV Try.prog yield0 [.string k0, .string x2] h_0 fun r0 h_1 =>
      DB r0 fun x3 =>
      (bif !x3 then
        Q (.tuple #[]) h_1
      else
        again0 (IntKind.wrap .i64 (s0 + 1)) h_1)
    else
      Q (.tuple #[]) h_0)) 0 h
theorem F55_eq : (fun (yield0 : Value) (c0 : Addr) (c1 : Addr) (h : Heap) (Q : Value → Heap → Prop) => fnPT Try.prog Try.f55 (fun i => bif Nat.beq i 0 then annOne 8 (codI .i64) else annNil) (fun _ => []) (fun _ => none) [yield0, .pointer (some c0), .pointer (some c1)] h Q) = F55 := by kernel_rfl
theorem F55_ok {yield0 : Value} {c0 : Addr} {c1 : Addr} {h : Heap} {Q : Value → Heap → Prop} (H : F55 yield0 c0 c1 h Q) : CallsH Try.prog 55 [yield0, .pointer (some c0), .pointer (some c1)] h Q :=
  callsH_of (ann := fun i => bif Nat.beq i 0 then annOne 8 (codI .i64) else annNil) (tys := fun _ => []) (pl := fun _ => none) Try.func55 (by kernel_rfl) (by have e := F55_eq; exact (congrFun (congrFun (congrFun (congrFun (congrFun (e) yield0) c0) c1) h) Q).symm ▸ H)

/-- (*headgate/table.Table[uint8]).From -/
def F61 (t0 : Option Addr) (key0 : ByteArray) (h : Heap) (Q : Value → Heap → Prop) : Prop :=
  CallsH Try.prog 42 [.pointer t0] h fun r0 h_0 =>
  DP r0 fun c0 =>
  CallsH Try.prog 80 [.pointer c0] h_0 fun r1 h_1 =>
  DSl r1 fun keys0a keys0l keys0c =>
  CallsH Try.prog 36 [.slice keys0a keys0l keys0c, .string key0] h_1 fun r2 h_2 =>
  ∃ (x0 : Int), ∃ (x1 : Bool), r2 = .tuple #[.int .i64 x0, .bool x1] ∧
  SlV keys0a keys0c 1 x0 (keys0l : Int) (keys0c : Int) fun s0a s0l s0c =>
  NN' c0 fun a0 =>
  Ld h_2 (a0.add 0) fun v0 => DM v0 fun x2 =>
  CallsH Try.prog 81 [.slice s0a s0l s0c, .map x2] h_2 fun r3 h_3 =>
  ∃ (x3 : Value), r3 = x3 ∧
  Q x3 h_3
theorem F61_eq : (fun (t0 : Option Addr) (key0 : ByteArray) (h : Heap) (Q : Value → Heap → Prop) => fnPT Try.prog Try.f61 (fun _ => annNil) (fun _ => []) (fun i => bif Nat.beq i 4 then some ⟨[0, 0, 3, 0, 8, 24, 56, 127, 255], 128⟩ else none) [.pointer t0, .string key0] h Q) = F61 := by kernel_rfl
theorem F61_ok {t0 : Option Addr} {key0 : ByteArray} {h : Heap} {Q : Value → Heap → Prop} (H : F61 t0 key0 h Q) : CallsH Try.prog 61 [.pointer t0, .string key0] h Q :=
  callsH_of (ann := fun _ => annNil) (tys := fun _ => []) (pl := fun i => bif Nat.beq i 4 then some ⟨[0, 0, 3, 0, 8, 24, 56, 127, 255], 128⟩ else none) Try.func61 (by kernel_rfl) (by have e := F61_eq; exact (congrFun (congrFun (congrFun (congrFun (e) t0) key0) h) Q).symm ▸ H)

/-- (*headgate/table.Table[int]).From -/
def F63 (t0 : Option Addr) (key0 : ByteArray) (h : Heap) (Q : Value → Heap → Prop) : Prop :=
  CallsH Try.prog 90 [.pointer t0] h fun r0 h_0 =>
  DP r0 fun c0 =>
  CallsH Try.prog 91 [.pointer c0] h_0 fun r1 h_1 =>
  DSl r1 fun keys0a keys0l keys0c =>
  CallsH Try.prog 36 [.slice keys0a keys0l keys0c, .string key0] h_1 fun r2 h_2 =>
  ∃ (x0 : Int), ∃ (x1 : Bool), r2 = .tuple #[.int .i64 x0, .bool x1] ∧
  SlV keys0a keys0c 1 x0 (keys0l : Int) (keys0c : Int) fun s0a s0l s0c =>
  NN' c0 fun a0 =>
  Ld h_2 (a0.add 0) fun v0 => DM v0 fun x2 =>
  CallsH Try.prog 92 [.slice s0a s0l s0c, .map x2] h_2 fun r3 h_3 =>
  ∃ (x3 : Value), r3 = x3 ∧
  Q x3 h_3
theorem F63_eq : (fun (t0 : Option Addr) (key0 : ByteArray) (h : Heap) (Q : Value → Heap → Prop) => fnPT Try.prog Try.f63 (fun _ => annNil) (fun _ => []) (fun i => bif Nat.beq i 4 then some ⟨[0, 0, 3, 0, 8, 24, 56, 127, 255], 128⟩ else none) [.pointer t0, .string key0] h Q) = F63 := by kernel_rfl
theorem F63_ok {t0 : Option Addr} {key0 : ByteArray} {h : Heap} {Q : Value → Heap → Prop} (H : F63 t0 key0 h Q) : CallsH Try.prog 63 [.pointer t0, .string key0] h Q :=
  callsH_of (ann := fun _ => annNil) (tys := fun _ => []) (pl := fun i => bif Nat.beq i 4 then some ⟨[0, 0, 3, 0, 8, 24, 56, 127, 255], 128⟩ else none) Try.func63 (by kernel_rfl) (by have e := F63_eq; exact (congrFun (congrFun (congrFun (congrFun (e) t0) key0) h) Q).symm ▸ H)

/-- slices.Collect[string] -/
def F65 (seq0 : Value) (h : Heap) (Q : Value → Heap → Prop) : Prop :=
  CallsH Try.prog 101 [.slice none 0 0, seq0] h fun r0 h_0 =>
  DSl r0 fun x0a x0l x0c =>
  Q (.slice x0a x0l x0c) h_0
theorem F65_eq : (fun (seq0 : Value) (h : Heap) (Q : Value → Heap → Prop) => fnPT Try.prog Try.f65 (fun _ => annNil) (fun _ => []) (fun _ => none) [seq0] h Q) = F65 := by kernel_rfl
theorem F65_ok {seq0 : Value} {h : Heap} {Q : Value → Heap → Prop} (H : F65 seq0 h Q) : CallsH Try.prog 65 [seq0] h Q :=
  callsH_of (ann := fun _ => annNil) (tys := fun _ => []) (pl := fun _ => none) Try.func65 (by kernel_rfl) (by have e := F65_eq; exact (congrFun (congrFun (congrFun (e) seq0) h) Q).symm ▸ H)

/-- maps.Keys[map[string]string,string,string]$1 -/
def F67 (yield0 : Value) (c0 : Addr) (h : Heap) (Q : Value → Heap → Prop) : Prop :=
  Ld h c0 fun v0 => DM v0 fun x0 =>
  RunH Try.prog (Instr.range 79 (.map x0)) h fun r0 h_0 =>
  DP r0 fun p0 =>
  LoopH (fun again0 (s0 : Unit) h_1 =>
    RunH Try.prog (Instr.next (.pointer p0) false 0) h_1 fun r1 h_2 =>
    (
      r1 = .tuple #[.bool false] ∧
      Q (.tuple #[]) h_2) ∨ (
      ∃ (k0 x1 : Value), r1 = .tuple #[.bool true, k0, x1] ∧
      RunH Try.prog (Instr.entry (.pointer p0)) h_2 fun r2 h_3 =>
      ∃ (x2 : ByteArray), ∃ (x3 : Value), r2 = .tuple #[.string x2, x3] ∧
      CallV Try.prog yield0 [.string x2] h_3 fun r3 h_4 =>
      DB r3 fun x4 =>
      (bif !x4 then
        Q (.tuple #[]) h_4
      else
        again0 () h_4))) () h_0
theorem F67_eq : (fun (yield0 : Value) (c0 : Addr) (h : Heap) (Q : Value → Heap → Prop) => fnPT Try.prog Try.f67 (fun i => bif Nat.beq i 0 then annNil else annNil) (fun i => bif Nat.beq i 1002 then [9, 0] else []) (fun _ => none) [yield0, .pointer (some c0)] h Q) = F67 := by kernel_rfl
theorem F67_ok {yield0 : Value} {c0 : Addr} {h : Heap} {Q : Value → Heap → Prop} (H : F67 yield0 c0 h Q) : CallsH Try.prog 67 [yield0, .pointer (some c0)] h Q :=
  callsH_of (ann := fun i => bif Nat.beq i 0 then annNil else annNil) (tys := fun i => bif Nat.beq i 1002 then [9, 0] else []) (pl := fun _ => none) Try.func67 (by kernel_rfl) (by have e := F67_eq; exact (congrFun (congrFun (congrFun (congrFun (e) yield0) c0) h) Q).symm ▸ H)

/-- cmp.isNaN[string] -/
def F68 (x0 : ByteArray) (h : Heap) (Q : Value → Heap → Prop) : Prop :=
  Q (.bool (!strEq x0 x0)) h
theorem F68_eq : (fun (x0 : ByteArray) (h : Heap) (Q : Value → Heap → Prop) => fnPT Try.prog Try.f68 (fun _ => annNil) (fun _ => []) (fun _ => none) [.string x0] h Q) = F68 := by kernel_rfl
theorem F68_ok {x0 : ByteArray} {h : Heap} {Q : Value → Heap → Prop} (H : F68 x0 h Q) : CallsH Try.prog 68 [.string x0] h Q :=
  callsH_of (ann := fun _ => annNil) (tys := fun _ => []) (pl := fun _ => none) Try.func68 (by kernel_rfl) (by have e := F68_eq; exact (congrFun (congrFun (congrFun (e) x0) h) Q).symm ▸ H)

/-- (*headgate/table.Table[uint8]).order -/
def F80 (t0 : Option Addr) (h : Heap) (Q : Value → Heap → Prop) : Prop :=
  (bif (t0).isNone then
    Q (.slice none 0 0) h
  else
    NN' t0 fun a0 =>
    Ld h (a0.add 2) fun v0 => DB v0 fun x0 =>
    (bif !x0 then
      NN' t0 fun a1 =>
      Ld h (a1.add 0) fun v1 => DM v1 fun x1 =>
      CallsH Try.prog 108 [.map x1] h fun r0 h_0 =>
      ∃ (x2 : Value), r0 = x2 ∧
      CallsH Try.prog 51 [x2] h_0 fun r1 h_1 =>
      DSl r1 fun x3a x3l x3c =>
      NN' t0 fun a2 =>
      StC h_1 ((a2.add 1).add 0) (.slice x3a x3l x3c) fun h_3 =>
      NN' t0 fun a3 =>
      StC h_3 ((a3.add 2).add 0) (.bool true) fun h_5 =>
      NN' t0 fun a4 =>
      Ld h_5 (a4.add 1) fun v2 => DSl v2 fun x4a x4l x4c =>
      Q (.slice x4a x4l x4c) h_5
    else
      NN' t0 fun a5 =>
      Ld h (a5.add 1) fun v3 => DSl v3 fun x5a x5l x5c =>
      Q (.slice x5a x5l x5c) h))
theorem F80_eq : (fun (t0 : Option Addr) (h : Heap) (Q : Value → Heap → Prop) => fnPT Try.prog Try.f80 (fun _ => annNil) (fun _ => []) (fun _ => none) [.pointer t0] h Q) = F80 := by kernel_rfl
theorem F80_ok {t0 : Option Addr} {h : Heap} {Q : Value → Heap → Prop} (H : F80 t0 h Q) : CallsH Try.prog 80 [.pointer t0] h Q :=
  callsH_of (ann := fun _ => annNil) (tys := fun _ => []) (pl := fun _ => none) Try.func80 (by kernel_rfl) (by have e := F80_eq; exact (congrFun (congrFun (congrFun (e) t0) h) Q).symm ▸ H)

/-- headgate/table.over[uint8] -/
def F81 (keys0a : Option Addr) (keys0l : Nat) (keys0c : Nat) (m0 : Option Nat) (h : Heap) (Q : Value → Heap → Prop) : Prop :=
  Al h (.cells #[.slice keys0a keys0l keys0c] 80) fun b0 h_0 =>
  Al h_0 (.cells #[.map m0] 93) fun b1 h_1 =>
  Q (.func (.func 109) #[] #[.pointer (some (Addr.mk b0 0 none)), .pointer (some (Addr.mk b1 0 none))]) h_1
theorem F81_eq : (fun (keys0a : Option Addr) (keys0l : Nat) (keys0c : Nat) (m0 : Option Nat) (h : Heap) (Q : Value → Heap → Prop) => fnPT Try.prog Try.f81 (fun _ => annNil) (fun _ => []) (fun _ => none) [.slice keys0a keys0l keys0c, .map m0] h Q) = F81 := by kernel_rfl
theorem F81_ok {keys0a : Option Addr} {keys0l : Nat} {keys0c : Nat} {m0 : Option Nat} {h : Heap} {Q : Value → Heap → Prop} (H : F81 keys0a keys0l keys0c m0 h Q) : CallsH Try.prog 81 [.slice keys0a keys0l keys0c, .map m0] h Q :=
  callsH_of (ann := fun _ => annNil) (tys := fun _ => []) (pl := fun _ => none) Try.func81 (by kernel_rfl) (by have e := F81_eq; exact (congrFun (congrFun (congrFun (congrFun (congrFun (congrFun (e) keys0a) keys0l) keys0c) m0) h) Q).symm ▸ H)

/-- (*headgate/table.Table[int]).Copy -/
def F90 (t0 : Option Addr) (h : Heap) (Q : Value → Heap → Prop) : Prop :=
  (bif (t0).isNone then
    CallsH Try.prog 33 [.slice none 0 0] h fun r0 h_0 =>
    DP r0 fun x0 =>
    Q (.pointer x0) h_0
  else
    NN' t0 fun a0 =>
    Ld h (a0.add 0) fun v0 => DM v0 fun x1 =>
    NN' t0 fun a1 =>
    Ld h (a1.add 1) fun v1 => DSl v1 fun x2a x2l x2c =>
    NN' t0 fun a2 =>
    Ld h (a2.add 2) fun v2 => DB v2 fun x3 =>
    CallsH Try.prog 113 [.map x1] h fun r1 h_1 =>
    DM r1 fun x4 =>
    (SameV (some (.pointer t0)) (.pointer t0)) ∧
    (NN' t0 fun a3 =>
    SameV (some (.pointer (some a1))) (.pointer (some a3))) ∧
    (SameV (some (.pointer (some (a1.add 1)))) (.pointer (some (a1.add 1)))) ∧
    (Ld h_1 (a1.add 1) fun v3 => DSl v3 fun x5a x5l x5c =>
    SameV (some (.slice x2a x2l x2c)) (.slice x5a x5l x5c)) ∧
    (SameV (some (.pointer t0)) (.pointer t0)) ∧
    (NN' t0 fun a4 =>
    SameV (some (.pointer (some a2))) (.pointer (some a4))) ∧
    (SameV (some (.pointer (some (a2.add 2)))) (.pointer (some (a2.add 2)))) ∧
    (Ld h_1 (a2.add 2) fun v4 => DB v4 fun x6 =>
    SameV (some (.bool x3)) (.bool x6)) ∧
    Al h_1 (.cells #[.map x4, .slice x2a x2l x2c, .bool x3] 109) fun b0 h_2 =>
    Q (.pointer (some (Addr.mk b0 0 none))) h_2)
theorem F90_eq : (fun (t0 : Option Addr) (h : Heap) (Q : Value → Heap → Prop) => fnPT Try.prog Try.f90 (fun _ => annNil) (fun _ => []) (fun i => bif Nat.beq i 3 then some ⟨[0, 1, 3, 7, 15, 0, 32, 96, 224, 0, 512, 1536, 3584, 8191, 16383, 32767], 16400⟩ else none) [.pointer t0] h Q) = F90 := by kernel_rfl
theorem F90_ok {t0 : Option Addr} {h : Heap} {Q : Value → Heap → Prop} (H : F90 t0 h Q) : CallsH Try.prog 90 [.pointer t0] h Q :=
  callsH_of (ann := fun _ => annNil) (tys := fun _ => []) (pl := fun i => bif Nat.beq i 3 then some ⟨[0, 1, 3, 7, 15, 0, 32, 96, 224, 0, 512, 1536, 3584, 8191, 16383, 32767], 16400⟩ else none) Try.func90 (by kernel_rfl) (by have e := F90_eq; exact (congrFun (congrFun (congrFun (e) t0) h) Q).symm ▸ H)

/-- (*headgate/table.Table[int]).order -/
def F91 (t0 : Option Addr) (h : Heap) (Q : Value → Heap → Prop) : Prop :=
  (bif (t0).isNone then
    Q (.slice none 0 0) h
  else
    NN' t0 fun a0 =>
    Ld h (a0.add 2) fun v0 => DB v0 fun x0 =>
    (bif !x0 then
      NN' t0 fun a1 =>
      Ld h (a1.add 0) fun v1 => DM v1 fun x1 =>
      CallsH Try.prog 114 [.map x1] h fun r0 h_0 =>
      ∃ (x2 : Value), r0 = x2 ∧
      CallsH Try.prog 51 [x2] h_0 fun r1 h_1 =>
      DSl r1 fun x3a x3l x3c =>
      NN' t0 fun a2 =>
      StC h_1 ((a2.add 1).add 0) (.slice x3a x3l x3c) fun h_3 =>
      NN' t0 fun a3 =>
      StC h_3 ((a3.add 2).add 0) (.bool true) fun h_5 =>
      NN' t0 fun a4 =>
      Ld h_5 (a4.add 1) fun v2 => DSl v2 fun x4a x4l x4c =>
      Q (.slice x4a x4l x4c) h_5
    else
      NN' t0 fun a5 =>
      Ld h (a5.add 1) fun v3 => DSl v3 fun x5a x5l x5c =>
      Q (.slice x5a x5l x5c) h))
theorem F91_eq : (fun (t0 : Option Addr) (h : Heap) (Q : Value → Heap → Prop) => fnPT Try.prog Try.f91 (fun _ => annNil) (fun _ => []) (fun _ => none) [.pointer t0] h Q) = F91 := by kernel_rfl
theorem F91_ok {t0 : Option Addr} {h : Heap} {Q : Value → Heap → Prop} (H : F91 t0 h Q) : CallsH Try.prog 91 [.pointer t0] h Q :=
  callsH_of (ann := fun _ => annNil) (tys := fun _ => []) (pl := fun _ => none) Try.func91 (by kernel_rfl) (by have e := F91_eq; exact (congrFun (congrFun (congrFun (e) t0) h) Q).symm ▸ H)

/-- headgate/table.over[int] -/
def F92 (keys0a : Option Addr) (keys0l : Nat) (keys0c : Nat) (m0 : Option Nat) (h : Heap) (Q : Value → Heap → Prop) : Prop :=
  Al h (.cells #[.slice keys0a keys0l keys0c] 80) fun b0 h_0 =>
  Al h_0 (.cells #[.map m0] 107) fun b1 h_1 =>
  Q (.func (.func 115) #[] #[.pointer (some (Addr.mk b0 0 none)), .pointer (some (Addr.mk b1 0 none))]) h_1
theorem F92_eq : (fun (keys0a : Option Addr) (keys0l : Nat) (keys0c : Nat) (m0 : Option Nat) (h : Heap) (Q : Value → Heap → Prop) => fnPT Try.prog Try.f92 (fun _ => annNil) (fun _ => []) (fun _ => none) [.slice keys0a keys0l keys0c, .map m0] h Q) = F92 := by kernel_rfl
theorem F92_ok {keys0a : Option Addr} {keys0l : Nat} {keys0c : Nat} {m0 : Option Nat} {h : Heap} {Q : Value → Heap → Prop} (H : F92 keys0a keys0l keys0c m0 h Q) : CallsH Try.prog 92 [.slice keys0a keys0l keys0c, .map m0] h Q :=
  callsH_of (ann := fun _ => annNil) (tys := fun _ => []) (pl := fun _ => none) Try.func92 (by kernel_rfl) (by have e := F92_eq; exact (congrFun (congrFun (congrFun (congrFun (congrFun (congrFun (e) keys0a) keys0l) keys0c) m0) h) Q).symm ▸ H)

/-- slices.AppendSeq[[]string,string] -/
def F101 (s0a : Option Addr) (s0l : Nat) (s0c : Nat) (seq0 : Value) (h : Heap) (Q : Value → Heap → Prop) : Prop :=
  Al h (.cells #[.slice s0a s0l s0c] 80) fun b0 h_0 =>
  RangeFn Try.prog seq0 1 none h_0 (fun l_0 rec_0 args0 h_1 Q_0 =>
    ∃ (y0 : ByteArray), args0 = [.string y0] ∧
    h_1[l_0]? = some (rec_0 .ready none) ∧
    Ld (h_1.setIfInBounds l_0 (rec_0 .busy none)) (Addr.mk b0 0 none) fun v0 => DSl v0 fun x0a x0l x0c =>
    Al (h_1.setIfInBounds l_0 (rec_0 .busy none)) (.cells #[.string y0] 9) fun b1 h_2 =>
    RunH Try.prog (Builtin.append_ #[80, 80] 80 #[.slice x0a x0l x0c, .slice (some (Addr.mk b1 0 none)) 1 1]) h_2 fun r2 h_3 =>
    DSl r2 fun x1a x1l x1c =>
    StC h_3 ((Addr.mk b0 0 none).add 0) (.slice x1a x1l x1c) fun h_5 =>
    h_5[l_0]? = some (rec_0 .busy none) ∧ Q_0 (.bool true) (h_5.setIfInBounds l_0 (rec_0 .ready none))) (fun pend0 h_6 =>
    pend0 = none ∧
    Ld h_6 (Addr.mk b0 0 none) fun v1 => DSl v1 fun x2a x2l x2c =>
    h_6[h_0.size]? = some (.deferred (some [])) ∧
    Q (.slice x2a x2l x2c) (h_6.setIfInBounds h_0.size (.deferred none)))
theorem F101_eq : (fun (s0a : Option Addr) (s0l : Nat) (s0c : Nat) (seq0 : Value) (h : Heap) (Q : Value → Heap → Prop) => fnPT Try.prog Try.f101 (fun _ => annNil) (fun i => bif Nat.beq i 0 then [9] else []) (fun _ => none) [.slice s0a s0l s0c, seq0] h Q) = F101 := by kernel_rfl
theorem F101_ok {s0a : Option Addr} {s0l : Nat} {s0c : Nat} {seq0 : Value} {h : Heap} {Q : Value → Heap → Prop} (H : F101 s0a s0l s0c seq0 h Q) : CallsH Try.prog 101 [.slice s0a s0l s0c, seq0] h Q :=
  callsH_of (ann := fun _ => annNil) (tys := fun i => bif Nat.beq i 0 then [9] else []) (pl := fun _ => none) Try.func101 (by kernel_rfl) (by have e := F101_eq; exact (congrFun (congrFun (congrFun (congrFun (congrFun (congrFun (e) s0a) s0l) s0c) seq0) h) Q).symm ▸ H)

/-- maps.Keys[map[string]uint8,string,uint8] -/
def F108 (m0 : Option Nat) (h : Heap) (Q : Value → Heap → Prop) : Prop :=
  Al h (.cells #[.map m0] 93) fun b0 h_0 =>
  Q (.func (.func 128) #[] #[.pointer (some (Addr.mk b0 0 none))]) h_0
theorem F108_eq : (fun (m0 : Option Nat) (h : Heap) (Q : Value → Heap → Prop) => fnPT Try.prog Try.f108 (fun _ => annNil) (fun _ => []) (fun _ => none) [.map m0] h Q) = F108 := by kernel_rfl
theorem F108_ok {m0 : Option Nat} {h : Heap} {Q : Value → Heap → Prop} (H : F108 m0 h Q) : CallsH Try.prog 108 [.map m0] h Q :=
  callsH_of (ann := fun _ => annNil) (tys := fun _ => []) (pl := fun _ => none) Try.func108 (by kernel_rfl) (by have e := F108_eq; exact (congrFun (congrFun (congrFun (e) m0) h) Q).symm ▸ H)

/-- headgate/table.over[uint8]$1 -/
def F109 (yield0 : Value) (c0 : Addr) (c1 : Addr) (h : Heap) (Q : Value → Heap → Prop) : Prop :=
  Ld h c0 fun v0 => DSl v0 fun x0a x0l x0c =>
  LoopH (fun again0 (s0 : Int) h_0 =>
    (bif decide ((s0 : Int) < (x0l : Int)) then
      IdxA x0a x0l s0 1 fun a0 =>
      Ld h_0 a0 fun v1 => DS v1 fun k0 =>
      Ld h_0 c1 fun v2 => DM v2 fun x1 =>
      ∃ es0, mapEs h_0 x1 es0 ∧ ∃ f0, Instr.findNow .string (.string k0) (es0 : Array MapEntry).toList 0 = some f0 ∧
      DI .u8 ((Option.map (fun x => x.2) f0).getD (.int .u8 0)) fun x2 =>
      CallV Try.prog yield0 [.string k0, .int .u8 x2] h_0 fun r0 h_1 =>
      DB r0 fun x3 =>
      (bif !x3 then
        Q (.tuple #[]) h_1
      else
        again0 (IntKind.wrap .i64 (s0 + 1)) h_1)
    else
      Q (.tuple #[]) h_0)) 0 h
theorem F109_eq : (fun (yield0 : Value) (c0 : Addr) (c1 : Addr) (h : Heap) (Q : Value → Heap → Prop) => fnPT Try.prog Try.f109 (fun i => bif Nat.beq i 0 then annOne 8 (codI .i64) else annNil) (fun _ => []) (fun _ => none) [yield0, .pointer (some c0), .pointer (some c1)] h Q) = F109 := by kernel_rfl
theorem F109_ok {yield0 : Value} {c0 : Addr} {c1 : Addr} {h : Heap} {Q : Value → Heap → Prop} (H : F109 yield0 c0 c1 h Q) : CallsH Try.prog 109 [yield0, .pointer (some c0), .pointer (some c1)] h Q :=
  callsH_of (ann := fun i => bif Nat.beq i 0 then annOne 8 (codI .i64) else annNil) (tys := fun _ => []) (pl := fun _ => none) Try.func109 (by kernel_rfl) (by have e := F109_eq; exact (congrFun (congrFun (congrFun (congrFun (congrFun (e) yield0) c0) c1) h) Q).symm ▸ H)

/-- maps.Keys[map[string]int,string,int] -/
def F114 (m0 : Option Nat) (h : Heap) (Q : Value → Heap → Prop) : Prop :=
  Al h (.cells #[.map m0] 107) fun b0 h_0 =>
  Q (.func (.func 130) #[] #[.pointer (some (Addr.mk b0 0 none))]) h_0
theorem F114_eq : (fun (m0 : Option Nat) (h : Heap) (Q : Value → Heap → Prop) => fnPT Try.prog Try.f114 (fun _ => annNil) (fun _ => []) (fun _ => none) [.map m0] h Q) = F114 := by kernel_rfl
theorem F114_ok {m0 : Option Nat} {h : Heap} {Q : Value → Heap → Prop} (H : F114 m0 h Q) : CallsH Try.prog 114 [.map m0] h Q :=
  callsH_of (ann := fun _ => annNil) (tys := fun _ => []) (pl := fun _ => none) Try.func114 (by kernel_rfl) (by have e := F114_eq; exact (congrFun (congrFun (congrFun (e) m0) h) Q).symm ▸ H)

/-- headgate/table.over[int]$1 -/
def F115 (yield0 : Value) (c0 : Addr) (c1 : Addr) (h : Heap) (Q : Value → Heap → Prop) : Prop :=
  Ld h c0 fun v0 => DSl v0 fun x0a x0l x0c =>
  LoopH (fun again0 (s0 : Int) h_0 =>
    (bif decide ((s0 : Int) < (x0l : Int)) then
      IdxA x0a x0l s0 1 fun a0 =>
      Ld h_0 a0 fun v1 => DS v1 fun k0 =>
      Ld h_0 c1 fun v2 => DM v2 fun x1 =>
      ∃ es0, mapEs h_0 x1 es0 ∧ ∃ f0, Instr.findNow .string (.string k0) (es0 : Array MapEntry).toList 0 = some f0 ∧
      DI .i64 ((Option.map (fun x => x.2) f0).getD (.int .i64 0)) fun x2 =>
      CallV Try.prog yield0 [.string k0, .int .i64 x2] h_0 fun r0 h_1 =>
      DB r0 fun x3 =>
      (bif !x3 then
        Q (.tuple #[]) h_1
      else
        again0 (IntKind.wrap .i64 (s0 + 1)) h_1)
    else
      Q (.tuple #[]) h_0)) 0 h
theorem F115_eq : (fun (yield0 : Value) (c0 : Addr) (c1 : Addr) (h : Heap) (Q : Value → Heap → Prop) => fnPT Try.prog Try.f115 (fun i => bif Nat.beq i 0 then annOne 8 (codI .i64) else annNil) (fun _ => []) (fun _ => none) [yield0, .pointer (some c0), .pointer (some c1)] h Q) = F115 := by kernel_rfl
theorem F115_ok {yield0 : Value} {c0 : Addr} {c1 : Addr} {h : Heap} {Q : Value → Heap → Prop} (H : F115 yield0 c0 c1 h Q) : CallsH Try.prog 115 [yield0, .pointer (some c0), .pointer (some c1)] h Q :=
  callsH_of (ann := fun i => bif Nat.beq i 0 then annOne 8 (codI .i64) else annNil) (tys := fun _ => []) (pl := fun _ => none) Try.func115 (by kernel_rfl) (by have e := F115_eq; exact (congrFun (congrFun (congrFun (congrFun (congrFun (e) yield0) c0) c1) h) Q).symm ▸ H)

/-- maps.Keys[map[string]uint8,string,uint8]$1 -/
def F128 (yield0 : Value) (c0 : Addr) (h : Heap) (Q : Value → Heap → Prop) : Prop :=
  Ld h c0 fun v0 => DM v0 fun x0 =>
  RunH Try.prog (Instr.range 93 (.map x0)) h fun r0 h_0 =>
  DP r0 fun p0 =>
  LoopH (fun again0 (s0 : Unit) h_1 =>
    RunH Try.prog (Instr.next (.pointer p0) false 0) h_1 fun r1 h_2 =>
    (
      r1 = .tuple #[.bool false] ∧
      Q (.tuple #[]) h_2) ∨ (
      ∃ (k0 x1 : Value), r1 = .tuple #[.bool true, k0, x1] ∧
      RunH Try.prog (Instr.entry (.pointer p0)) h_2 fun r2 h_3 =>
      ∃ (x2 : ByteArray), ∃ (x3 : Value), r2 = .tuple #[.string x2, x3] ∧
      CallV Try.prog yield0 [.string x2] h_3 fun r3 h_4 =>
      DB r3 fun x4 =>
      (bif !x4 then
        Q (.tuple #[]) h_4
      else
        again0 () h_4))) () h_0
theorem F128_eq : (fun (yield0 : Value) (c0 : Addr) (h : Heap) (Q : Value → Heap → Prop) => fnPT Try.prog Try.f128 (fun i => bif Nat.beq i 0 then annNil else annNil) (fun i => bif Nat.beq i 1002 then [9, 0] else []) (fun _ => none) [yield0, .pointer (some c0)] h Q) = F128 := by kernel_rfl
theorem F128_ok {yield0 : Value} {c0 : Addr} {h : Heap} {Q : Value → Heap → Prop} (H : F128 yield0 c0 h Q) : CallsH Try.prog 128 [yield0, .pointer (some c0)] h Q :=
  callsH_of (ann := fun i => bif Nat.beq i 0 then annNil else annNil) (tys := fun i => bif Nat.beq i 1002 then [9, 0] else []) (pl := fun _ => none) Try.func128 (by kernel_rfl) (by have e := F128_eq; exact (congrFun (congrFun (congrFun (congrFun (e) yield0) c0) h) Q).symm ▸ H)

/-- maps.Keys[map[string]int,string,int]$1 -/
def F130 (yield0 : Value) (c0 : Addr) (h : Heap) (Q : Value → Heap → Prop) : Prop :=
  Ld h c0 fun v0 => DM v0 fun x0 =>
  RunH Try.prog (Instr.range 107 (.map x0)) h fun r0 h_0 =>
  DP r0 fun p0 =>
  LoopH (fun again0 (s0 : Unit) h_1 =>
    RunH Try.prog (Instr.next (.pointer p0) false 0) h_1 fun r1 h_2 =>
    (
      r1 = .tuple #[.bool false] ∧
      Q (.tuple #[]) h_2) ∨ (
      ∃ (k0 x1 : Value), r1 = .tuple #[.bool true, k0, x1] ∧
      RunH Try.prog (Instr.entry (.pointer p0)) h_2 fun r2 h_3 =>
      ∃ (x2 : ByteArray), ∃ (x3 : Value), r2 = .tuple #[.string x2, x3] ∧
      CallV Try.prog yield0 [.string x2] h_3 fun r3 h_4 =>
      DB r3 fun x4 =>
      (bif !x4 then
        Q (.tuple #[]) h_4
      else
        again0 () h_4))) () h_0
theorem F130_eq : (fun (yield0 : Value) (c0 : Addr) (h : Heap) (Q : Value → Heap → Prop) => fnPT Try.prog Try.f130 (fun i => bif Nat.beq i 0 then annNil else annNil) (fun i => bif Nat.beq i 1002 then [9, 0] else []) (fun _ => none) [yield0, .pointer (some c0)] h Q) = F130 := by kernel_rfl
theorem F130_ok {yield0 : Value} {c0 : Addr} {h : Heap} {Q : Value → Heap → Prop} (H : F130 yield0 c0 h Q) : CallsH Try.prog 130 [yield0, .pointer (some c0)] h Q :=
  callsH_of (ann := fun i => bif Nat.beq i 0 then annNil else annNil) (tys := fun i => bif Nat.beq i 1002 then [9, 0] else []) (pl := fun _ => none) Try.func130 (by kernel_rfl) (by have e := F130_eq; exact (congrFun (congrFun (congrFun (congrFun (e) yield0) c0) h) Q).symm ▸ H)

end Go.Proofs.Ytfpdejkcjijmmaa
