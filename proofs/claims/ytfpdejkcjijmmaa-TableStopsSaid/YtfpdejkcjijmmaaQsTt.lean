/- The texts over heaps of functions of the program: written by a program of this claim's writer (decomp.py); Lean checks each against the code. -/
import Derived.Test.YtfpdejkcjijmmaaQsFwA
import Derived.Test.YtfpdejkcjijmmaaProg
namespace Go.Proofs.Ytfpdejkcjijmmaa
open Go Go.RowKit
set_option linter.unusedVariables false
set_option maxRecDepth 100000

/-- headgate/headgatelaw17.TableStops -/
def F4 (a0a : Option Addr) (a0l : Nat) (a0c : Nat) (stop0 : Int) (h : Heap) (Q : Value → Heap → Prop) : Prop :=
  Al h (.cells #[.int .u8 stop0] 5) fun b0 h_0 =>
  Al h_0 (.cells #[.bool false] 4) fun b1 h_1 =>
  CallsH Try.prog 8 [] h_1 fun r2 h_2 =>
  DB r2 fun x0 =>
  (bif !x0 then
    StC h_2 ((Addr.mk b1 0 none).add 0) (.bool false) fun h_4 =>
    Ld h_4 (Addr.mk b1 0 none) fun v0 => DB v0 fun res0 =>
    Q (.bool res0) h_4
  else
    CallsH Try.prog 9 [.slice a0a a0l a0c] h_2 fun r4 h_5 =>
    DB r4 fun x1 =>
    (bif x1 then
      StC h_5 ((Addr.mk b1 0 none).add 0) (.bool true) fun h_7 =>
      Ld h_7 (Addr.mk b1 0 none) fun v1 => DB v1 fun res1 =>
      Q (.bool res1) h_7
    else
      CallsH Try.prog 20 [.slice a0a a0l a0c] h_5 fun r6 h_8 =>
      ∃ (x2 : Option Addr), ∃ (x3a : Option Addr), ∃ (x3l : Nat), ∃ (x3c : Nat), r6 = .tuple #[.pointer x2, .slice x3a x3l x3c] ∧
      Al h_8 (.cells #[.slice none 0 0] 27) fun b2 h_9 =>
      StC h_9 ((Addr.mk b2 0 none).add 0) (.slice x3a x3l x3c) fun h_11 =>
      CallsH Try.prog 21 [.pointer x2] h_11 fun r9 h_12 =>
      ∃ (seq0 : Value), r9 = seq0 ∧
      CallsH Try.prog 13 [.pointer x2, .string ⟨#[122, 122]⟩, .string ⟨#[110, 101, 119]⟩] h_12 fun r10 h_13 =>
      r10 = .tuple #[] ∧
      CallsH Try.prog 15 [.pointer x2, .string ⟨#[97]⟩] h_13 fun r11 h_14 =>
      DB r11 fun x4 =>
      Al h_14 (.cells #[.int .i64 0] 3) fun b3 h_15 =>
      StC h_15 ((Addr.mk b3 0 none).add 0) (.int .i64 0) fun h_17 =>
      LoopH (fun again0 (s0 : (Addr) × List Nat) h_18 =>
        Ld h_18 s0.1 fun v2 => DI .i64 v2 fun x5 =>
        (bif decide ((x5 : Int) < 2) then
          Al h_18 (.cells #[.int .i64 0] 3) fun b4 h_19 =>
          StC h_19 ((Addr.mk b4 0 none).add 0) (.int .i64 0) fun h_21 =>
          RangeFn Try.prog seq0 2 none h_21 (fun l_0 rec_0 args0 h_22 Q_0 =>
            ∃ (y0 : ByteArray), ∃ (y1 : ByteArray), args0 = [.string y0, .string y1] ∧
            h_22[l_0]? = some (rec_0 .ready none) ∧
            Ld (h_22.setIfInBounds l_0 (rec_0 .busy none)) (Addr.mk b4 0 none) fun v3 => DI .i64 v3 fun x6 =>
            Ld (h_22.setIfInBounds l_0 (rec_0 .busy none)) (Addr.mk b2 0 none) fun v4 => DSl v4 fun x7a x7l x7c =>
            (bif decide ((x6 : Int) ≥ (x7l : Int)) then
              StC (h_22.setIfInBounds l_0 (rec_0 .busy none)) ((Addr.mk b1 0 none).add 0) (.bool false) fun h_24 =>
              h_24[l_0]? = some (rec_0 .busy none) ∧ Q_0 (.bool false) (h_24.setIfInBounds l_0 (rec_0 .done (some .ret)))
            else
              Ld (h_22.setIfInBounds l_0 (rec_0 .busy none)) (Addr.mk b2 0 none) fun v5 => DSl v5 fun x8a x8l x8c =>
              Ld (h_22.setIfInBounds l_0 (rec_0 .busy none)) (Addr.mk b4 0 none) fun v6 => DI .i64 v6 fun x9 =>
              IdxA x8a x8l x9 2 fun a1 =>
              Ld (h_22.setIfInBounds l_0 (rec_0 .busy none)) (a1.add 0) fun c0 =>
              Ld (h_22.setIfInBounds l_0 (rec_0 .busy none)) (a1.add 1) fun c1 =>
              ∃ (x10 : ByteArray), ∃ (x11 : ByteArray), (Value.agg #[c0, c1]) = .agg #[.string x10, .string x11] ∧
              (bif !((strEq x10 y0) && ((strEq x11 y1) && true)) then
                StC (h_22.setIfInBounds l_0 (rec_0 .busy none)) ((Addr.mk b1 0 none).add 0) (.bool false) fun h_26 =>
                h_26[l_0]? = some (rec_0 .busy none) ∧ Q_0 (.bool false) (h_26.setIfInBounds l_0 (rec_0 .done (some .ret)))
              else
                Ld (h_22.setIfInBounds l_0 (rec_0 .busy none)) (Addr.mk b4 0 none) fun v7 => DI .i64 v7 fun x12 =>
                StC (h_22.setIfInBounds l_0 (rec_0 .busy none)) ((Addr.mk b4 0 none).add 0) (.int .i64 (IntKind.wrap .i64 (x12 + 1))) fun h_28 =>
                Ld h_28 s0.1 fun v8 => DI .i64 v8 fun x13 =>
                (bif (x13 : Int) == 0 then
                  Ld h_28 (Addr.mk b4 0 none) fun v9 => DI .i64 v9 fun x14 =>
                  Ld h_28 (Addr.mk b0 0 none) fun v10 => DI .u8 v10 fun x15 =>
                  (bif decide ((x14 : Int) > (IntKind.wrap .i64 x15)) then
                    h_28[l_0]? = some (rec_0 .busy none) ∧ Q_0 (.bool false) (h_28.setIfInBounds l_0 (rec_0 .done (some (.exit 2))))
                  else
                    h_28[l_0]? = some (rec_0 .busy none) ∧ Q_0 (.bool true) (h_28.setIfInBounds l_0 (rec_0 .ready none)))
                else
                  h_28[l_0]? = some (rec_0 .busy none) ∧ Q_0 (.bool true) (h_28.setIfInBounds l_0 (rec_0 .ready none)))))) (fun pend0 h_29 =>
            (pend0 = none ∨ pend0 = some (.ret) ∨ pend0 = some (.exit 2)) ∧
            (pend0 = none →
              Ld h_29 s0.1 fun v11 => DI .i64 v11 fun x16 =>
              (bif (x16 : Int) == 1 then
                Ld h_29 (Addr.mk b4 0 none) fun v12 => DI .i64 v12 fun x17 =>
                Ld h_29 (Addr.mk b2 0 none) fun v13 => DSl v13 fun x18a x18l x18c =>
                (bif (x17 : Int) != (x18l : Int) then
                  StC h_29 ((Addr.mk b1 0 none).add 0) (.bool false) fun h_31 =>
                  h_31[h_21.size]? = some (.deferred (some [])) ∧
                  leaveH s0.2 (h_31.setIfInBounds h_21.size (.deferred none)) fun h_32 =>
                  Ld h_32 (Addr.mk b1 0 none) fun v14 => DB v14 fun res2 =>
                  Q (.bool res2) h_32
                else
                  Ld h_29 s0.1 fun v15 => DI .i64 v15 fun x19 =>
                  Al h_29 (.cells #[.int .i64 0] 3) fun b5 h_33 =>
                  StC h_33 ((Addr.mk b5 0 none).add 0) (.int .i64 x19) fun h_35 =>
                  Ld h_35 (Addr.mk b5 0 none) fun v16 => DI .i64 v16 fun x20 =>
                  StC h_35 ((Addr.mk b5 0 none).add 0) (.int .i64 (IntKind.wrap .i64 (x20 + 1))) fun h_37 =>
                  again0 ((Addr.mk b5 0 none), (h_21.size :: s0.2)) h_37)
              else
                Ld h_29 s0.1 fun v17 => DI .i64 v17 fun x21 =>
                Al h_29 (.cells #[.int .i64 0] 3) fun b6 h_38 =>
                StC h_38 ((Addr.mk b6 0 none).add 0) (.int .i64 x21) fun h_40 =>
                Ld h_40 (Addr.mk b6 0 none) fun v18 => DI .i64 v18 fun x22 =>
                StC h_40 ((Addr.mk b6 0 none).add 0) (.int .i64 (IntKind.wrap .i64 (x22 + 1))) fun h_42 =>
                again0 ((Addr.mk b6 0 none), (h_21.size :: s0.2)) h_42)) ∧
            (pend0 = some (.ret) →
              h_29[h_21.size]? = some (.deferred (some [])) ∧
              leaveH s0.2 (h_29.setIfInBounds h_21.size (.deferred none)) fun h_43 =>
              Ld h_43 (Addr.mk b1 0 none) fun v19 => DB v19 fun res3 =>
              Q (.bool res3) h_43) ∧
            (pend0 = some (.exit 2) →
              Ld h_29 s0.1 fun v20 => DI .i64 v20 fun x23 =>
              (bif (x23 : Int) == 1 then
                Ld h_29 (Addr.mk b4 0 none) fun v21 => DI .i64 v21 fun x24 =>
                Ld h_29 (Addr.mk b2 0 none) fun v22 => DSl v22 fun x25a x25l x25c =>
                (bif (x24 : Int) != (x25l : Int) then
                  StC h_29 ((Addr.mk b1 0 none).add 0) (.bool false) fun h_45 =>
                  h_45[h_21.size]? = some (.deferred (some [])) ∧
                  leaveH s0.2 (h_45.setIfInBounds h_21.size (.deferred none)) fun h_46 =>
                  Ld h_46 (Addr.mk b1 0 none) fun v23 => DB v23 fun res4 =>
                  Q (.bool res4) h_46
                else
                  Ld h_29 s0.1 fun v24 => DI .i64 v24 fun x26 =>
                  Al h_29 (.cells #[.int .i64 0] 3) fun b7 h_47 =>
                  StC h_47 ((Addr.mk b7 0 none).add 0) (.int .i64 x26) fun h_49 =>
                  Ld h_49 (Addr.mk b7 0 none) fun v25 => DI .i64 v25 fun x27 =>
                  StC h_49 ((Addr.mk b7 0 none).add 0) (.int .i64 (IntKind.wrap .i64 (x27 + 1))) fun h_51 =>
                  again0 ((Addr.mk b7 0 none), (h_21.size :: s0.2)) h_51)
              else
                Ld h_29 s0.1 fun v26 => DI .i64 v26 fun x28 =>
                Al h_29 (.cells #[.int .i64 0] 3) fun b8 h_52 =>
                StC h_52 ((Addr.mk b8 0 none).add 0) (.int .i64 x28) fun h_54 =>
                Ld h_54 (Addr.mk b8 0 none) fun v27 => DI .i64 v27 fun x29 =>
                StC h_54 ((Addr.mk b8 0 none).add 0) (.int .i64 (IntKind.wrap .i64 (x29 + 1))) fun h_56 =>
                again0 ((Addr.mk b8 0 none), (h_21.size :: s0.2)) h_56)))
        else
          CallsH Try.prog 13 [.pointer none, .string ⟨#[97]⟩, .string ⟨#[98]⟩] h_18 fun r33 h_57 =>
          r33 = .tuple #[] ∧
          CallsH Try.prog 11 [.pointer none, .string ⟨#[97]⟩] h_57 fun r34 h_58 =>
          ∃ (x30 : ByteArray), ∃ (x31 : Bool), r34 = .tuple #[.string x30, .bool x31] ∧
          CallsH Try.prog 18 [.pointer none] h_58 fun r35 h_59 =>
          DP r35 fun c2 =>
          CallsH Try.prog 13 [.pointer c2, .string ⟨#[97]⟩, .string ⟨#[98]⟩] h_59 fun r36 h_60 =>
          r36 = .tuple #[] ∧
          (bif !x31 then
            CallsH Try.prog 22 [.pointer none] h_60 fun r37 h_61 =>
            DI .i64 r37 fun x32 =>
            (bif (x32 : Int) == 0 then
              CallsH Try.prog 15 [.pointer none, .string ⟨#[97]⟩] h_61 fun r38 h_62 =>
              DB r38 fun x33 =>
              (bif !x33 then
                CallsH Try.prog 19 [.pointer none, .slice none 0 0] h_62 fun r39 h_63 =>
                DB r39 fun x34 =>
                (bif x34 then
                  Al h_63 (.cells #[.string ⟨#[97]⟩, .string ⟨#[98]⟩] 38) fun b9 h_64 =>
                  CallsH Try.prog 19 [.pointer c2, .slice (some (Addr.mk b9 0 none)) 1 1] h_64 fun r41 h_65 =>
                  DB r41 fun x35 =>
                  (bif x35 then
                    CallsH Try.prog 23 [.pointer none, .pointer none] h_65 fun r42 h_66 =>
                    DSl r42 fun x36a x36l x36c =>
                    StC h_66 ((Addr.mk b1 0 none).add 0) (.bool (((x36l : Int) : Int) == 0)) fun h_68 =>
                    leaveH s0.2 h_68 fun h_69 =>
                    Ld h_69 (Addr.mk b1 0 none) fun v28 => DB v28 fun res5 =>
                    Q (.bool res5) h_69
                  else
                    StC h_65 ((Addr.mk b1 0 none).add 0) (.bool false) fun h_71 =>
                    leaveH s0.2 h_71 fun h_72 =>
                    Ld h_72 (Addr.mk b1 0 none) fun v29 => DB v29 fun res6 =>
                    Q (.bool res6) h_72)
                else
                  StC h_63 ((Addr.mk b1 0 none).add 0) (.bool false) fun h_74 =>
                  leaveH s0.2 h_74 fun h_75 =>
                  Ld h_75 (Addr.mk b1 0 none) fun v30 => DB v30 fun res7 =>
                  Q (.bool res7) h_75)
              else
                StC h_62 ((Addr.mk b1 0 none).add 0) (.bool false) fun h_77 =>
                leaveH s0.2 h_77 fun h_78 =>
                Ld h_78 (Addr.mk b1 0 none) fun v31 => DB v31 fun res8 =>
                Q (.bool res8) h_78)
            else
              StC h_61 ((Addr.mk b1 0 none).add 0) (.bool false) fun h_80 =>
              leaveH s0.2 h_80 fun h_81 =>
              Ld h_81 (Addr.mk b1 0 none) fun v32 => DB v32 fun res9 =>
              Q (.bool res9) h_81)
          else
            StC h_60 ((Addr.mk b1 0 none).add 0) (.bool false) fun h_83 =>
            leaveH s0.2 h_83 fun h_84 =>
            Ld h_84 (Addr.mk b1 0 none) fun v33 => DB v33 fun res10 =>
            Q (.bool res10) h_84))) ((Addr.mk b3 0 none), []) h_17))
theorem F4_eq : (fun (a0a : Option Addr) (a0l : Nat) (a0c : Nat) (stop0 : Int) (h : Heap) (Q : Value → Heap → Prop) => fnPT Try.prog Try.f4 (fun i => bif Nat.beq i 0 then annOne 8 (codA) else annNil) (fun i => bif Nat.beq i 2 then [9, 9] else []) (fun _ => none) [.slice a0a a0l a0c, .int .u8 stop0] h Q) = F4 := by kernel_rfl
theorem F4_ok {a0a : Option Addr} {a0l : Nat} {a0c : Nat} {stop0 : Int} {h : Heap} {Q : Value → Heap → Prop} (H : F4 a0a a0l a0c stop0 h Q) : CallsH Try.prog 4 [.slice a0a a0l a0c, .int .u8 stop0] h Q :=
  callsH_of (ann := fun i => bif Nat.beq i 0 then annOne 8 (codA) else annNil) (tys := fun i => bif Nat.beq i 2 then [9, 9] else []) (pl := fun _ => none) Try.func4 (by kernel_rfl) (by have e := F4_eq; exact (congrFun (congrFun (congrFun (congrFun (congrFun (congrFun (e) a0a) a0l) a0c) stop0) h) Q).symm ▸ H)

/-- headgate/headgatelaw17.alive -/
def F8 (h : Heap) (Q : Value → Heap → Prop) : Prop :=
  Al h (.cells #[.string ⟨#[97]⟩, .int .i64 1, .string ⟨#[98]⟩, .int .i64 2] 73) fun b0 h_0 =>
  CallsH Try.prog 33 [.slice (some (Addr.mk b0 0 none)) 2 2] h_0 fun r1 h_1 =>
  DP r1 fun a0 =>
  Al h_1 (.cells #[.string ⟨#[98]⟩, .int .i64 3] 73) fun b1 h_2 =>
  CallsH Try.prog 33 [.slice (some (Addr.mk b1 0 none)) 1 1] h_2 fun r3 h_3 =>
  DP r3 fun b2 =>
  CallsH Try.prog 34 [.pointer a0, .pointer b2] h_3 fun r4 h_4 =>
  DSl r4 fun l_0a l_0l l_0c =>
  (bif ((l_0l : Int) : Int) == 2 then
    IdxA l_0a l_0l 0 3 fun a1 =>
    Ld h_4 (a1.add 0) fun v0 => DS v0 fun x0 =>
    (bif strEq x0 ⟨#[97]⟩ then
      IdxA l_0a l_0l 0 3 fun a2 =>
      Ld h_4 (a2.add 2) fun v1 => DB v1 fun x1 =>
      (bif x1 then
        IdxA l_0a l_0l 1 3 fun a3 =>
        Ld h_4 (a3.add 0) fun v2 => DS v2 fun x2 =>
        (bif strEq x2 ⟨#[98]⟩ then
          IdxA l_0a l_0l 1 3 fun a4 =>
          Ld h_4 (a4.add 1) fun v3 => DI .i64 v3 fun x3 =>
          (bif (x3 : Int) == 3 then
            IdxA l_0a l_0l 1 3 fun a5 =>
            Ld h_4 (a5.add 2) fun v4 => DB v4 fun x4 =>
            Q (.bool (!x4)) h_4
          else
            Q (.bool false) h_4)
        else
          Q (.bool false) h_4)
      else
        Q (.bool false) h_4)
    else
      Q (.bool false) h_4)
  else
    Q (.bool false) h_4)
theorem F8_eq : (fun (h : Heap) (Q : Value → Heap → Prop) => fnPT Try.prog Try.f8 (fun _ => annNil) (fun _ => []) (fun _ => none) [] h Q) = F8 := by kernel_rfl
theorem F8_ok {h : Heap} {Q : Value → Heap → Prop} (H : F8 h Q) : CallsH Try.prog 8 [] h Q :=
  callsH_of (ann := fun _ => annNil) (tys := fun _ => []) (pl := fun _ => none) Try.func8 (by kernel_rfl) (by have e := F8_eq; exact (congrFun (congrFun (e) h) Q).symm ▸ H)

/-- headgate/headgatelaw17.long -/
def F9 (l_0a : Option Addr) (l_0l : Nat) (l_0c : Nat) (h : Heap) (Q : Value → Heap → Prop) : Prop :=
  (bif decide (((l_0l : Int) : Int) > 300) then
    Q (.bool true) h
  else
    LoopH (fun again0 (s0 : Int) h_0 =>
      (bif decide ((s0 : Int) < (l_0l : Int)) then
        IdxA l_0a l_0l s0 3 fun a0 =>
        Ld h_0 (a0.add 1) fun v0 => DS v0 fun x0 =>
        IdxA l_0a l_0l s0 3 fun a1 =>
        Ld h_0 (a1.add 2) fun v1 => DS v1 fun x1 =>
        (bif decide (((IntKind.wrap .i64 (((x0 : ByteArray).size : Int) + ((x1 : ByteArray).size : Int))) : Int) > 1000) then
          Q (.bool true) h_0
        else
          again0 (IntKind.wrap .i64 (s0 + 1)) h_0)
      else
        Q (.bool false) h_0)) 0 h)
theorem F9_eq : (fun (l_0a : Option Addr) (l_0l : Nat) (l_0c : Nat) (h : Heap) (Q : Value → Heap → Prop) => fnPT Try.prog Try.f9 (fun i => bif Nat.beq i 0 then annOne 3 (codI .i64) else annNil) (fun _ => []) (fun _ => none) [.slice l_0a l_0l l_0c] h Q) = F9 := by kernel_rfl
theorem F9_ok {l_0a : Option Addr} {l_0l : Nat} {l_0c : Nat} {h : Heap} {Q : Value → Heap → Prop} (H : F9 l_0a l_0l l_0c h Q) : CallsH Try.prog 9 [.slice l_0a l_0l l_0c] h Q :=
  callsH_of (ann := fun i => bif Nat.beq i 0 then annOne 3 (codI .i64) else annNil) (tys := fun _ => []) (pl := fun _ => none) Try.func9 (by kernel_rfl) (by have e := F9_eq; exact (congrFun (congrFun (congrFun (congrFun (congrFun (e) l_0a) l_0l) l_0c) h) Q).symm ▸ H)

/-- headgate/table.New[string] -/
def F10 (l_0a : Option Addr) (l_0l : Nat) (l_0c : Nat) (h : Heap) (Q : Value → Heap → Prop) : Prop :=
  Al h (.map #[] 0) fun b0 h_0 =>
  Al h_0 (.cells #[.map (some b0), .slice none 0 0, .bool false] 82) fun b1 h_1 =>
  LoopH (fun again0 (s0 : Int) h_2 =>
    (bif decide ((s0 : Int) < (l_0l : Int)) then
      IdxA l_0a l_0l s0 2 fun a0 =>
      Ld h_2 (a0.add 0) fun c0 =>
      Ld h_2 (a0.add 1) fun c1 =>
      ∃ (x0 : ByteArray), ∃ (x1 : ByteArray), (Value.agg #[c0, c1]) = .agg #[.string x0, .string x1] ∧
      Al h_2 (.cells #[.string .empty, .string .empty] 83) fun b2 h_3 =>
      StC h_3 ((Addr.mk b2 0 none).add 0) (.string x0) fun h_5 =>
      StC h_5 ((Addr.mk b2 0 none).add 1) (.string x1) fun h_6 =>
      Ld h_6 ((Addr.mk b1 0 none).add 0) fun v0 => DM v0 fun x2 =>
      Ld h_6 ((Addr.mk b2 0 none).add 0) fun v1 => DS v1 fun x3 =>
      Ld h_6 ((Addr.mk b2 0 none).add 1) fun v2 => DS v2 fun x4 =>
      RunU Try.prog (Instr.mapUpdate 79 (.map x2) (.string x3) (.string x4)) h_6 fun h_7 =>
      again0 (IntKind.wrap .i64 (s0 + 1)) h_7
    else
      Q (.pointer (some (Addr.mk b1 0 none))) h_2)) 0 h_1
theorem F10_eq : (fun (l_0a : Option Addr) (l_0l : Nat) (l_0c : Nat) (h : Heap) (Q : Value → Heap → Prop) => fnPT Try.prog Try.f10 (fun i => bif Nat.beq i 0 then annOne 11 (codI .i64) else annNil) (fun _ => []) (fun i => bif Nat.beq i 5 then some ⟨[0, 1, 3, 7, 0, 16, 0, 64, 255], 256⟩ else none) [.slice l_0a l_0l l_0c] h Q) = F10 := by kernel_rfl
theorem F10_ok {l_0a : Option Addr} {l_0l : Nat} {l_0c : Nat} {h : Heap} {Q : Value → Heap → Prop} (H : F10 l_0a l_0l l_0c h Q) : CallsH Try.prog 10 [.slice l_0a l_0l l_0c] h Q :=
  callsH_of (ann := fun i => bif Nat.beq i 0 then annOne 11 (codI .i64) else annNil) (tys := fun _ => []) (pl := fun i => bif Nat.beq i 5 then some ⟨[0, 1, 3, 7, 0, 16, 0, 64, 255], 256⟩ else none) Try.func10 (by kernel_rfl) (by have e := F10_eq; exact (congrFun (congrFun (congrFun (congrFun (congrFun (e) l_0a) l_0l) l_0c) h) Q).symm ▸ H)

/-- (*headgate/table.Table[string]).Get -/
def F11 (t0 : Option Addr) (key0 : ByteArray) (h : Heap) (Q : Value → Heap → Prop) : Prop :=
  (bif (t0).isNone then
    Q (.tuple #[.string .empty, .bool false]) h
  else
    NN' t0 fun a0 =>
    Ld h (a0.add 0) fun v0 => DM v0 fun x0 =>
    ∃ es0, mapEs h x0 es0 ∧ ∃ f0, Instr.findNow .string (.string key0) (es0 : Array MapEntry).toList 0 = some f0 ∧
    DS ((Option.map (fun x => x.2) f0).getD (.string .empty)) fun x1 =>
    Q (.tuple #[.string x1, .bool (Option.isSome f0)]) h)
theorem F11_eq : (fun (t0 : Option Addr) (key0 : ByteArray) (h : Heap) (Q : Value → Heap → Prop) => fnPT Try.prog Try.f11 (fun _ => annNil) (fun _ => []) (fun _ => none) [.pointer t0, .string key0] h Q) = F11 := by kernel_rfl
theorem F11_ok {t0 : Option Addr} {key0 : ByteArray} {h : Heap} {Q : Value → Heap → Prop} (H : F11 t0 key0 h Q) : CallsH Try.prog 11 [.pointer t0, .string key0] h Q :=
  callsH_of (ann := fun _ => annNil) (tys := fun _ => []) (pl := fun _ => none) Try.func11 (by kernel_rfl) (by have e := F11_eq; exact (congrFun (congrFun (congrFun (congrFun (e) t0) key0) h) Q).symm ▸ H)

/-- (*headgate/table.Table[string]).Put -/
def F13 (t0 : Option Addr) (key0 : ByteArray) (v0 : ByteArray) (h : Heap) (Q : Value → Heap → Prop) : Prop :=
  (bif (t0).isNone then
    Q (.tuple #[]) h
  else
    NN' t0 fun a0 =>
    Ld h (a0.add 0) fun v1 => DM v1 fun x0 =>
    ∃ es0, mapEs h x0 es0 ∧ ∃ f0, Instr.findNow .string (.string key0) (es0 : Array MapEntry).toList 0 = some f0 ∧
    DS ((Option.map (fun x => x.2) f0).getD (.string .empty)) fun x1 =>
    (bif !(Option.isSome f0) then
      NN' t0 fun a1 =>
      StC h ((a1.add 2).add 0) (.bool false) fun h_1 =>
      NN' t0 fun a2 =>
      Ld h_1 (a2.add 0) fun v2 => DM v2 fun x2 =>
      RunU Try.prog (Instr.mapUpdate 79 (.map x2) (.string key0) (.string v0)) h_1 fun h_2 =>
      Q (.tuple #[]) h_2
    else
      NN' t0 fun a3 =>
      Ld h (a3.add 0) fun v3 => DM v3 fun x3 =>
      RunU Try.prog (Instr.mapUpdate 79 (.map x3) (.string key0) (.string v0)) h fun h_3 =>
      Q (.tuple #[]) h_3))
theorem F13_eq : (fun (t0 : Option Addr) (key0 : ByteArray) (v0 : ByteArray) (h : Heap) (Q : Value → Heap → Prop) => fnPT Try.prog Try.f13 (fun _ => annNil) (fun _ => []) (fun _ => none) [.pointer t0, .string key0, .string v0] h Q) = F13 := by kernel_rfl
theorem F13_ok {t0 : Option Addr} {key0 : ByteArray} {v0 : ByteArray} {h : Heap} {Q : Value → Heap → Prop} (H : F13 t0 key0 v0 h Q) : CallsH Try.prog 13 [.pointer t0, .string key0, .string v0] h Q :=
  callsH_of (ann := fun _ => annNil) (tys := fun _ => []) (pl := fun _ => none) Try.func13 (by kernel_rfl) (by have e := F13_eq; exact (congrFun (congrFun (congrFun (congrFun (congrFun (e) t0) key0) v0) h) Q).symm ▸ H)

/-- headgate/headgateref17.Set -/
def F14 (l_0a : Option Addr) (l_0l : Nat) (l_0c : Nat) (key0 : ByteArray) (val0 : ByteArray) (h : Heap) (Q : Value → Heap → Prop) : Prop :=
  LoopH (fun again0 (s0 : Sl × Bool × Int) h_0 =>
    (bif decide ((s0.2.2 : Int) < (l_0l : Int)) then
      (bif !s0.2.1 then
        IdxA l_0a l_0l s0.2.2 2 fun a0 =>
        Ld h_0 (a0.add 0) fun v0 => DS v0 fun x0 =>
        (bif !strLt x0 key0 then
          Al h_0 (.cells #[.string key0, .string val0] 38) fun b0 h_1 =>
          RunH Try.prog (Builtin.append_ #[27, 27] 27 #[.slice s0.1.a s0.1.l s0.1.c, .slice (some (Addr.mk b0 0 none)) 1 1]) h_1 fun r1 h_2 =>
          DSl r1 fun out0a out0l out0c =>
          IdxA l_0a l_0l s0.2.2 2 fun a1 =>
          Ld h_2 (a1.add 0) fun v1 => DS v1 fun x1 =>
          (bif !strEq x1 key0 then
            IdxA l_0a l_0l s0.2.2 2 fun a2 =>
            Ld h_2 (a2.add 0) fun c0 =>
            Ld h_2 (a2.add 1) fun c1 =>
            ∃ (x2 : ByteArray), ∃ (x3 : ByteArray), (Value.agg #[c0, c1]) = .agg #[.string x2, .string x3] ∧
            Al h_2 (.cells #[.string x2, .string x3] 38) fun b1 h_3 =>
            RunH Try.prog (Builtin.append_ #[27, 27] 27 #[.slice out0a out0l out0c, .slice (some (Addr.mk b1 0 none)) 1 1]) h_3 fun r3 h_4 =>
            DSl r3 fun out1a out1l out1c =>
            again0 (⟨out1a, out1l, out1c⟩, true, IntKind.wrap .i64 (s0.2.2 + 1)) h_4
          else
            again0 (⟨out0a, out0l, out0c⟩, true, IntKind.wrap .i64 (s0.2.2 + 1)) h_2)
        else
          IdxA l_0a l_0l s0.2.2 2 fun a3 =>
          Ld h_0 (a3.add 0) fun v2 => DS v2 fun x4 =>
          (bif !strEq x4 key0 then
            IdxA l_0a l_0l s0.2.2 2 fun a4 =>
            Ld h_0 (a4.add 0) fun c2 =>
            Ld h_0 (a4.add 1) fun c3 =>
            ∃ (x5 : ByteArray), ∃ (x6 : ByteArray), (Value.agg #[c2, c3]) = .agg #[.string x5, .string x6] ∧
            Al h_0 (.cells #[.string x5, .string x6] 38) fun b2 h_5 =>
            RunH Try.prog (Builtin.append_ #[27, 27] 27 #[.slice s0.1.a s0.1.l s0.1.c, .slice (some (Addr.mk b2 0 none)) 1 1]) h_5 fun r5 h_6 =>
            DSl r5 fun out2a out2l out2c =>
            again0 (⟨out2a, out2l, out2c⟩, s0.2.1, IntKind.wrap .i64 (s0.2.2 + 1)) h_6
          else
            again0 (⟨s0.1.a, s0.1.l, s0.1.c⟩, s0.2.1, IntKind.wrap .i64 (s0.2.2 + 1)) h_0))
      else
        IdxA l_0a l_0l s0.2.2 2 fun a5 =>
        Ld h_0 (a5.add 0) fun v3 => DS v3 fun x7 =>
        (bif !strEq x7 key0 then
          IdxA l_0a l_0l s0.2.2 2 fun a6 =>
          Ld h_0 (a6.add 0) fun c4 =>
          Ld h_0 (a6.add 1) fun c5 =>
          ∃ (x8 : ByteArray), ∃ (x9 : ByteArray), (Value.agg #[c4, c5]) = .agg #[.string x8, .string x9] ∧
          Al h_0 (.cells #[.string x8, .string x9] 38) fun b3 h_7 =>
          RunH Try.prog (Builtin.append_ #[27, 27] 27 #[.slice s0.1.a s0.1.l s0.1.c, .slice (some (Addr.mk b3 0 none)) 1 1]) h_7 fun r7 h_8 =>
          DSl r7 fun out3a out3l out3c =>
          again0 (⟨out3a, out3l, out3c⟩, s0.2.1, IntKind.wrap .i64 (s0.2.2 + 1)) h_8
        else
          again0 (⟨s0.1.a, s0.1.l, s0.1.c⟩, s0.2.1, IntKind.wrap .i64 (s0.2.2 + 1)) h_0))
    else
      (bif !s0.2.1 then
        Al h_0 (.cells #[.string key0, .string val0] 38) fun b4 h_9 =>
        RunH Try.prog (Builtin.append_ #[27, 27] 27 #[.slice s0.1.a s0.1.l s0.1.c, .slice (some (Addr.mk b4 0 none)) 1 1]) h_9 fun r9 h_10 =>
        DSl r9 fun out4a out4l out4c =>
        Q (.slice out4a out4l out4c) h_10
      else
        Q (.slice s0.1.a s0.1.l s0.1.c) h_0))) (⟨none, 0, 0⟩, false, 0) h
theorem F14_eq : (fun (l_0a : Option Addr) (l_0l : Nat) (l_0c : Nat) (key0 : ByteArray) (val0 : ByteArray) (h : Heap) (Q : Value → Heap → Prop) => fnPT Try.prog Try.f14 (fun i => bif Nat.beq i 0 then annCons 7 (codSl) (annCons 8 (codB) (annOne 9 (codI .i64))) else annNil) (fun _ => []) (fun _ => none) [.slice l_0a l_0l l_0c, .string key0, .string val0] h Q) = F14 := by kernel_rfl
theorem F14_ok {l_0a : Option Addr} {l_0l : Nat} {l_0c : Nat} {key0 : ByteArray} {val0 : ByteArray} {h : Heap} {Q : Value → Heap → Prop} (H : F14 l_0a l_0l l_0c key0 val0 h Q) : CallsH Try.prog 14 [.slice l_0a l_0l l_0c, .string key0, .string val0] h Q :=
  callsH_of (ann := fun i => bif Nat.beq i 0 then annCons 7 (codSl) (annCons 8 (codB) (annOne 9 (codI .i64))) else annNil) (tys := fun _ => []) (pl := fun _ => none) Try.func14 (by kernel_rfl) (by have e := F14_eq; exact (congrFun (congrFun (congrFun (congrFun (congrFun (congrFun (congrFun (e) l_0a) l_0l) l_0c) key0) val0) h) Q).symm ▸ H)

/-- (*headgate/table.Table[string]).Del -/
def F15 (t0 : Option Addr) (key0 : ByteArray) (h : Heap) (Q : Value → Heap → Prop) : Prop :=
  CallsH Try.prog 11 [.pointer t0, .string key0] h fun r0 h_0 =>
  ∃ (x0 : ByteArray), ∃ (x1 : Bool), r0 = .tuple #[.string x0, .bool x1] ∧
  (bif !x1 then
    Q (.bool false) h_0
  else
    NN' t0 fun a0 =>
    Ld h_0 (a0.add 0) fun v0 => DM v0 fun x2 =>
    RunH Try.prog (Builtin.delete_ #[79, 9] 0 #[.map x2, .string key0]) h_0 fun r1 h_1 =>
    NN' t0 fun a1 =>
    StC h_1 ((a1.add 2).add 0) (.bool false) fun h_3 =>
    Q (.bool true) h_3)
theorem F15_eq : (fun (t0 : Option Addr) (key0 : ByteArray) (h : Heap) (Q : Value → Heap → Prop) => fnPT Try.prog Try.f15 (fun _ => annNil) (fun _ => []) (fun _ => none) [.pointer t0, .string key0] h Q) = F15 := by kernel_rfl
theorem F15_ok {t0 : Option Addr} {key0 : ByteArray} {h : Heap} {Q : Value → Heap → Prop} (H : F15 t0 key0 h Q) : CallsH Try.prog 15 [.pointer t0, .string key0] h Q :=
  callsH_of (ann := fun _ => annNil) (tys := fun _ => []) (pl := fun _ => none) Try.func15 (by kernel_rfl) (by have e := F15_eq; exact (congrFun (congrFun (congrFun (congrFun (e) t0) key0) h) Q).symm ▸ H)

/-- (*headgate/table.Table[string]).From -/
def F17 (t0 : Option Addr) (key0 : ByteArray) (h : Heap) (Q : Value → Heap → Prop) : Prop :=
  CallsH Try.prog 18 [.pointer t0] h fun r0 h_0 =>
  DP r0 fun c0 =>
  CallsH Try.prog 35 [.pointer c0] h_0 fun r1 h_1 =>
  DSl r1 fun keys0a keys0l keys0c =>
  CallsH Try.prog 36 [.slice keys0a keys0l keys0c, .string key0] h_1 fun r2 h_2 =>
  ∃ (x0 : Int), ∃ (x1 : Bool), r2 = .tuple #[.int .i64 x0, .bool x1] ∧
  SlV keys0a keys0c 1 x0 (keys0l : Int) (keys0c : Int) fun s0a s0l s0c =>
  NN' c0 fun a0 =>
  Ld h_2 (a0.add 0) fun v0 => DM v0 fun x2 =>
  CallsH Try.prog 37 [.slice s0a s0l s0c, .map x2] h_2 fun r3 h_3 =>
  ∃ (x3 : Value), r3 = x3 ∧
  Q x3 h_3
theorem F17_eq : (fun (t0 : Option Addr) (key0 : ByteArray) (h : Heap) (Q : Value → Heap → Prop) => fnPT Try.prog Try.f17 (fun _ => annNil) (fun _ => []) (fun i => bif Nat.beq i 4 then some ⟨[0, 0, 3, 0, 8, 24, 56, 127, 255], 128⟩ else none) [.pointer t0, .string key0] h Q) = F17 := by kernel_rfl
theorem F17_ok {t0 : Option Addr} {key0 : ByteArray} {h : Heap} {Q : Value → Heap → Prop} (H : F17 t0 key0 h Q) : CallsH Try.prog 17 [.pointer t0, .string key0] h Q :=
  callsH_of (ann := fun _ => annNil) (tys := fun _ => []) (pl := fun i => bif Nat.beq i 4 then some ⟨[0, 0, 3, 0, 8, 24, 56, 127, 255], 128⟩ else none) Try.func17 (by kernel_rfl) (by have e := F17_eq; exact (congrFun (congrFun (congrFun (congrFun (e) t0) key0) h) Q).symm ▸ H)

/-- (*headgate/table.Table[string]).Copy -/
def F18 (t0 : Option Addr) (h : Heap) (Q : Value → Heap → Prop) : Prop :=
  (bif (t0).isNone then
    CallsH Try.prog 10 [.slice none 0 0] h fun r0 h_0 =>
    DP r0 fun x0 =>
    Q (.pointer x0) h_0
  else
    NN' t0 fun a0 =>
    Ld h (a0.add 0) fun v0 => DM v0 fun x1 =>
    NN' t0 fun a1 =>
    Ld h (a1.add 1) fun v1 => DSl v1 fun x2a x2l x2c =>
    NN' t0 fun a2 =>
    Ld h (a2.add 2) fun v2 => DB v2 fun x3 =>
    CallsH Try.prog 38 [.map x1] h fun r1 h_1 =>
    DM r1 fun x4 =>
    (SameV (some (.pointer t0)) (.pointer t0)) ∧
    (NN' t0 fun a3 =>
    SameV (some (.pointer (some a1))) (.pointer (some a3))) ∧
    (SameV (some (.pointer (some (a1.add 1)))) (.pointer (some (a1.add 1)))) ∧
    (Ld h_1 (a1.add 1) fun v3 => DSl v3 fun x5a x5l x5c =>
    SameV (some (.slice x2a x2l x2c)) (.slice x5a x5l x5c)) ∧
    (SameV (some (.pointer t0)) (.pointer t0)) ∧
    (NN' t0 fun a4 =>
    SameV (some (.pointer (some a2))) (.pointer (some a4))) ∧
    (SameV (some (.pointer (some (a2.add 2)))) (.pointer (some (a2.add 2)))) ∧
    (Ld h_1 (a2.add 2) fun v4 => DB v4 fun x6 =>
    SameV (some (.bool x3)) (.bool x6)) ∧
    Al h_1 (.cells #[.map x4, .slice x2a x2l x2c, .bool x3] 82) fun b0 h_2 =>
    Q (.pointer (some (Addr.mk b0 0 none))) h_2)
theorem F18_eq : (fun (t0 : Option Addr) (h : Heap) (Q : Value → Heap → Prop) => fnPT Try.prog Try.f18 (fun _ => annNil) (fun _ => []) (fun i => bif Nat.beq i 3 then some ⟨[0, 1, 3, 7, 15, 0, 32, 96, 224, 0, 512, 1536, 3584, 8191, 16383, 32767], 16400⟩ else none) [.pointer t0] h Q) = F18 := by kernel_rfl
theorem F18_ok {t0 : Option Addr} {h : Heap} {Q : Value → Heap → Prop} (H : F18 t0 h Q) : CallsH Try.prog 18 [.pointer t0] h Q :=
  callsH_of (ann := fun _ => annNil) (tys := fun _ => []) (pl := fun i => bif Nat.beq i 3 then some ⟨[0, 1, 3, 7, 15, 0, 32, 96, 224, 0, 512, 1536, 3584, 8191, 16383, 32767], 16400⟩ else none) Try.func18 (by kernel_rfl) (by have e := F18_eq; exact (congrFun (congrFun (congrFun (e) t0) h) Q).symm ▸ H)

/-- headgate/headgatelaw17.has -/
def F19 (t0 : Option Addr) (l_0a : Option Addr) (l_0l : Nat) (l_0c : Nat) (h : Heap) (Q : Value → Heap → Prop) : Prop :=
  Al h (.cells #[.slice l_0a l_0l l_0c] 27) fun b0 h_0 =>
  Al h_0 (.cells #[.bool false] 4) fun b1 h_1 =>
  Al h_1 (.cells #[.int .i64 0] 3) fun b2 h_2 =>
  StC h_2 ((Addr.mk b2 0 none).add 0) (.int .i64 0) fun h_4 =>
  CallsH Try.prog 21 [.pointer t0] h_4 fun r4 h_5 =>
  ∃ (x0 : Value), r4 = x0 ∧
  RangeFn Try.prog x0 2 none h_5 (fun l_1 rec_0 args0 h_6 Q_0 =>
    ∃ (y0 : ByteArray), ∃ (y1 : ByteArray), args0 = [.string y0, .string y1] ∧
    h_6[l_1]? = some (rec_0 .ready none) ∧
    Ld (h_6.setIfInBounds l_1 (rec_0 .busy none)) (Addr.mk b2 0 none) fun v0 => DI .i64 v0 fun x1 =>
    Ld (h_6.setIfInBounds l_1 (rec_0 .busy none)) (Addr.mk b0 0 none) fun v1 => DSl v1 fun x2a x2l x2c =>
    (bif decide ((x1 : Int) ≥ (x2l : Int)) then
      StC (h_6.setIfInBounds l_1 (rec_0 .busy none)) ((Addr.mk b1 0 none).add 0) (.bool false) fun h_8 =>
      h_8[l_1]? = some (rec_0 .busy none) ∧ Q_0 (.bool false) (h_8.setIfInBounds l_1 (rec_0 .done (some .ret)))
    else
      Ld (h_6.setIfInBounds l_1 (rec_0 .busy none)) (Addr.mk b0 0 none) fun v2 => DSl v2 fun x3a x3l x3c =>
      Ld (h_6.setIfInBounds l_1 (rec_0 .busy none)) (Addr.mk b2 0 none) fun v3 => DI .i64 v3 fun x4 =>
      IdxA x3a x3l x4 2 fun a0 =>
      Ld (h_6.setIfInBounds l_1 (rec_0 .busy none)) (a0.add 0) fun c0 =>
      Ld (h_6.setIfInBounds l_1 (rec_0 .busy none)) (a0.add 1) fun c1 =>
      ∃ (x5 : ByteArray), ∃ (x6 : ByteArray), (Value.agg #[c0, c1]) = .agg #[.string x5, .string x6] ∧
      (bif !((strEq x5 y0) && ((strEq x6 y1) && true)) then
        StC (h_6.setIfInBounds l_1 (rec_0 .busy none)) ((Addr.mk b1 0 none).add 0) (.bool false) fun h_10 =>
        h_10[l_1]? = some (rec_0 .busy none) ∧ Q_0 (.bool false) (h_10.setIfInBounds l_1 (rec_0 .done (some .ret)))
      else
        Ld (h_6.setIfInBounds l_1 (rec_0 .busy none)) (Addr.mk b2 0 none) fun v4 => DI .i64 v4 fun x7 =>
        StC (h_6.setIfInBounds l_1 (rec_0 .busy none)) ((Addr.mk b2 0 none).add 0) (.int .i64 (IntKind.wrap .i64 (x7 + 1))) fun h_12 =>
        h_12[l_1]? = some (rec_0 .busy none) ∧ Q_0 (.bool true) (h_12.setIfInBounds l_1 (rec_0 .ready none))))) (fun pend0 h_13 =>
    (pend0 = none ∨ pend0 = some (.ret)) ∧
    (pend0 = none →
      Ld h_13 (Addr.mk b2 0 none) fun v5 => DI .i64 v5 fun x8 =>
      Ld h_13 (Addr.mk b0 0 none) fun v6 => DSl v6 fun x9a x9l x9c =>
      (bif (x8 : Int) == (x9l : Int) then
        Ld h_13 (Addr.mk b2 0 none) fun v7 => DI .i64 v7 fun x10 =>
        CallsH Try.prog 22 [.pointer t0] h_13 fun r8 h_14 =>
        DI .i64 r8 fun x11 =>
        (Ld h_14 (Addr.mk b2 0 none) fun v8 => DI .i64 v8 fun x12 =>
        SameV (some (.int .i64 x10)) (.int .i64 x12)) ∧
        StC h_14 ((Addr.mk b1 0 none).add 0) (.bool ((x11 : Int) == x10)) fun h_16 =>
        h_16[h_5.size]? = some (.deferred (some [])) ∧
        Ld (h_16.setIfInBounds h_5.size (.deferred none)) (Addr.mk b1 0 none) fun v9 => DB v9 fun res0 =>
        Q (.bool res0) (h_16.setIfInBounds h_5.size (.deferred none))
      else
        (SameV (some (.tuple #[])) (.tuple #[])) ∧
        StC h_13 ((Addr.mk b1 0 none).add 0) (.bool false) fun h_18 =>
        h_18[h_5.size]? = some (.deferred (some [])) ∧
        Ld (h_18.setIfInBounds h_5.size (.deferred none)) (Addr.mk b1 0 none) fun v10 => DB v10 fun res1 =>
        Q (.bool res1) (h_18.setIfInBounds h_5.size (.deferred none)))) ∧
    (pend0 = some (.ret) →
      h_13[h_5.size]? = some (.deferred (some [])) ∧
      Ld (h_13.setIfInBounds h_5.size (.deferred none)) (Addr.mk b1 0 none) fun v11 => DB v11 fun res2 =>
      Q (.bool res2) (h_13.setIfInBounds h_5.size (.deferred none))))
theorem F19_eq : (fun (t0 : Option Addr) (l_0a : Option Addr) (l_0l : Nat) (l_0c : Nat) (h : Heap) (Q : Value → Heap → Prop) => fnPT Try.prog Try.f19 (fun _ => annNil) (fun i => bif Nat.beq i 0 then [9, 9] else []) (fun i => bif Nat.beq i 8 then some ⟨[0, 0, 2, 7, 15, 31, 63, 31, 255, 511, 1023], 1088⟩ else none) [.pointer t0, .slice l_0a l_0l l_0c] h Q) = F19 := by kernel_rfl
theorem F19_ok {t0 : Option Addr} {l_0a : Option Addr} {l_0l : Nat} {l_0c : Nat} {h : Heap} {Q : Value → Heap → Prop} (H : F19 t0 l_0a l_0l l_0c h Q) : CallsH Try.prog 19 [.pointer t0, .slice l_0a l_0l l_0c] h Q :=
  callsH_of (ann := fun _ => annNil) (tys := fun i => bif Nat.beq i 0 then [9, 9] else []) (pl := fun i => bif Nat.beq i 8 then some ⟨[0, 0, 2, 7, 15, 31, 63, 31, 255, 511, 1023], 1088⟩ else none) Try.func19 (by kernel_rfl) (by have e := F19_eq; exact (congrFun (congrFun (congrFun (congrFun (congrFun (congrFun (e) t0) l_0a) l_0l) l_0c) h) Q).symm ▸ H)

/-- headgate/headgatelaw17.made -/
def F20 (l_0a : Option Addr) (l_0l : Nat) (l_0c : Nat) (h : Heap) (Q : Value → Heap → Prop) : Prop :=
  CallsH Try.prog 10 [.slice none 0 0] h fun r0 h_0 =>
  DP r0 fun t0 =>
  LoopH (fun again0 (s0 : Sl × Int) h_1 =>
    (bif decide ((s0.2 : Int) < (l_0l : Int)) then
      IdxA l_0a l_0l s0.2 3 fun a0 =>
      Ld h_1 (a0.add 1) fun v0 => DS v0 fun x0 =>
      IdxA l_0a l_0l s0.2 3 fun a1 =>
      Ld h_1 (a1.add 2) fun v1 => DS v1 fun x1 =>
      CallsH Try.prog 13 [.pointer t0, .string x0, .string x1] h_1 fun r1 h_2 =>
      r1 = .tuple #[] ∧
      IdxA l_0a l_0l s0.2 3 fun a2 =>
      Ld h_2 (a2.add 1) fun v2 => DS v2 fun x2 =>
      IdxA l_0a l_0l s0.2 3 fun a3 =>
      Ld h_2 (a3.add 2) fun v3 => DS v3 fun x3 =>
      CallsH Try.prog 14 [.slice s0.1.a s0.1.l s0.1.c, .string x2, .string x3] h_2 fun r2 h_3 =>
      DSl r2 fun m0a m0l m0c =>
      again0 (⟨m0a, m0l, m0c⟩, IntKind.wrap .i64 (s0.2 + 1)) h_3
    else
      Q (.tuple #[.pointer t0, .slice s0.1.a s0.1.l s0.1.c]) h_1)) (⟨none, 0, 0⟩, 0) h_0
theorem F20_eq : (fun (l_0a : Option Addr) (l_0l : Nat) (l_0c : Nat) (h : Heap) (Q : Value → Heap → Prop) => fnPT Try.prog Try.f20 (fun i => bif Nat.beq i 0 then annCons 5 (codSl) (annOne 6 (codI .i64)) else annNil) (fun _ => []) (fun i => bif Nat.beq i 6 then some ⟨[0, 0, 0, 6, 14, 30, 0, 0, 192, 448, 960, 2047], 2048⟩ else bif Nat.beq i 7 then some ⟨[0, 0, 0, 6, 14, 30, 0, 0, 192, 448, 960, 2047, 4095], 2048⟩ else none) [.slice l_0a l_0l l_0c] h Q) = F20 := by kernel_rfl
theorem F20_ok {l_0a : Option Addr} {l_0l : Nat} {l_0c : Nat} {h : Heap} {Q : Value → Heap → Prop} (H : F20 l_0a l_0l l_0c h Q) : CallsH Try.prog 20 [.slice l_0a l_0l l_0c] h Q :=
  callsH_of (ann := fun i => bif Nat.beq i 0 then annCons 5 (codSl) (annOne 6 (codI .i64)) else annNil) (tys := fun _ => []) (pl := fun i => bif Nat.beq i 6 then some ⟨[0, 0, 0, 6, 14, 30, 0, 0, 192, 448, 960, 2047], 2048⟩ else bif Nat.beq i 7 then some ⟨[0, 0, 0, 6, 14, 30, 0, 0, 192, 448, 960, 2047, 4095], 2048⟩ else none) Try.func20 (by kernel_rfl) (by have e := F20_eq; exact (congrFun (congrFun (congrFun (congrFun (congrFun (e) l_0a) l_0l) l_0c) h) Q).symm ▸ H)

/-- (*headgate/table.Table[string]).All -/
def F21 (t0 : Option Addr) (h : Heap) (Q : Value → Heap → Prop) : Prop :=
  CallsH Try.prog 17 [.pointer t0, .string .empty] h fun r0 h_0 =>
  ∃ (x0 : Value), r0 = x0 ∧
  Q x0 h_0
theorem F21_eq : (fun (t0 : Option Addr) (h : Heap) (Q : Value → Heap → Prop) => fnPT Try.prog Try.f21 (fun _ => annNil) (fun _ => []) (fun _ => none) [.pointer t0] h Q) = F21 := by kernel_rfl
theorem F21_ok {t0 : Option Addr} {h : Heap} {Q : Value → Heap → Prop} (H : F21 t0 h Q) : CallsH Try.prog 21 [.pointer t0] h Q :=
  callsH_of (ann := fun _ => annNil) (tys := fun _ => []) (pl := fun _ => none) Try.func21 (by kernel_rfl) (by have e := F21_eq; exact (congrFun (congrFun (congrFun (e) t0) h) Q).symm ▸ H)

/-- (*headgate/table.Table[string]).Len -/
def F22 (t0 : Option Addr) (h : Heap) (Q : Value → Heap → Prop) : Prop :=
  (bif (t0).isNone then
    Q (.int .i64 0) h
  else
    NN' t0 fun a0 =>
    Ld h (a0.add 0) fun v0 => DM v0 fun x0 =>
    ∃ es0, mapEs h x0 es0 ∧
    Q (.int .i64 ((es0 : Array MapEntry).size : Int)) h)
theorem F22_eq : (fun (t0 : Option Addr) (h : Heap) (Q : Value → Heap → Prop) => fnPT Try.prog Try.f22 (fun _ => annNil) (fun _ => []) (fun _ => none) [.pointer t0] h Q) = F22 := by kernel_rfl
theorem F22_ok {t0 : Option Addr} {h : Heap} {Q : Value → Heap → Prop} (H : F22 t0 h Q) : CallsH Try.prog 22 [.pointer t0] h Q :=
  callsH_of (ann := fun _ => annNil) (tys := fun _ => []) (pl := fun _ => none) Try.func22 (by kernel_rfl) (by have e := F22_eq; exact (congrFun (congrFun (congrFun (e) t0) h) Q).symm ▸ H)

/-- headgate/table.Diff[string] -/
def F23 (a0 : Option Addr) (b0 : Option Addr) (h : Heap) (Q : Value → Heap → Prop) : Prop :=
  Al h (.cells #[.pointer a0] 25) fun b1 h_0 =>
  Al h_0 (.cells #[.pointer b0] 25) fun b2 h_1 =>
  Al h_1 (.cells #[.slice none 0 0] 48) fun b3 h_2 =>
  Ld h_2 (Addr.mk b2 0 none) fun v0 => DP v0 fun x0 =>
  CallsH Try.prog 21 [.pointer x0] h_2 fun r3 h_3 =>
  ∃ (x1 : Value), r3 = x1 ∧
  RangeFn Try.prog x1 2 none h_3 (fun l_0 rec_0 args0 h_4 Q_0 =>
    ∃ (y0 : ByteArray), ∃ (y1 : ByteArray), args0 = [.string y0, .string y1] ∧
    h_4[l_0]? = some (rec_0 .ready none) ∧
    Ld (h_4.setIfInBounds l_0 (rec_0 .busy none)) (Addr.mk b1 0 none) fun v1 => DP v1 fun x2 =>
    CallsH Try.prog 11 [.pointer x2, .string y0] (h_4.setIfInBounds l_0 (rec_0 .busy none)) fun r4 h_5 =>
    ∃ (x3 : ByteArray), ∃ (x4 : Bool), r4 = .tuple #[.string x3, .bool x4] ∧
    (bif !x4 then
      Ld h_5 (Addr.mk b3 0 none) fun v2 => DSl v2 fun x5a x5l x5c =>
      Al h_5 (.cells #[.string y0, .string y1, .bool false] 54) fun b4 h_6 =>
      RunH Try.prog (Builtin.append_ #[48, 48] 48 #[.slice x5a x5l x5c, .slice (some (Addr.mk b4 0 none)) 1 1]) h_6 fun r6 h_7 =>
      DSl r6 fun x6a x6l x6c =>
      StC h_7 ((Addr.mk b3 0 none).add 0) (.slice x6a x6l x6c) fun h_9 =>
      h_9[l_0]? = some (rec_0 .busy none) ∧ Q_0 (.bool true) (h_9.setIfInBounds l_0 (rec_0 .ready none))
    else
      (bif !strEq x3 y1 then
        Ld h_5 (Addr.mk b3 0 none) fun v3 => DSl v3 fun x7a x7l x7c =>
        Al h_5 (.cells #[.string y0, .string y1, .bool false] 54) fun b5 h_10 =>
        RunH Try.prog (Builtin.append_ #[48, 48] 48 #[.slice x7a x7l x7c, .slice (some (Addr.mk b5 0 none)) 1 1]) h_10 fun r9 h_11 =>
        DSl r9 fun x8a x8l x8c =>
        StC h_11 ((Addr.mk b3 0 none).add 0) (.slice x8a x8l x8c) fun h_13 =>
        h_13[l_0]? = some (rec_0 .busy none) ∧ Q_0 (.bool true) (h_13.setIfInBounds l_0 (rec_0 .ready none))
      else
        h_5[l_0]? = some (rec_0 .busy none) ∧ Q_0 (.bool true) (h_5.setIfInBounds l_0 (rec_0 .ready none))))) (fun pend0 h_14 =>
    pend0 = none ∧
    Ld h_14 (Addr.mk b1 0 none) fun v4 => DP v4 fun x9 =>
    CallsH Try.prog 21 [.pointer x9] h_14 fun r11 h_15 =>
    ∃ (x10 : Value), r11 = x10 ∧
    RangeFn Try.prog x10 2 none h_15 (fun l_1 rec_1 args1 h_16 Q_1 =>
      ∃ (y2 : ByteArray), ∃ (y3 : ByteArray), args1 = [.string y2, .string y3] ∧
      h_16[l_1]? = some (rec_1 .ready none) ∧
      Ld (h_16.setIfInBounds l_1 (rec_1 .busy none)) (Addr.mk b2 0 none) fun v5 => DP v5 fun x11 =>
      CallsH Try.prog 11 [.pointer x11, .string y2] (h_16.setIfInBounds l_1 (rec_1 .busy none)) fun r12 h_17 =>
      ∃ (x12 : ByteArray), ∃ (x13 : Bool), r12 = .tuple #[.string x12, .bool x13] ∧
      (bif !x13 then
        Ld h_17 (Addr.mk b3 0 none) fun v6 => DSl v6 fun x14a x14l x14c =>
        Al h_17 (.cells #[.string y2, .string .empty, .bool true] 54) fun b6 h_18 =>
        RunH Try.prog (Builtin.append_ #[48, 48] 48 #[.slice x14a x14l x14c, .slice (some (Addr.mk b6 0 none)) 1 1]) h_18 fun r14 h_19 =>
        DSl r14 fun x15a x15l x15c =>
        StC h_19 ((Addr.mk b3 0 none).add 0) (.slice x15a x15l x15c) fun h_21 =>
        h_21[l_1]? = some (rec_1 .busy none) ∧ Q_1 (.bool true) (h_21.setIfInBounds l_1 (rec_1 .ready none))
      else
        h_17[l_1]? = some (rec_1 .busy none) ∧ Q_1 (.bool true) (h_17.setIfInBounds l_1 (rec_1 .ready none)))) (fun pend1 h_22 =>
      pend1 = none ∧
      Ld h_22 (Addr.mk b3 0 none) fun v7 => DSl v7 fun x16a x16l x16c =>
      CallsH Try.prog 39 [.slice x16a x16l x16c, .func (.func 40) #[] #[]] h_22 fun r16 h_23 =>
      r16 = .tuple #[] ∧
      Ld h_23 (Addr.mk b3 0 none) fun v8 => DSl v8 fun x17a x17l x17c =>
      h_23[h_15.size]? = some (.deferred (some [])) ∧
      (h_23.setIfInBounds h_15.size (.deferred none))[h_3.size]? = some (.deferred (some [])) ∧
      Q (.slice x17a x17l x17c) ((h_23.setIfInBounds h_15.size (.deferred none)).setIfInBounds h_3.size (.deferred none))))
theorem F23_eq : (fun (a0 : Option Addr) (b0 : Option Addr) (h : Heap) (Q : Value → Heap → Prop) => fnPT Try.prog Try.f23 (fun _ => annNil) (fun i => bif Nat.beq i 0 then [9, 9] else bif Nat.beq i 2 then [9, 9] else []) (fun _ => none) [.pointer a0, .pointer b0] h Q) = F23 := by kernel_rfl
theorem F23_ok {a0 : Option Addr} {b0 : Option Addr} {h : Heap} {Q : Value → Heap → Prop} (H : F23 a0 b0 h Q) : CallsH Try.prog 23 [.pointer a0, .pointer b0] h Q :=
  callsH_of (ann := fun _ => annNil) (tys := fun i => bif Nat.beq i 0 then [9, 9] else bif Nat.beq i 2 then [9, 9] else []) (pl := fun _ => none) Try.func23 (by kernel_rfl) (by have e := F23_eq; exact (congrFun (congrFun (congrFun (congrFun (e) a0) b0) h) Q).symm ▸ H)

/-- headgate/table.New[int] -/
def F33 (l_0a : Option Addr) (l_0l : Nat) (l_0c : Nat) (h : Heap) (Q : Value → Heap → Prop) : Prop :=
  Al h (.map #[] 0) fun b0 h_0 =>
  Al h_0 (.cells #[.map (some b0), .slice none 0 0, .bool false] 109) fun b1 h_1 =>
  LoopH (fun again0 (s0 : Int) h_2 =>
    (bif decide ((s0 : Int) < (l_0l : Int)) then
      IdxA l_0a l_0l s0 2 fun a0 =>
      Ld h_2 (a0.add 0) fun c0 =>
      Ld h_2 (a0.add 1) fun c1 =>
      ∃ (x0 : ByteArray), ∃ (x1 : Int), (Value.agg #[c0, c1]) = .agg #[.string x0, .int .i64 x1] ∧
      Al h_2 (.cells #[.string .empty, .int .i64 0] 73) fun b2 h_3 =>
      StC h_3 ((Addr.mk b2 0 none).add 0) (.string x0) fun h_5 =>
      StC h_5 ((Addr.mk b2 0 none).add 1) (.int .i64 x1) fun h_6 =>
      Ld h_6 ((Addr.mk b1 0 none).add 0) fun v0 => DM v0 fun x2 =>
      Ld h_6 ((Addr.mk b2 0 none).add 0) fun v1 => DS v1 fun x3 =>
      Ld h_6 ((Addr.mk b2 0 none).add 1) fun v2 => DI .i64 v2 fun x4 =>
      RunU Try.prog (Instr.mapUpdate 107 (.map x2) (.string x3) (.int .i64 x4)) h_6 fun h_7 =>
      again0 (IntKind.wrap .i64 (s0 + 1)) h_7
    else
      Q (.pointer (some (Addr.mk b1 0 none))) h_2)) 0 h_1
theorem F33_eq : (fun (l_0a : Option Addr) (l_0l : Nat) (l_0c : Nat) (h : Heap) (Q : Value → Heap → Prop) => fnPT Try.prog Try.f33 (fun i => bif Nat.beq i 0 then annOne 11 (codI .i64) else annNil) (fun _ => []) (fun i => bif Nat.beq i 5 then some ⟨[0, 1, 3, 7, 0, 16, 0, 64, 255], 256⟩ else none) [.slice l_0a l_0l l_0c] h Q) = F33 := by kernel_rfl
theorem F33_ok {l_0a : Option Addr} {l_0l : Nat} {l_0c : Nat} {h : Heap} {Q : Value → Heap → Prop} (H : F33 l_0a l_0l l_0c h Q) : CallsH Try.prog 33 [.slice l_0a l_0l l_0c] h Q :=
  callsH_of (ann := fun i => bif Nat.beq i 0 then annOne 11 (codI .i64) else annNil) (tys := fun _ => []) (pl := fun i => bif Nat.beq i 5 then some ⟨[0, 1, 3, 7, 0, 16, 0, 64, 255], 256⟩ else none) Try.func33 (by kernel_rfl) (by have e := F33_eq; exact (congrFun (congrFun (congrFun (congrFun (congrFun (e) l_0a) l_0l) l_0c) h) Q).symm ▸ H)

/-- headgate/table.Diff[int] -/
def F34 (a0 : Option Addr) (b0 : Option Addr) (h : Heap) (Q : Value → Heap → Prop) : Prop :=
  Al h (.cells #[.pointer a0] 70) fun b1 h_0 =>
  Al h_0 (.cells #[.pointer b0] 70) fun b2 h_1 =>
  Al h_1 (.cells #[.slice none 0 0] 74) fun b3 h_2 =>
  Ld h_2 (Addr.mk b2 0 none) fun v0 => DP v0 fun x0 =>
  CallsH Try.prog 47 [.pointer x0] h_2 fun r3 h_3 =>
  ∃ (x1 : Value), r3 = x1 ∧
  RangeFn Try.prog x1 2 none h_3 (fun l_0 rec_0 args0 h_4 Q_0 =>
    ∃ (y0 : ByteArray), ∃ (y1 : Int), args0 = [.string y0, .int .i64 y1] ∧
    h_4[l_0]? = some (rec_0 .ready none) ∧
    Ld (h_4.setIfInBounds l_0 (rec_0 .busy none)) (Addr.mk b1 0 none) fun v1 => DP v1 fun x2 =>
    CallsH Try.prog 48 [.pointer x2, .string y0] (h_4.setIfInBounds l_0 (rec_0 .busy none)) fun r4 h_5 =>
    ∃ (x3 : Int), ∃ (x4 : Bool), r4 = .tuple #[.int .i64 x3, .bool x4] ∧
    (bif !x4 then
      Ld h_5 (Addr.mk b3 0 none) fun v2 => DSl v2 fun x5a x5l x5c =>
      Al h_5 (.cells #[.string y0, .int .i64 y1, .bool false] 77) fun b4 h_6 =>
      RunH Try.prog (Builtin.append_ #[74, 74] 74 #[.slice x5a x5l x5c, .slice (some (Addr.mk b4 0 none)) 1 1]) h_6 fun r6 h_7 =>
      DSl r6 fun x6a x6l x6c =>
      StC h_7 ((Addr.mk b3 0 none).add 0) (.slice x6a x6l x6c) fun h_9 =>
      h_9[l_0]? = some (rec_0 .busy none) ∧ Q_0 (.bool true) (h_9.setIfInBounds l_0 (rec_0 .ready none))
    else
      (bif (x3 : Int) != y1 then
        Ld h_5 (Addr.mk b3 0 none) fun v3 => DSl v3 fun x7a x7l x7c =>
        Al h_5 (.cells #[.string y0, .int .i64 y1, .bool false] 77) fun b5 h_10 =>
        RunH Try.prog (Builtin.append_ #[74, 74] 74 #[.slice x7a x7l x7c, .slice (some (Addr.mk b5 0 none)) 1 1]) h_10 fun r9 h_11 =>
        DSl r9 fun x8a x8l x8c =>
        StC h_11 ((Addr.mk b3 0 none).add 0) (.slice x8a x8l x8c) fun h_13 =>
        h_13[l_0]? = some (rec_0 .busy none) ∧ Q_0 (.bool true) (h_13.setIfInBounds l_0 (rec_0 .ready none))
      else
        h_5[l_0]? = some (rec_0 .busy none) ∧ Q_0 (.bool true) (h_5.setIfInBounds l_0 (rec_0 .ready none))))) (fun pend0 h_14 =>
    pend0 = none ∧
    Ld h_14 (Addr.mk b1 0 none) fun v4 => DP v4 fun x9 =>
    CallsH Try.prog 47 [.pointer x9] h_14 fun r11 h_15 =>
    ∃ (x10 : Value), r11 = x10 ∧
    RangeFn Try.prog x10 2 none h_15 (fun l_1 rec_1 args1 h_16 Q_1 =>
      ∃ (y2 : ByteArray), ∃ (y3 : Int), args1 = [.string y2, .int .i64 y3] ∧
      h_16[l_1]? = some (rec_1 .ready none) ∧
      Ld (h_16.setIfInBounds l_1 (rec_1 .busy none)) (Addr.mk b2 0 none) fun v5 => DP v5 fun x11 =>
      CallsH Try.prog 48 [.pointer x11, .string y2] (h_16.setIfInBounds l_1 (rec_1 .busy none)) fun r12 h_17 =>
      ∃ (x12 : Int), ∃ (x13 : Bool), r12 = .tuple #[.int .i64 x12, .bool x13] ∧
      (bif !x13 then
        Ld h_17 (Addr.mk b3 0 none) fun v6 => DSl v6 fun x14a x14l x14c =>
        Al h_17 (.cells #[.string y2, .int .i64 0, .bool true] 77) fun b6 h_18 =>
        RunH Try.prog (Builtin.append_ #[74, 74] 74 #[.slice x14a x14l x14c, .slice (some (Addr.mk b6 0 none)) 1 1]) h_18 fun r14 h_19 =>
        DSl r14 fun x15a x15l x15c =>
        StC h_19 ((Addr.mk b3 0 none).add 0) (.slice x15a x15l x15c) fun h_21 =>
        h_21[l_1]? = some (rec_1 .busy none) ∧ Q_1 (.bool true) (h_21.setIfInBounds l_1 (rec_1 .ready none))
      else
        h_17[l_1]? = some (rec_1 .busy none) ∧ Q_1 (.bool true) (h_17.setIfInBounds l_1 (rec_1 .ready none)))) (fun pend1 h_22 =>
      pend1 = none ∧
      Ld h_22 (Addr.mk b3 0 none) fun v7 => DSl v7 fun x16a x16l x16c =>
      CallsH Try.prog 49 [.slice x16a x16l x16c, .func (.func 50) #[] #[]] h_22 fun r16 h_23 =>
      r16 = .tuple #[] ∧
      Ld h_23 (Addr.mk b3 0 none) fun v8 => DSl v8 fun x17a x17l x17c =>
      h_23[h_15.size]? = some (.deferred (some [])) ∧
      (h_23.setIfInBounds h_15.size (.deferred none))[h_3.size]? = some (.deferred (some [])) ∧
      Q (.slice x17a x17l x17c) ((h_23.setIfInBounds h_15.size (.deferred none)).setIfInBounds h_3.size (.deferred none))))
theorem F34_eq : (fun (a0 : Option Addr) (b0 : Option Addr) (h : Heap) (Q : Value → Heap → Prop) => fnPT Try.prog Try.f34 (fun _ => annNil) (fun i => bif Nat.beq i 0 then [9, 3] else bif Nat.beq i 2 then [9, 3] else []) (fun _ => none) [.pointer a0, .pointer b0] h Q) = F34 := by kernel_rfl
theorem F34_ok {a0 : Option Addr} {b0 : Option Addr} {h : Heap} {Q : Value → Heap → Prop} (H : F34 a0 b0 h Q) : CallsH Try.prog 34 [.pointer a0, .pointer b0] h Q :=
  callsH_of (ann := fun _ => annNil) (tys := fun i => bif Nat.beq i 0 then [9, 3] else bif Nat.beq i 2 then [9, 3] else []) (pl := fun _ => none) Try.func34 (by kernel_rfl) (by have e := F34_eq; exact (congrFun (congrFun (congrFun (congrFun (e) a0) b0) h) Q).symm ▸ H)

/-- (*headgate/table.Table[string]).order -/
def F35 (t0 : Option Addr) (h : Heap) (Q : Value → Heap → Prop) : Prop :=
  (bif (t0).isNone then
    Q (.slice none 0 0) h
  else
    NN' t0 fun a0 =>
    Ld h (a0.add 2) fun v0 => DB v0 fun x0 =>
    (bif !x0 then
      NN' t0 fun a1 =>
      Ld h (a1.add 0) fun v1 => DM v1 fun x1 =>
      CallsH Try.prog 52 [.map x1] h fun r0 h_0 =>
      ∃ (x2 : Value), r0 = x2 ∧
      CallsH Try.prog 51 [x2] h_0 fun r1 h_1 =>
      DSl r1 fun x3a x3l x3c =>
      NN' t0 fun a2 =>
      StC h_1 ((a2.add 1).add 0) (.slice x3a x3l x3c) fun h_3 =>
      NN' t0 fun a3 =>
      StC h_3 ((a3.add 2).add 0) (.bool true) fun h_5 =>
      NN' t0 fun a4 =>
      Ld h_5 (a4.add 1) fun v2 => DSl v2 fun x4a x4l x4c =>
      Q (.slice x4a x4l x4c) h_5
    else
      NN' t0 fun a5 =>
      Ld h (a5.add 1) fun v3 => DSl v3 fun x5a x5l x5c =>
      Q (.slice x5a x5l x5c) h))
theorem F35_eq : (fun (t0 : Option Addr) (h : Heap) (Q : Value → Heap → Prop) => fnPT Try.prog Try.f35 (fun _ => annNil) (fun _ => []) (fun _ => none) [.pointer t0] h Q) = F35 := by kernel_rfl
theorem F35_ok {t0 : Option Addr} {h : Heap} {Q : Value → Heap → Prop} (H : F35 t0 h Q) : CallsH Try.prog 35 [.pointer t0] h Q :=
  callsH_of (ann := fun _ => annNil) (tys := fun _ => []) (pl := fun _ => none) Try.func35 (by kernel_rfl) (by have e := F35_eq; exact (congrFun (congrFun (congrFun (e) t0) h) Q).symm ▸ H)

/-- slices.BinarySearch[[]string,string] -/
def F36 (x0a : Option Addr) (x0l : Nat) (x0c : Nat) (target0 : ByteArray) (h : Heap) (Q : Value → Heap → Prop) : Prop :=
  LoopH (fun again0 (s0 : Int × Int) h_0 =>
    (bif decide ((s0.1 : Int) < s0.2) then
      0 ≤ (1 : Int) ∧
      IdxA x0a x0l (IntKind.wrap .i64 (shrI .u64 (IntKind.wrap .u64 (IntKind.wrap .i64 (s0.1 + s0.2))) 1)) 1 fun a0 =>
      Ld h_0 a0 fun v0 => DS v0 fun x1 =>
      CallsH Try.prog 53 [.string x1, .string target0] h_0 fun r0 h_1 =>
      DB r0 fun x2 =>
      (bif x2 then
        again0 (IntKind.wrap .i64 ((IntKind.wrap .i64 (shrI .u64 (IntKind.wrap .u64 (IntKind.wrap .i64 (s0.1 + s0.2))) 1)) + 1), s0.2) h_1
      else
        again0 (s0.1, IntKind.wrap .i64 (shrI .u64 (IntKind.wrap .u64 (IntKind.wrap .i64 (s0.1 + s0.2))) 1)) h_1)
    else
      (bif decide ((s0.1 : Int) < (x0l : Int)) then
        IdxA x0a x0l s0.1 1 fun a1 =>
        Ld h_0 a1 fun v1 => DS v1 fun x3 =>
        (bif strEq x3 target0 then
          Q (.tuple #[.int .i64 s0.1, .bool true]) h_0
        else
          IdxA x0a x0l s0.1 1 fun a2 =>
          Ld h_0 a2 fun v2 => DS v2 fun x4 =>
          CallsH Try.prog 54 [.string x4] h_0 fun r1 h_2 =>
          DB r1 fun x5 =>
          (bif x5 then
            CallsH Try.prog 54 [.string target0] h_2 fun r2 h_3 =>
            DB r2 fun x6 =>
            Q (.tuple #[.int .i64 s0.1, .bool x6]) h_3
          else
            Q (.tuple #[.int .i64 s0.1, .bool false]) h_2))
      else
        Q (.tuple #[.int .i64 s0.1, .bool false]) h_0))) (0, (x0l : Int)) h
theorem F36_eq : (fun (x0a : Option Addr) (x0l : Nat) (x0c : Nat) (target0 : ByteArray) (h : Heap) (Q : Value → Heap → Prop) => fnPT Try.prog Try.f36 (fun i => bif Nat.beq i 0 then annCons 7 (codI .i64) (annOne 8 (codI .i64)) else annNil) (fun _ => []) (fun _ => none) [.slice x0a x0l x0c, .string target0] h Q) = F36 := by kernel_rfl
theorem F36_ok {x0a : Option Addr} {x0l : Nat} {x0c : Nat} {target0 : ByteArray} {h : Heap} {Q : Value → Heap → Prop} (H : F36 x0a x0l x0c target0 h Q) : CallsH Try.prog 36 [.slice x0a x0l x0c, .string target0] h Q :=
  callsH_of (ann := fun i => bif Nat.beq i 0 then annCons 7 (codI .i64) (annOne 8 (codI .i64)) else annNil) (tys := fun _ => []) (pl := fun _ => none) Try.func36 (by kernel_rfl) (by have e := F36_eq; exact (congrFun (congrFun (congrFun (congrFun (congrFun (congrFun (e) x0a) x0l) x0c) target0) h) Q).symm ▸ H)

/-- headgate/table.over[string] -/
def F37 (keys0a : Option Addr) (keys0l : Nat) (keys0c : Nat) (m0 : Option Nat) (h : Heap) (Q : Value → Heap → Prop) : Prop :=
  Al h (.cells #[.slice keys0a keys0l keys0c] 80) fun b0 h_0 =>
  Al h_0 (.cells #[.map m0] 79) fun b1 h_1 =>
  Q (.func (.func 55) #[] #[.pointer (some (Addr.mk b0 0 none)), .pointer (some (Addr.mk b1 0 none))]) h_1
theorem F37_eq : (fun (keys0a : Option Addr) (keys0l : Nat) (keys0c : Nat) (m0 : Option Nat) (h : Heap) (Q : Value → Heap → Prop) => fnPT Try.prog Try.f37 (fun _ => annNil) (fun _ => []) (fun _ => none) [.slice keys0a keys0l keys0c, .map m0] h Q) = F37 := by kernel_rfl
theorem F37_ok {keys0a : Option Addr} {keys0l : Nat} {keys0c : Nat} {m0 : Option Nat} {h : Heap} {Q : Value → Heap → Prop} (H : F37 keys0a keys0l keys0c m0 h Q) : CallsH Try.prog 37 [.slice keys0a keys0l keys0c, .map m0] h Q :=
  callsH_of (ann := fun _ => annNil) (tys := fun _ => []) (pl := fun _ => none) Try.func37 (by kernel_rfl) (by have e := F37_eq; exact (congrFun (congrFun (congrFun (congrFun (congrFun (congrFun (e) keys0a) keys0l) keys0c) m0) h) Q).symm ▸ H)

/-- (*headgate/table.Table[int]).All -/
def F47 (t0 : Option Addr) (h : Heap) (Q : Value → Heap → Prop) : Prop :=
  CallsH Try.prog 63 [.pointer t0, .string .empty] h fun r0 h_0 =>
  ∃ (x0 : Value), r0 = x0 ∧
  Q x0 h_0
theorem F47_eq : (fun (t0 : Option Addr) (h : Heap) (Q : Value → Heap → Prop) => fnPT Try.prog Try.f47 (fun _ => annNil) (fun _ => []) (fun _ => none) [.pointer t0] h Q) = F47 := by kernel_rfl
theorem F47_ok {t0 : Option Addr} {h : Heap} {Q : Value → Heap → Prop} (H : F47 t0 h Q) : CallsH Try.prog 47 [.pointer t0] h Q :=
  callsH_of (ann := fun _ => annNil) (tys := fun _ => []) (pl := fun _ => none) Try.func47 (by kernel_rfl) (by have e := F47_eq; exact (congrFun (congrFun (congrFun (e) t0) h) Q).symm ▸ H)

/-- (*headgate/table.Table[int]).Get -/
def F48 (t0 : Option Addr) (key0 : ByteArray) (h : Heap) (Q : Value → Heap → Prop) : Prop :=
  (bif (t0).isNone then
    Q (.tuple #[.int .i64 0, .bool false]) h
  else
    NN' t0 fun a0 =>
    Ld h (a0.add 0) fun v0 => DM v0 fun x0 =>
    ∃ es0, mapEs h x0 es0 ∧ ∃ f0, Instr.findNow .string (.string key0) (es0 : Array MapEntry).toList 0 = some f0 ∧
    DI .i64 ((Option.map (fun x => x.2) f0).getD (.int .i64 0)) fun x1 =>
    Q (.tuple #[.int .i64 x1, .bool (Option.isSome f0)]) h)
theorem F48_eq : (fun (t0 : Option Addr) (key0 : ByteArray) (h : Heap) (Q : Value → Heap → Prop) => fnPT Try.prog Try.f48 (fun _ => annNil) (fun _ => []) (fun _ => none) [.pointer t0, .string key0] h Q) = F48 := by kernel_rfl
theorem F48_ok {t0 : Option Addr} {key0 : ByteArray} {h : Heap} {Q : Value → Heap → Prop} (H : F48 t0 key0 h Q) : CallsH Try.prog 48 [.pointer t0, .string key0] h Q :=
  callsH_of (ann := fun _ => annNil) (tys := fun _ => []) (pl := fun _ => none) Try.func48 (by kernel_rfl) (by have e := F48_eq; exact (congrFun (congrFun (congrFun (congrFun (e) t0) key0) h) Q).symm ▸ H)

/-- slices.Sorted[string] -/
def F51 (seq0 : Value) (h : Heap) (Q : Value → Heap → Prop) : Prop :=
  CallsH Try.prog 65 [seq0] h fun r0 h_0 =>
  DSl r0 fun s0a s0l s0c =>
  CallsH Try.prog 66 [.slice s0a s0l s0c] h_0 fun r1 h_1 =>
  r1 = .tuple #[] ∧
  Q (.slice s0a s0l s0c) h_1
theorem F51_eq : (fun (seq0 : Value) (h : Heap) (Q : Value → Heap → Prop) => fnPT Try.prog Try.f51 (fun _ => annNil) (fun _ => []) (fun _ => none) [seq0] h Q) = F51 := by kernel_rfl
theorem F51_ok {seq0 : Value} {h : Heap} {Q : Value → Heap → Prop} (H : F51 seq0 h Q) : CallsH Try.prog 51 [seq0] h Q :=
  callsH_of (ann := fun _ => annNil) (tys := fun _ => []) (pl := fun _ => none) Try.func51 (by kernel_rfl) (by have e := F51_eq; exact (congrFun (congrFun (congrFun (e) seq0) h) Q).symm ▸ H)

/-- maps.Keys[map[string]string,string,string] -/
def F52 (m0 : Option Nat) (h : Heap) (Q : Value → Heap → Prop) : Prop :=
  Al h (.cells #[.map m0] 79) fun b0 h_0 =>
  Q (.func (.func 67) #[] #[.pointer (some (Addr.mk b0 0 none))]) h_0
theorem F52_eq : (fun (m0 : Option Nat) (h : Heap) (Q : Value → Heap → Prop) => fnPT Try.prog Try.f52 (fun _ => annNil) (fun _ => []) (fun _ => none) [.map m0] h Q) = F52 := by kernel_rfl
theorem F52_ok {m0 : Option Nat} {h : Heap} {Q : Value → Heap → Prop} (H : F52 m0 h Q) : CallsH Try.prog 52 [.map m0] h Q :=
  callsH_of (ann := fun _ => annNil) (tys := fun _ => []) (pl := fun _ => none) Try.func52 (by kernel_rfl) (by have e := F52_eq; exact (congrFun (congrFun (congrFun (e) m0) h) Q).symm ▸ H)

/-- cmp.Less[string] -/
def F53 (x0 : ByteArray) (y0 : ByteArray) (h : Heap) (Q : Value → Heap → Prop) : Prop :=
  CallsH Try.prog 68 [.string x0] h fun r0 h_0 =>
  DB r0 fun x1 =>
  (bif x1 then
    CallsH Try.prog 68 [.string y0] h_0 fun r1 h_1 =>
    DB r1 fun x2 =>
    (bif !x2 then
      Q (.bool true) h_1
    else
      Q (.bool (strLt x0 y0)) h_1)
  else
    Q (.bool (strLt x0 y0)) h_0)
theorem F53_eq : (fun (x0 : ByteArray) (y0 : ByteArray) (h : Heap) (Q : Value → Heap → Prop) => fnPT Try.prog Try.f53 (fun _ => annNil) (fun _ => []) (fun _ => none) [.string x0, .string y0] h Q) = F53 := by kernel_rfl
theorem F53_ok {x0 : ByteArray} {y0 : ByteArray} {h : Heap} {Q : Value → Heap → Prop} (H : F53 x0 y0 h Q) : CallsH Try.prog 53 [.string x0, .string y0] h Q :=
  callsH_of (ann := fun _ => annNil) (tys := fun _ => []) (pl := fun _ => none) Try.func53 (by kernel_rfl) (by have e := F53_eq; exact (congrFun (congrFun (congrFun (congrFun (e) x0) y0) h) Q).symm ▸ H)

/-- slices.isNaN[string] -/
def F54 (x0 : ByteArray) (h : Heap) (Q : Value → Heap → Prop) : Prop :=
  Q (.bool (!strEq x0 x0)) h
theorem F54_eq : (fun (x0 : ByteArray) (h : Heap) (Q : Value → Heap → Prop) => fnPT Try.prog Try.f54 (fun _ => annNil) (fun _ => []) (fun _ => none) [.string x0] h Q) = F54 := by kernel_rfl
theorem F54_ok {x0 : ByteArray} {h : Heap} {Q : Value → Heap → Prop} (H : F54 x0 h Q) : CallsH Try.prog 54 [.string x0] h Q :=
  callsH_of (ann := fun _ => annNil) (tys := fun _ => []) (pl := fun _ => none) Try.func54 (by kernel_rfl) (by have e := F54_eq; exact (congrFun (congrFun (congrFun (e) x0) h) Q).symm ▸ H)

/-- headgate/table.over[string]$1 -/
def F55 (yield0 : Value) (c0 : Addr) (c1 : Addr) (h : Heap) (Q : Value → Heap → Prop) : Prop :=
  Ld h c0 fun v0 => DSl v0 fun x0a x0l x0c =>
  LoopH (fun again0 (s0 : Int) h_0 =>
    (bif decide ((s0 : Int) < (x0l : Int)) then
      IdxA x0a x0l s0 1 fun a0 =>
      Ld h_0 a0 fun v1 => DS v1 fun k0 =>
      Ld h_0 c1 fun v2 => DM v2 fun x1 =>
      ∃ es0, mapEs h_0 x1 es0 ∧ ∃ f0, Instr.findNow .string (.string k0) (es0 : Array MapEntry).toList 0 = some f0 ∧
      DS ((Option.map (fun x => x.2) f0).getD (.string .empty)) fun x2 =>
      CallV Try.prog yield0 [.string k0, .string x2] h_0 fun r0 h_1 =>
      DB r0 fun x3 =>
      (bif !x3 then
        Q (.tuple #[]) h_1
      else
        again0 (IntKind.wrap .i64 (s0 + 1)) h_1)
    else
      Q (.tuple #[]) h_0)) 0 h
theorem F55_eq : (fun (yield0 : Value) (c0 : Addr) (c1 : Addr) (h : Heap) (Q : Value → Heap → Prop) => fnPT Try.prog Try.f55 (fun i => bif Nat.beq i 0 then annOne 8 (codI .i64) else annNil) (fun _ => []) (fun _ => none) [yield0, .pointer (some c0), .pointer (some c1)] h Q) = F55 := by kernel_rfl
theorem F55_ok {yield0 : Value} {c0 : Addr} {c1 : Addr} {h : Heap} {Q : Value → Heap → Prop} (H : F55 yield0 c0 c1 h Q) : CallsH Try.prog 55 [yield0, .pointer (some c0), .pointer (some c1)] h Q :=
  callsH_of (ann := fun i => bif Nat.beq i 0 then annOne 8 (codI .i64) else annNil) (tys := fun _ => []) (pl := fun _ => none) Try.func55 (by kernel_rfl) (by have e := F55_eq; exact (congrFun (congrFun (congrFun (congrFun (congrFun (e) yield0) c0) c1) h) Q).symm ▸ H)

/-- (*headgate/table.Table[int]).From -/
def F63 (t0 : Option Addr) (key0 : ByteArray) (h : Heap) (Q : Value → Heap → Prop) : Prop :=
  CallsH Try.prog 90 [.pointer t0] h fun r0 h_0 =>
  DP r0 fun c0 =>
  CallsH Try.prog 91 [.pointer c0] h_0 fun r1 h_1 =>
  DSl r1 fun keys0a keys0l keys0c =>
  CallsH Try.prog 36 [.slice keys0a keys0l keys0c, .string key0] h_1 fun r2 h_2 =>
  ∃ (x0 : Int), ∃ (x1 : Bool), r2 = .tuple #[.int .i64 x0, .bool x1] ∧
  SlV keys0a keys0c 1 x0 (keys0l : Int) (keys0c : Int) fun s0a s0l s0c =>
  NN' c0 fun a0 =>
  Ld h_2 (a0.add 0) fun v0 => DM v0 fun x2 =>
  CallsH Try.prog 92 [.slice s0a s0l s0c, .map x2] h_2 fun r3 h_3 =>
  ∃ (x3 : Value), r3 = x3 ∧
  Q x3 h_3
theorem F63_eq : (fun (t0 : Option Addr) (key0 : ByteArray) (h : Heap) (Q : Value → Heap → Prop) => fnPT Try.prog Try.f63 (fun _ => annNil) (fun _ => []) (fun i => bif Nat.beq i 4 then some ⟨[0, 0, 3, 0, 8, 24, 56, 127, 255], 128⟩ else none) [.pointer t0, .string key0] h Q) = F63 := by kernel_rfl
theorem F63_ok {t0 : Option Addr} {key0 : ByteArray} {h : Heap} {Q : Value → Heap → Prop} (H : F63 t0 key0 h Q) : CallsH Try.prog 63 [.pointer t0, .string key0] h Q :=
  callsH_of (ann := fun _ => annNil) (tys := fun _ => []) (pl := fun i => bif Nat.beq i 4 then some ⟨[0, 0, 3, 0, 8, 24, 56, 127, 255], 128⟩ else none) Try.func63 (by kernel_rfl) (by have e := F63_eq; exact (congrFun (congrFun (congrFun (congrFun (e) t0) key0) h) Q).symm ▸ H)

/-- slices.Collect[string] -/
def F65 (seq0 : Value) (h : Heap) (Q : Value → Heap → Prop) : Prop :=
  CallsH Try.prog 101 [.slice none 0 0, seq0] h fun r0 h_0 =>
  DSl r0 fun x0a x0l x0c =>
  Q (.slice x0a x0l x0c) h_0
theorem F65_eq : (fun (seq0 : Value) (h : Heap) (Q : Value → Heap → Prop) => fnPT Try.prog Try.f65 (fun _ => annNil) (fun _ => []) (fun _ => none) [seq0] h Q) = F65 := by kernel_rfl
theorem F65_ok {seq0 : Value} {h : Heap} {Q : Value → Heap → Prop} (H : F65 seq0 h Q) : CallsH Try.prog 65 [seq0] h Q :=
  callsH_of (ann := fun _ => annNil) (tys := fun _ => []) (pl := fun _ => none) Try.func65 (by kernel_rfl) (by have e := F65_eq; exact (congrFun (congrFun (congrFun (e) seq0) h) Q).symm ▸ H)

/-- maps.Keys[map[string]string,string,string]$1 -/
def F67 (yield0 : Value) (c0 : Addr) (h : Heap) (Q : Value → Heap → Prop) : Prop :=
  Ld h c0 fun v0 => DM v0 fun x0 =>
  RunH Try.prog (Instr.range 79 (.map x0)) h fun r0 h_0 =>
  DP r0 fun p0 =>
  LoopH (fun again0 (s0 : Unit) h_1 =>
    RunH Try.prog (Instr.next (.pointer p0) false 0) h_1 fun r1 h_2 =>
    (
      r1 = .tuple #[.bool false] ∧
      Q (.tuple #[]) h_2) ∨ (
      ∃ (k0 x1 : Value), r1 = .tuple #[.bool true, k0, x1] ∧
      RunH Try.prog (Instr.entry (.pointer p0)) h_2 fun r2 h_3 =>
      ∃ (x2 : ByteArray), ∃ (x3 : Value), r2 = .tuple #[.string x2, x3] ∧
      CallV Try.prog yield0 [.string x2] h_3 fun r3 h_4 =>
      DB r3 fun x4 =>
      (bif !x4 then
        Q (.tuple #[]) h_4
      else
        again0 () h_4))) () h_0
theorem F67_eq : (fun (yield0 : Value) (c0 : Addr) (h : Heap) (Q : Value → Heap → Prop) => fnPT Try.prog Try.f67 (fun i => bif Nat.beq i 0 then annNil else annNil) (fun i => bif Nat.beq i 1002 then [9, 0] else []) (fun _ => none) [yield0, .pointer (some c0)] h Q) = F67 := by kernel_rfl
theorem F67_ok {yield0 : Value} {c0 : Addr} {h : Heap} {Q : Value → Heap → Prop} (H : F67 yield0 c0 h Q) : CallsH Try.prog 67 [yield0, .pointer (some c0)] h Q :=
  callsH_of (ann := fun i => bif Nat.beq i 0 then annNil else annNil) (tys := fun i => bif Nat.beq i 1002 then [9, 0] else []) (pl := fun _ => none) Try.func67 (by kernel_rfl) (by have e := F67_eq; exact (congrFun (congrFun (congrFun (congrFun (e) yield0) c0) h) Q).symm ▸ H)

/-- cmp.isNaN[string] -/
def F68 (x0 : ByteArray) (h : Heap) (Q : Value → Heap → Prop) : Prop :=
  Q (.bool (!strEq x0 x0)) h
theorem F68_eq : (fun (x0 : ByteArray) (h : Heap) (Q : Value → Heap → Prop) => fnPT Try.prog Try.f68 (fun _ => annNil) (fun _ => []) (fun _ => none) [.string x0] h Q) = F68 := by kernel_rfl
theorem F68_ok {x0 : ByteArray} {h : Heap} {Q : Value → Heap → Prop} (H : F68 x0 h Q) : CallsH Try.prog 68 [.string x0] h Q :=
  callsH_of (ann := fun _ => annNil) (tys := fun _ => []) (pl := fun _ => none) Try.func68 (by kernel_rfl) (by have e := F68_eq; exact (congrFun (congrFun (congrFun (e) x0) h) Q).symm ▸ H)

/-- (*headgate/table.Table[int]).Copy -/
def F90 (t0 : Option Addr) (h : Heap) (Q : Value → Heap → Prop) : Prop :=
  (bif (t0).isNone then
    CallsH Try.prog 33 [.slice none 0 0] h fun r0 h_0 =>
    DP r0 fun x0 =>
    Q (.pointer x0) h_0
  else
    NN' t0 fun a0 =>
    Ld h (a0.add 0) fun v0 => DM v0 fun x1 =>
    NN' t0 fun a1 =>
    Ld h (a1.add 1) fun v1 => DSl v1 fun x2a x2l x2c =>
    NN' t0 fun a2 =>
    Ld h (a2.add 2) fun v2 => DB v2 fun x3 =>
    CallsH Try.prog 113 [.map x1] h fun r1 h_1 =>
    DM r1 fun x4 =>
    (SameV (some (.pointer t0)) (.pointer t0)) ∧
    (NN' t0 fun a3 =>
    SameV (some (.pointer (some a1))) (.pointer (some a3))) ∧
    (SameV (some (.pointer (some (a1.add 1)))) (.pointer (some (a1.add 1)))) ∧
    (Ld h_1 (a1.add 1) fun v3 => DSl v3 fun x5a x5l x5c =>
    SameV (some (.slice x2a x2l x2c)) (.slice x5a x5l x5c)) ∧
    (SameV (some (.pointer t0)) (.pointer t0)) ∧
    (NN' t0 fun a4 =>
    SameV (some (.pointer (some a2))) (.pointer (some a4))) ∧
    (SameV (some (.pointer (some (a2.add 2)))) (.pointer (some (a2.add 2)))) ∧
    (Ld h_1 (a2.add 2) fun v4 => DB v4 fun x6 =>
    SameV (some (.bool x3)) (.bool x6)) ∧
    Al h_1 (.cells #[.map x4, .slice x2a x2l x2c, .bool x3] 109) fun b0 h_2 =>
    Q (.pointer (some (Addr.mk b0 0 none))) h_2)
theorem F90_eq : (fun (t0 : Option Addr) (h : Heap) (Q : Value → Heap → Prop) => fnPT Try.prog Try.f90 (fun _ => annNil) (fun _ => []) (fun i => bif Nat.beq i 3 then some ⟨[0, 1, 3, 7, 15, 0, 32, 96, 224, 0, 512, 1536, 3584, 8191, 16383, 32767], 16400⟩ else none) [.pointer t0] h Q) = F90 := by kernel_rfl
theorem F90_ok {t0 : Option Addr} {h : Heap} {Q : Value → Heap → Prop} (H : F90 t0 h Q) : CallsH Try.prog 90 [.pointer t0] h Q :=
  callsH_of (ann := fun _ => annNil) (tys := fun _ => []) (pl := fun i => bif Nat.beq i 3 then some ⟨[0, 1, 3, 7, 15, 0, 32, 96, 224, 0, 512, 1536, 3584, 8191, 16383, 32767], 16400⟩ else none) Try.func90 (by kernel_rfl) (by have e := F90_eq; exact (congrFun (congrFun (congrFun (e) t0) h) Q).symm ▸ H)

/-- (*headgate/table.Table[int]).order -/
def F91 (t0 : Option Addr) (h : Heap) (Q : Value → Heap → Prop) : Prop :=
  (bif (t0).isNone then
    Q (.slice none 0 0) h
  else
    NN' t0 fun a0 =>
    Ld h (a0.add 2) fun v0 => DB v0 fun x0 =>
    (bif !x0 then
      NN' t0 fun a1 =>
      Ld h (a1.add 0) fun v1 => DM v1 fun x1 =>
      CallsH Try.prog 114 [.map x1] h fun r0 h_0 =>
      ∃ (x2 : Value), r0 = x2 ∧
      CallsH Try.prog 51 [x2] h_0 fun r1 h_1 =>
      DSl r1 fun x3a x3l x3c =>
      NN' t0 fun a2 =>
      StC h_1 ((a2.add 1).add 0) (.slice x3a x3l x3c) fun h_3 =>
      NN' t0 fun a3 =>
      StC h_3 ((a3.add 2).add 0) (.bool true) fun h_5 =>
      NN' t0 fun a4 =>
      Ld h_5 (a4.add 1) fun v2 => DSl v2 fun x4a x4l x4c =>
      Q (.slice x4a x4l x4c) h_5
    else
      NN' t0 fun a5 =>
      Ld h (a5.add 1) fun v3 => DSl v3 fun x5a x5l x5c =>
      Q (.slice x5a x5l x5c) h))
theorem F91_eq : (fun (t0 : Option Addr) (h : Heap) (Q : Value → Heap → Prop) => fnPT Try.prog Try.f91 (fun _ => annNil) (fun _ => []) (fun _ => none) [.pointer t0] h Q) = F91 := by kernel_rfl
theorem F91_ok {t0 : Option Addr} {h : Heap} {Q : Value → Heap → Prop} (H : F91 t0 h Q) : CallsH Try.prog 91 [.pointer t0] h Q :=
  callsH_of (ann := fun _ => annNil) (tys := fun _ => []) (pl := fun _ => none) Try.func91 (by kernel_rfl) (by have e := F91_eq; exact (congrFun (congrFun (congrFun (e) t0) h) Q).symm ▸ H)

/-- headgate/table.over[int] -/
def F92 (keys0a : Option Addr) (keys0l : Nat) (keys0c : Nat) (m0 : Option Nat) (h : Heap) (Q : Value → Heap → Prop) : Prop :=
  Al h (.cells #[.slice keys0a keys0l keys0c] 80) fun b0 h_0 =>
  Al h_0 (.cells #[.map m0] 107) fun b1 h_1 =>
  Q (.func (.func 115) #[] #[.pointer (some (Addr.mk b0 0 none)), .pointer (some (Addr.mk b1 0 none))]) h_1
theorem F92_eq : (fun (keys0a : Option Addr) (keys0l : Nat) (keys0c : Nat) (m0 : Option Nat) (h : Heap) (Q : Value → Heap → Prop) => fnPT Try.prog Try.f92 (fun _ => annNil) (fun _ => []) (fun _ => none) [.slice keys0a keys0l keys0c, .map m0] h Q) = F92 := by kernel_rfl
theorem F92_ok {keys0a : Option Addr} {keys0l : Nat} {keys0c : Nat} {m0 : Option Nat} {h : Heap} {Q : Value → Heap → Prop} (H : F92 keys0a keys0l keys0c m0 h Q) : CallsH Try.prog 92 [.slice keys0a keys0l keys0c, .map m0] h Q :=
  callsH_of (ann := fun _ => annNil) (tys := fun _ => []) (pl := fun _ => none) Try.func92 (by kernel_rfl) (by have e := F92_eq; exact (congrFun (congrFun (congrFun (congrFun (congrFun (congrFun (e) keys0a) keys0l) keys0c) m0) h) Q).symm ▸ H)

/-- slices.AppendSeq[[]string,string] -/
def F101 (s0a : Option Addr) (s0l : Nat) (s0c : Nat) (seq0 : Value) (h : Heap) (Q : Value → Heap → Prop) : Prop :=
  Al h (.cells #[.slice s0a s0l s0c] 80) fun b0 h_0 =>
  RangeFn Try.prog seq0 1 none h_0 (fun l_0 rec_0 args0 h_1 Q_0 =>
    ∃ (y0 : ByteArray), args0 = [.string y0] ∧
    h_1[l_0]? = some (rec_0 .ready none) ∧
    Ld (h_1.setIfInBounds l_0 (rec_0 .busy none)) (Addr.mk b0 0 none) fun v0 => DSl v0 fun x0a x0l x0c =>
    Al (h_1.setIfInBounds l_0 (rec_0 .busy none)) (.cells #[.string y0] 9) fun b1 h_2 =>
    RunH Try.prog (Builtin.append_ #[80, 80] 80 #[.slice x0a x0l x0c, .slice (some (Addr.mk b1 0 none)) 1 1]) h_2 fun r2 h_3 =>
    DSl r2 fun x1a x1l x1c =>
    StC h_3 ((Addr.mk b0 0 none).add 0) (.slice x1a x1l x1c) fun h_5 =>
    h_5[l_0]? = some (rec_0 .busy none) ∧ Q_0 (.bool true) (h_5.setIfInBounds l_0 (rec_0 .ready none))) (fun pend0 h_6 =>
    pend0 = none ∧
    Ld h_6 (Addr.mk b0 0 none) fun v1 => DSl v1 fun x2a x2l x2c =>
    h_6[h_0.size]? = some (.deferred (some [])) ∧
    Q (.slice x2a x2l x2c) (h_6.setIfInBounds h_0.size (.deferred none)))
theorem F101_eq : (fun (s0a : Option Addr) (s0l : Nat) (s0c : Nat) (seq0 : Value) (h : Heap) (Q : Value → Heap → Prop) => fnPT Try.prog Try.f101 (fun _ => annNil) (fun i => bif Nat.beq i 0 then [9] else []) (fun _ => none) [.slice s0a s0l s0c, seq0] h Q) = F101 := by kernel_rfl
theorem F101_ok {s0a : Option Addr} {s0l : Nat} {s0c : Nat} {seq0 : Value} {h : Heap} {Q : Value → Heap → Prop} (H : F101 s0a s0l s0c seq0 h Q) : CallsH Try.prog 101 [.slice s0a s0l s0c, seq0] h Q :=
  callsH_of (ann := fun _ => annNil) (tys := fun i => bif Nat.beq i 0 then [9] else []) (pl := fun _ => none) Try.func101 (by kernel_rfl) (by have e := F101_eq; exact (congrFun (congrFun (congrFun (congrFun (congrFun (congrFun (e) s0a) s0l) s0c) seq0) h) Q).symm ▸ H)

/-- headgate/table.over[uint8]$1 -/
def F109 (yield0 : Value) (c0 : Addr) (c1 : Addr) (h : Heap) (Q : Value → Heap → Prop) : Prop :=
  Ld h c0 fun v0 => DSl v0 fun x0a x0l x0c =>
  LoopH (fun again0 (s0 : Int) h_0 =>
    (bif decide ((s0 : Int) < (x0l : Int)) then
      IdxA x0a x0l s0 1 fun a0 =>
      Ld h_0 a0 fun v1 => DS v1 fun k0 =>
      Ld h_0 c1 fun v2 => DM v2 fun x1 =>
      ∃ es0, mapEs h_0 x1 es0 ∧ ∃ f0, Instr.findNow .string (.string k0) (es0 : Array MapEntry).toList 0 = some f0 ∧
      DI .u8 ((Option.map (fun x => x.2) f0).getD (.int .u8 0)) fun x2 =>
      CallV Try.prog yield0 [.string k0, .int .u8 x2] h_0 fun r0 h_1 =>
      DB r0 fun x3 =>
      (bif !x3 then
        Q (.tuple #[]) h_1
      else
        again0 (IntKind.wrap .i64 (s0 + 1)) h_1)
    else
      Q (.tuple #[]) h_0)) 0 h
theorem F109_eq : (fun (yield0 : Value) (c0 : Addr) (c1 : Addr) (h : Heap) (Q : Value → Heap → Prop) => fnPT Try.prog Try.f109 (fun i => bif Nat.beq i 0 then annOne 8 (codI .i64) else annNil) (fun _ => []) (fun _ => none) [yield0, .pointer (some c0), .pointer (some c1)] h Q) = F109 := by kernel_rfl
theorem F109_ok {yield0 : Value} {c0 : Addr} {c1 : Addr} {h : Heap} {Q : Value → Heap → Prop} (H : F109 yield0 c0 c1 h Q) : CallsH Try.prog 109 [yield0, .pointer (some c0), .pointer (some c1)] h Q :=
  callsH_of (ann := fun i => bif Nat.beq i 0 then annOne 8 (codI .i64) else annNil) (tys := fun _ => []) (pl := fun _ => none) Try.func109 (by kernel_rfl) (by have e := F109_eq; exact (congrFun (congrFun (congrFun (congrFun (congrFun (e) yield0) c0) c1) h) Q).symm ▸ H)

/-- maps.Keys[map[string]int,string,int] -/
def F114 (m0 : Option Nat) (h : Heap) (Q : Value → Heap → Prop) : Prop :=
  Al h (.cells #[.map m0] 107) fun b0 h_0 =>
  Q (.func (.func 130) #[] #[.pointer (some (Addr.mk b0 0 none))]) h_0
theorem F114_eq : (fun (m0 : Option Nat) (h : Heap) (Q : Value → Heap → Prop) => fnPT Try.prog Try.f114 (fun _ => annNil) (fun _ => []) (fun _ => none) [.map m0] h Q) = F114 := by kernel_rfl
theorem F114_ok {m0 : Option Nat} {h : Heap} {Q : Value → Heap → Prop} (H : F114 m0 h Q) : CallsH Try.prog 114 [.map m0] h Q :=
  callsH_of (ann := fun _ => annNil) (tys := fun _ => []) (pl := fun _ => none) Try.func114 (by kernel_rfl) (by have e := F114_eq; exact (congrFun (congrFun (congrFun (e) m0) h) Q).symm ▸ H)

/-- headgate/table.over[int]$1 -/
def F115 (yield0 : Value) (c0 : Addr) (c1 : Addr) (h : Heap) (Q : Value → Heap → Prop) : Prop :=
  Ld h c0 fun v0 => DSl v0 fun x0a x0l x0c =>
  LoopH (fun again0 (s0 : Int) h_0 =>
    (bif decide ((s0 : Int) < (x0l : Int)) then
      IdxA x0a x0l s0 1 fun a0 =>
      Ld h_0 a0 fun v1 => DS v1 fun k0 =>
      Ld h_0 c1 fun v2 => DM v2 fun x1 =>
      ∃ es0, mapEs h_0 x1 es0 ∧ ∃ f0, Instr.findNow .string (.string k0) (es0 : Array MapEntry).toList 0 = some f0 ∧
      DI .i64 ((Option.map (fun x => x.2) f0).getD (.int .i64 0)) fun x2 =>
      CallV Try.prog yield0 [.string k0, .int .i64 x2] h_0 fun r0 h_1 =>
      DB r0 fun x3 =>
      (bif !x3 then
        Q (.tuple #[]) h_1
      else
        again0 (IntKind.wrap .i64 (s0 + 1)) h_1)
    else
      Q (.tuple #[]) h_0)) 0 h
theorem F115_eq : (fun (yield0 : Value) (c0 : Addr) (c1 : Addr) (h : Heap) (Q : Value → Heap → Prop) => fnPT Try.prog Try.f115 (fun i => bif Nat.beq i 0 then annOne 8 (codI .i64) else annNil) (fun _ => []) (fun _ => none) [yield0, .pointer (some c0), .pointer (some c1)] h Q) = F115 := by kernel_rfl
theorem F115_ok {yield0 : Value} {c0 : Addr} {c1 : Addr} {h : Heap} {Q : Value → Heap → Prop} (H : F115 yield0 c0 c1 h Q) : CallsH Try.prog 115 [yield0, .pointer (some c0), .pointer (some c1)] h Q :=
  callsH_of (ann := fun i => bif Nat.beq i 0 then annOne 8 (codI .i64) else annNil) (tys := fun _ => []) (pl := fun _ => none) Try.func115 (by kernel_rfl) (by have e := F115_eq; exact (congrFun (congrFun (congrFun (congrFun (congrFun (e) yield0) c0) c1) h) Q).symm ▸ H)

/-- maps.Keys[map[string]uint8,string,uint8]$1 -/
def F128 (yield0 : Value) (c0 : Addr) (h : Heap) (Q : Value → Heap → Prop) : Prop :=
  Ld h c0 fun v0 => DM v0 fun x0 =>
  RunH Try.prog (Instr.range 93 (.map x0)) h fun r0 h_0 =>
  DP r0 fun p0 =>
  LoopH (fun again0 (s0 : Unit) h_1 =>
    RunH Try.prog (Instr.next (.pointer p0) false 0) h_1 fun r1 h_2 =>
    (
      r1 = .tuple #[.bool false] ∧
      Q (.tuple #[]) h_2) ∨ (
      ∃ (k0 x1 : Value), r1 = .tuple #[.bool true, k0, x1] ∧
      RunH Try.prog (Instr.entry (.pointer p0)) h_2 fun r2 h_3 =>
      ∃ (x2 : ByteArray), ∃ (x3 : Value), r2 = .tuple #[.string x2, x3] ∧
      CallV Try.prog yield0 [.string x2] h_3 fun r3 h_4 =>
      DB r3 fun x4 =>
      (bif !x4 then
        Q (.tuple #[]) h_4
      else
        again0 () h_4))) () h_0
theorem F128_eq : (fun (yield0 : Value) (c0 : Addr) (h : Heap) (Q : Value → Heap → Prop) => fnPT Try.prog Try.f128 (fun i => bif Nat.beq i 0 then annNil else annNil) (fun i => bif Nat.beq i 1002 then [9, 0] else []) (fun _ => none) [yield0, .pointer (some c0)] h Q) = F128 := by kernel_rfl
theorem F128_ok {yield0 : Value} {c0 : Addr} {h : Heap} {Q : Value → Heap → Prop} (H : F128 yield0 c0 h Q) : CallsH Try.prog 128 [yield0, .pointer (some c0)] h Q :=
  callsH_of (ann := fun i => bif Nat.beq i 0 then annNil else annNil) (tys := fun i => bif Nat.beq i 1002 then [9, 0] else []) (pl := fun _ => none) Try.func128 (by kernel_rfl) (by have e := F128_eq; exact (congrFun (congrFun (congrFun (congrFun (e) yield0) c0) h) Q).symm ▸ H)

/-- maps.Keys[map[string]int,string,int]$1 -/
def F130 (yield0 : Value) (c0 : Addr) (h : Heap) (Q : Value → Heap → Prop) : Prop :=
  Ld h c0 fun v0 => DM v0 fun x0 =>
  RunH Try.prog (Instr.range 107 (.map x0)) h fun r0 h_0 =>
  DP r0 fun p0 =>
  LoopH (fun again0 (s0 : Unit) h_1 =>
    RunH Try.prog (Instr.next (.pointer p0) false 0) h_1 fun r1 h_2 =>
    (
      r1 = .tuple #[.bool false] ∧
      Q (.tuple #[]) h_2) ∨ (
      ∃ (k0 x1 : Value), r1 = .tuple #[.bool true, k0, x1] ∧
      RunH Try.prog (Instr.entry (.pointer p0)) h_2 fun r2 h_3 =>
      ∃ (x2 : ByteArray), ∃ (x3 : Value), r2 = .tuple #[.string x2, x3] ∧
      CallV Try.prog yield0 [.string x2] h_3 fun r3 h_4 =>
      DB r3 fun x4 =>
      (bif !x4 then
        Q (.tuple #[]) h_4
      else
        again0 () h_4))) () h_0
theorem F130_eq : (fun (yield0 : Value) (c0 : Addr) (h : Heap) (Q : Value → Heap → Prop) => fnPT Try.prog Try.f130 (fun i => bif Nat.beq i 0 then annNil else annNil) (fun i => bif Nat.beq i 1002 then [9, 0] else []) (fun _ => none) [yield0, .pointer (some c0)] h Q) = F130 := by kernel_rfl
theorem F130_ok {yield0 : Value} {c0 : Addr} {h : Heap} {Q : Value → Heap → Prop} (H : F130 yield0 c0 h Q) : CallsH Try.prog 130 [yield0, .pointer (some c0)] h Q :=
  callsH_of (ann := fun i => bif Nat.beq i 0 then annNil else annNil) (tys := fun i => bif Nat.beq i 1002 then [9, 0] else []) (pl := fun _ => none) Try.func130 (by kernel_rfl) (by have e := F130_eq; exact (congrFun (congrFun (congrFun (congrFun (e) yield0) c0) h) Q).symm ▸ H)

end Go.Proofs.Ytfpdejkcjijmmaa
