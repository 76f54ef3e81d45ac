/- The texts over heaps of functions of the program: written by a program of this claim's writer (decomp.py); Lean checks each against the code. -/
import Derived.Test.YticjjdhaikbdaaaGreatMkFwA
import Derived.Test.YticjjdhaikbdaaaGreatProg
namespace Go.Proofs.YticjjdhaikbdaaaGreat
open Go Go.RowKit
set_option linter.unusedVariables false
set_option maxRecDepth 100000

/-- headgate/headgatelaw09.MetaKeeps -/
def F7 (steps0a : Option Addr) (steps0l : Nat) (steps0c : Nat) (fuse0 : Int) (picks0a : Option Addr) (picks0l : Nat) (picks0c : Nat) (h : Heap) (Q : Value → Heap → Prop) : Prop :=
  Al h (.cells #[.bool false] 4) fun b0 h_0 =>
  CallsH Tryz.prog 27 [] h_0 fun r1 h_1 =>
  DB r1 fun x0 =>
  (bif !x0 then
    StC h_1 ((Addr.mk b0 0 none).add 0) (.bool false) fun h_3 =>
    Ld h_3 (Addr.mk b0 0 none) fun v0 => DB v0 fun res0 =>
    Q (.bool res0) h_3
  else
    (bif decide (((picks0l : Int) : Int) > 100) then
      StC h_1 ((Addr.mk b0 0 none).add 0) (.bool true) fun h_5 =>
      Ld h_5 (Addr.mk b0 0 none) fun v1 => DB v1 fun res1 =>
      Q (.bool res1) h_5
    else
      CallsH Tryz.prog 10 [.int .i64 1048576] h_1 fun r4 h_6 =>
      ∃ (x1 : Option Addr), ∃ (x2 : Int), r4 = .tuple #[.pointer x1, .int .i64 x2] ∧
      CallsH Tryz.prog 28 [.pointer x1, .string ⟨#[100]⟩] h_6 fun r5 h_7 =>
      ∃ (x3 : Option Addr), ∃ (x4 : Int), r5 = .tuple #[.pointer x3, .int .i64 x4] ∧
      (bif (x4 : Int) != 0 then
        StC h_7 ((Addr.mk b0 0 none).add 0) (.bool false) fun h_9 =>
        Ld h_9 (Addr.mk b0 0 none) fun v2 => DB v2 fun res2 =>
        Q (.bool res2) h_9
      else
        CallsH Tryz.prog 37 [.pointer x1, .int .i64 (IntKind.wrap .i64 fuse0)] h_7 fun r7 h_10 =>
        DI .i64 r7 fun x5 =>
        LoopH (fun again0 (s0 : Int × Int) h_11 =>
          (bif decide ((s0.2 : Int) < (steps0l : Int)) then
            (bif decide ((s0.2 : Int) < 30) then
              IdxA steps0a steps0l s0.2 1 fun a0 =>
              Ld h_11 a0 fun v3 => DI .u8 v3 fun x6 =>
              (3 : Int) ≠ 0 ∧
              (bif ((Int.tmod x6 3) : Int) == 0 then
                IdxA steps0a steps0l s0.2 1 fun a1 =>
                Ld h_11 a1 fun v4 => DI .u8 v4 fun x7 =>
                (3 : Int) ≠ 0 ∧
                (4 : Int) ≠ 0 ∧
                CallsH Tryz.prog 31 [.pointer x3, .int .i64 (IntKind.wrap .i64 (s0.1 - (IntKind.wrap .i64 (Int.tmod (IntKind.wrap .u8 (Int.tdiv x7 3)) 4))))] h_11 fun r8 h_12 =>
                DI .i64 r8 fun e0 =>
                (bif (e0 : Int) == 91 then
                  (bif (0 : Int) != 0 then
                    CallsH Tryz.prog 38 [.pointer x1, .slice picks0a picks0l picks0c] h_12 fun r9 h_13 =>
                    DI .i64 r9 fun x8 =>
                    CallsH Tryz.prog 28 [.pointer x1, .string ⟨#[100]⟩] h_13 fun r10 h_14 =>
                    ∃ (x9 : Option Addr), ∃ (x10 : Int), r10 = .tuple #[.pointer x9, .int .i64 x10] ∧
                    (bif (x10 : Int) != 0 then
                      StC h_14 ((Addr.mk b0 0 none).add 0) (.bool false) fun h_16 =>
                      Ld h_16 (Addr.mk b0 0 none) fun v5 => DB v5 fun res3 =>
                      Q (.bool res3) h_16
                    else
                      Al h_14 (.cells #[.int .i64 0] 2) fun b1 h_17 =>
                      StC h_17 ((Addr.mk b1 0 none).add 0) (.int .i64 0) fun h_19 =>
                      CallsH Tryz.prog 34 [.pointer x9] h_19 fun r14 h_20 =>
                      ∃ (x11 : Value), r14 = x11 ∧
                      RangeFn Tryz.prog x11 2 none h_20 (fun l_0 rec_0 args0 h_21 Q_0 =>
                        ∃ (y0 : Int), ∃ (y1a : Option Addr), ∃ (y1l : Nat), ∃ (y1c : Nat), args0 = [.int .i64 y0, .slice y1a y1l y1c] ∧
                        h_21[l_0]? = some (rec_0 .ready none) ∧
                        Ld (h_21.setIfInBounds l_0 (rec_0 .busy none)) (Addr.mk b1 0 none) fun v6 => DI .i64 v6 fun x12 =>
                        (bif (y0 : Int) != x12 then
                          StC (h_21.setIfInBounds l_0 (rec_0 .busy none)) ((Addr.mk b0 0 none).add 0) (.bool false) fun h_23 =>
                          h_23[l_0]? = some (rec_0 .busy none) ∧ Q_0 (.bool false) (h_23.setIfInBounds l_0 (rec_0 .done (some .ret)))
                        else
                          ∃ bs0 : ByteArray, BytesIn (h_21.setIfInBounds l_0 (rec_0 .busy none)) y1a y1l bs0 ∧
                          Ld (h_21.setIfInBounds l_0 (rec_0 .busy none)) (Addr.mk b1 0 none) fun v7 => DI .i64 v7 fun x13 =>
                          Ld (h_21.setIfInBounds l_0 (rec_0 .busy none)) (Addr.mk b1 0 none) fun v8 => DI .i64 v8 fun x14 =>
                          Al (h_21.setIfInBounds l_0 (rec_0 .busy none)) (.cells #[.int .u8 (IntKind.wrap .u8 x13), .int .u8 (IntKind.wrap .u8 (IntKind.wrap .i64 (x14 * 3)))] 5) fun b2 h_24 =>
                          ∃ bs1 : ByteArray, BytesIn h_24 (some (Addr.mk b2 0 none)) 2 bs1 ∧
                          (bif !strEq bs0 bs1 then
                            StC h_24 ((Addr.mk b0 0 none).add 0) (.bool false) fun h_26 =>
                            h_26[l_0]? = some (rec_0 .busy none) ∧ Q_0 (.bool false) (h_26.setIfInBounds l_0 (rec_0 .done (some .ret)))
                          else
                            Ld h_24 (Addr.mk b1 0 none) fun v9 => DI .i64 v9 fun x15 =>
                            StC h_24 ((Addr.mk b1 0 none).add 0) (.int .i64 (IntKind.wrap .i64 (x15 + 1))) fun h_28 =>
                            h_28[l_0]? = some (rec_0 .busy none) ∧ Q_0 (.bool true) (h_28.setIfInBounds l_0 (rec_0 .ready none))))) (fun pend0 h_29 =>
                        (pend0 = none ∨ pend0 = some (.ret)) ∧
                        (pend0 = none →
                          Ld h_29 (Addr.mk b1 0 none) fun v10 => DI .i64 v10 fun x16 =>
                          (bif decide ((x16 : Int) ≥ s0.1) then
                            Ld h_29 (Addr.mk b1 0 none) fun v11 => DI .i64 v11 fun x17 =>
                            StC h_29 ((Addr.mk b0 0 none).add 0) (.bool (decide ((x17 : Int) ≤ (IntKind.wrap .i64 (s0.1 + 1))))) fun h_31 =>
                            h_31[h_20.size]? = some (.deferred (some [])) ∧
                            Ld (h_31.setIfInBounds h_20.size (.deferred none)) (Addr.mk b0 0 none) fun v12 => DB v12 fun res4 =>
                            Q (.bool res4) (h_31.setIfInBounds h_20.size (.deferred none))
                          else
                            StC h_29 ((Addr.mk b0 0 none).add 0) (.bool false) fun h_33 =>
                            h_33[h_20.size]? = some (.deferred (some [])) ∧
                            Ld (h_33.setIfInBounds h_20.size (.deferred none)) (Addr.mk b0 0 none) fun v13 => DB v13 fun res5 =>
                            Q (.bool res5) (h_33.setIfInBounds h_20.size (.deferred none)))) ∧
                        (pend0 = some (.ret) →
                          h_29[h_20.size]? = some (.deferred (some [])) ∧
                          Ld (h_29.setIfInBounds h_20.size (.deferred none)) (Addr.mk b0 0 none) fun v14 => DB v14 fun res6 =>
                          Q (.bool res6) (h_29.setIfInBounds h_20.size (.deferred none)))))
                  else
                    again0 (s0.1, IntKind.wrap .i64 (s0.2 + 1)) h_12)
                else
                  (bif (e0 : Int) != 0 then
                    CallsH Tryz.prog 38 [.pointer x1, .slice picks0a picks0l picks0c] h_12 fun r21 h_34 =>
                    DI .i64 r21 fun x18 =>
                    CallsH Tryz.prog 28 [.pointer x1, .string ⟨#[100]⟩] h_34 fun r22 h_35 =>
                    ∃ (x19 : Option Addr), ∃ (x20 : Int), r22 = .tuple #[.pointer x19, .int .i64 x20] ∧
                    (bif (x20 : Int) != 0 then
                      StC h_35 ((Addr.mk b0 0 none).add 0) (.bool false) fun h_37 =>
                      Ld h_37 (Addr.mk b0 0 none) fun v15 => DB v15 fun res7 =>
                      Q (.bool res7) h_37
                    else
                      Al h_35 (.cells #[.int .i64 0] 2) fun b3 h_38 =>
                      StC h_38 ((Addr.mk b3 0 none).add 0) (.int .i64 0) fun h_40 =>
                      CallsH Tryz.prog 34 [.pointer x19] h_40 fun r26 h_41 =>
                      ∃ (x21 : Value), r26 = x21 ∧
                      RangeFn Tryz.prog x21 2 none h_41 (fun l_1 rec_1 args1 h_42 Q_1 =>
                        ∃ (y2 : Int), ∃ (y3a : Option Addr), ∃ (y3l : Nat), ∃ (y3c : Nat), args1 = [.int .i64 y2, .slice y3a y3l y3c] ∧
                        h_42[l_1]? = some (rec_1 .ready none) ∧
                        Ld (h_42.setIfInBounds l_1 (rec_1 .busy none)) (Addr.mk b3 0 none) fun v16 => DI .i64 v16 fun x22 =>
                        (bif (y2 : Int) != x22 then
                          StC (h_42.setIfInBounds l_1 (rec_1 .busy none)) ((Addr.mk b0 0 none).add 0) (.bool false) fun h_44 =>
                          h_44[l_1]? = some (rec_1 .busy none) ∧ Q_1 (.bool false) (h_44.setIfInBounds l_1 (rec_1 .done (some .ret)))
                        else
                          ∃ bs2 : ByteArray, BytesIn (h_42.setIfInBounds l_1 (rec_1 .busy none)) y3a y3l bs2 ∧
                          Ld (h_42.setIfInBounds l_1 (rec_1 .busy none)) (Addr.mk b3 0 none) fun v17 => DI .i64 v17 fun x23 =>
                          Ld (h_42.setIfInBounds l_1 (rec_1 .busy none)) (Addr.mk b3 0 none) fun v18 => DI .i64 v18 fun x24 =>
                          Al (h_42.setIfInBounds l_1 (rec_1 .busy none)) (.cells #[.int .u8 (IntKind.wrap .u8 x23), .int .u8 (IntKind.wrap .u8 (IntKind.wrap .i64 (x24 * 3)))] 5) fun b4 h_45 =>
                          ∃ bs3 : ByteArray, BytesIn h_45 (some (Addr.mk b4 0 none)) 2 bs3 ∧
                          (bif !strEq bs2 bs3 then
                            StC h_45 ((Addr.mk b0 0 none).add 0) (.bool false) fun h_47 =>
                            h_47[l_1]? = some (rec_1 .busy none) ∧ Q_1 (.bool false) (h_47.setIfInBounds l_1 (rec_1 .done (some .ret)))
                          else
                            Ld h_45 (Addr.mk b3 0 none) fun v19 => DI .i64 v19 fun x25 =>
                            StC h_45 ((Addr.mk b3 0 none).add 0) (.int .i64 (IntKind.wrap .i64 (x25 + 1))) fun h_49 =>
                            h_49[l_1]? = some (rec_1 .busy none) ∧ Q_1 (.bool true) (h_49.setIfInBounds l_1 (rec_1 .ready none))))) (fun pend1 h_50 =>
                        (pend1 = none ∨ pend1 = some (.ret)) ∧
                        (pend1 = none →
                          Ld h_50 (Addr.mk b3 0 none) fun v20 => DI .i64 v20 fun x26 =>
                          (bif decide ((x26 : Int) ≥ s0.1) then
                            Ld h_50 (Addr.mk b3 0 none) fun v21 => DI .i64 v21 fun x27 =>
                            StC h_50 ((Addr.mk b0 0 none).add 0) (.bool (decide ((x27 : Int) ≤ (IntKind.wrap .i64 (s0.1 + 1))))) fun h_52 =>
                            h_52[h_41.size]? = some (.deferred (some [])) ∧
                            Ld (h_52.setIfInBounds h_41.size (.deferred none)) (Addr.mk b0 0 none) fun v22 => DB v22 fun res8 =>
                            Q (.bool res8) (h_52.setIfInBounds h_41.size (.deferred none))
                          else
                            StC h_50 ((Addr.mk b0 0 none).add 0) (.bool false) fun h_54 =>
                            h_54[h_41.size]? = some (.deferred (some [])) ∧
                            Ld (h_54.setIfInBounds h_41.size (.deferred none)) (Addr.mk b0 0 none) fun v23 => DB v23 fun res9 =>
                            Q (.bool res9) (h_54.setIfInBounds h_41.size (.deferred none)))) ∧
                        (pend1 = some (.ret) →
                          h_50[h_41.size]? = some (.deferred (some [])) ∧
                          Ld (h_50.setIfInBounds h_41.size (.deferred none)) (Addr.mk b0 0 none) fun v24 => DB v24 fun res10 =>
                          Q (.bool res10) (h_50.setIfInBounds h_41.size (.deferred none)))))
                  else
                    again0 (s0.1, IntKind.wrap .i64 (s0.2 + 1)) h_12))
              else
                Al h_11 (.cells #[.int .u8 (IntKind.wrap .u8 s0.1), .int .u8 (IntKind.wrap .u8 (IntKind.wrap .i64 (s0.1 * 3)))] 5) fun b5 h_55 =>
                CallsH Tryz.prog 29 [.pointer x3, .int .i64 s0.1, .slice (some (Addr.mk b5 0 none)) 2 2] h_55 fun r34 h_56 =>
                DI .i64 r34 fun e1 =>
                (bif (e1 : Int) == 0 then
                  (bif (e1 : Int) != 0 then
                    CallsH Tryz.prog 38 [.pointer x1, .slice picks0a picks0l picks0c] h_56 fun r35 h_57 =>
                    DI .i64 r35 fun x28 =>
                    CallsH Tryz.prog 28 [.pointer x1, .string ⟨#[100]⟩] h_57 fun r36 h_58 =>
                    ∃ (x29 : Option Addr), ∃ (x30 : Int), r36 = .tuple #[.pointer x29, .int .i64 x30] ∧
                    (bif (x30 : Int) != 0 then
                      StC h_58 ((Addr.mk b0 0 none).add 0) (.bool false) fun h_60 =>
                      Ld h_60 (Addr.mk b0 0 none) fun v25 => DB v25 fun res11 =>
                      Q (.bool res11) h_60
                    else
                      Al h_58 (.cells #[.int .i64 0] 2) fun b6 h_61 =>
                      StC h_61 ((Addr.mk b6 0 none).add 0) (.int .i64 0) fun h_63 =>
                      CallsH Tryz.prog 34 [.pointer x29] h_63 fun r40 h_64 =>
                      ∃ (x31 : Value), r40 = x31 ∧
                      RangeFn Tryz.prog x31 2 none h_64 (fun l_2 rec_2 args2 h_65 Q_2 =>
                        ∃ (y4 : Int), ∃ (y5a : Option Addr), ∃ (y5l : Nat), ∃ (y5c : Nat), args2 = [.int .i64 y4, .slice y5a y5l y5c] ∧
                        h_65[l_2]? = some (rec_2 .ready none) ∧
                        Ld (h_65.setIfInBounds l_2 (rec_2 .busy none)) (Addr.mk b6 0 none) fun v26 => DI .i64 v26 fun x32 =>
                        (bif (y4 : Int) != x32 then
                          StC (h_65.setIfInBounds l_2 (rec_2 .busy none)) ((Addr.mk b0 0 none).add 0) (.bool false) fun h_67 =>
                          h_67[l_2]? = some (rec_2 .busy none) ∧ Q_2 (.bool false) (h_67.setIfInBounds l_2 (rec_2 .done (some .ret)))
                        else
                          ∃ bs4 : ByteArray, BytesIn (h_65.setIfInBounds l_2 (rec_2 .busy none)) y5a y5l bs4 ∧
                          Ld (h_65.setIfInBounds l_2 (rec_2 .busy none)) (Addr.mk b6 0 none) fun v27 => DI .i64 v27 fun x33 =>
                          Ld (h_65.setIfInBounds l_2 (rec_2 .busy none)) (Addr.mk b6 0 none) fun v28 => DI .i64 v28 fun x34 =>
                          Al (h_65.setIfInBounds l_2 (rec_2 .busy none)) (.cells #[.int .u8 (IntKind.wrap .u8 x33), .int .u8 (IntKind.wrap .u8 (IntKind.wrap .i64 (x34 * 3)))] 5) fun b7 h_68 =>
                          ∃ bs5 : ByteArray, BytesIn h_68 (some (Addr.mk b7 0 none)) 2 bs5 ∧
                          (bif !strEq bs4 bs5 then
                            StC h_68 ((Addr.mk b0 0 none).add 0) (.bool false) fun h_70 =>
                            h_70[l_2]? = some (rec_2 .busy none) ∧ Q_2 (.bool false) (h_70.setIfInBounds l_2 (rec_2 .done (some .ret)))
                          else
                            Ld h_68 (Addr.mk b6 0 none) fun v29 => DI .i64 v29 fun x35 =>
                            StC h_68 ((Addr.mk b6 0 none).add 0) (.int .i64 (IntKind.wrap .i64 (x35 + 1))) fun h_72 =>
                            h_72[l_2]? = some (rec_2 .busy none) ∧ Q_2 (.bool true) (h_72.setIfInBounds l_2 (rec_2 .ready none))))) (fun pend2 h_73 =>
                        (pend2 = none ∨ pend2 = some (.ret)) ∧
                        (pend2 = none →
                          Ld h_73 (Addr.mk b6 0 none) fun v30 => DI .i64 v30 fun x36 =>
                          (bif decide ((x36 : Int) ≥ (IntKind.wrap .i64 (s0.1 + 1))) then
                            Ld h_73 (Addr.mk b6 0 none) fun v31 => DI .i64 v31 fun x37 =>
                            StC h_73 ((Addr.mk b0 0 none).add 0) (.bool (decide ((x37 : Int) ≤ (IntKind.wrap .i64 ((IntKind.wrap .i64 (s0.1 + 1)) + 1))))) fun h_75 =>
                            h_75[h_64.size]? = some (.deferred (some [])) ∧
                            Ld (h_75.setIfInBounds h_64.size (.deferred none)) (Addr.mk b0 0 none) fun v32 => DB v32 fun res12 =>
                            Q (.bool res12) (h_75.setIfInBounds h_64.size (.deferred none))
                          else
                            StC h_73 ((Addr.mk b0 0 none).add 0) (.bool false) fun h_77 =>
                            h_77[h_64.size]? = some (.deferred (some [])) ∧
                            Ld (h_77.setIfInBounds h_64.size (.deferred none)) (Addr.mk b0 0 none) fun v33 => DB v33 fun res13 =>
                            Q (.bool res13) (h_77.setIfInBounds h_64.size (.deferred none)))) ∧
                        (pend2 = some (.ret) →
                          h_73[h_64.size]? = some (.deferred (some [])) ∧
                          Ld (h_73.setIfInBounds h_64.size (.deferred none)) (Addr.mk b0 0 none) fun v34 => DB v34 fun res14 =>
                          Q (.bool res14) (h_73.setIfInBounds h_64.size (.deferred none)))))
                  else
                    again0 (IntKind.wrap .i64 (s0.1 + 1), IntKind.wrap .i64 (s0.2 + 1)) h_56)
                else
                  (bif (e1 : Int) != 0 then
                    CallsH Tryz.prog 38 [.pointer x1, .slice picks0a picks0l picks0c] h_56 fun r47 h_78 =>
                    DI .i64 r47 fun x38 =>
                    CallsH Tryz.prog 28 [.pointer x1, .string ⟨#[100]⟩] h_78 fun r48 h_79 =>
                    ∃ (x39 : Option Addr), ∃ (x40 : Int), r48 = .tuple #[.pointer x39, .int .i64 x40] ∧
                    (bif (x40 : Int) != 0 then
                      StC h_79 ((Addr.mk b0 0 none).add 0) (.bool false) fun h_81 =>
                      Ld h_81 (Addr.mk b0 0 none) fun v35 => DB v35 fun res15 =>
                      Q (.bool res15) h_81
                    else
                      Al h_79 (.cells #[.int .i64 0] 2) fun b8 h_82 =>
                      StC h_82 ((Addr.mk b8 0 none).add 0) (.int .i64 0) fun h_84 =>
                      CallsH Tryz.prog 34 [.pointer x39] h_84 fun r52 h_85 =>
                      ∃ (x41 : Value), r52 = x41 ∧
                      RangeFn Tryz.prog x41 2 none h_85 (fun l_3 rec_3 args3 h_86 Q_3 =>
                        ∃ (y6 : Int), ∃ (y7a : Option Addr), ∃ (y7l : Nat), ∃ (y7c : Nat), args3 = [.int .i64 y6, .slice y7a y7l y7c] ∧
                        h_86[l_3]? = some (rec_3 .ready none) ∧
                        Ld (h_86.setIfInBounds l_3 (rec_3 .busy none)) (Addr.mk b8 0 none) fun v36 => DI .i64 v36 fun x42 =>
                        (bif (y6 : Int) != x42 then
                          StC (h_86.setIfInBounds l_3 (rec_3 .busy none)) ((Addr.mk b0 0 none).add 0) (.bool false) fun h_88 =>
                          h_88[l_3]? = some (rec_3 .busy none) ∧ Q_3 (.bool false) (h_88.setIfInBounds l_3 (rec_3 .done (some .ret)))
                        else
                          ∃ bs6 : ByteArray, BytesIn (h_86.setIfInBounds l_3 (rec_3 .busy none)) y7a y7l bs6 ∧
                          Ld (h_86.setIfInBounds l_3 (rec_3 .busy none)) (Addr.mk b8 0 none) fun v37 => DI .i64 v37 fun x43 =>
                          Ld (h_86.setIfInBounds l_3 (rec_3 .busy none)) (Addr.mk b8 0 none) fun v38 => DI .i64 v38 fun x44 =>
                          Al (h_86.setIfInBounds l_3 (rec_3 .busy none)) (.cells #[.int .u8 (IntKind.wrap .u8 x43), .int .u8 (IntKind.wrap .u8 (IntKind.wrap .i64 (x44 * 3)))] 5) fun b9 h_89 =>
                          ∃ bs7 : ByteArray, BytesIn h_89 (some (Addr.mk b9 0 none)) 2 bs7 ∧
                          (bif !strEq bs6 bs7 then
                            StC h_89 ((Addr.mk b0 0 none).add 0) (.bool false) fun h_91 =>
                            h_91[l_3]? = some (rec_3 .busy none) ∧ Q_3 (.bool false) (h_91.setIfInBounds l_3 (rec_3 .done (some .ret)))
                          else
                            Ld h_89 (Addr.mk b8 0 none) fun v39 => DI .i64 v39 fun x45 =>
                            StC h_89 ((Addr.mk b8 0 none).add 0) (.int .i64 (IntKind.wrap .i64 (x45 + 1))) fun h_93 =>
                            h_93[l_3]? = some (rec_3 .busy none) ∧ Q_3 (.bool true) (h_93.setIfInBounds l_3 (rec_3 .ready none))))) (fun pend3 h_94 =>
                        (pend3 = none ∨ pend3 = some (.ret)) ∧
                        (pend3 = none →
                          Ld h_94 (Addr.mk b8 0 none) fun v40 => DI .i64 v40 fun x46 =>
                          (bif decide ((x46 : Int) ≥ s0.1) then
                            Ld h_94 (Addr.mk b8 0 none) fun v41 => DI .i64 v41 fun x47 =>
                            StC h_94 ((Addr.mk b0 0 none).add 0) (.bool (decide ((x47 : Int) ≤ (IntKind.wrap .i64 (s0.1 + 1))))) fun h_96 =>
                            h_96[h_85.size]? = some (.deferred (some [])) ∧
                            Ld (h_96.setIfInBounds h_85.size (.deferred none)) (Addr.mk b0 0 none) fun v42 => DB v42 fun res16 =>
                            Q (.bool res16) (h_96.setIfInBounds h_85.size (.deferred none))
                          else
                            StC h_94 ((Addr.mk b0 0 none).add 0) (.bool false) fun h_98 =>
                            h_98[h_85.size]? = some (.deferred (some [])) ∧
                            Ld (h_98.setIfInBounds h_85.size (.deferred none)) (Addr.mk b0 0 none) fun v43 => DB v43 fun res17 =>
                            Q (.bool res17) (h_98.setIfInBounds h_85.size (.deferred none)))) ∧
                        (pend3 = some (.ret) →
                          h_94[h_85.size]? = some (.deferred (some [])) ∧
                          Ld (h_94.setIfInBounds h_85.size (.deferred none)) (Addr.mk b0 0 none) fun v44 => DB v44 fun res18 =>
                          Q (.bool res18) (h_94.setIfInBounds h_85.size (.deferred none)))))
                  else
                    again0 (s0.1, IntKind.wrap .i64 (s0.2 + 1)) h_56)))
            else
              CallsH Tryz.prog 38 [.pointer x1, .slice picks0a picks0l picks0c] h_11 fun r59 h_99 =>
              DI .i64 r59 fun x48 =>
              CallsH Tryz.prog 28 [.pointer x1, .string ⟨#[100]⟩] h_99 fun r60 h_100 =>
              ∃ (x49 : Option Addr), ∃ (x50 : Int), r60 = .tuple #[.pointer x49, .int .i64 x50] ∧
              (bif (x50 : Int) != 0 then
                StC h_100 ((Addr.mk b0 0 none).add 0) (.bool false) fun h_102 =>
                Ld h_102 (Addr.mk b0 0 none) fun v45 => DB v45 fun res19 =>
                Q (.bool res19) h_102
              else
                Al h_100 (.cells #[.int .i64 0] 2) fun b10 h_103 =>
                StC h_103 ((Addr.mk b10 0 none).add 0) (.int .i64 0) fun h_105 =>
                CallsH Tryz.prog 34 [.pointer x49] h_105 fun r64 h_106 =>
                ∃ (x51 : Value), r64 = x51 ∧
                RangeFn Tryz.prog x51 2 none h_106 (fun l_4 rec_4 args4 h_107 Q_4 =>
                  ∃ (y8 : Int), ∃ (y9a : Option Addr), ∃ (y9l : Nat), ∃ (y9c : Nat), args4 = [.int .i64 y8, .slice y9a y9l y9c] ∧
                  h_107[l_4]? = some (rec_4 .ready none) ∧
                  Ld (h_107.setIfInBounds l_4 (rec_4 .busy none)) (Addr.mk b10 0 none) fun v46 => DI .i64 v46 fun x52 =>
                  (bif (y8 : Int) != x52 then
                    StC (h_107.setIfInBounds l_4 (rec_4 .busy none)) ((Addr.mk b0 0 none).add 0) (.bool false) fun h_109 =>
                    h_109[l_4]? = some (rec_4 .busy none) ∧ Q_4 (.bool false) (h_109.setIfInBounds l_4 (rec_4 .done (some .ret)))
                  else
                    ∃ bs8 : ByteArray, BytesIn (h_107.setIfInBounds l_4 (rec_4 .busy none)) y9a y9l bs8 ∧
                    Ld (h_107.setIfInBounds l_4 (rec_4 .busy none)) (Addr.mk b10 0 none) fun v47 => DI .i64 v47 fun x53 =>
                    Ld (h_107.setIfInBounds l_4 (rec_4 .busy none)) (Addr.mk b10 0 none) fun v48 => DI .i64 v48 fun x54 =>
                    Al (h_107.setIfInBounds l_4 (rec_4 .busy none)) (.cells #[.int .u8 (IntKind.wrap .u8 x53), .int .u8 (IntKind.wrap .u8 (IntKind.wrap .i64 (x54 * 3)))] 5) fun b11 h_110 =>
                    ∃ bs9 : ByteArray, BytesIn h_110 (some (Addr.mk b11 0 none)) 2 bs9 ∧
                    (bif !strEq bs8 bs9 then
                      StC h_110 ((Addr.mk b0 0 none).add 0) (.bool false) fun h_112 =>
                      h_112[l_4]? = some (rec_4 .busy none) ∧ Q_4 (.bool false) (h_112.setIfInBounds l_4 (rec_4 .done (some .ret)))
                    else
                      Ld h_110 (Addr.mk b10 0 none) fun v49 => DI .i64 v49 fun x55 =>
                      StC h_110 ((Addr.mk b10 0 none).add 0) (.int .i64 (IntKind.wrap .i64 (x55 + 1))) fun h_114 =>
                      h_114[l_4]? = some (rec_4 .busy none) ∧ Q_4 (.bool true) (h_114.setIfInBounds l_4 (rec_4 .ready none))))) (fun pend4 h_115 =>
                  (pend4 = none ∨ pend4 = some (.ret)) ∧
                  (pend4 = none →
                    Ld h_115 (Addr.mk b10 0 none) fun v50 => DI .i64 v50 fun x56 =>
                    (bif decide ((x56 : Int) ≥ s0.1) then
                      Ld h_115 (Addr.mk b10 0 none) fun v51 => DI .i64 v51 fun x57 =>
                      StC h_115 ((Addr.mk b0 0 none).add 0) (.bool (decide ((x57 : Int) ≤ (IntKind.wrap .i64 (s0.1 + 1))))) fun h_117 =>
                      h_117[h_106.size]? = some (.deferred (some [])) ∧
                      Ld (h_117.setIfInBounds h_106.size (.deferred none)) (Addr.mk b0 0 none) fun v52 => DB v52 fun res20 =>
                      Q (.bool res20) (h_117.setIfInBounds h_106.size (.deferred none))
                    else
                      StC h_115 ((Addr.mk b0 0 none).add 0) (.bool false) fun h_119 =>
                      h_119[h_106.size]? = some (.deferred (some [])) ∧
                      Ld (h_119.setIfInBounds h_106.size (.deferred none)) (Addr.mk b0 0 none) fun v53 => DB v53 fun res21 =>
                      Q (.bool res21) (h_119.setIfInBounds h_106.size (.deferred none)))) ∧
                  (pend4 = some (.ret) →
                    h_115[h_106.size]? = some (.deferred (some [])) ∧
                    Ld (h_115.setIfInBounds h_106.size (.deferred none)) (Addr.mk b0 0 none) fun v54 => DB v54 fun res22 =>
                    Q (.bool res22) (h_115.setIfInBounds h_106.size (.deferred none))))))
          else
            CallsH Tryz.prog 38 [.pointer x1, .slice picks0a picks0l picks0c] h_11 fun r71 h_120 =>
            DI .i64 r71 fun x58 =>
            CallsH Tryz.prog 28 [.pointer x1, .string ⟨#[100]⟩] h_120 fun r72 h_121 =>
            ∃ (x59 : Option Addr), ∃ (x60 : Int), r72 = .tuple #[.pointer x59, .int .i64 x60] ∧
            (bif (x60 : Int) != 0 then
              StC h_121 ((Addr.mk b0 0 none).add 0) (.bool false) fun h_123 =>
              Ld h_123 (Addr.mk b0 0 none) fun v55 => DB v55 fun res23 =>
              Q (.bool res23) h_123
            else
              Al h_121 (.cells #[.int .i64 0] 2) fun b12 h_124 =>
              StC h_124 ((Addr.mk b12 0 none).add 0) (.int .i64 0) fun h_126 =>
              CallsH Tryz.prog 34 [.pointer x59] h_126 fun r76 h_127 =>
              ∃ (x61 : Value), r76 = x61 ∧
              RangeFn Tryz.prog x61 2 none h_127 (fun l_5 rec_5 args5 h_128 Q_5 =>
                ∃ (y10 : Int), ∃ (y11a : Option Addr), ∃ (y11l : Nat), ∃ (y11c : Nat), args5 = [.int .i64 y10, .slice y11a y11l y11c] ∧
                h_128[l_5]? = some (rec_5 .ready none) ∧
                Ld (h_128.setIfInBounds l_5 (rec_5 .busy none)) (Addr.mk b12 0 none) fun v56 => DI .i64 v56 fun x62 =>
                (bif (y10 : Int) != x62 then
                  StC (h_128.setIfInBounds l_5 (rec_5 .busy none)) ((Addr.mk b0 0 none).add 0) (.bool false) fun h_130 =>
                  h_130[l_5]? = some (rec_5 .busy none) ∧ Q_5 (.bool false) (h_130.setIfInBounds l_5 (rec_5 .done (some .ret)))
                else
                  ∃ bs10 : ByteArray, BytesIn (h_128.setIfInBounds l_5 (rec_5 .busy none)) y11a y11l bs10 ∧
                  Ld (h_128.setIfInBounds l_5 (rec_5 .busy none)) (Addr.mk b12 0 none) fun v57 => DI .i64 v57 fun x63 =>
                  Ld (h_128.setIfInBounds l_5 (rec_5 .busy none)) (Addr.mk b12 0 none) fun v58 => DI .i64 v58 fun x64 =>
                  Al (h_128.setIfInBounds l_5 (rec_5 .busy none)) (.cells #[.int .u8 (IntKind.wrap .u8 x63), .int .u8 (IntKind.wrap .u8 (IntKind.wrap .i64 (x64 * 3)))] 5) fun b13 h_131 =>
                  ∃ bs11 : ByteArray, BytesIn h_131 (some (Addr.mk b13 0 none)) 2 bs11 ∧
                  (bif !strEq bs10 bs11 then
                    StC h_131 ((Addr.mk b0 0 none).add 0) (.bool false) fun h_133 =>
                    h_133[l_5]? = some (rec_5 .busy none) ∧ Q_5 (.bool false) (h_133.setIfInBounds l_5 (rec_5 .done (some .ret)))
                  else
                    Ld h_131 (Addr.mk b12 0 none) fun v59 => DI .i64 v59 fun x65 =>
                    StC h_131 ((Addr.mk b12 0 none).add 0) (.int .i64 (IntKind.wrap .i64 (x65 + 1))) fun h_135 =>
                    h_135[l_5]? = some (rec_5 .busy none) ∧ Q_5 (.bool true) (h_135.setIfInBounds l_5 (rec_5 .ready none))))) (fun pend5 h_136 =>
                (pend5 = none ∨ pend5 = some (.ret)) ∧
                (pend5 = none →
                  Ld h_136 (Addr.mk b12 0 none) fun v60 => DI .i64 v60 fun x66 =>
                  (bif decide ((x66 : Int) ≥ s0.1) then
                    Ld h_136 (Addr.mk b12 0 none) fun v61 => DI .i64 v61 fun x67 =>
                    StC h_136 ((Addr.mk b0 0 none).add 0) (.bool (decide ((x67 : Int) ≤ (IntKind.wrap .i64 (s0.1 + 1))))) fun h_138 =>
                    h_138[h_127.size]? = some (.deferred (some [])) ∧
                    Ld (h_138.setIfInBounds h_127.size (.deferred none)) (Addr.mk b0 0 none) fun v62 => DB v62 fun res24 =>
                    Q (.bool res24) (h_138.setIfInBounds h_127.size (.deferred none))
                  else
                    StC h_136 ((Addr.mk b0 0 none).add 0) (.bool false) fun h_140 =>
                    h_140[h_127.size]? = some (.deferred (some [])) ∧
                    Ld (h_140.setIfInBounds h_127.size (.deferred none)) (Addr.mk b0 0 none) fun v63 => DB v63 fun res25 =>
                    Q (.bool res25) (h_140.setIfInBounds h_127.size (.deferred none)))) ∧
                (pend5 = some (.ret) →
                  h_136[h_127.size]? = some (.deferred (some [])) ∧
                  Ld (h_136.setIfInBounds h_127.size (.deferred none)) (Addr.mk b0 0 none) fun v64 => DB v64 fun res26 =>
                  Q (.bool res26) (h_136.setIfInBounds h_127.size (.deferred none))))))) (0, 0) h_10)))
theorem F7_eq : (fun (steps0a : Option Addr) (steps0l : Nat) (steps0c : Nat) (fuse0 : Int) (picks0a : Option Addr) (picks0l : Nat) (picks0c : Nat) (h : Heap) (Q : Value → Heap → Prop) => fnPT Tryz.prog Tryz.f7 (fun i => bif Nat.beq i 0 then annCons 11 (codI .i64) (annOne 12 (codI .i64)) else annNil) (fun i => bif Nat.beq i 2 then [2, 40] else []) (fun _ => none) [.slice steps0a steps0l steps0c, .int .u8 fuse0, .slice picks0a picks0l picks0c] h Q) = F7 := by kernel_rfl
theorem F7_ok {steps0a : Option Addr} {steps0l : Nat} {steps0c : Nat} {fuse0 : Int} {picks0a : Option Addr} {picks0l : Nat} {picks0c : Nat} {h : Heap} {Q : Value → Heap → Prop} (H : F7 steps0a steps0l steps0c fuse0 picks0a picks0l picks0c h Q) : CallsH Tryz.prog 7 [.slice steps0a steps0l steps0c, .int .u8 fuse0, .slice picks0a picks0l picks0c] h Q :=
  callsH_of (ann := fun i => bif Nat.beq i 0 then annCons 11 (codI .i64) (annOne 12 (codI .i64)) else annNil) (tys := fun i => bif Nat.beq i 2 then [2, 40] else []) (pl := fun _ => none) Tryz.func7 (by kernel_rfl) (by have e := F7_eq; exact (congrFun (congrFun (congrFun (congrFun (congrFun (congrFun (congrFun (congrFun (congrFun (e) steps0a) steps0l) steps0c) fuse0) picks0a) picks0l) picks0c) h) Q).symm ▸ H)

/-- headgate/headgatelaw09.alive -/
def F27 (h : Heap) (Q : Value → Heap → Prop) : Prop :=
  CallsH Tryz.prog 10 [.int .i64 1000] h fun r0 h_0 =>
  ∃ (x0 : Option Addr), ∃ (x1 : Int), r0 = .tuple #[.pointer x0, .int .i64 x1] ∧
  (bif (x1 : Int) != 0 then
    Q (.bool false) h_0
  else
    (bif (x0).isNone then
      Q (.bool false) h_0
    else
      CallsH Tryz.prog 28 [.pointer x0, .string ⟨#[100]⟩] h_0 fun r1 h_1 =>
      ∃ (x2 : Option Addr), ∃ (x3 : Int), r1 = .tuple #[.pointer x2, .int .i64 x3] ∧
      (bif (x3 : Int) != 0 then
        Q (.bool false) h_1
      else
        (bif (x2).isNone then
          Q (.bool false) h_1
        else
          Al h_1 (.cells #[.int .u8 120] 5) fun b0 h_2 =>
          RunH Tryz.prog (Go.convert 40 40 (.slice (some (Addr.mk b0 0 none)) 1 1)) h_2 fun r3 h_3 =>
          DSl r3 fun x4a x4l x4c =>
          CallsH Tryz.prog 29 [.pointer x2, .int .i64 0, .slice x4a x4l x4c] h_3 fun r4 h_4 =>
          DI .i64 r4 fun x5 =>
          (bif (x5 : Int) != 0 then
            Q (.bool false) h_4
          else
            Al h_4 (.cells #[.int .u8 121] 5) fun b1 h_5 =>
            RunH Tryz.prog (Go.convert 40 40 (.slice (some (Addr.mk b1 0 none)) 1 1)) h_5 fun r6 h_6 =>
            DSl r6 fun x6a x6l x6c =>
            CallsH Tryz.prog 29 [.pointer x2, .int .i64 1, .slice x6a x6l x6c] h_6 fun r7 h_7 =>
            DI .i64 r7 fun x7 =>
            (bif (x7 : Int) != 0 then
              Q (.bool false) h_7
            else
              CallsH Tryz.prog 31 [.pointer x2, .int .i64 0] h_7 fun r8 h_8 =>
              DI .i64 r8 fun x8 =>
              (bif (x8 : Int) != 0 then
                Q (.bool false) h_8
              else
                Al h_8 (.cells #[.int .u8 122] 5) fun b2 h_9 =>
                RunH Tryz.prog (Go.convert 40 40 (.slice (some (Addr.mk b2 0 none)) 1 1)) h_9 fun r10 h_10 =>
                DSl r10 fun x9a x9l x9c =>
                CallsH Tryz.prog 29 [.pointer x2, .int .i64 1, .slice x9a x9l x9c] h_10 fun r11 h_11 =>
                DI .i64 r11 fun x10 =>
                (bif (x10 : Int) != 90 then
                  Q (.bool false) h_11
                else
                  CallsH Tryz.prog 33 [.pointer x2, .int .i64 0] h_11 fun r12 h_12 =>
                  ∃ (x11a : Option Addr), ∃ (x11l : Nat), ∃ (x11c : Nat), ∃ (x12 : Int), r12 = .tuple #[.slice x11a x11l x11c, .int .i64 x12] ∧
                  (bif (x12 : Int) == 0 then
                    ∃ bs0 : ByteArray, BytesIn h_12 x11a x11l bs0 ∧
                    (bif strEq bs0 ⟨#[120]⟩ then
                      CallsH Tryz.prog 30 [.pointer x2] h_12 fun r13 h_13 =>
                      DI .i64 r13 fun x13 =>
                      Q (.bool ((x13 : Int) == 2)) h_13
                    else
                      Q (.bool false) h_12)
                  else
                    Q (.bool false) h_12)))))))))
theorem F27_eq : (fun (h : Heap) (Q : Value → Heap → Prop) => fnPT Tryz.prog Tryz.f27 (fun _ => annNil) (fun _ => []) (fun _ => none) [] h Q) = F27 := by kernel_rfl
theorem F27_ok {h : Heap} {Q : Value → Heap → Prop} (H : F27 h Q) : CallsH Tryz.prog 27 [] h Q :=
  callsH_of (ann := fun _ => annNil) (tys := fun _ => []) (pl := fun _ => none) Tryz.func27 (by kernel_rfl) (by have e := F27_eq; exact (congrFun (congrFun (e) h) Q).symm ▸ H)

/-- headgate/metalog.Open -/
def F28 (f0 : Option Addr) (dir0 : ByteArray) (h : Heap) (Q : Value → Heap → Prop) : Prop :=
  Al h (.cells #[.pointer f0] 25) fun b0 h_0 =>
  Al h_0 (.cells #[.string dir0] 9) fun b1 h_1 =>
  Al h_1 (.cells #[.pointer none] 60) fun b2 h_2 =>
  Al h_2 (.cells #[.int .i64 0] 26) fun b3 h_3 =>
  Ld h_3 (Addr.mk b0 0 none) fun v0 => DP v0 fun x0 =>
  Ld h_3 (Addr.mk b1 0 none) fun v1 => DS v1 fun x1 =>
  CallsH Tryz.prog 21 [.pointer x0, .string x1] h_3 fun r4 h_4 =>
  ∃ (x2a : Option Addr), ∃ (x2l : Nat), ∃ (x2c : Nat), ∃ (x3 : Int), r4 = .tuple #[.slice x2a x2l x2c, .int .i64 x3] ∧
  (bif (x3 : Int) != 0 then
    StC h_4 ((Addr.mk b2 0 none).add 0) (.pointer none) fun h_6 =>
    StC h_6 ((Addr.mk b3 0 none).add 0) (.int .i64 x3) fun h_8 =>
    Ld h_8 (Addr.mk b2 0 none) fun v2 => DP v2 fun res0 =>
    Ld h_8 (Addr.mk b3 0 none) fun v3 => DI .i64 v3 fun res1 =>
    Q (.tuple #[.pointer res0, .int .i64 res1]) h_8
  else
    Ld h_4 (Addr.mk b0 0 none) fun v4 => DP v4 fun x4 =>
    Ld h_4 (Addr.mk b1 0 none) fun v5 => DS v5 fun x5 =>
    Al h_4 (.map #[] 0) fun b4 h_9 =>
    Al h_9 (.map #[] 0) fun b5 h_10 =>
    Al h_10 (.map #[] 0) fun b6 h_11 =>
    Al h_11 (.cells #[.pointer x4, .string x5, .map (some b4), .map (some b5), .map (some b6)] 133) fun b7 h_12 =>
    Al h_12 (.cells #[.pointer none] 60) fun b8 h_13 =>
    StC h_13 ((Addr.mk b8 0 none).add 0) (.pointer (some (Addr.mk b7 0 none))) fun h_15 =>
    LoopH (fun again0 (s0 : Int) h_16 =>
      (bif decide ((s0 : Int) < (x2l : Int)) then
        IdxA x2a x2l s0 1 fun a0 =>
        Ld h_16 a0 fun v6 => DS v6 fun s1 =>
        CallsH Tryz.prog 88 [.string s1] h_16 fun r13 h_17 =>
        ∃ (x6 : Int), ∃ (x7 : Int), ∃ (x8 : Bool), r13 = .tuple #[.int .u8 x6, .int .i64 x7, .bool x8] ∧
        (bif x8 then
          (bif (x6 : Int) == 98 then
            Ld h_17 (Addr.mk b8 0 none) fun v7 => DP v7 fun x9 =>
            NN' x9 fun a1 =>
            Ld h_17 (a1.add 2) fun v8 => DM v8 fun x10 =>
            RunU Tryz.prog (Instr.mapUpdate 129 (.map x10) (.int .i64 x7) (.slice none 0 0)) h_17 fun h_18 =>
            again0 (IntKind.wrap .i64 (s0 + 1)) h_18
          else
            (bif x8 then
              Ld h_17 (Addr.mk b8 0 none) fun v9 => DP v9 fun x11 =>
              NN' x11 fun a2 =>
              Ld h_17 (a2.add 3) fun v10 => DM v10 fun x12 =>
              RunU Tryz.prog (Instr.mapUpdate 131 (.map x12) (.int .i64 x7) (.bool true)) h_17 fun h_19 =>
              again0 (IntKind.wrap .i64 (s0 + 1)) h_19
            else
              again0 (IntKind.wrap .i64 (s0 + 1)) h_17))
        else
          (bif x8 then
            Ld h_17 (Addr.mk b8 0 none) fun v11 => DP v11 fun x13 =>
            NN' x13 fun a3 =>
            Ld h_17 (a3.add 3) fun v12 => DM v12 fun x14 =>
            RunU Tryz.prog (Instr.mapUpdate 131 (.map x14) (.int .i64 x7) (.bool true)) h_17 fun h_20 =>
            again0 (IntKind.wrap .i64 (s0 + 1)) h_20
          else
            again0 (IntKind.wrap .i64 (s0 + 1)) h_17))
      else
        Ld h_16 (Addr.mk b8 0 none) fun v13 => DP v13 fun x15 =>
        CallsH Tryz.prog 89 [.pointer x15] h_16 fun r17 h_21 =>
        DI .i64 r17 fun n0 =>
        (bif decide ((n0 : Int) ≥ 0) then
          Ld h_21 (Addr.mk b0 0 none) fun v14 => DP v14 fun x16 =>
          Ld h_21 (Addr.mk b1 0 none) fun v15 => DS v15 fun x17 =>
          CallsH Tryz.prog 44 [.int .i64 n0] h_21 fun r18 h_22 =>
          DS r18 fun x18 =>
          (Ld h_22 (Addr.mk b0 0 none) fun v16 => DP v16 fun x19 =>
          SameV (some (.pointer x16)) (.pointer x19)) ∧
          (Ld h_22 (Addr.mk b1 0 none) fun v17 => DS v17 fun x20 =>
          SameV (some (.string x17)) (.string x20)) ∧
          (⟨#[102, 46]⟩ : ByteArray).size + (x18 : ByteArray).size ≤ 9223372036854775807 ∧
          CallsH Tryz.prog 17 [.pointer x16, .string x17, .string (⟨#[102, 46]⟩ ++ x18)] h_22 fun r19 h_23 =>
          ∃ (x21a : Option Addr), ∃ (x21l : Nat), ∃ (x21c : Nat), ∃ (x22 : Int), r19 = .tuple #[.slice x21a x21l x21c, .int .i64 x22] ∧
          (bif (x22 : Int) != 0 then
            StC h_23 ((Addr.mk b2 0 none).add 0) (.pointer none) fun h_25 =>
            StC h_25 ((Addr.mk b3 0 none).add 0) (.int .i64 x22) fun h_27 =>
            Ld h_27 (Addr.mk b2 0 none) fun v18 => DP v18 fun res2 =>
            Ld h_27 (Addr.mk b3 0 none) fun v19 => DI .i64 v19 fun res3 =>
            Q (.tuple #[.pointer res2, .int .i64 res3]) h_27
          else
            Ld h_23 (Addr.mk b8 0 none) fun v20 => DP v20 fun x23 =>
            CallsH Tryz.prog 90 [.slice x21a x21l x21c, .int .i64 n0] h_23 fun r22 h_28 =>
            ∃ (x24 : Option Nat), ∃ (x25 : Bool), r22 = .tuple #[.map x24, .bool x25] ∧
            (Ld h_28 (Addr.mk b8 0 none) fun v21 => DP v21 fun x26 =>
            SameV (some (.pointer x23)) (.pointer x26)) ∧
            NN' x23 fun a4 =>
            StC h_28 ((a4.add 4).add 0) (.map x24) fun h_30 =>
            (SameV (some (.bool x25)) (.bool x25)) ∧
            (bif !x25 then
              StC h_30 ((Addr.mk b2 0 none).add 0) (.pointer none) fun h_32 =>
              StC h_32 ((Addr.mk b3 0 none).add 0) (.int .i64 70) fun h_34 =>
              Ld h_34 (Addr.mk b2 0 none) fun v22 => DP v22 fun res4 =>
              Ld h_34 (Addr.mk b3 0 none) fun v23 => DI .i64 v23 fun res5 =>
              Q (.tuple #[.pointer res4, .int .i64 res5]) h_34
            else
              Ld h_30 (Addr.mk b8 0 none) fun v24 => DP v24 fun x27 =>
              NN' x27 fun a5 =>
              Ld h_30 (a5.add 2) fun v25 => DM v25 fun x28 =>
              CallsH Tryz.prog 91 [.map x28] h_30 fun r26 h_35 =>
              ∃ (x29 : Value), r26 = x29 ∧
              RangeFn Tryz.prog x29 2 none h_35 (fun l_0 rec_0 args0 h_36 Q_0 =>
                ∃ (y0 : Int), ∃ (y1a : Option Addr), ∃ (y1l : Nat), ∃ (y1c : Nat), args0 = [.int .i64 y0, .slice y1a y1l y1c] ∧
                h_36[l_0]? = some (rec_0 .ready none) ∧
                Ld (h_36.setIfInBounds l_0 (rec_0 .busy none)) (Addr.mk b0 0 none) fun v26 => DP v26 fun x30 =>
                Ld (h_36.setIfInBounds l_0 (rec_0 .busy none)) (Addr.mk b1 0 none) fun v27 => DS v27 fun x31 =>
                CallsH Tryz.prog 44 [.int .i64 y0] (h_36.setIfInBounds l_0 (rec_0 .busy none)) fun r27 h_37 =>
                DS r27 fun x32 =>
                (Ld h_37 (Addr.mk b0 0 none) fun v28 => DP v28 fun x33 =>
                SameV (some (.pointer x30)) (.pointer x33)) ∧
                (Ld h_37 (Addr.mk b1 0 none) fun v29 => DS v29 fun x34 =>
                SameV (some (.string x31)) (.string x34)) ∧
                (⟨#[98, 46]⟩ : ByteArray).size + (x32 : ByteArray).size ≤ 9223372036854775807 ∧
                CallsH Tryz.prog 17 [.pointer x30, .string x31, .string (⟨#[98, 46]⟩ ++ x32)] h_37 fun r28 h_38 =>
                ∃ (x35a : Option Addr), ∃ (x35l : Nat), ∃ (x35c : Nat), ∃ (x36 : Int), r28 = .tuple #[.slice x35a x35l x35c, .int .i64 x36] ∧
                (bif (x36 : Int) != 0 then
                  StC h_38 ((Addr.mk b2 0 none).add 0) (.pointer none) fun h_40 =>
                  StC h_40 ((Addr.mk b3 0 none).add 0) (.int .i64 x36) fun h_42 =>
                  h_42[l_0]? = some (rec_0 .busy none) ∧ Q_0 (.bool false) (h_42.setIfInBounds l_0 (rec_0 .done (some .ret)))
                else
                  Ld h_38 (Addr.mk b8 0 none) fun v30 => DP v30 fun x37 =>
                  NN' x37 fun a6 =>
                  Ld h_38 (a6.add 2) fun v31 => DM v31 fun x38 =>
                  RunU Tryz.prog (Instr.mapUpdate 129 (.map x38) (.int .i64 y0) (.slice x35a x35l x35c)) h_38 fun h_43 =>
                  h_43[l_0]? = some (rec_0 .busy none) ∧ Q_0 (.bool true) (h_43.setIfInBounds l_0 (rec_0 .ready none)))) (fun pend0 h_44 =>
                (pend0 = none ∨ pend0 = some (.ret)) ∧
                (pend0 = none →
                  Ld h_44 (Addr.mk b8 0 none) fun v32 => DP v32 fun x39 =>
                  StC h_44 ((Addr.mk b2 0 none).add 0) (.pointer x39) fun h_46 =>
                  StC h_46 ((Addr.mk b3 0 none).add 0) (.int .i64 0) fun h_48 =>
                  h_48[h_35.size]? = some (.deferred (some [])) ∧
                  Ld (h_48.setIfInBounds h_35.size (.deferred none)) (Addr.mk b2 0 none) fun v33 => DP v33 fun res6 =>
                  Ld (h_48.setIfInBounds h_35.size (.deferred none)) (Addr.mk b3 0 none) fun v34 => DI .i64 v34 fun res7 =>
                  Q (.tuple #[.pointer res6, .int .i64 res7]) (h_48.setIfInBounds h_35.size (.deferred none))) ∧
                (pend0 = some (.ret) →
                  h_44[h_35.size]? = some (.deferred (some [])) ∧
                  Ld (h_44.setIfInBounds h_35.size (.deferred none)) (Addr.mk b2 0 none) fun v35 => DP v35 fun res8 =>
                  Ld (h_44.setIfInBounds h_35.size (.deferred none)) (Addr.mk b3 0 none) fun v36 => DI .i64 v36 fun res9 =>
                  Q (.tuple #[.pointer res8, .int .i64 res9]) (h_44.setIfInBounds h_35.size (.deferred none))))))
        else
          Ld h_21 (Addr.mk b8 0 none) fun v37 => DP v37 fun x40 =>
          NN' x40 fun a7 =>
          Ld h_21 (a7.add 2) fun v38 => DM v38 fun x41 =>
          CallsH Tryz.prog 91 [.map x41] h_21 fun r34 h_49 =>
          ∃ (x42 : Value), r34 = x42 ∧
          RangeFn Tryz.prog x42 2 none h_49 (fun l_1 rec_1 args1 h_50 Q_1 =>
            ∃ (y2 : Int), ∃ (y3a : Option Addr), ∃ (y3l : Nat), ∃ (y3c : Nat), args1 = [.int .i64 y2, .slice y3a y3l y3c] ∧
            h_50[l_1]? = some (rec_1 .ready none) ∧
            Ld (h_50.setIfInBounds l_1 (rec_1 .busy none)) (Addr.mk b0 0 none) fun v39 => DP v39 fun x43 =>
            Ld (h_50.setIfInBounds l_1 (rec_1 .busy none)) (Addr.mk b1 0 none) fun v40 => DS v40 fun x44 =>
            CallsH Tryz.prog 44 [.int .i64 y2] (h_50.setIfInBounds l_1 (rec_1 .busy none)) fun r35 h_51 =>
            DS r35 fun x45 =>
            (Ld h_51 (Addr.mk b0 0 none) fun v41 => DP v41 fun x46 =>
            SameV (some (.pointer x43)) (.pointer x46)) ∧
            (Ld h_51 (Addr.mk b1 0 none) fun v42 => DS v42 fun x47 =>
            SameV (some (.string x44)) (.string x47)) ∧
            (⟨#[98, 46]⟩ : ByteArray).size + (x45 : ByteArray).size ≤ 9223372036854775807 ∧
            CallsH Tryz.prog 17 [.pointer x43, .string x44, .string (⟨#[98, 46]⟩ ++ x45)] h_51 fun r36 h_52 =>
            ∃ (x48a : Option Addr), ∃ (x48l : Nat), ∃ (x48c : Nat), ∃ (x49 : Int), r36 = .tuple #[.slice x48a x48l x48c, .int .i64 x49] ∧
            (bif (x49 : Int) != 0 then
              StC h_52 ((Addr.mk b2 0 none).add 0) (.pointer none) fun h_54 =>
              StC h_54 ((Addr.mk b3 0 none).add 0) (.int .i64 x49) fun h_56 =>
              h_56[l_1]? = some (rec_1 .busy none) ∧ Q_1 (.bool false) (h_56.setIfInBounds l_1 (rec_1 .done (some .ret)))
            else
              Ld h_52 (Addr.mk b8 0 none) fun v43 => DP v43 fun x50 =>
              NN' x50 fun a8 =>
              Ld h_52 (a8.add 2) fun v44 => DM v44 fun x51 =>
              RunU Tryz.prog (Instr.mapUpdate 129 (.map x51) (.int .i64 y2) (.slice x48a x48l x48c)) h_52 fun h_57 =>
              h_57[l_1]? = some (rec_1 .busy none) ∧ Q_1 (.bool true) (h_57.setIfInBounds l_1 (rec_1 .ready none)))) (fun pend1 h_58 =>
            (pend1 = none ∨ pend1 = some (.ret)) ∧
            (pend1 = none →
              Ld h_58 (Addr.mk b8 0 none) fun v45 => DP v45 fun x52 =>
              StC h_58 ((Addr.mk b2 0 none).add 0) (.pointer x52) fun h_60 =>
              StC h_60 ((Addr.mk b3 0 none).add 0) (.int .i64 0) fun h_62 =>
              h_62[h_49.size]? = some (.deferred (some [])) ∧
              Ld (h_62.setIfInBounds h_49.size (.deferred none)) (Addr.mk b2 0 none) fun v46 => DP v46 fun res10 =>
              Ld (h_62.setIfInBounds h_49.size (.deferred none)) (Addr.mk b3 0 none) fun v47 => DI .i64 v47 fun res11 =>
              Q (.tuple #[.pointer res10, .int .i64 res11]) (h_62.setIfInBounds h_49.size (.deferred none))) ∧
            (pend1 = some (.ret) →
              h_58[h_49.size]? = some (.deferred (some [])) ∧
              Ld (h_58.setIfInBounds h_49.size (.deferred none)) (Addr.mk b2 0 none) fun v48 => DP v48 fun res12 =>
              Ld (h_58.setIfInBounds h_49.size (.deferred none)) (Addr.mk b3 0 none) fun v49 => DI .i64 v49 fun res13 =>
              Q (.tuple #[.pointer res12, .int .i64 res13]) (h_58.setIfInBounds h_49.size (.deferred none))))))) 0 h_15)
theorem F28_eq : (fun (f0 : Option Addr) (dir0 : ByteArray) (h : Heap) (Q : Value → Heap → Prop) => fnPT Tryz.prog Tryz.f28 (fun i => bif Nat.beq i 0 then annOne 39 (codI .i64) else annNil) (fun i => bif Nat.beq i 3 then [2, 40] else []) (fun i => bif Nat.beq i 16 then some ⟨[0, 0, 0, 4, 12, 31, 63, 127, 127, 255, 1023], 40⟩ else bif Nat.beq i 20 then some ⟨[0, 0, 0, 6, 14, 30, 30, 63, 191, 447, 1023], 520⟩ else bif Nat.beq i 25 then some ⟨[0, 0, 0, 4, 12, 31, 63, 127, 127, 255, 1023], 40⟩ else none) [.pointer f0, .string dir0] h Q) = F28 := by kernel_rfl
theorem F28_ok {f0 : Option Addr} {dir0 : ByteArray} {h : Heap} {Q : Value → Heap → Prop} (H : F28 f0 dir0 h Q) : CallsH Tryz.prog 28 [.pointer f0, .string dir0] h Q :=
  callsH_of (ann := fun i => bif Nat.beq i 0 then annOne 39 (codI .i64) else annNil) (tys := fun i => bif Nat.beq i 3 then [2, 40] else []) (pl := fun i => bif Nat.beq i 16 then some ⟨[0, 0, 0, 4, 12, 31, 63, 127, 127, 255, 1023], 40⟩ else bif Nat.beq i 20 then some ⟨[0, 0, 0, 6, 14, 30, 30, 63, 191, 447, 1023], 520⟩ else bif Nat.beq i 25 then some ⟨[0, 0, 0, 4, 12, 31, 63, 127, 127, 255, 1023], 40⟩ else none) Tryz.func28 (by kernel_rfl) (by have e := F28_eq; exact (congrFun (congrFun (congrFun (congrFun (e) f0) dir0) h) Q).symm ▸ H)

/-- (*headgate/metalog.Log).Put -/
def F29 (l_0 : Option Addr) (id0 : Int) (b0a : Option Addr) (b0l : Nat) (b0c : Nat) (h : Heap) (Q : Value → Heap → Prop) : Prop :=
  (bif (l_0).isNone then
    Q (.int .i64 1) h
  else
    (bif decide ((id0 : Int) < 0) then
      Q (.int .i64 2) h
    else
      (bif decide ((id0 : Int) > 1099511627776) then
        Q (.int .i64 2) h
      else
        CallsH Tryz.prog 92 [.pointer l_0, .int .i64 id0] h fun r0 h_0 =>
        ∃ (x0a : Option Addr), ∃ (x0l : Nat), ∃ (x0c : Nat), ∃ (x1 : Bool), r0 = .tuple #[.slice x0a x0l x0c, .bool x1] ∧
        (bif x1 then
          CallsH Tryz.prog 93 [.slice x0a x0l x0c, .slice b0a b0l b0c] h_0 fun r1 h_1 =>
          DB r1 fun x2 =>
          (bif !x2 then
            Q (.int .i64 90) h_1
          else
            Q (.int .i64 0) h_1)
        else
          NN' l_0 fun a0 =>
          Ld h_0 (a0.add 0) fun v0 => DP v0 fun x3 =>
          NN' l_0 fun a1 =>
          Ld h_0 (a1.add 1) fun v1 => DS v1 fun x4 =>
          CallsH Tryz.prog 44 [.int .i64 id0] h_0 fun r2 h_2 =>
          DS r2 fun x5 =>
          (SameV (some (.pointer l_0)) (.pointer l_0)) ∧
          (NN' l_0 fun a2 =>
          SameV (some (.pointer (some a0))) (.pointer (some a2))) ∧
          (SameV (some (.pointer (some (a0.add 0)))) (.pointer (some (a0.add 0)))) ∧
          (Ld h_2 (a0.add 0) fun v2 => DP v2 fun x6 =>
          SameV (some (.pointer x3)) (.pointer x6)) ∧
          (SameV (some (.pointer l_0)) (.pointer l_0)) ∧
          (NN' l_0 fun a3 =>
          SameV (some (.pointer (some a1))) (.pointer (some a3))) ∧
          (SameV (some (.pointer (some (a1.add 1)))) (.pointer (some (a1.add 1)))) ∧
          (Ld h_2 (a1.add 1) fun v3 => DS v3 fun x7 =>
          SameV (some (.string x4)) (.string x7)) ∧
          (SameV (some (.slice b0a b0l b0c)) (.slice b0a b0l b0c)) ∧
          (⟨#[98, 46]⟩ : ByteArray).size + (x5 : ByteArray).size ≤ 9223372036854775807 ∧
          CallsH Tryz.prog 13 [.pointer x3, .string x4, .string (⟨#[98, 46]⟩ ++ x5), .slice b0a b0l b0c] h_2 fun r3 h_3 =>
          DI .i64 r3 fun e0 =>
          (bif (e0 : Int) != 0 then
            Q (.int .i64 e0) h_3
          else
            NN' l_0 fun a4 =>
            Ld h_3 (a4.add 2) fun v4 => DM v4 fun x8 =>
            CallsH Tryz.prog 94 [.slice b0a b0l b0c] h_3 fun r4 h_4 =>
            DSl r4 fun x9a x9l x9c =>
            (SameV (some (.pointer l_0)) (.pointer l_0)) ∧
            (NN' l_0 fun a5 =>
            SameV (some (.pointer (some a4))) (.pointer (some a5))) ∧
            (SameV (some (.pointer (some (a4.add 2)))) (.pointer (some (a4.add 2)))) ∧
            (Ld h_4 (a4.add 2) fun v5 => DM v5 fun x10 =>
            SameV (some (.map x8)) (.map x10)) ∧
            (SameV (some (.int .i64 id0)) (.int .i64 id0)) ∧
            RunU Tryz.prog (Instr.mapUpdate 129 (.map x8) (.int .i64 id0) (.slice x9a x9l x9c)) h_4 fun h_5 =>
            Q (.int .i64 0) h_5)))))
theorem F29_eq : (fun (l_0 : Option Addr) (id0 : Int) (b0a : Option Addr) (b0l : Nat) (b0c : Nat) (h : Heap) (Q : Value → Heap → Prop) => fnPT Tryz.prog Tryz.f29 (fun _ => annNil) (fun _ => []) (fun i => bif Nat.beq i 10 then some ⟨[0, 1, 3, 7, 0, 16, 48, 112, 0, 256, 768, 0, 4095, 8191], 4608⟩ else bif Nat.beq i 13 then some ⟨[0, 1, 3, 7, 0, 0, 32, 127], 192⟩ else none) [.pointer l_0, .int .i64 id0, .slice b0a b0l b0c] h Q) = F29 := by kernel_rfl
theorem F29_ok {l_0 : Option Addr} {id0 : Int} {b0a : Option Addr} {b0l : Nat} {b0c : Nat} {h : Heap} {Q : Value → Heap → Prop} (H : F29 l_0 id0 b0a b0l b0c h Q) : CallsH Tryz.prog 29 [.pointer l_0, .int .i64 id0, .slice b0a b0l b0c] h Q :=
  callsH_of (ann := fun _ => annNil) (tys := fun _ => []) (pl := fun i => bif Nat.beq i 10 then some ⟨[0, 1, 3, 7, 0, 16, 48, 112, 0, 256, 768, 0, 4095, 8191], 4608⟩ else bif Nat.beq i 13 then some ⟨[0, 1, 3, 7, 0, 0, 32, 127], 192⟩ else none) Tryz.func29 (by kernel_rfl) (by have e := F29_eq; exact (congrFun (congrFun (congrFun (congrFun (congrFun (congrFun (congrFun (e) l_0) id0) b0a) b0l) b0c) h) Q).symm ▸ H)

/-- (*headgate/metalog.Log).Len -/
def F30 (l_0 : Option Addr) (h : Heap) (Q : Value → Heap → Prop) : Prop :=
  (bif (l_0).isNone then
    Q (.int .i64 0) h
  else
    CallsH Tryz.prog 95 [.pointer l_0] h fun r0 h_0 =>
    DM r0 fun x0 =>
    ∃ es0, mapEs h_0 x0 es0 ∧
    Q (.int .i64 ((es0 : Array MapEntry).size : Int)) h_0)
theorem F30_eq : (fun (l_0 : Option Addr) (h : Heap) (Q : Value → Heap → Prop) => fnPT Tryz.prog Tryz.f30 (fun _ => annNil) (fun _ => []) (fun _ => none) [.pointer l_0] h Q) = F30 := by kernel_rfl
theorem F30_ok {l_0 : Option Addr} {h : Heap} {Q : Value → Heap → Prop} (H : F30 l_0 h Q) : CallsH Tryz.prog 30 [.pointer l_0] h Q :=
  callsH_of (ann := fun _ => annNil) (tys := fun _ => []) (pl := fun _ => none) Tryz.func30 (by kernel_rfl) (by have e := F30_eq; exact (congrFun (congrFun (congrFun (e) l_0) h) Q).symm ▸ H)

/-- (*headgate/metalog.Log).Fold -/
def F31 (l_0 : Option Addr) (upto0 : Int) (h : Heap) (Q : Value → Heap → Prop) : Prop :=
  (bif (l_0).isNone then
    Q (.int .i64 1) h
  else
    CallsH Tryz.prog 89 [.pointer l_0] h fun r0 h_0 =>
    DI .i64 r0 fun x0 =>
    Al h_0 (.cells #[.int .i64 0] 2) fun b0 h_1 =>
    StC h_1 ((Addr.mk b0 0 none).add 0) (.int .i64 (if (x0 : Int) > upto0 then x0 else upto0)) fun h_3 =>
    Al h_3 (.cells #[.int .i64 0] 2) fun b1 h_4 =>
    StC h_4 ((Addr.mk b1 0 none).add 0) (.int .i64 (-1)) fun h_6 =>
    Al h_6 (.cells #[.slice none 0 0] 144) fun b2 h_7 =>
    CallsH Tryz.prog 95 [.pointer l_0] h_7 fun r6 h_8 =>
    DM r6 fun x1 =>
    CallsH Tryz.prog 91 [.map x1] h_8 fun r7 h_9 =>
    ∃ (x2 : Value), r7 = x2 ∧
    RangeFn Tryz.prog x2 2 none h_9 (fun l_1 rec_0 args0 h_10 Q_0 =>
      ∃ (y0 : Int), ∃ (y1a : Option Addr), ∃ (y1l : Nat), ∃ (y1c : Nat), args0 = [.int .i64 y0, .slice y1a y1l y1c] ∧
      h_10[l_1]? = some (rec_0 .ready none) ∧
      Ld (h_10.setIfInBounds l_1 (rec_0 .busy none)) (Addr.mk b0 0 none) fun v0 => DI .i64 v0 fun x3 =>
      (bif decide ((y0 : Int) > x3) then
        (h_10.setIfInBounds l_1 (rec_0 .busy none))[l_1]? = some (rec_0 .busy none) ∧ Q_0 (.bool false) ((h_10.setIfInBounds l_1 (rec_0 .busy none)).setIfInBounds l_1 (rec_0 .done (some (.exit 0))))
      else
        StC (h_10.setIfInBounds l_1 (rec_0 .busy none)) ((Addr.mk b1 0 none).add 0) (.int .i64 y0) fun h_12 =>
        Ld h_12 (Addr.mk b2 0 none) fun v1 => DSl v1 fun x4a x4l x4c =>
        ∃ bs0 : ByteArray, BytesIn h_12 y1a y1l bs0 ∧
        CallsH Tryz.prog 44 [.int .i64 y0] h_12 fun r9 h_13 =>
        DS r9 fun x5 =>
        (Ld h_13 (Addr.mk b2 0 none) fun v2 => DSl v2 fun x6a x6l x6c =>
        SameV (some (.slice x4a x4l x4c)) (.slice x6a x6l x6c)) ∧
        (SameV (some (.slice y1a y1l y1c)) (.slice y1a y1l y1c)) ∧
        (∃ bs1 : ByteArray, BytesIn h_13 y1a y1l bs1 ∧
        SameV (some (.string bs0)) (.string bs1)) ∧
        Al h_13 (.cells #[.string x5, .string bs0] 146) fun b3 h_14 =>
        (Ld h_14 (Addr.mk b2 0 none) fun v3 => DSl v3 fun x7a x7l x7c =>
        SameV (some (.slice x4a x4l x4c)) (.slice x7a x7l x7c)) ∧
        RunH Tryz.prog (Builtin.append_ #[144, 144] 144 #[.slice x4a x4l x4c, .slice (some (Addr.mk b3 0 none)) 1 1]) h_14 fun r11 h_15 =>
        DSl r11 fun x8a x8l x8c =>
        StC h_15 ((Addr.mk b2 0 none).add 0) (.slice x8a x8l x8c) fun h_17 =>
        h_17[l_1]? = some (rec_0 .busy none) ∧ Q_0 (.bool true) (h_17.setIfInBounds l_1 (rec_0 .ready none)))) (fun pend0 h_18 =>
      (pend0 = none ∨ pend0 = some (.exit 0)) ∧
      (pend0 = none →
        Ld h_18 (Addr.mk b1 0 none) fun v4 => DI .i64 v4 fun x9 =>
        (bif decide ((x9 : Int) < 0) then
          h_18[h_9.size]? = some (.deferred (some [])) ∧
          Q (.int .i64 91) (h_18.setIfInBounds h_9.size (.deferred none))
        else
          Ld h_18 (Addr.mk b1 0 none) fun v5 => DI .i64 v5 fun x10 =>
          CallsH Tryz.prog 89 [.pointer l_0] h_18 fun r13 h_19 =>
          DI .i64 r13 fun x11 =>
          (Ld h_19 (Addr.mk b1 0 none) fun v6 => DI .i64 v6 fun x12 =>
          SameV (some (.int .i64 x10)) (.int .i64 x12)) ∧
          (bif (x11 : Int) == x10 then
            NN' l_0 fun a0 =>
            Ld h_19 (a0.add 3) fun v7 => DM v7 fun x13 =>
            ∃ es0, mapEs h_19 x13 es0 ∧
            NN' l_0 fun a1 =>
            Ld h_19 (a1.add 2) fun v8 => DM v8 fun x14 =>
            RunH Tryz.prog (Instr.range 129 (.map x14)) h_19 fun r14 h_20 =>
            DP r14 fun p0 =>
            LoopH (fun again0 (s0 : Bool) h_21 =>
              RunH Tryz.prog (Instr.next (.pointer p0) false 0) h_21 fun r15 h_22 =>
              (
                r15 = .tuple #[.bool false] ∧
                (bif s0 then
                  h_22[h_9.size]? = some (.deferred (some [])) ∧
                  Q (.int .i64 0) (h_22.setIfInBounds h_9.size (.deferred none))
                else
                  Ld h_22 (Addr.mk b2 0 none) fun v9 => DSl v9 fun x16a x16l x16c =>
                  CallsH Tryz.prog 96 [.slice x16a x16l x16c] h_22 fun r16 h_23 =>
                  ∃ (x17a : Option Addr), ∃ (x17l : Nat), ∃ (x17c : Nat), ∃ (x18 : Int), r16 = .tuple #[.slice x17a x17l x17c, .int .i64 x18] ∧
                  (bif (x18 : Int) != 0 then
                    h_23[h_9.size]? = some (.deferred (some [])) ∧
                    Q (.int .i64 x18) (h_23.setIfInBounds h_9.size (.deferred none))
                  else
                    NN' l_0 fun a2 =>
                    Ld h_23 (a2.add 0) fun v10 => DP v10 fun x19 =>
                    NN' l_0 fun a3 =>
                    Ld h_23 (a3.add 1) fun v11 => DS v11 fun x20 =>
                    Ld h_23 (Addr.mk b1 0 none) fun v12 => DI .i64 v12 fun x21 =>
                    CallsH Tryz.prog 44 [.int .i64 x21] h_23 fun r17 h_24 =>
                    DS r17 fun x22 =>
                    (SameV (some (.pointer l_0)) (.pointer l_0)) ∧
                    (NN' l_0 fun a4 =>
                    SameV (some (.pointer (some a2))) (.pointer (some a4))) ∧
                    (SameV (some (.pointer (some (a2.add 0)))) (.pointer (some (a2.add 0)))) ∧
                    (Ld h_24 (a2.add 0) fun v13 => DP v13 fun x23 =>
                    SameV (some (.pointer x19)) (.pointer x23)) ∧
                    (SameV (some (.pointer l_0)) (.pointer l_0)) ∧
                    (NN' l_0 fun a5 =>
                    SameV (some (.pointer (some a3))) (.pointer (some a5))) ∧
                    (SameV (some (.pointer (some (a3.add 1)))) (.pointer (some (a3.add 1)))) ∧
                    (Ld h_24 (a3.add 1) fun v14 => DS v14 fun x24 =>
                    SameV (some (.string x20)) (.string x24)) ∧
                    (SameV (some (.slice x17a x17l x17c)) (.slice x17a x17l x17c)) ∧
                    (⟨#[102, 46]⟩ : ByteArray).size + (x22 : ByteArray).size ≤ 9223372036854775807 ∧
                    CallsH Tryz.prog 13 [.pointer x19, .string x20, .string (⟨#[102, 46]⟩ ++ x22), .slice x17a x17l x17c] h_24 fun r18 h_25 =>
                    DI .i64 r18 fun e0 =>
                    (bif (e0 : Int) != 0 then
                      h_25[h_9.size]? = some (.deferred (some [])) ∧
                      Q (.int .i64 e0) (h_25.setIfInBounds h_9.size (.deferred none))
                    else
                      Al h_25 (.map #[] 0) fun b4 h_26 =>
                      CallsH Tryz.prog 95 [.pointer l_0] h_26 fun r20 h_27 =>
                      DM r20 fun x25 =>
                      RunH Tryz.prog (Instr.range 129 (.map x25)) h_27 fun r21 h_28 =>
                      DP r21 fun p1 =>
                      LoopH (fun again1 (s1 : Unit) h_29 =>
                        RunH Tryz.prog (Instr.next (.pointer p1) false 0) h_29 fun r22 h_30 =>
                        (
                          r22 = .tuple #[.bool false] ∧
                          NN' l_0 fun a6 =>
                          Ld h_30 (a6.add 3) fun v15 => DM v15 fun x27 =>
                          Ld h_30 (Addr.mk b1 0 none) fun v16 => DI .i64 v16 fun x28 =>
                          RunH Tryz.prog (Instr.mapEntry 131 (.map x27) (.int .i64 x28)) h_30 fun r23 h_31 =>
                          ∃ (x29 : Value), ∃ (x30 : Int), r23 = .tuple #[x29, .int .i64 x30] ∧
                          (SameV (some (.pointer l_0)) (.pointer l_0)) ∧
                          (SameV (some (.map (some b4))) (.map (some b4))) ∧
                          RunU Tryz.prog (Instr.entryStore 131 (.map x27) (.int .i64 x30) (.bool true)) h_31 fun h_32 =>
                          (SameV (some (.pointer l_0)) (.pointer l_0)) ∧
                          (SameV (some (.map (some b4))) (.map (some b4))) ∧
                          NN' l_0 fun a7 =>
                          StC h_32 ((a7.add 4).add 0) (.map (some b4)) fun h_34 =>
                          CallsH Tryz.prog 97 [.pointer l_0, .func (.func 98) #[] #[.pointer (some (Addr.mk b1 0 none))]] h_34 fun r26 h_35 =>
                          DI .i64 r26 fun x31 =>
                          h_35[h_9.size]? = some (.deferred (some [])) ∧
                          Q (.int .i64 x31) (h_35.setIfInBounds h_9.size (.deferred none))) ∨ (
                          ∃ (k1 x26 : Value), r22 = .tuple #[.bool true, k1, x26] ∧
                          RunH Tryz.prog (Instr.entry (.pointer p1)) h_30 fun r27 h_36 =>
                          ∃ (x32 : Int), ∃ (x33a : Option Addr), ∃ (x33l : Nat), ∃ (x33c : Nat), r27 = .tuple #[.int .i64 x32, .slice x33a x33l x33c] ∧
                          Ld h_36 (Addr.mk b1 0 none) fun v17 => DI .i64 v17 fun x34 =>
                          (bif decide ((x32 : Int) ≤ x34) then
                            RunU Tryz.prog (Instr.mapUpdate 129 (.map (some b4)) (.int .i64 x32) (.slice x33a x33l x33c)) h_36 fun h_37 =>
                            again1 () h_37
                          else
                            again1 () h_36))) () h_28)))) ∨ (
                ∃ (k0 x15 : Value), r15 = .tuple #[.bool true, k0, x15] ∧
                RunH Tryz.prog (Instr.entry (.pointer p0)) h_22 fun r29 h_38 =>
                ∃ (x35 : Int), ∃ (x36 : Value), r29 = .tuple #[.int .i64 x35, x36] ∧
                (bif s0 then
                  Ld h_38 (Addr.mk b1 0 none) fun v18 => DI .i64 v18 fun x37 =>
                  again0 (decide ((x35 : Int) > x37)) h_38
                else
                  again0 false h_38))) ((((es0 : Array MapEntry).size : Int) : Int) == 1) h_20
          else
            NN' l_0 fun a8 =>
            Ld h_19 (a8.add 2) fun v19 => DM v19 fun x38 =>
            RunH Tryz.prog (Instr.range 129 (.map x38)) h_19 fun r30 h_39 =>
            DP r30 fun p2 =>
            LoopH (fun again2 (s2 : Bool) h_40 =>
              RunH Tryz.prog (Instr.next (.pointer p2) false 0) h_40 fun r31 h_41 =>
              (
                r31 = .tuple #[.bool false] ∧
                (bif s2 then
                  h_41[h_9.size]? = some (.deferred (some [])) ∧
                  Q (.int .i64 0) (h_41.setIfInBounds h_9.size (.deferred none))
                else
                  Ld h_41 (Addr.mk b2 0 none) fun v20 => DSl v20 fun x40a x40l x40c =>
                  CallsH Tryz.prog 96 [.slice x40a x40l x40c] h_41 fun r32 h_42 =>
                  ∃ (x41a : Option Addr), ∃ (x41l : Nat), ∃ (x41c : Nat), ∃ (x42 : Int), r32 = .tuple #[.slice x41a x41l x41c, .int .i64 x42] ∧
                  (bif (x42 : Int) != 0 then
                    h_42[h_9.size]? = some (.deferred (some [])) ∧
                    Q (.int .i64 x42) (h_42.setIfInBounds h_9.size (.deferred none))
                  else
                    NN' l_0 fun a9 =>
                    Ld h_42 (a9.add 0) fun v21 => DP v21 fun x43 =>
                    NN' l_0 fun a10 =>
                    Ld h_42 (a10.add 1) fun v22 => DS v22 fun x44 =>
                    Ld h_42 (Addr.mk b1 0 none) fun v23 => DI .i64 v23 fun x45 =>
                    CallsH Tryz.prog 44 [.int .i64 x45] h_42 fun r33 h_43 =>
                    DS r33 fun x46 =>
                    (SameV (some (.pointer l_0)) (.pointer l_0)) ∧
                    (NN' l_0 fun a11 =>
                    SameV (some (.pointer (some a9))) (.pointer (some a11))) ∧
                    (SameV (some (.pointer (some (a9.add 0)))) (.pointer (some (a9.add 0)))) ∧
                    (Ld h_43 (a9.add 0) fun v24 => DP v24 fun x47 =>
                    SameV (some (.pointer x43)) (.pointer x47)) ∧
                    (SameV (some (.pointer l_0)) (.pointer l_0)) ∧
                    (NN' l_0 fun a12 =>
                    SameV (some (.pointer (some a10))) (.pointer (some a12))) ∧
                    (SameV (some (.pointer (some (a10.add 1)))) (.pointer (some (a10.add 1)))) ∧
                    (Ld h_43 (a10.add 1) fun v25 => DS v25 fun x48 =>
                    SameV (some (.string x44)) (.string x48)) ∧
                    (SameV (some (.slice x41a x41l x41c)) (.slice x41a x41l x41c)) ∧
                    (⟨#[102, 46]⟩ : ByteArray).size + (x46 : ByteArray).size ≤ 9223372036854775807 ∧
                    CallsH Tryz.prog 13 [.pointer x43, .string x44, .string (⟨#[102, 46]⟩ ++ x46), .slice x41a x41l x41c] h_43 fun r34 h_44 =>
                    DI .i64 r34 fun e1 =>
                    (bif (e1 : Int) != 0 then
                      h_44[h_9.size]? = some (.deferred (some [])) ∧
                      Q (.int .i64 e1) (h_44.setIfInBounds h_9.size (.deferred none))
                    else
                      Al h_44 (.map #[] 0) fun b5 h_45 =>
                      CallsH Tryz.prog 95 [.pointer l_0] h_45 fun r36 h_46 =>
                      DM r36 fun x49 =>
                      RunH Tryz.prog (Instr.range 129 (.map x49)) h_46 fun r37 h_47 =>
                      DP r37 fun p3 =>
                      LoopH (fun again3 (s3 : Unit) h_48 =>
                        RunH Tryz.prog (Instr.next (.pointer p3) false 0) h_48 fun r38 h_49 =>
                        (
                          r38 = .tuple #[.bool false] ∧
                          NN' l_0 fun a13 =>
                          Ld h_49 (a13.add 3) fun v26 => DM v26 fun x51 =>
                          Ld h_49 (Addr.mk b1 0 none) fun v27 => DI .i64 v27 fun x52 =>
                          RunH Tryz.prog (Instr.mapEntry 131 (.map x51) (.int .i64 x52)) h_49 fun r39 h_50 =>
                          ∃ (x53 : Value), ∃ (x54 : Int), r39 = .tuple #[x53, .int .i64 x54] ∧
                          (SameV (some (.pointer l_0)) (.pointer l_0)) ∧
                          (SameV (some (.map (some b5))) (.map (some b5))) ∧
                          RunU Tryz.prog (Instr.entryStore 131 (.map x51) (.int .i64 x54) (.bool true)) h_50 fun h_51 =>
                          (SameV (some (.pointer l_0)) (.pointer l_0)) ∧
                          (SameV (some (.map (some b5))) (.map (some b5))) ∧
                          NN' l_0 fun a14 =>
                          StC h_51 ((a14.add 4).add 0) (.map (some b5)) fun h_53 =>
                          CallsH Tryz.prog 97 [.pointer l_0, .func (.func 98) #[] #[.pointer (some (Addr.mk b1 0 none))]] h_53 fun r42 h_54 =>
                          DI .i64 r42 fun x55 =>
                          h_54[h_9.size]? = some (.deferred (some [])) ∧
                          Q (.int .i64 x55) (h_54.setIfInBounds h_9.size (.deferred none))) ∨ (
                          ∃ (k3 x50 : Value), r38 = .tuple #[.bool true, k3, x50] ∧
                          RunH Tryz.prog (Instr.entry (.pointer p3)) h_49 fun r43 h_55 =>
                          ∃ (x56 : Int), ∃ (x57a : Option Addr), ∃ (x57l : Nat), ∃ (x57c : Nat), r43 = .tuple #[.int .i64 x56, .slice x57a x57l x57c] ∧
                          Ld h_55 (Addr.mk b1 0 none) fun v28 => DI .i64 v28 fun x58 =>
                          (bif decide ((x56 : Int) ≤ x58) then
                            RunU Tryz.prog (Instr.mapUpdate 129 (.map (some b5)) (.int .i64 x56) (.slice x57a x57l x57c)) h_55 fun h_56 =>
                            again3 () h_56
                          else
                            again3 () h_55))) () h_47)))) ∨ (
                ∃ (k2 x39 : Value), r31 = .tuple #[.bool true, k2, x39] ∧
                RunH Tryz.prog (Instr.entry (.pointer p2)) h_41 fun r45 h_57 =>
                ∃ (x59 : Int), ∃ (x60 : Value), r45 = .tuple #[.int .i64 x59, x60] ∧
                (bif s2 then
                  Ld h_57 (Addr.mk b1 0 none) fun v29 => DI .i64 v29 fun x61 =>
                  again2 (decide ((x59 : Int) > x61)) h_57
                else
                  again2 false h_57))) false h_39))) ∧
      (pend0 = some (.exit 0) →
        Ld h_18 (Addr.mk b1 0 none) fun v30 => DI .i64 v30 fun x62 =>
        (bif decide ((x62 : Int) < 0) then
          h_18[h_9.size]? = some (.deferred (some [])) ∧
          Q (.int .i64 91) (h_18.setIfInBounds h_9.size (.deferred none))
        else
          Ld h_18 (Addr.mk b1 0 none) fun v31 => DI .i64 v31 fun x63 =>
          CallsH Tryz.prog 89 [.pointer l_0] h_18 fun r46 h_58 =>
          DI .i64 r46 fun x64 =>
          (Ld h_58 (Addr.mk b1 0 none) fun v32 => DI .i64 v32 fun x65 =>
          SameV (some (.int .i64 x63)) (.int .i64 x65)) ∧
          (bif (x64 : Int) == x63 then
            NN' l_0 fun a15 =>
            Ld h_58 (a15.add 3) fun v33 => DM v33 fun x66 =>
            ∃ es1, mapEs h_58 x66 es1 ∧
            NN' l_0 fun a16 =>
            Ld h_58 (a16.add 2) fun v34 => DM v34 fun x67 =>
            RunH Tryz.prog (Instr.range 129 (.map x67)) h_58 fun r47 h_59 =>
            DP r47 fun p4 =>
            LoopH (fun again4 (s4 : Bool) h_60 =>
              RunH Tryz.prog (Instr.next (.pointer p4) false 0) h_60 fun r48 h_61 =>
              (
                r48 = .tuple #[.bool false] ∧
                (bif s4 then
                  h_61[h_9.size]? = some (.deferred (some [])) ∧
                  Q (.int .i64 0) (h_61.setIfInBounds h_9.size (.deferred none))
                else
                  Ld h_61 (Addr.mk b2 0 none) fun v35 => DSl v35 fun x69a x69l x69c =>
                  CallsH Tryz.prog 96 [.slice x69a x69l x69c] h_61 fun r49 h_62 =>
                  ∃ (x70a : Option Addr), ∃ (x70l : Nat), ∃ (x70c : Nat), ∃ (x71 : Int), r49 = .tuple #[.slice x70a x70l x70c, .int .i64 x71] ∧
                  (bif (x71 : Int) != 0 then
                    h_62[h_9.size]? = some (.deferred (some [])) ∧
                    Q (.int .i64 x71) (h_62.setIfInBounds h_9.size (.deferred none))
                  else
                    NN' l_0 fun a17 =>
                    Ld h_62 (a17.add 0) fun v36 => DP v36 fun x72 =>
                    NN' l_0 fun a18 =>
                    Ld h_62 (a18.add 1) fun v37 => DS v37 fun x73 =>
                    Ld h_62 (Addr.mk b1 0 none) fun v38 => DI .i64 v38 fun x74 =>
                    CallsH Tryz.prog 44 [.int .i64 x74] h_62 fun r50 h_63 =>
                    DS r50 fun x75 =>
                    (SameV (some (.pointer l_0)) (.pointer l_0)) ∧
                    (NN' l_0 fun a19 =>
                    SameV (some (.pointer (some a17))) (.pointer (some a19))) ∧
                    (SameV (some (.pointer (some (a17.add 0)))) (.pointer (some (a17.add 0)))) ∧
                    (Ld h_63 (a17.add 0) fun v39 => DP v39 fun x76 =>
                    SameV (some (.pointer x72)) (.pointer x76)) ∧
                    (SameV (some (.pointer l_0)) (.pointer l_0)) ∧
                    (NN' l_0 fun a20 =>
                    SameV (some (.pointer (some a18))) (.pointer (some a20))) ∧
                    (SameV (some (.pointer (some (a18.add 1)))) (.pointer (some (a18.add 1)))) ∧
                    (Ld h_63 (a18.add 1) fun v40 => DS v40 fun x77 =>
                    SameV (some (.string x73)) (.string x77)) ∧
                    (SameV (some (.slice x70a x70l x70c)) (.slice x70a x70l x70c)) ∧
                    (⟨#[102, 46]⟩ : ByteArray).size + (x75 : ByteArray).size ≤ 9223372036854775807 ∧
                    CallsH Tryz.prog 13 [.pointer x72, .string x73, .string (⟨#[102, 46]⟩ ++ x75), .slice x70a x70l x70c] h_63 fun r51 h_64 =>
                    DI .i64 r51 fun e2 =>
                    (bif (e2 : Int) != 0 then
                      h_64[h_9.size]? = some (.deferred (some [])) ∧
                      Q (.int .i64 e2) (h_64.setIfInBounds h_9.size (.deferred none))
                    else
                      Al h_64 (.map #[] 0) fun b6 h_65 =>
                      CallsH Tryz.prog 95 [.pointer l_0] h_65 fun r53 h_66 =>
                      DM r53 fun x78 =>
                      RunH Tryz.prog (Instr.range 129 (.map x78)) h_66 fun r54 h_67 =>
                      DP r54 fun p5 =>
                      LoopH (fun again5 (s5 : Unit) h_68 =>
                        RunH Tryz.prog (Instr.next (.pointer p5) false 0) h_68 fun r55 h_69 =>
                        (
                          r55 = .tuple #[.bool false] ∧
                          NN' l_0 fun a21 =>
                          Ld h_69 (a21.add 3) fun v41 => DM v41 fun x80 =>
                          Ld h_69 (Addr.mk b1 0 none) fun v42 => DI .i64 v42 fun x81 =>
                          RunH Tryz.prog (Instr.mapEntry 131 (.map x80) (.int .i64 x81)) h_69 fun r56 h_70 =>
                          ∃ (x82 : Value), ∃ (x83 : Int), r56 = .tuple #[x82, .int .i64 x83] ∧
                          (SameV (some (.pointer l_0)) (.pointer l_0)) ∧
                          (SameV (some (.map (some b6))) (.map (some b6))) ∧
                          RunU Tryz.prog (Instr.entryStore 131 (.map x80) (.int .i64 x83) (.bool true)) h_70 fun h_71 =>
                          (SameV (some (.pointer l_0)) (.pointer l_0)) ∧
                          (SameV (some (.map (some b6))) (.map (some b6))) ∧
                          NN' l_0 fun a22 =>
                          StC h_71 ((a22.add 4).add 0) (.map (some b6)) fun h_73 =>
                          CallsH Tryz.prog 97 [.pointer l_0, .func (.func 98) #[] #[.pointer (some (Addr.mk b1 0 none))]] h_73 fun r59 h_74 =>
                          DI .i64 r59 fun x84 =>
                          h_74[h_9.size]? = some (.deferred (some [])) ∧
                          Q (.int .i64 x84) (h_74.setIfInBounds h_9.size (.deferred none))) ∨ (
                          ∃ (k5 x79 : Value), r55 = .tuple #[.bool true, k5, x79] ∧
                          RunH Tryz.prog (Instr.entry (.pointer p5)) h_69 fun r60 h_75 =>
                          ∃ (x85 : Int), ∃ (x86a : Option Addr), ∃ (x86l : Nat), ∃ (x86c : Nat), r60 = .tuple #[.int .i64 x85, .slice x86a x86l x86c] ∧
                          Ld h_75 (Addr.mk b1 0 none) fun v43 => DI .i64 v43 fun x87 =>
                          (bif decide ((x85 : Int) ≤ x87) then
                            RunU Tryz.prog (Instr.mapUpdate 129 (.map (some b6)) (.int .i64 x85) (.slice x86a x86l x86c)) h_75 fun h_76 =>
                            again5 () h_76
                          else
                            again5 () h_75))) () h_67)))) ∨ (
                ∃ (k4 x68 : Value), r48 = .tuple #[.bool true, k4, x68] ∧
                RunH Tryz.prog (Instr.entry (.pointer p4)) h_61 fun r62 h_77 =>
                ∃ (x88 : Int), ∃ (x89 : Value), r62 = .tuple #[.int .i64 x88, x89] ∧
                (bif s4 then
                  Ld h_77 (Addr.mk b1 0 none) fun v44 => DI .i64 v44 fun x90 =>
                  again4 (decide ((x88 : Int) > x90)) h_77
                else
                  again4 false h_77))) ((((es1 : Array MapEntry).size : Int) : Int) == 1) h_59
          else
            NN' l_0 fun a23 =>
            Ld h_58 (a23.add 2) fun v45 => DM v45 fun x91 =>
            RunH Tryz.prog (Instr.range 129 (.map x91)) h_58 fun r63 h_78 =>
            DP r63 fun p6 =>
            LoopH (fun again6 (s6 : Bool) h_79 =>
              RunH Tryz.prog (Instr.next (.pointer p6) false 0) h_79 fun r64 h_80 =>
              (
                r64 = .tuple #[.bool false] ∧
                (bif s6 then
                  h_80[h_9.size]? = some (.deferred (some [])) ∧
                  Q (.int .i64 0) (h_80.setIfInBounds h_9.size (.deferred none))
                else
                  Ld h_80 (Addr.mk b2 0 none) fun v46 => DSl v46 fun x93a x93l x93c =>
                  CallsH Tryz.prog 96 [.slice x93a x93l x93c] h_80 fun r65 h_81 =>
                  ∃ (x94a : Option Addr), ∃ (x94l : Nat), ∃ (x94c : Nat), ∃ (x95 : Int), r65 = .tuple #[.slice x94a x94l x94c, .int .i64 x95] ∧
                  (bif (x95 : Int) != 0 then
                    h_81[h_9.size]? = some (.deferred (some [])) ∧
                    Q (.int .i64 x95) (h_81.setIfInBounds h_9.size (.deferred none))
                  else
                    NN' l_0 fun a24 =>
                    Ld h_81 (a24.add 0) fun v47 => DP v47 fun x96 =>
                    NN' l_0 fun a25 =>
                    Ld h_81 (a25.add 1) fun v48 => DS v48 fun x97 =>
                    Ld h_81 (Addr.mk b1 0 none) fun v49 => DI .i64 v49 fun x98 =>
                    CallsH Tryz.prog 44 [.int .i64 x98] h_81 fun r66 h_82 =>
                    DS r66 fun x99 =>
                    (SameV (some (.pointer l_0)) (.pointer l_0)) ∧
                    (NN' l_0 fun a26 =>
                    SameV (some (.pointer (some a24))) (.pointer (some a26))) ∧
                    (SameV (some (.pointer (some (a24.add 0)))) (.pointer (some (a24.add 0)))) ∧
                    (Ld h_82 (a24.add 0) fun v50 => DP v50 fun x100 =>
                    SameV (some (.pointer x96)) (.pointer x100)) ∧
                    (SameV (some (.pointer l_0)) (.pointer l_0)) ∧
                    (NN' l_0 fun a27 =>
                    SameV (some (.pointer (some a25))) (.pointer (some a27))) ∧
                    (SameV (some (.pointer (some (a25.add 1)))) (.pointer (some (a25.add 1)))) ∧
                    (Ld h_82 (a25.add 1) fun v51 => DS v51 fun x101 =>
                    SameV (some (.string x97)) (.string x101)) ∧
                    (SameV (some (.slice x94a x94l x94c)) (.slice x94a x94l x94c)) ∧
                    (⟨#[102, 46]⟩ : ByteArray).size + (x99 : ByteArray).size ≤ 9223372036854775807 ∧
                    CallsH Tryz.prog 13 [.pointer x96, .string x97, .string (⟨#[102, 46]⟩ ++ x99), .slice x94a x94l x94c] h_82 fun r67 h_83 =>
                    DI .i64 r67 fun e3 =>
                    (bif (e3 : Int) != 0 then
                      h_83[h_9.size]? = some (.deferred (some [])) ∧
                      Q (.int .i64 e3) (h_83.setIfInBounds h_9.size (.deferred none))
                    else
                      Al h_83 (.map #[] 0) fun b7 h_84 =>
                      CallsH Tryz.prog 95 [.pointer l_0] h_84 fun r69 h_85 =>
                      DM r69 fun x102 =>
                      RunH Tryz.prog (Instr.range 129 (.map x102)) h_85 fun r70 h_86 =>
                      DP r70 fun p7 =>
                      LoopH (fun again7 (s7 : Unit) h_87 =>
                        RunH Tryz.prog (Instr.next (.pointer p7) false 0) h_87 fun r71 h_88 =>
                        (
                          r71 = .tuple #[.bool false] ∧
                          NN' l_0 fun a28 =>
                          Ld h_88 (a28.add 3) fun v52 => DM v52 fun x104 =>
                          Ld h_88 (Addr.mk b1 0 none) fun v53 => DI .i64 v53 fun x105 =>
                          RunH Tryz.prog (Instr.mapEntry 131 (.map x104) (.int .i64 x105)) h_88 fun r72 h_89 =>
                          ∃ (x106 : Value), ∃ (x107 : Int), r72 = .tuple #[x106, .int .i64 x107] ∧
                          (SameV (some (.pointer l_0)) (.pointer l_0)) ∧
                          (SameV (some (.map (some b7))) (.map (some b7))) ∧
                          RunU Tryz.prog (Instr.entryStore 131 (.map x104) (.int .i64 x107) (.bool true)) h_89 fun h_90 =>
                          (SameV (some (.pointer l_0)) (.pointer l_0)) ∧
                          (SameV (some (.map (some b7))) (.map (some b7))) ∧
                          NN' l_0 fun a29 =>
                          StC h_90 ((a29.add 4).add 0) (.map (some b7)) fun h_92 =>
                          CallsH Tryz.prog 97 [.pointer l_0, .func (.func 98) #[] #[.pointer (some (Addr.mk b1 0 none))]] h_92 fun r75 h_93 =>
                          DI .i64 r75 fun x108 =>
                          h_93[h_9.size]? = some (.deferred (some [])) ∧
                          Q (.int .i64 x108) (h_93.setIfInBounds h_9.size (.deferred none))) ∨ (
                          ∃ (k7 x103 : Value), r71 = .tuple #[.bool true, k7, x103] ∧
                          RunH Tryz.prog (Instr.entry (.pointer p7)) h_88 fun r76 h_94 =>
                          ∃ (x109 : Int), ∃ (x110a : Option Addr), ∃ (x110l : Nat), ∃ (x110c : Nat), r76 = .tuple #[.int .i64 x109, .slice x110a x110l x110c] ∧
                          Ld h_94 (Addr.mk b1 0 none) fun v54 => DI .i64 v54 fun x111 =>
                          (bif decide ((x109 : Int) ≤ x111) then
                            RunU Tryz.prog (Instr.mapUpdate 129 (.map (some b7)) (.int .i64 x109) (.slice x110a x110l x110c)) h_94 fun h_95 =>
                            again7 () h_95
                          else
                            again7 () h_94))) () h_86)))) ∨ (
                ∃ (k6 x92 : Value), r64 = .tuple #[.bool true, k6, x92] ∧
                RunH Tryz.prog (Instr.entry (.pointer p6)) h_80 fun r78 h_96 =>
                ∃ (x112 : Int), ∃ (x113 : Value), r78 = .tuple #[.int .i64 x112, x113] ∧
                (bif s6 then
                  Ld h_96 (Addr.mk b1 0 none) fun v55 => DI .i64 v55 fun x114 =>
                  again6 (decide ((x112 : Int) > x114)) h_96
                else
                  again6 false h_96))) false h_78)))))
theorem F31_eq : (fun (l_0 : Option Addr) (upto0 : Int) (h : Heap) (Q : Value → Heap → Prop) => fnPT Tryz.prog Tryz.f31 (fun i => bif Nat.beq i 2 then annOne 10 (codB) else bif Nat.beq i 4 then annNil else annNil) (fun i => bif Nat.beq i 0 then [2, 40] else bif Nat.beq i 1033 then [0, 3] else bif Nat.beq i 1030 then [2, 40] else bif Nat.beq i 1017 then [2, 0] else []) (fun i => bif Nat.beq i 11 then some ⟨[0, 0, 2, 0, 8, 30, 62, 127, 255], 452⟩ else bif Nat.beq i 14 then some ⟨[0, 1, 0, 7, 15, 31, 63, 127, 255, 511, 1023, 2047, 4095], 2⟩ else bif Nat.beq i 24 then some ⟨[0, 1, 3, 7, 0, 16, 48, 112, 0, 256, 768, 0, 4095, 8191], 4608⟩ else bif Nat.beq i 33 then some ⟨[0, 1, 3, 7, 0, 0, 0, 31, 159, 415, 1023, 2047, 4095], 4736⟩ else none) [.pointer l_0, .int .i64 upto0] h Q) = F31 := by kernel_rfl
theorem F31_ok {l_0 : Option Addr} {upto0 : Int} {h : Heap} {Q : Value → Heap → Prop} (H : F31 l_0 upto0 h Q) : CallsH Tryz.prog 31 [.pointer l_0, .int .i64 upto0] h Q :=
  callsH_of (ann := fun i => bif Nat.beq i 2 then annOne 10 (codB) else bif Nat.beq i 4 then annNil else annNil) (tys := fun i => bif Nat.beq i 0 then [2, 40] else bif Nat.beq i 1033 then [0, 3] else bif Nat.beq i 1030 then [2, 40] else bif Nat.beq i 1017 then [2, 0] else []) (pl := fun i => bif Nat.beq i 11 then some ⟨[0, 0, 2, 0, 8, 30, 62, 127, 255], 452⟩ else bif Nat.beq i 14 then some ⟨[0, 1, 0, 7, 15, 31, 63, 127, 255, 511, 1023, 2047, 4095], 2⟩ else bif Nat.beq i 24 then some ⟨[0, 1, 3, 7, 0, 16, 48, 112, 0, 256, 768, 0, 4095, 8191], 4608⟩ else bif Nat.beq i 33 then some ⟨[0, 1, 3, 7, 0, 0, 0, 31, 159, 415, 1023, 2047, 4095], 4736⟩ else none) Tryz.func31 (by kernel_rfl) (by have e := F31_eq; exact (congrFun (congrFun (congrFun (congrFun (e) l_0) upto0) h) Q).symm ▸ H)

/-- (*headgate/metalog.Log).Get -/
def F33 (l_0 : Option Addr) (id0 : Int) (h : Heap) (Q : Value → Heap → Prop) : Prop :=
  (bif (l_0).isNone then
    Q (.tuple #[.slice none 0 0, .int .i64 1]) h
  else
    CallsH Tryz.prog 92 [.pointer l_0, .int .i64 id0] h fun r0 h_0 =>
    ∃ (x0a : Option Addr), ∃ (x0l : Nat), ∃ (x0c : Nat), ∃ (x1 : Bool), r0 = .tuple #[.slice x0a x0l x0c, .bool x1] ∧
    (bif !x1 then
      Q (.tuple #[.slice none 0 0, .int .i64 91]) h_0
    else
      CallsH Tryz.prog 94 [.slice x0a x0l x0c] h_0 fun r1 h_1 =>
      DSl r1 fun x2a x2l x2c =>
      Q (.tuple #[.slice x2a x2l x2c, .int .i64 0]) h_1))
theorem F33_eq : (fun (l_0 : Option Addr) (id0 : Int) (h : Heap) (Q : Value → Heap → Prop) => fnPT Tryz.prog Tryz.f33 (fun _ => annNil) (fun _ => []) (fun _ => none) [.pointer l_0, .int .i64 id0] h Q) = F33 := by kernel_rfl
theorem F33_ok {l_0 : Option Addr} {id0 : Int} {h : Heap} {Q : Value → Heap → Prop} (H : F33 l_0 id0 h Q) : CallsH Tryz.prog 33 [.pointer l_0, .int .i64 id0] h Q :=
  callsH_of (ann := fun _ => annNil) (tys := fun _ => []) (pl := fun _ => none) Tryz.func33 (by kernel_rfl) (by have e := F33_eq; exact (congrFun (congrFun (congrFun (congrFun (e) l_0) id0) h) Q).symm ▸ H)

/-- (*headgate/metalog.Log).All -/
def F34 (l_0 : Option Addr) (h : Heap) (Q : Value → Heap → Prop) : Prop :=
  Al h (.map #[] 0) fun b0 h_0 =>
  Al h_0 (.cells #[.map none] 129) fun b1 h_1 =>
  StC h_1 ((Addr.mk b1 0 none).add 0) (.map (some b0)) fun h_3 =>
  (bif !((l_0).isNone) then
    CallsH Tryz.prog 95 [.pointer l_0] h_3 fun r3 h_4 =>
    DM r3 fun x0 =>
    StC h_4 ((Addr.mk b1 0 none).add 0) (.map x0) fun h_6 =>
    Q (.func (.func 99) #[] #[.pointer (some (Addr.mk b1 0 none))]) h_6
  else
    Q (.func (.func 99) #[] #[.pointer (some (Addr.mk b1 0 none))]) h_3)
theorem F34_eq : (fun (l_0 : Option Addr) (h : Heap) (Q : Value → Heap → Prop) => fnPT Tryz.prog Tryz.f34 (fun _ => annNil) (fun _ => []) (fun _ => none) [.pointer l_0] h Q) = F34 := by kernel_rfl
theorem F34_ok {l_0 : Option Addr} {h : Heap} {Q : Value → Heap → Prop} (H : F34 l_0 h Q) : CallsH Tryz.prog 34 [.pointer l_0] h Q :=
  callsH_of (ann := fun _ => annNil) (tys := fun _ => []) (pl := fun _ => none) Tryz.func34 (by kernel_rfl) (by have e := F34_eq; exact (congrFun (congrFun (congrFun (e) l_0) h) Q).symm ▸ H)

/-- headgate/metalog.kind -/
def F88 (name0 : ByteArray) (h : Heap) (Q : Value → Heap → Prop) : Prop :=
  (bif (((name0 : ByteArray).size : Int) : Int) != 18 then
    Q (.tuple #[.int .u8 0, .int .i64 0, .bool false]) h
  else
    0 ≤ (1 : Int) ∧ (1 : Int) < ((name0 : ByteArray).size : Int) ∧
    (bif ((bt name0 1) : Int) != 46 then
      Q (.tuple #[.int .u8 0, .int .i64 0, .bool false]) h
    else
      0 ≤ (0 : Int) ∧ (0 : Int) < ((name0 : ByteArray).size : Int) ∧
      (bif ((bt name0 0) : Int) != 98 then
        0 ≤ (0 : Int) ∧ (0 : Int) < ((name0 : ByteArray).size : Int) ∧
        (bif ((bt name0 0) : Int) != 102 then
          Q (.tuple #[.int .u8 0, .int .i64 0, .bool false]) h
        else
          SlS name0 2 ((name0 : ByteArray).size : Int) fun s0 =>
          CallsH Tryz.prog 142 [.string s0] h fun r0 h_0 =>
          ∃ (x0 : Int), ∃ (x1 : Bool), r0 = .tuple #[.int .i64 x0, .bool x1] ∧
          0 ≤ (0 : Int) ∧ (0 : Int) < ((name0 : ByteArray).size : Int) ∧
          Q (.tuple #[.int .u8 (bt name0 0), .int .i64 x0, .bool x1]) h_0)
      else
        SlS name0 2 ((name0 : ByteArray).size : Int) fun s1 =>
        CallsH Tryz.prog 142 [.string s1] h fun r1 h_1 =>
        ∃ (x2 : Int), ∃ (x3 : Bool), r1 = .tuple #[.int .i64 x2, .bool x3] ∧
        0 ≤ (0 : Int) ∧ (0 : Int) < ((name0 : ByteArray).size : Int) ∧
        Q (.tuple #[.int .u8 (bt name0 0), .int .i64 x2, .bool x3]) h_1)))
theorem F88_eq : (fun (name0 : ByteArray) (h : Heap) (Q : Value → Heap → Prop) => fnPT Tryz.prog Tryz.f88 (fun _ => annNil) (fun _ => []) (fun _ => none) [.string name0] h Q) = F88 := by kernel_rfl
theorem F88_ok {name0 : ByteArray} {h : Heap} {Q : Value → Heap → Prop} (H : F88 name0 h Q) : CallsH Tryz.prog 88 [.string name0] h Q :=
  callsH_of (ann := fun _ => annNil) (tys := fun _ => []) (pl := fun _ => none) Tryz.func88 (by kernel_rfl) (by have e := F88_eq; exact (congrFun (congrFun (congrFun (e) name0) h) Q).symm ▸ H)

/-- (*headgate/metalog.Log).top -/
def F89 (l_0 : Option Addr) (h : Heap) (Q : Value → Heap → Prop) : Prop :=
  NN' l_0 fun a0 =>
  Ld h (a0.add 3) fun v0 => DM v0 fun x0 =>
  RunH Tryz.prog (Instr.range 131 (.map x0)) h fun r0 h_0 =>
  DP r0 fun p0 =>
  LoopH (fun again0 (s0 : Int) h_1 =>
    RunH Tryz.prog (Instr.next (.pointer p0) false 0) h_1 fun r1 h_2 =>
    (
      r1 = .tuple #[.bool false] ∧
      Q (.int .i64 s0) h_2) ∨ (
      ∃ (k0 x1 : Value), r1 = .tuple #[.bool true, k0, x1] ∧
      RunH Tryz.prog (Instr.entry (.pointer p0)) h_2 fun r2 h_3 =>
      ∃ (x2 : Int), ∃ (x3 : Value), r2 = .tuple #[.int .i64 x2, x3] ∧
      again0 (if (x2 : Int) > s0 then x2 else s0) h_3)) (-1) h_0
theorem F89_eq : (fun (l_0 : Option Addr) (h : Heap) (Q : Value → Heap → Prop) => fnPT Tryz.prog Tryz.f89 (fun i => bif Nat.beq i 0 then annOne 3 (codI .i64) else annNil) (fun i => bif Nat.beq i 1004 then [2, 0] else []) (fun _ => none) [.pointer l_0] h Q) = F89 := by kernel_rfl
theorem F89_ok {l_0 : Option Addr} {h : Heap} {Q : Value → Heap → Prop} (H : F89 l_0 h Q) : CallsH Tryz.prog 89 [.pointer l_0] h Q :=
  callsH_of (ann := fun i => bif Nat.beq i 0 then annOne 3 (codI .i64) else annNil) (tys := fun i => bif Nat.beq i 1004 then [2, 0] else []) (pl := fun _ => none) Tryz.func89 (by kernel_rfl) (by have e := F89_eq; exact (congrFun (congrFun (congrFun (e) l_0) h) Q).symm ▸ H)

/-- headgate/metalog.unfold -/
def F90 (b0a : Option Addr) (b0l : Nat) (b0c : Nat) (last0 : Int) (h : Heap) (Q : Value → Heap → Prop) : Prop :=
  CallsH Tryz.prog 143 [.slice b0a b0l b0c] h fun r0 h_0 =>
  ∃ (x0a : Option Addr), ∃ (x0l : Nat), ∃ (x0c : Nat), ∃ (x1 : Int), r0 = .tuple #[.slice x0a x0l x0c, .int .i64 x1] ∧
  (bif (x1 : Int) != 0 then
    Q (.tuple #[.map none, .bool false]) h_0
  else
    (bif ((x0l : Int) : Int) == 0 then
      Q (.tuple #[.map none, .bool false]) h_0
    else
      Al h_0 (.map #[] 0) fun b1 h_1 =>
      LoopH (fun again0 (s0 : Int × Int) h_2 =>
        (bif decide ((s0.2 : Int) < (x0l : Int)) then
          IdxA x0a x0l s0.2 2 fun a0 =>
          Ld h_2 (a0.add 0) fun c0 =>
          Ld h_2 (a0.add 1) fun c1 =>
          ∃ (x2 : ByteArray), ∃ (x3 : ByteArray), (Value.agg #[c0, c1]) = .agg #[.string x2, .string x3] ∧
          Al h_2 (.cells #[.string .empty, .string .empty] 146) fun b2 h_3 =>
          StC h_3 ((Addr.mk b2 0 none).add 0) (.string x2) fun h_5 =>
          StC h_5 ((Addr.mk b2 0 none).add 1) (.string x3) fun h_6 =>
          Ld h_6 ((Addr.mk b2 0 none).add 0) fun v0 => DS v0 fun x4 =>
          CallsH Tryz.prog 142 [.string x4] h_6 fun r4 h_7 =>
          ∃ (x5 : Int), ∃ (x6 : Bool), r4 = .tuple #[.int .i64 x5, .bool x6] ∧
          (bif !x6 then
            Q (.tuple #[.map none, .bool false]) h_7
          else
            (bif decide ((x5 : Int) ≤ s0.1) then
              Q (.tuple #[.map none, .bool false]) h_7
            else
              Ld h_7 ((Addr.mk b2 0 none).add 1) fun v1 => DS v1 fun x7 =>
              RunH Tryz.prog (Go.convert 9 40 (.string x7)) h_7 fun r5 h_8 =>
              DSl r5 fun x8a x8l x8c =>
              RunU Tryz.prog (Instr.mapUpdate 129 (.map (some b1)) (.int .i64 x5) (.slice x8a x8l x8c)) h_8 fun h_9 =>
              again0 (x5, IntKind.wrap .i64 (s0.2 + 1)) h_9))
        else
          Q (.tuple #[.map (some b1), .bool ((s0.1 : Int) == last0)]) h_2)) ((-1), 0) h_1))
theorem F90_eq : (fun (b0a : Option Addr) (b0l : Nat) (b0c : Nat) (last0 : Int) (h : Heap) (Q : Value → Heap → Prop) => fnPT Tryz.prog Tryz.f90 (fun i => bif Nat.beq i 0 then annCons 9 (codI .i64) (annOne 29 (codI .i64)) else annNil) (fun _ => []) (fun _ => none) [.slice b0a b0l b0c, .int .i64 last0] h Q) = F90 := by kernel_rfl
theorem F90_ok {b0a : Option Addr} {b0l : Nat} {b0c : Nat} {last0 : Int} {h : Heap} {Q : Value → Heap → Prop} (H : F90 b0a b0l b0c last0 h Q) : CallsH Tryz.prog 90 [.slice b0a b0l b0c, .int .i64 last0] h Q :=
  callsH_of (ann := fun i => bif Nat.beq i 0 then annCons 9 (codI .i64) (annOne 29 (codI .i64)) else annNil) (tys := fun _ => []) (pl := fun _ => none) Tryz.func90 (by kernel_rfl) (by have e := F90_eq; exact (congrFun (congrFun (congrFun (congrFun (congrFun (congrFun (e) b0a) b0l) b0c) last0) h) Q).symm ▸ H)

/-- (headgate/metalog.table[[]byte]).rising -/
def F91 (t0 : Option Nat) (h : Heap) (Q : Value → Heap → Prop) : Prop :=
  Al h (.cells #[.map t0] 129) fun b0 h_0 =>
  Ld h_0 (Addr.mk b0 0 none) fun v0 => DM v0 fun x0 =>
  CallsH Tryz.prog 145 [.map x0] h_0 fun r1 h_1 =>
  ∃ (x1 : Value), r1 = x1 ∧
  CallsH Tryz.prog 144 [x1] h_1 fun r2 h_2 =>
  DSl r2 fun x2a x2l x2c =>
  Al h_2 (.cells #[.slice none 0 0] 166) fun b1 h_3 =>
  StC h_3 ((Addr.mk b1 0 none).add 0) (.slice x2a x2l x2c) fun h_5 =>
  Q (.func (.func 146) #[] #[.pointer (some (Addr.mk b1 0 none)), .pointer (some (Addr.mk b0 0 none))]) h_5
theorem F91_eq : (fun (t0 : Option Nat) (h : Heap) (Q : Value → Heap → Prop) => fnPT Tryz.prog Tryz.f91 (fun _ => annNil) (fun _ => []) (fun _ => none) [.map t0] h Q) = F91 := by kernel_rfl
theorem F91_ok {t0 : Option Nat} {h : Heap} {Q : Value → Heap → Prop} (H : F91 t0 h Q) : CallsH Tryz.prog 91 [.map t0] h Q :=
  callsH_of (ann := fun _ => annNil) (tys := fun _ => []) (pl := fun _ => none) Tryz.func91 (by kernel_rfl) (by have e := F91_eq; exact (congrFun (congrFun (congrFun (e) t0) h) Q).symm ▸ H)

/-- (*headgate/metalog.Log).get -/
def F92 (l_0 : Option Addr) (id0 : Int) (h : Heap) (Q : Value → Heap → Prop) : Prop :=
  NN' l_0 fun a0 =>
  Ld h (a0.add 4) fun v0 => DM v0 fun x0 =>
  ∃ es0, mapEs h x0 es0 ∧ ∃ f0, Instr.findNow (.int .i64) (.int .i64 id0) (es0 : Array MapEntry).toList 0 = some f0 ∧
  DSl ((Option.map (fun x => x.2) f0).getD (.slice none 0 0)) fun x1a x1l x1c =>
  (bif Option.isSome f0 then
    Q (.tuple #[.slice x1a x1l x1c, .bool true]) h
  else
    NN' l_0 fun a1 =>
    Ld h (a1.add 2) fun v1 => DM v1 fun x2 =>
    ∃ es1, mapEs h x2 es1 ∧ ∃ f1, Instr.findNow (.int .i64) (.int .i64 id0) (es1 : Array MapEntry).toList 0 = some f1 ∧
    DSl ((Option.map (fun x => x.2) f1).getD (.slice none 0 0)) fun x3a x3l x3c =>
    Q (.tuple #[.slice x3a x3l x3c, .bool (Option.isSome f1)]) h)
theorem F92_eq : (fun (l_0 : Option Addr) (id0 : Int) (h : Heap) (Q : Value → Heap → Prop) => fnPT Tryz.prog Tryz.f92 (fun _ => annNil) (fun _ => []) (fun _ => none) [.pointer l_0, .int .i64 id0] h Q) = F92 := by kernel_rfl
theorem F92_ok {l_0 : Option Addr} {id0 : Int} {h : Heap} {Q : Value → Heap → Prop} (H : F92 l_0 id0 h Q) : CallsH Tryz.prog 92 [.pointer l_0, .int .i64 id0] h Q :=
  callsH_of (ann := fun _ => annNil) (tys := fun _ => []) (pl := fun _ => none) Tryz.func92 (by kernel_rfl) (by have e := F92_eq; exact (congrFun (congrFun (congrFun (congrFun (e) l_0) id0) h) Q).symm ▸ H)

/-- bytes.Equal -/
def F93 (a0a : Option Addr) (a0l : Nat) (a0c : Nat) (b0a : Option Addr) (b0l : Nat) (b0c : Nat) (h : Heap) (Q : Value → Heap → Prop) : Prop :=
  ∃ bs0 : ByteArray, BytesIn h a0a a0l bs0 ∧
  ∃ bs1 : ByteArray, BytesIn h b0a b0l bs1 ∧
  Q (.bool (strEq bs0 bs1)) h
theorem F93_eq : (fun (a0a : Option Addr) (a0l : Nat) (a0c : Nat) (b0a : Option Addr) (b0l : Nat) (b0c : Nat) (h : Heap) (Q : Value → Heap → Prop) => fnPT Tryz.prog Tryz.f93 (fun _ => annNil) (fun _ => []) (fun _ => none) [.slice a0a a0l a0c, .slice b0a b0l b0c] h Q) = F93 := by kernel_rfl
theorem F93_ok {a0a : Option Addr} {a0l : Nat} {a0c : Nat} {b0a : Option Addr} {b0l : Nat} {b0c : Nat} {h : Heap} {Q : Value → Heap → Prop} (H : F93 a0a a0l a0c b0a b0l b0c h Q) : CallsH Tryz.prog 93 [.slice a0a a0l a0c, .slice b0a b0l b0c] h Q :=
  callsH_of (ann := fun _ => annNil) (tys := fun _ => []) (pl := fun _ => none) Tryz.func93 (by kernel_rfl) (by have e := F93_eq; exact (congrFun (congrFun (congrFun (congrFun (congrFun (congrFun (congrFun (congrFun (e) a0a) a0l) a0c) b0a) b0l) b0c) h) Q).symm ▸ H)

/-- bytes.Clone -/
def F94 (b0a : Option Addr) (b0l : Nat) (b0c : Nat) (h : Heap) (Q : Value → Heap → Prop) : Prop :=
  (bif (b0a).isNone then
    Q (.slice none 0 0) h
  else
    Al h (.cells #[] 5) fun b1 h_0 =>
    RunH Tryz.prog (Builtin.append_ #[40, 40] 40 #[.slice (some (Addr.mk b1 0 none)) 0 0, .slice b0a b0l b0c]) h_0 fun r1 h_1 =>
    DSl r1 fun x0a x0l x0c =>
    Q (.slice x0a x0l x0c) h_1)
theorem F94_eq : (fun (b0a : Option Addr) (b0l : Nat) (b0c : Nat) (h : Heap) (Q : Value → Heap → Prop) => fnPT Tryz.prog Tryz.f94 (fun _ => annNil) (fun _ => []) (fun _ => none) [.slice b0a b0l b0c] h Q) = F94 := by kernel_rfl
theorem F94_ok {b0a : Option Addr} {b0l : Nat} {b0c : Nat} {h : Heap} {Q : Value → Heap → Prop} (H : F94 b0a b0l b0c h Q) : CallsH Tryz.prog 94 [.slice b0a b0l b0c] h Q :=
  callsH_of (ann := fun _ => annNil) (tys := fun _ => []) (pl := fun _ => none) Tryz.func94 (by kernel_rfl) (by have e := F94_eq; exact (congrFun (congrFun (congrFun (congrFun (congrFun (e) b0a) b0l) b0c) h) Q).symm ▸ H)

/-- (*headgate/metalog.Log).entries -/
def F95 (l_0 : Option Addr) (h : Heap) (Q : Value → Heap → Prop) : Prop :=
  NN' l_0 fun a0 =>
  Ld h (a0.add 2) fun v0 => DM v0 fun x0 =>
  CallsH Tryz.prog 147 [.map x0] h fun r0 h_0 =>
  DM r0 fun t0 =>
  NN' l_0 fun a1 =>
  Ld h_0 (a1.add 4) fun v1 => DM v1 fun x1 =>
  CallsH Tryz.prog 148 [.map t0, .map x1] h_0 fun r1 h_1 =>
  r1 = .tuple #[] ∧
  Q (.map t0) h_1
theorem F95_eq : (fun (l_0 : Option Addr) (h : Heap) (Q : Value → Heap → Prop) => fnPT Tryz.prog Tryz.f95 (fun _ => annNil) (fun _ => []) (fun _ => none) [.pointer l_0] h Q) = F95 := by kernel_rfl
theorem F95_ok {l_0 : Option Addr} {h : Heap} {Q : Value → Heap → Prop} (H : F95 l_0 h Q) : CallsH Tryz.prog 95 [.pointer l_0] h Q :=
  callsH_of (ann := fun _ => annNil) (tys := fun _ => []) (pl := fun _ => none) Tryz.func95 (by kernel_rfl) (by have e := F95_eq; exact (congrFun (congrFun (congrFun (e) l_0) h) Q).symm ▸ H)

/-- headgate/code.Pairs -/
def F96 (l_0a : Option Addr) (l_0l : Nat) (l_0c : Nat) (h : Heap) (Q : Value → Heap → Prop) : Prop :=
  CallsH Tryz.prog 150 [.slice l_0a l_0l l_0c, .func (.func 151) #[] #[]] h fun r0 h_0 =>
  DSl r0 fun x0a x0l x0c =>
  CallsH Tryz.prog 149 [.slice x0a x0l x0c] h_0 fun r1 h_1 =>
  ∃ (x1a : Option Addr), ∃ (x1l : Nat), ∃ (x1c : Nat), ∃ (x2 : Int), r1 = .tuple #[.slice x1a x1l x1c, .int .i64 x2] ∧
  Q (.tuple #[.slice x1a x1l x1c, .int .i64 x2]) h_1
theorem F96_eq : (fun (l_0a : Option Addr) (l_0l : Nat) (l_0c : Nat) (h : Heap) (Q : Value → Heap → Prop) => fnPT Tryz.prog Tryz.f96 (fun _ => annNil) (fun _ => []) (fun _ => none) [.slice l_0a l_0l l_0c] h Q) = F96 := by kernel_rfl
theorem F96_ok {l_0a : Option Addr} {l_0l : Nat} {l_0c : Nat} {h : Heap} {Q : Value → Heap → Prop} (H : F96 l_0a l_0l l_0c h Q) : CallsH Tryz.prog 96 [.slice l_0a l_0l l_0c] h Q :=
  callsH_of (ann := fun _ => annNil) (tys := fun _ => []) (pl := fun _ => none) Tryz.func96 (by kernel_rfl) (by have e := F96_eq; exact (congrFun (congrFun (congrFun (congrFun (congrFun (e) l_0a) l_0l) l_0c) h) Q).symm ▸ H)

/-- (*headgate/metalog.Log).remove -/
def F97 (l_0 : Option Addr) (gone0f : Fn) (gone0p : Array Value) (gone0c : Array Value) (h : Heap) (Q : Value → Heap → Prop) : Prop :=
  Al h (.cells #[.pointer l_0] 60) fun b0 h_0 =>
  Al h_0 (.cells #[.func gone0f gone0p gone0c] 149) fun b1 h_1 =>
  Al h_1 (.cells #[.int .i64 0] 26) fun b2 h_2 =>
  Al h_2 (.cells #[.bool false] 4) fun b3 h_3 =>
  StC h_3 ((Addr.mk b3 0 none).add 0) (.bool false) fun h_5 =>
  Ld h_5 (Addr.mk b0 0 none) fun v0 => DP v0 fun x0 =>
  NN' x0 fun a0 =>
  Ld h_5 (a0.add 2) fun v1 => DM v1 fun x1 =>
  CallsH Tryz.prog 91 [.map x1] h_5 fun r5 h_6 =>
  ∃ (x2 : Value), r5 = x2 ∧
  RangeFn Tryz.prog x2 2 none h_6 (fun l_1 rec_0 args0 h_7 Q_0 =>
    ∃ (y0 : Int), ∃ (y1a : Option Addr), ∃ (y1l : Nat), ∃ (y1c : Nat), args0 = [.int .i64 y0, .slice y1a y1l y1c] ∧
    h_7[l_1]? = some (rec_0 .ready none) ∧
    Ld (h_7.setIfInBounds l_1 (rec_0 .busy none)) (Addr.mk b1 0 none) fun v2 => ∃ (x3 : Value), v2 = x3 ∧
    CallV Tryz.prog x3 [.int .u8 98, .int .i64 y0] (h_7.setIfInBounds l_1 (rec_0 .busy none)) fun r6 h_8 =>
    DB r6 fun x4 =>
    (bif x4 then
      Ld h_8 (Addr.mk b0 0 none) fun v3 => DP v3 fun x5 =>
      NN' x5 fun a1 =>
      Ld h_8 (a1.add 0) fun v4 => DP v4 fun x6 =>
      Ld h_8 (Addr.mk b0 0 none) fun v5 => DP v5 fun x7 =>
      NN' x7 fun a2 =>
      Ld h_8 (a2.add 1) fun v6 => DS v6 fun x8 =>
      CallsH Tryz.prog 44 [.int .i64 y0] h_8 fun r7 h_9 =>
      DS r7 fun x9 =>
      (Ld h_9 (Addr.mk b0 0 none) fun v7 => DP v7 fun x10 =>
      SameV (some (.pointer x5)) (.pointer x10)) ∧
      (NN' x5 fun a3 =>
      SameV (some (.pointer (some a1))) (.pointer (some a3))) ∧
      (SameV (some (.pointer (some (a1.add 0)))) (.pointer (some (a1.add 0)))) ∧
      (Ld h_9 (a1.add 0) fun v8 => DP v8 fun x11 =>
      SameV (some (.pointer x6)) (.pointer x11)) ∧
      (Ld h_9 (Addr.mk b0 0 none) fun v9 => DP v9 fun x12 =>
      SameV (some (.pointer x7)) (.pointer x12)) ∧
      (NN' x7 fun a4 =>
      SameV (some (.pointer (some a2))) (.pointer (some a4))) ∧
      (SameV (some (.pointer (some (a2.add 1)))) (.pointer (some (a2.add 1)))) ∧
      (Ld h_9 (a2.add 1) fun v10 => DS v10 fun x13 =>
      SameV (some (.string x8)) (.string x13)) ∧
      (⟨#[98, 46]⟩ : ByteArray).size + (x9 : ByteArray).size ≤ 9223372036854775807 ∧
      CallsH Tryz.prog 60 [.pointer x6, .string x8, .string (⟨#[98, 46]⟩ ++ x9)] h_9 fun r8 h_10 =>
      DI .i64 r8 fun e0 =>
      (bif (e0 : Int) != 0 then
        StC h_10 ((Addr.mk b2 0 none).add 0) (.int .i64 e0) fun h_12 =>
        h_12[l_1]? = some (rec_0 .busy none) ∧ Q_0 (.bool false) (h_12.setIfInBounds l_1 (rec_0 .done (some .ret)))
      else
        Ld h_10 (Addr.mk b0 0 none) fun v11 => DP v11 fun x14 =>
        NN' x14 fun a5 =>
        Ld h_10 (a5.add 2) fun v12 => DM v12 fun x15 =>
        RunH Tryz.prog (Builtin.delete_ #[129, 2] 0 #[.map x15, .int .i64 y0]) h_10 fun r10 h_13 =>
        StC h_13 ((Addr.mk b3 0 none).add 0) (.bool true) fun h_15 =>
        h_15[l_1]? = some (rec_0 .busy none) ∧ Q_0 (.bool true) (h_15.setIfInBounds l_1 (rec_0 .ready none)))
    else
      h_8[l_1]? = some (rec_0 .busy none) ∧ Q_0 (.bool true) (h_8.setIfInBounds l_1 (rec_0 .ready none)))) (fun pend0 h_16 =>
    (pend0 = none ∨ pend0 = some (.ret)) ∧
    (pend0 = none →
      Ld h_16 (Addr.mk b0 0 none) fun v13 => DP v13 fun x16 =>
      NN' x16 fun a6 =>
      Ld h_16 (a6.add 3) fun v14 => DM v14 fun x17 =>
      CallsH Tryz.prog 153 [.map x17] h_16 fun r12 h_17 =>
      ∃ (x18 : Value), r12 = x18 ∧
      RangeFn Tryz.prog x18 2 none h_17 (fun l_2 rec_1 args1 h_18 Q_1 =>
        ∃ (y2 : Int), ∃ (y3 : Bool), args1 = [.int .i64 y2, .bool y3] ∧
        h_18[l_2]? = some (rec_1 .ready none) ∧
        Ld (h_18.setIfInBounds l_2 (rec_1 .busy none)) (Addr.mk b1 0 none) fun v15 => ∃ (x19 : Value), v15 = x19 ∧
        CallV Tryz.prog x19 [.int .u8 102, .int .i64 y2] (h_18.setIfInBounds l_2 (rec_1 .busy none)) fun r13 h_19 =>
        DB r13 fun x20 =>
        (bif x20 then
          Ld h_19 (Addr.mk b0 0 none) fun v16 => DP v16 fun x21 =>
          NN' x21 fun a7 =>
          Ld h_19 (a7.add 0) fun v17 => DP v17 fun x22 =>
          Ld h_19 (Addr.mk b0 0 none) fun v18 => DP v18 fun x23 =>
          NN' x23 fun a8 =>
          Ld h_19 (a8.add 1) fun v19 => DS v19 fun x24 =>
          CallsH Tryz.prog 44 [.int .i64 y2] h_19 fun r14 h_20 =>
          DS r14 fun x25 =>
          (Ld h_20 (Addr.mk b0 0 none) fun v20 => DP v20 fun x26 =>
          SameV (some (.pointer x21)) (.pointer x26)) ∧
          (NN' x21 fun a9 =>
          SameV (some (.pointer (some a7))) (.pointer (some a9))) ∧
          (SameV (some (.pointer (some (a7.add 0)))) (.pointer (some (a7.add 0)))) ∧
          (Ld h_20 (a7.add 0) fun v21 => DP v21 fun x27 =>
          SameV (some (.pointer x22)) (.pointer x27)) ∧
          (Ld h_20 (Addr.mk b0 0 none) fun v22 => DP v22 fun x28 =>
          SameV (some (.pointer x23)) (.pointer x28)) ∧
          (NN' x23 fun a10 =>
          SameV (some (.pointer (some a8))) (.pointer (some a10))) ∧
          (SameV (some (.pointer (some (a8.add 1)))) (.pointer (some (a8.add 1)))) ∧
          (Ld h_20 (a8.add 1) fun v23 => DS v23 fun x29 =>
          SameV (some (.string x24)) (.string x29)) ∧
          (⟨#[102, 46]⟩ : ByteArray).size + (x25 : ByteArray).size ≤ 9223372036854775807 ∧
          CallsH Tryz.prog 60 [.pointer x22, .string x24, .string (⟨#[102, 46]⟩ ++ x25)] h_20 fun r15 h_21 =>
          DI .i64 r15 fun e1 =>
          (bif (e1 : Int) != 0 then
            StC h_21 ((Addr.mk b2 0 none).add 0) (.int .i64 e1) fun h_23 =>
            h_23[l_2]? = some (rec_1 .busy none) ∧ Q_1 (.bool false) (h_23.setIfInBounds l_2 (rec_1 .done (some .ret)))
          else
            Ld h_21 (Addr.mk b0 0 none) fun v24 => DP v24 fun x30 =>
            NN' x30 fun a11 =>
            Ld h_21 (a11.add 3) fun v25 => DM v25 fun x31 =>
            RunH Tryz.prog (Builtin.delete_ #[131, 2] 0 #[.map x31, .int .i64 y2]) h_21 fun r17 h_24 =>
            StC h_24 ((Addr.mk b3 0 none).add 0) (.bool true) fun h_26 =>
            h_26[l_2]? = some (rec_1 .busy none) ∧ Q_1 (.bool true) (h_26.setIfInBounds l_2 (rec_1 .ready none)))
        else
          h_19[l_2]? = some (rec_1 .busy none) ∧ Q_1 (.bool true) (h_19.setIfInBounds l_2 (rec_1 .ready none)))) (fun pend1 h_27 =>
        (pend1 = none ∨ pend1 = some (.ret)) ∧
        (pend1 = none →
          Ld h_27 (Addr.mk b3 0 none) fun v26 => DB v26 fun x32 =>
          (bif x32 then
            Ld h_27 (Addr.mk b0 0 none) fun v27 => DP v27 fun x33 =>
            NN' x33 fun a12 =>
            Ld h_27 (a12.add 0) fun v28 => DP v28 fun x34 =>
            Ld h_27 (Addr.mk b0 0 none) fun v29 => DP v29 fun x35 =>
            NN' x35 fun a13 =>
            Ld h_27 (a13.add 1) fun v30 => DS v30 fun x36 =>
            CallsH Tryz.prog 57 [.pointer x34, .string x36] h_27 fun r19 h_28 =>
            DI .i64 r19 fun x37 =>
            StC h_28 ((Addr.mk b2 0 none).add 0) (.int .i64 x37) fun h_30 =>
            h_30[h_17.size]? = some (.deferred (some [])) ∧
            (h_30.setIfInBounds h_17.size (.deferred none))[h_6.size]? = some (.deferred (some [])) ∧
            Ld ((h_30.setIfInBounds h_17.size (.deferred none)).setIfInBounds h_6.size (.deferred none)) (Addr.mk b2 0 none) fun v31 => DI .i64 v31 fun res0 =>
            Q (.int .i64 res0) ((h_30.setIfInBounds h_17.size (.deferred none)).setIfInBounds h_6.size (.deferred none))
          else
            StC h_27 ((Addr.mk b2 0 none).add 0) (.int .i64 0) fun h_32 =>
            h_32[h_17.size]? = some (.deferred (some [])) ∧
            (h_32.setIfInBounds h_17.size (.deferred none))[h_6.size]? = some (.deferred (some [])) ∧
            Ld ((h_32.setIfInBounds h_17.size (.deferred none)).setIfInBounds h_6.size (.deferred none)) (Addr.mk b2 0 none) fun v32 => DI .i64 v32 fun res1 =>
            Q (.int .i64 res1) ((h_32.setIfInBounds h_17.size (.deferred none)).setIfInBounds h_6.size (.deferred none)))) ∧
        (pend1 = some (.ret) →
          h_27[h_17.size]? = some (.deferred (some [])) ∧
          (h_27.setIfInBounds h_17.size (.deferred none))[h_6.size]? = some (.deferred (some [])) ∧
          Ld ((h_27.setIfInBounds h_17.size (.deferred none)).setIfInBounds h_6.size (.deferred none)) (Addr.mk b2 0 none) fun v33 => DI .i64 v33 fun res2 =>
          Q (.int .i64 res2) ((h_27.setIfInBounds h_17.size (.deferred none)).setIfInBounds h_6.size (.deferred none))))) ∧
    (pend0 = some (.ret) →
      h_16[h_6.size]? = some (.deferred (some [])) ∧
      Ld (h_16.setIfInBounds h_6.size (.deferred none)) (Addr.mk b2 0 none) fun v34 => DI .i64 v34 fun res3 =>
      Q (.int .i64 res3) (h_16.setIfInBounds h_6.size (.deferred none))))
theorem F97_eq : (fun (l_0 : Option Addr) (gone0f : Fn) (gone0p : Array Value) (gone0c : Array Value) (h : Heap) (Q : Value → Heap → Prop) => fnPT Tryz.prog Tryz.f97 (fun _ => annNil) (fun i => bif Nat.beq i 0 then [2, 40] else bif Nat.beq i 2 then [2, 4] else []) (fun i => bif Nat.beq i 5 then some ⟨[0, 1, 3, 7, 0, 16, 48, 112, 0, 256, 768, 2047, 4095], 2560⟩ else bif Nat.beq i 13 then some ⟨[0, 1, 3, 7, 0, 16, 48, 112, 0, 256, 768, 2047, 4095], 2560⟩ else bif Nat.beq i 19 then some ⟨[0, 1, 3, 7, 0, 16, 48, 112, 255, 511], 768⟩ else none) [.pointer l_0, .func gone0f gone0p gone0c] h Q) = F97 := by kernel_rfl
theorem F97_ok {l_0 : Option Addr} {gone0f : Fn} {gone0p : Array Value} {gone0c : Array Value} {h : Heap} {Q : Value → Heap → Prop} (H : F97 l_0 gone0f gone0p gone0c h Q) : CallsH Tryz.prog 97 [.pointer l_0, .func gone0f gone0p gone0c] h Q :=
  callsH_of (ann := fun _ => annNil) (tys := fun i => bif Nat.beq i 0 then [2, 40] else bif Nat.beq i 2 then [2, 4] else []) (pl := fun i => bif Nat.beq i 5 then some ⟨[0, 1, 3, 7, 0, 16, 48, 112, 0, 256, 768, 2047, 4095], 2560⟩ else bif Nat.beq i 13 then some ⟨[0, 1, 3, 7, 0, 16, 48, 112, 0, 256, 768, 2047, 4095], 2560⟩ else bif Nat.beq i 19 then some ⟨[0, 1, 3, 7, 0, 16, 48, 112, 255, 511], 768⟩ else none) Tryz.func97 (by kernel_rfl) (by have e := F97_eq; exact (congrFun (congrFun (congrFun (congrFun (congrFun (congrFun (e) l_0) gone0f) gone0p) gone0c) h) Q).symm ▸ H)

/-- (*headgate/metalog.Log).Fold$1 -/
def F98 (c0 : Int) (n0 : Int) (c1 : Addr) (h : Heap) (Q : Value → Heap → Prop) : Prop :=
  (bif (c0 : Int) == 98 then
    Ld h c1 fun v0 => DI .i64 v0 fun x0 =>
    (bif decide ((n0 : Int) ≤ x0) then
      Q (.bool true) h
    else
      (bif (c0 : Int) == 102 then
        Ld h c1 fun v1 => DI .i64 v1 fun x1 =>
        Q (.bool ((n0 : Int) != x1)) h
      else
        Q (.bool false) h))
  else
    (bif (c0 : Int) == 102 then
      Ld h c1 fun v2 => DI .i64 v2 fun x2 =>
      Q (.bool ((n0 : Int) != x2)) h
    else
      Q (.bool false) h))
theorem F98_eq : (fun (c0 : Int) (n0 : Int) (c1 : Addr) (h : Heap) (Q : Value → Heap → Prop) => fnPT Tryz.prog Tryz.f98 (fun _ => annNil) (fun _ => []) (fun _ => none) [.int .u8 c0, .int .i64 n0, .pointer (some c1)] h Q) = F98 := by kernel_rfl
theorem F98_ok {c0 : Int} {n0 : Int} {c1 : Addr} {h : Heap} {Q : Value → Heap → Prop} (H : F98 c0 n0 c1 h Q) : CallsH Tryz.prog 98 [.int .u8 c0, .int .i64 n0, .pointer (some c1)] h Q :=
  callsH_of (ann := fun _ => annNil) (tys := fun _ => []) (pl := fun _ => none) Tryz.func98 (by kernel_rfl) (by have e := F98_eq; exact (congrFun (congrFun (congrFun (congrFun (congrFun (e) c0) n0) c1) h) Q).symm ▸ H)

/-- headgate/code.Unpairs -/
def F143 (b0a : Option Addr) (b0l : Nat) (b0c : Nat) (h : Heap) (Q : Value → Heap → Prop) : Prop :=
  CallsH Tryz.prog 170 [.slice b0a b0l b0c, .func (.func 171) #[] #[]] h fun r0 h_0 =>
  ∃ (x0a : Option Addr), ∃ (x0l : Nat), ∃ (x0c : Nat), ∃ (x1 : Int), r0 = .tuple #[.slice x0a x0l x0c, .int .i64 x1] ∧
  Q (.tuple #[.slice x0a x0l x0c, .int .i64 x1]) h_0
theorem F143_eq : (fun (b0a : Option Addr) (b0l : Nat) (b0c : Nat) (h : Heap) (Q : Value → Heap → Prop) => fnPT Tryz.prog Tryz.f143 (fun _ => annNil) (fun _ => []) (fun _ => none) [.slice b0a b0l b0c] h Q) = F143 := by kernel_rfl
theorem F143_ok {b0a : Option Addr} {b0l : Nat} {b0c : Nat} {h : Heap} {Q : Value → Heap → Prop} (H : F143 b0a b0l b0c h Q) : CallsH Tryz.prog 143 [.slice b0a b0l b0c] h Q :=
  callsH_of (ann := fun _ => annNil) (tys := fun _ => []) (pl := fun _ => none) Tryz.func143 (by kernel_rfl) (by have e := F143_eq; exact (congrFun (congrFun (congrFun (congrFun (congrFun (e) b0a) b0l) b0c) h) Q).symm ▸ H)

/-- slices.Sorted[int64] -/
def F144 (seq0 : Value) (h : Heap) (Q : Value → Heap → Prop) : Prop :=
  CallsH Tryz.prog 175 [seq0] h fun r0 h_0 =>
  DSl r0 fun s0a s0l s0c =>
  CallsH Tryz.prog 176 [.slice s0a s0l s0c] h_0 fun r1 h_1 =>
  r1 = .tuple #[] ∧
  Q (.slice s0a s0l s0c) h_1
theorem F144_eq : (fun (seq0 : Value) (h : Heap) (Q : Value → Heap → Prop) => fnPT Tryz.prog Tryz.f144 (fun _ => annNil) (fun _ => []) (fun _ => none) [seq0] h Q) = F144 := by kernel_rfl
theorem F144_ok {seq0 : Value} {h : Heap} {Q : Value → Heap → Prop} (H : F144 seq0 h Q) : CallsH Tryz.prog 144 [seq0] h Q :=
  callsH_of (ann := fun _ => annNil) (tys := fun _ => []) (pl := fun _ => none) Tryz.func144 (by kernel_rfl) (by have e := F144_eq; exact (congrFun (congrFun (congrFun (e) seq0) h) Q).symm ▸ H)

/-- maps.Keys[headgate/metalog.table[[]byte],int64,[]byte] -/
def F145 (m0 : Option Nat) (h : Heap) (Q : Value → Heap → Prop) : Prop :=
  Al h (.cells #[.map m0] 129) fun b0 h_0 =>
  Q (.func (.func 177) #[] #[.pointer (some (Addr.mk b0 0 none))]) h_0
theorem F145_eq : (fun (m0 : Option Nat) (h : Heap) (Q : Value → Heap → Prop) => fnPT Tryz.prog Tryz.f145 (fun _ => annNil) (fun _ => []) (fun _ => none) [.map m0] h Q) = F145 := by kernel_rfl
theorem F145_ok {m0 : Option Nat} {h : Heap} {Q : Value → Heap → Prop} (H : F145 m0 h Q) : CallsH Tryz.prog 145 [.map m0] h Q :=
  callsH_of (ann := fun _ => annNil) (tys := fun _ => []) (pl := fun _ => none) Tryz.func145 (by kernel_rfl) (by have e := F145_eq; exact (congrFun (congrFun (congrFun (e) m0) h) Q).symm ▸ H)

/-- (headgate/metalog.table[[]byte]).rising$1 -/
def F146 (yield0 : Value) (c0 : Addr) (c1 : Addr) (h : Heap) (Q : Value → Heap → Prop) : Prop :=
  Ld h c0 fun v0 => DSl v0 fun x0a x0l x0c =>
  LoopH (fun again0 (s0 : Int) h_0 =>
    (bif decide ((s0 : Int) < (x0l : Int)) then
      IdxA x0a x0l s0 1 fun a0 =>
      Ld h_0 a0 fun v1 => DI .i64 v1 fun k0 =>
      Ld h_0 c1 fun v2 => DM v2 fun x1 =>
      ∃ es0, mapEs h_0 x1 es0 ∧ ∃ f0, Instr.findNow (.int .i64) (.int .i64 k0) (es0 : Array MapEntry).toList 0 = some f0 ∧
      DSl ((Option.map (fun x => x.2) f0).getD (.slice none 0 0)) fun x2a x2l x2c =>
      CallV Tryz.prog yield0 [.int .i64 k0, .slice x2a x2l x2c] h_0 fun r0 h_1 =>
      DB r0 fun x3 =>
      (bif !x3 then
        Q (.tuple #[]) h_1
      else
        again0 (IntKind.wrap .i64 (s0 + 1)) h_1)
    else
      Q (.tuple #[]) h_0)) 0 h
theorem F146_eq : (fun (yield0 : Value) (c0 : Addr) (c1 : Addr) (h : Heap) (Q : Value → Heap → Prop) => fnPT Tryz.prog Tryz.f146 (fun i => bif Nat.beq i 0 then annOne 8 (codI .i64) else annNil) (fun _ => []) (fun _ => none) [yield0, .pointer (some c0), .pointer (some c1)] h Q) = F146 := by kernel_rfl
theorem F146_ok {yield0 : Value} {c0 : Addr} {c1 : Addr} {h : Heap} {Q : Value → Heap → Prop} (H : F146 yield0 c0 c1 h Q) : CallsH Tryz.prog 146 [yield0, .pointer (some c0), .pointer (some c1)] h Q :=
  callsH_of (ann := fun i => bif Nat.beq i 0 then annOne 8 (codI .i64) else annNil) (tys := fun _ => []) (pl := fun _ => none) Tryz.func146 (by kernel_rfl) (by have e := F146_eq; exact (congrFun (congrFun (congrFun (congrFun (congrFun (e) yield0) c0) c1) h) Q).symm ▸ H)

/-- maps.Copy[headgate/metalog.table[[]byte],headgate/metalog.table[[]byte],int64,[]byte] -/
def F148 (dst0 : Option Nat) (src0 : Option Nat) (h : Heap) (Q : Value → Heap → Prop) : Prop :=
  RunH Tryz.prog (Instr.range 129 (.map src0)) h fun r0 h_0 =>
  DP r0 fun p0 =>
  LoopH (fun again0 (s0 : Unit) h_1 =>
    RunH Tryz.prog (Instr.next (.pointer p0) false 0) h_1 fun r1 h_2 =>
    (
      r1 = .tuple #[.bool false] ∧
      Q (.tuple #[]) h_2) ∨ (
      ∃ (k0 x0 : Value), r1 = .tuple #[.bool true, k0, x0] ∧
      RunH Tryz.prog (Instr.entry (.pointer p0)) h_2 fun r2 h_3 =>
      ∃ (x1 : Int), ∃ (x2a : Option Addr), ∃ (x2l : Nat), ∃ (x2c : Nat), r2 = .tuple #[.int .i64 x1, .slice x2a x2l x2c] ∧
      RunU Tryz.prog (Instr.mapUpdate 129 (.map dst0) (.int .i64 x1) (.slice x2a x2l x2c)) h_3 fun h_4 =>
      again0 () h_4)) () h_0
theorem F148_eq : (fun (dst0 : Option Nat) (src0 : Option Nat) (h : Heap) (Q : Value → Heap → Prop) => fnPT Tryz.prog Tryz.f148 (fun i => bif Nat.beq i 0 then annNil else annNil) (fun i => bif Nat.beq i 1002 then [2, 40] else []) (fun _ => none) [.map dst0, .map src0] h Q) = F148 := by kernel_rfl
theorem F148_ok {dst0 : Option Nat} {src0 : Option Nat} {h : Heap} {Q : Value → Heap → Prop} (H : F148 dst0 src0 h Q) : CallsH Tryz.prog 148 [.map dst0, .map src0] h Q :=
  callsH_of (ann := fun i => bif Nat.beq i 0 then annNil else annNil) (tys := fun i => bif Nat.beq i 1002 then [2, 40] else []) (pl := fun _ => none) Tryz.func148 (by kernel_rfl) (by have e := F148_eq; exact (congrFun (congrFun (congrFun (congrFun (e) dst0) src0) h) Q).symm ▸ H)

/-- headgate/code.told -/
def F149 (b0a : Option Addr) (b0l : Nat) (b0c : Nat) (h : Heap) (Q : Value → Heap → Prop) : Prop :=
  (bif decide (((b0l : Int) : Int) > 16777216) then
    Q (.tuple #[.slice none 0 0, .int .i64 42]) h
  else
    Q (.tuple #[.slice b0a b0l b0c, .int .i64 0]) h)
theorem F149_eq : (fun (b0a : Option Addr) (b0l : Nat) (b0c : Nat) (h : Heap) (Q : Value → Heap → Prop) => fnPT Tryz.prog Tryz.f149 (fun _ => annNil) (fun _ => []) (fun _ => none) [.slice b0a b0l b0c] h Q) = F149 := by kernel_rfl
theorem F149_ok {b0a : Option Addr} {b0l : Nat} {b0c : Nat} {h : Heap} {Q : Value → Heap → Prop} (H : F149 b0a b0l b0c h Q) : CallsH Tryz.prog 149 [.slice b0a b0l b0c] h Q :=
  callsH_of (ann := fun _ => annNil) (tys := fun _ => []) (pl := fun _ => none) Tryz.func149 (by kernel_rfl) (by have e := F149_eq; exact (congrFun (congrFun (congrFun (congrFun (congrFun (e) b0a) b0l) b0c) h) Q).symm ▸ H)

/-- headgate/code.List[headgate/api.Pair] -/
def F150 (l_0a : Option Addr) (l_0l : Nat) (l_0c : Nat) (one0 : Value) (h : Heap) (Q : Value → Heap → Prop) : Prop :=
  CallsH Tryz.prog 178 [.int .u64 (IntKind.wrap .u64 (l_0l : Int))] h fun r0 h_0 =>
  DSl r0 fun b0a b0l b0c =>
  LoopH (fun again0 (s0 : Sl × Int) h_1 =>
    (bif decide ((s0.2 : Int) < (l_0l : Int)) then
      IdxA l_0a l_0l s0.2 2 fun a0 =>
      Ld h_1 (a0.add 0) fun c0 =>
      Ld h_1 (a0.add 1) fun c1 =>
      ∃ (x0 : ByteArray), ∃ (x1 : ByteArray), (Value.agg #[c0, c1]) = .agg #[.string x0, .string x1] ∧
      Al h_1 (.cells #[.string .empty, .string .empty] 146) fun b1 h_2 =>
      StC h_2 ((Addr.mk b1 0 none).add 0) (.string x0) fun h_4 =>
      StC h_4 ((Addr.mk b1 0 none).add 1) (.string x1) fun h_5 =>
      Ld h_5 ((Addr.mk b1 0 none).add 0) fun c2 =>
      Ld h_5 ((Addr.mk b1 0 none).add 1) fun c3 =>
      ∃ (x2 : ByteArray), ∃ (x3 : ByteArray), (Value.agg #[c2, c3]) = .agg #[.string x2, .string x3] ∧
      CallV Tryz.prog one0 [.agg #[.string x2, .string x3]] h_5 fun r3 h_6 =>
      DSl r3 fun x4a x4l x4c =>
      RunH Tryz.prog (Builtin.append_ #[40, 40] 40 #[.slice s0.1.a s0.1.l s0.1.c, .slice x4a x4l x4c]) h_6 fun r4 h_7 =>
      DSl r4 fun b2a b2l b2c =>
      again0 (⟨b2a, b2l, b2c⟩, IntKind.wrap .i64 (s0.2 + 1)) h_7
    else
      Q (.slice s0.1.a s0.1.l s0.1.c) h_1)) (⟨b0a, b0l, b0c⟩, 0) h_0
theorem F150_eq : (fun (l_0a : Option Addr) (l_0l : Nat) (l_0c : Nat) (one0 : Value) (h : Heap) (Q : Value → Heap → Prop) => fnPT Tryz.prog Tryz.f150 (fun i => bif Nat.beq i 0 then annCons 5 (codSl) (annOne 14 (codI .i64)) else annNil) (fun _ => []) (fun _ => none) [.slice l_0a l_0l l_0c, one0] h Q) = F150 := by kernel_rfl
theorem F150_ok {l_0a : Option Addr} {l_0l : Nat} {l_0c : Nat} {one0 : Value} {h : Heap} {Q : Value → Heap → Prop} (H : F150 l_0a l_0l l_0c one0 h Q) : CallsH Tryz.prog 150 [.slice l_0a l_0l l_0c, one0] h Q :=
  callsH_of (ann := fun i => bif Nat.beq i 0 then annCons 5 (codSl) (annOne 14 (codI .i64)) else annNil) (tys := fun _ => []) (pl := fun _ => none) Tryz.func150 (by kernel_rfl) (by have e := F150_eq; exact (congrFun (congrFun (congrFun (congrFun (congrFun (congrFun (e) l_0a) l_0l) l_0c) one0) h) Q).symm ▸ H)

/-- headgate/code.Pairs$1 -/
def F151 (p0 : ByteArray) (p1 : ByteArray) (h : Heap) (Q : Value → Heap → Prop) : Prop :=
  Al h (.cells #[.string p0, .string p1] 146) fun b0 h_0 =>
  Ld h_0 ((Addr.mk b0 0 none).add 0) fun v0 => DS v0 fun x0 =>
  Ld h_0 ((Addr.mk b0 0 none).add 1) fun v1 => DS v1 fun x1 =>
  CallsH Tryz.prog 152 [.string x0] h_0 fun r1 h_1 =>
  DSl r1 fun x2a x2l x2c =>
  (SameV (some (.pointer (some ((Addr.mk b0 0 none).add 1)))) (.pointer (some ((Addr.mk b0 0 none).add 1)))) ∧
  (Ld h_1 ((Addr.mk b0 0 none).add 1) fun v2 => DS v2 fun x3 =>
  SameV (some (.string x1)) (.string x3)) ∧
  CallsH Tryz.prog 152 [.string x1] h_1 fun r2 h_2 =>
  DSl r2 fun x4a x4l x4c =>
  RunH Tryz.prog (Builtin.append_ #[40, 40] 40 #[.slice x2a x2l x2c, .slice x4a x4l x4c]) h_2 fun r3 h_3 =>
  DSl r3 fun x5a x5l x5c =>
  Q (.slice x5a x5l x5c) h_3
theorem F151_eq : (fun (p0 : ByteArray) (p1 : ByteArray) (h : Heap) (Q : Value → Heap → Prop) => fnPT Tryz.prog Tryz.f151 (fun _ => annNil) (fun _ => []) (fun i => bif Nat.beq i 1 then some ⟨[0, 1, 3, 0, 8, 31, 63, 127], 100⟩ else none) [.agg #[.string p0, .string p1]] h Q) = F151 := by kernel_rfl
theorem F151_ok {p0 : ByteArray} {p1 : ByteArray} {h : Heap} {Q : Value → Heap → Prop} (H : F151 p0 p1 h Q) : CallsH Tryz.prog 151 [.agg #[.string p0, .string p1]] h Q :=
  callsH_of (ann := fun _ => annNil) (tys := fun _ => []) (pl := fun i => bif Nat.beq i 1 then some ⟨[0, 1, 3, 0, 8, 31, 63, 127], 100⟩ else none) Tryz.func151 (by kernel_rfl) (by have e := F151_eq; exact (congrFun (congrFun (congrFun (congrFun (e) p0) p1) h) Q).symm ▸ H)

/-- headgate/code.word -/
def F152 (s0 : ByteArray) (h : Heap) (Q : Value → Heap → Prop) : Prop :=
  CallsH Tryz.prog 178 [.int .u64 (IntKind.wrap .u64 ((s0 : ByteArray).size : Int))] h fun r0 h_0 =>
  DSl r0 fun x0a x0l x0c =>
  RunH Tryz.prog (Builtin.append_ #[40, 9] 40 #[.slice x0a x0l x0c, .string s0]) h_0 fun r1 h_1 =>
  DSl r1 fun x1a x1l x1c =>
  Q (.slice x1a x1l x1c) h_1
theorem F152_eq : (fun (s0 : ByteArray) (h : Heap) (Q : Value → Heap → Prop) => fnPT Tryz.prog Tryz.f152 (fun _ => annNil) (fun _ => []) (fun _ => none) [.string s0] h Q) = F152 := by kernel_rfl
theorem F152_ok {s0 : ByteArray} {h : Heap} {Q : Value → Heap → Prop} (H : F152 s0 h Q) : CallsH Tryz.prog 152 [.string s0] h Q :=
  callsH_of (ann := fun _ => annNil) (tys := fun _ => []) (pl := fun _ => none) Tryz.func152 (by kernel_rfl) (by have e := F152_eq; exact (congrFun (congrFun (congrFun (e) s0) h) Q).symm ▸ H)

/-- (headgate/metalog.table[bool]).rising -/
def F153 (t0 : Option Nat) (h : Heap) (Q : Value → Heap → Prop) : Prop :=
  Al h (.cells #[.map t0] 131) fun b0 h_0 =>
  Ld h_0 (Addr.mk b0 0 none) fun v0 => DM v0 fun x0 =>
  CallsH Tryz.prog 179 [.map x0] h_0 fun r1 h_1 =>
  ∃ (x1 : Value), r1 = x1 ∧
  CallsH Tryz.prog 144 [x1] h_1 fun r2 h_2 =>
  DSl r2 fun x2a x2l x2c =>
  Al h_2 (.cells #[.slice none 0 0] 166) fun b1 h_3 =>
  StC h_3 ((Addr.mk b1 0 none).add 0) (.slice x2a x2l x2c) fun h_5 =>
  Q (.func (.func 180) #[] #[.pointer (some (Addr.mk b1 0 none)), .pointer (some (Addr.mk b0 0 none))]) h_5
theorem F153_eq : (fun (t0 : Option Nat) (h : Heap) (Q : Value → Heap → Prop) => fnPT Tryz.prog Tryz.f153 (fun _ => annNil) (fun _ => []) (fun _ => none) [.map t0] h Q) = F153 := by kernel_rfl
theorem F153_ok {t0 : Option Nat} {h : Heap} {Q : Value → Heap → Prop} (H : F153 t0 h Q) : CallsH Tryz.prog 153 [.map t0] h Q :=
  callsH_of (ann := fun _ => annNil) (tys := fun _ => []) (pl := fun _ => none) Tryz.func153 (by kernel_rfl) (by have e := F153_eq; exact (congrFun (congrFun (congrFun (e) t0) h) Q).symm ▸ H)

/-- headgate/code.Unpairs$1 -/
def F171 (r0 : Option Addr) (h : Heap) (Q : Value → Heap → Prop) : Prop :=
  Al h (.cells #[.pointer r0] 235) fun b0 h_0 =>
  Ld h_0 (Addr.mk b0 0 none) fun v0 => DP v0 fun x0 =>
  CallsH Tryz.prog 172 [.pointer x0, .func (.func 173) #[] #[.pointer (some (Addr.mk b0 0 none))]] h_0 fun r2 h_1 =>
  DSl r2 fun x1a x1l x1c =>
  Q (.slice x1a x1l x1c) h_1
theorem F171_eq : (fun (r0 : Option Addr) (h : Heap) (Q : Value → Heap → Prop) => fnPT Tryz.prog Tryz.f171 (fun _ => annNil) (fun _ => []) (fun _ => none) [.pointer r0] h Q) = F171 := by kernel_rfl
theorem F171_ok {r0 : Option Addr} {h : Heap} {Q : Value → Heap → Prop} (H : F171 r0 h Q) : CallsH Tryz.prog 171 [.pointer r0] h Q :=
  callsH_of (ann := fun _ => annNil) (tys := fun _ => []) (pl := fun _ => none) Tryz.func171 (by kernel_rfl) (by have e := F171_eq; exact (congrFun (congrFun (congrFun (e) r0) h) Q).symm ▸ H)

/-- (*headgate/code.reader).word -/
def F174 (r0 : Option Addr) (h : Heap) (Q : Value → Heap → Prop) : Prop :=
  CallsH Tryz.prog 188 [.pointer r0] h fun r1 h_0 =>
  DI .u64 r1 fun x0 =>
  CallsH Tryz.prog 189 [.pointer r0, .int .u64 x0] h_0 fun r2 h_1 =>
  DSl r2 fun x1a x1l x1c =>
  ∃ bs0 : ByteArray, BytesIn h_1 x1a x1l bs0 ∧
  Q (.string bs0) h_1
theorem F174_eq : (fun (r0 : Option Addr) (h : Heap) (Q : Value → Heap → Prop) => fnPT Tryz.prog Tryz.f174 (fun _ => annNil) (fun _ => []) (fun _ => none) [.pointer r0] h Q) = F174 := by kernel_rfl
theorem F174_ok {r0 : Option Addr} {h : Heap} {Q : Value → Heap → Prop} (H : F174 r0 h Q) : CallsH Tryz.prog 174 [.pointer r0] h Q :=
  callsH_of (ann := fun _ => annNil) (tys := fun _ => []) (pl := fun _ => none) Tryz.func174 (by kernel_rfl) (by have e := F174_eq; exact (congrFun (congrFun (congrFun (e) r0) h) Q).symm ▸ H)

/-- slices.Collect[int64] -/
def F175 (seq0 : Value) (h : Heap) (Q : Value → Heap → Prop) : Prop :=
  CallsH Tryz.prog 190 [.slice none 0 0, seq0] h fun r0 h_0 =>
  DSl r0 fun x0a x0l x0c =>
  Q (.slice x0a x0l x0c) h_0
theorem F175_eq : (fun (seq0 : Value) (h : Heap) (Q : Value → Heap → Prop) => fnPT Tryz.prog Tryz.f175 (fun _ => annNil) (fun _ => []) (fun _ => none) [seq0] h Q) = F175 := by kernel_rfl
theorem F175_ok {seq0 : Value} {h : Heap} {Q : Value → Heap → Prop} (H : F175 seq0 h Q) : CallsH Tryz.prog 175 [seq0] h Q :=
  callsH_of (ann := fun _ => annNil) (tys := fun _ => []) (pl := fun _ => none) Tryz.func175 (by kernel_rfl) (by have e := F175_eq; exact (congrFun (congrFun (congrFun (e) seq0) h) Q).symm ▸ H)

/-- maps.Keys[headgate/metalog.table[[]byte],int64,[]byte]$1 -/
def F177 (yield0 : Value) (c0 : Addr) (h : Heap) (Q : Value → Heap → Prop) : Prop :=
  Ld h c0 fun v0 => DM v0 fun x0 =>
  RunH Tryz.prog (Instr.range 129 (.map x0)) h fun r0 h_0 =>
  DP r0 fun p0 =>
  LoopH (fun again0 (s0 : Unit) h_1 =>
    RunH Tryz.prog (Instr.next (.pointer p0) false 0) h_1 fun r1 h_2 =>
    (
      r1 = .tuple #[.bool false] ∧
      Q (.tuple #[]) h_2) ∨ (
      ∃ (k0 x1 : Value), r1 = .tuple #[.bool true, k0, x1] ∧
      RunH Tryz.prog (Instr.entry (.pointer p0)) h_2 fun r2 h_3 =>
      ∃ (x2 : Int), ∃ (x3 : Value), r2 = .tuple #[.int .i64 x2, x3] ∧
      CallV Tryz.prog yield0 [.int .i64 x2] h_3 fun r3 h_4 =>
      DB r3 fun x4 =>
      (bif !x4 then
        Q (.tuple #[]) h_4
      else
        again0 () h_4))) () h_0
theorem F177_eq : (fun (yield0 : Value) (c0 : Addr) (h : Heap) (Q : Value → Heap → Prop) => fnPT Tryz.prog Tryz.f177 (fun i => bif Nat.beq i 0 then annNil else annNil) (fun i => bif Nat.beq i 1002 then [2, 0] else []) (fun _ => none) [yield0, .pointer (some c0)] h Q) = F177 := by kernel_rfl
theorem F177_ok {yield0 : Value} {c0 : Addr} {h : Heap} {Q : Value → Heap → Prop} (H : F177 yield0 c0 h Q) : CallsH Tryz.prog 177 [yield0, .pointer (some c0)] h Q :=
  callsH_of (ann := fun i => bif Nat.beq i 0 then annNil else annNil) (tys := fun i => bif Nat.beq i 1002 then [2, 0] else []) (pl := fun _ => none) Tryz.func177 (by kernel_rfl) (by have e := F177_eq; exact (congrFun (congrFun (congrFun (congrFun (e) yield0) c0) h) Q).symm ▸ H)

/-- headgate/code.Num -/
def F178 (n0 : Int) (h : Heap) (Q : Value → Heap → Prop) : Prop :=
  LoopH (fun again0 (s0 : Int × Sl) h_0 =>
    (bif decide ((s0.1 : Int) ≥ 128) then
      Al h_0 (.cells #[.int .u8 (bitsI .or .u8 (IntKind.wrap .u8 s0.1) 128)] 5) fun b0 h_1 =>
      RunH Tryz.prog (Builtin.append_ #[40, 40] 40 #[.slice s0.2.a s0.2.l s0.2.c, .slice (some (Addr.mk b0 0 none)) 1 1]) h_1 fun r1 h_2 =>
      DSl r1 fun b1a b1l b1c =>
      0 ≤ (7 : Int) ∧
      again0 (shrI .u64 s0.1 7, ⟨b1a, b1l, b1c⟩) h_2
    else
      Al h_0 (.cells #[.int .u8 (IntKind.wrap .u8 s0.1)] 5) fun b2 h_3 =>
      RunH Tryz.prog (Builtin.append_ #[40, 40] 40 #[.slice s0.2.a s0.2.l s0.2.c, .slice (some (Addr.mk b2 0 none)) 1 1]) h_3 fun r3 h_4 =>
      DSl r3 fun x0a x0l x0c =>
      Q (.slice x0a x0l x0c) h_4)) (n0, ⟨none, 0, 0⟩) h
theorem F178_eq : (fun (n0 : Int) (h : Heap) (Q : Value → Heap → Prop) => fnPT Tryz.prog Tryz.f178 (fun i => bif Nat.beq i 0 then annCons 0 (codI .u64) (annOne 3 (codSl)) else annNil) (fun _ => []) (fun _ => none) [.int .u64 n0] h Q) = F178 := by kernel_rfl
theorem F178_ok {n0 : Int} {h : Heap} {Q : Value → Heap → Prop} (H : F178 n0 h Q) : CallsH Tryz.prog 178 [.int .u64 n0] h Q :=
  callsH_of (ann := fun i => bif Nat.beq i 0 then annCons 0 (codI .u64) (annOne 3 (codSl)) else annNil) (tys := fun _ => []) (pl := fun _ => none) Tryz.func178 (by kernel_rfl) (by have e := F178_eq; exact (congrFun (congrFun (congrFun (e) n0) h) Q).symm ▸ H)

/-- maps.Keys[headgate/metalog.table[bool],int64,bool] -/
def F179 (m0 : Option Nat) (h : Heap) (Q : Value → Heap → Prop) : Prop :=
  Al h (.cells #[.map m0] 131) fun b0 h_0 =>
  Q (.func (.func 192) #[] #[.pointer (some (Addr.mk b0 0 none))]) h_0
theorem F179_eq : (fun (m0 : Option Nat) (h : Heap) (Q : Value → Heap → Prop) => fnPT Tryz.prog Tryz.f179 (fun _ => annNil) (fun _ => []) (fun _ => none) [.map m0] h Q) = F179 := by kernel_rfl
theorem F179_ok {m0 : Option Nat} {h : Heap} {Q : Value → Heap → Prop} (H : F179 m0 h Q) : CallsH Tryz.prog 179 [.map m0] h Q :=
  callsH_of (ann := fun _ => annNil) (tys := fun _ => []) (pl := fun _ => none) Tryz.func179 (by kernel_rfl) (by have e := F179_eq; exact (congrFun (congrFun (congrFun (e) m0) h) Q).symm ▸ H)

/-- (headgate/metalog.table[bool]).rising$1 -/
def F180 (yield0 : Value) (c0 : Addr) (c1 : Addr) (h : Heap) (Q : Value → Heap → Prop) : Prop :=
  Ld h c0 fun v0 => DSl v0 fun x0a x0l x0c =>
  LoopH (fun again0 (s0 : Int) h_0 =>
    (bif decide ((s0 : Int) < (x0l : Int)) then
      IdxA x0a x0l s0 1 fun a0 =>
      Ld h_0 a0 fun v1 => DI .i64 v1 fun k0 =>
      Ld h_0 c1 fun v2 => DM v2 fun x1 =>
      ∃ es0, mapEs h_0 x1 es0 ∧ ∃ f0, Instr.findNow (.int .i64) (.int .i64 k0) (es0 : Array MapEntry).toList 0 = some f0 ∧
      DB ((Option.map (fun x => x.2) f0).getD (.bool false)) fun x2 =>
      CallV Tryz.prog yield0 [.int .i64 k0, .bool x2] h_0 fun r0 h_1 =>
      DB r0 fun x3 =>
      (bif !x3 then
        Q (.tuple #[]) h_1
      else
        again0 (IntKind.wrap .i64 (s0 + 1)) h_1)
    else
      Q (.tuple #[]) h_0)) 0 h
theorem F180_eq : (fun (yield0 : Value) (c0 : Addr) (c1 : Addr) (h : Heap) (Q : Value → Heap → Prop) => fnPT Tryz.prog Tryz.f180 (fun i => bif Nat.beq i 0 then annOne 8 (codI .i64) else annNil) (fun _ => []) (fun _ => none) [yield0, .pointer (some c0), .pointer (some c1)] h Q) = F180 := by kernel_rfl
theorem F180_ok {yield0 : Value} {c0 : Addr} {c1 : Addr} {h : Heap} {Q : Value → Heap → Prop} (H : F180 yield0 c0 c1 h Q) : CallsH Tryz.prog 180 [yield0, .pointer (some c0), .pointer (some c1)] h Q :=
  callsH_of (ann := fun i => bif Nat.beq i 0 then annOne 8 (codI .i64) else annNil) (tys := fun _ => []) (pl := fun _ => none) Tryz.func180 (by kernel_rfl) (by have e := F180_eq; exact (congrFun (congrFun (congrFun (congrFun (congrFun (e) yield0) c0) c1) h) Q).symm ▸ H)

/-- slices.AppendSeq[[]int64,int64] -/
def F190 (s0a : Option Addr) (s0l : Nat) (s0c : Nat) (seq0 : Value) (h : Heap) (Q : Value → Heap → Prop) : Prop :=
  Al h (.cells #[.slice s0a s0l s0c] 166) fun b0 h_0 =>
  RangeFn Tryz.prog seq0 1 none h_0 (fun l_0 rec_0 args0 h_1 Q_0 =>
    ∃ (y0 : Int), args0 = [.int .i64 y0] ∧
    h_1[l_0]? = some (rec_0 .ready none) ∧
    Ld (h_1.setIfInBounds l_0 (rec_0 .busy none)) (Addr.mk b0 0 none) fun v0 => DSl v0 fun x0a x0l x0c =>
    Al (h_1.setIfInBounds l_0 (rec_0 .busy none)) (.cells #[.int .i64 y0] 2) fun b1 h_2 =>
    RunH Tryz.prog (Builtin.append_ #[166, 166] 166 #[.slice x0a x0l x0c, .slice (some (Addr.mk b1 0 none)) 1 1]) h_2 fun r2 h_3 =>
    DSl r2 fun x1a x1l x1c =>
    StC h_3 ((Addr.mk b0 0 none).add 0) (.slice x1a x1l x1c) fun h_5 =>
    h_5[l_0]? = some (rec_0 .busy none) ∧ Q_0 (.bool true) (h_5.setIfInBounds l_0 (rec_0 .ready none))) (fun pend0 h_6 =>
    pend0 = none ∧
    Ld h_6 (Addr.mk b0 0 none) fun v1 => DSl v1 fun x2a x2l x2c =>
    h_6[h_0.size]? = some (.deferred (some [])) ∧
    Q (.slice x2a x2l x2c) (h_6.setIfInBounds h_0.size (.deferred none)))
theorem F190_eq : (fun (s0a : Option Addr) (s0l : Nat) (s0c : Nat) (seq0 : Value) (h : Heap) (Q : Value → Heap → Prop) => fnPT Tryz.prog Tryz.f190 (fun _ => annNil) (fun i => bif Nat.beq i 0 then [2] else []) (fun _ => none) [.slice s0a s0l s0c, seq0] h Q) = F190 := by kernel_rfl
theorem F190_ok {s0a : Option Addr} {s0l : Nat} {s0c : Nat} {seq0 : Value} {h : Heap} {Q : Value → Heap → Prop} (H : F190 s0a s0l s0c seq0 h Q) : CallsH Tryz.prog 190 [.slice s0a s0l s0c, seq0] h Q :=
  callsH_of (ann := fun _ => annNil) (tys := fun i => bif Nat.beq i 0 then [2] else []) (pl := fun _ => none) Tryz.func190 (by kernel_rfl) (by have e := F190_eq; exact (congrFun (congrFun (congrFun (congrFun (congrFun (congrFun (e) s0a) s0l) s0c) seq0) h) Q).symm ▸ H)

/-- maps.Keys[headgate/metalog.table[bool],int64,bool]$1 -/
def F192 (yield0 : Value) (c0 : Addr) (h : Heap) (Q : Value → Heap → Prop) : Prop :=
  Ld h c0 fun v0 => DM v0 fun x0 =>
  RunH Tryz.prog (Instr.range 131 (.map x0)) h fun r0 h_0 =>
  DP r0 fun p0 =>
  LoopH (fun again0 (s0 : Unit) h_1 =>
    RunH Tryz.prog (Instr.next (.pointer p0) false 0) h_1 fun r1 h_2 =>
    (
      r1 = .tuple #[.bool false] ∧
      Q (.tuple #[]) h_2) ∨ (
      ∃ (k0 x1 : Value), r1 = .tuple #[.bool true, k0, x1] ∧
      RunH Tryz.prog (Instr.entry (.pointer p0)) h_2 fun r2 h_3 =>
      ∃ (x2 : Int), ∃ (x3 : Value), r2 = .tuple #[.int .i64 x2, x3] ∧
      CallV Tryz.prog yield0 [.int .i64 x2] h_3 fun r3 h_4 =>
      DB r3 fun x4 =>
      (bif !x4 then
        Q (.tuple #[]) h_4
      else
        again0 () h_4))) () h_0
theorem F192_eq : (fun (yield0 : Value) (c0 : Addr) (h : Heap) (Q : Value → Heap → Prop) => fnPT Tryz.prog Tryz.f192 (fun i => bif Nat.beq i 0 then annNil else annNil) (fun i => bif Nat.beq i 1002 then [2, 0] else []) (fun _ => none) [yield0, .pointer (some c0)] h Q) = F192 := by kernel_rfl
theorem F192_ok {yield0 : Value} {c0 : Addr} {h : Heap} {Q : Value → Heap → Prop} (H : F192 yield0 c0 h Q) : CallsH Tryz.prog 192 [yield0, .pointer (some c0)] h Q :=
  callsH_of (ann := fun i => bif Nat.beq i 0 then annNil else annNil) (tys := fun i => bif Nat.beq i 1002 then [2, 0] else []) (pl := fun _ => none) Tryz.func192 (by kernel_rfl) (by have e := F192_eq; exact (congrFun (congrFun (congrFun (congrFun (e) yield0) c0) h) Q).symm ▸ H)

/-- headgate/code.Unnum -/
def F205 (b0a : Option Addr) (b0l : Nat) (b0c : Nat) (h : Heap) (Q : Value → Heap → Prop) : Prop :=
  LoopH (fun again0 (s0 : Int × Int) h_0 =>
    (bif decide ((s0.2 : Int) < (b0l : Int)) then
      IdxA b0a b0l s0.2 1 fun a0 =>
      Ld h_0 a0 fun v0 => DI .u8 v0 fun c0 =>
      (bif (s0.2 : Int) == 9 then
        (bif decide ((c0 : Int) > 1) then
          (bif decide ((c0 : Int) > 1) then
            Q (.tuple #[.int .u64 0, .int .i64 0, .int .i64 41]) h_0
          else
            0 ≤ ((IntKind.wrap .i64 (7 * s0.2)) : Int) ∧
            (bif decide ((c0 : Int) < 128) then
              Q (.tuple #[.int .u64 (bitsI .or .u64 s0.1 (shlI .u64 (IntKind.wrap .u64 (bitsI .and .u8 c0 127)) (IntKind.wrap .i64 (7 * s0.2)))), .int .i64 (IntKind.wrap .i64 (s0.2 + 1)), .int .i64 0]) h_0
            else
              again0 (bitsI .or .u64 s0.1 (shlI .u64 (IntKind.wrap .u64 (bitsI .and .u8 c0 127)) (IntKind.wrap .i64 (7 * s0.2))), IntKind.wrap .i64 (s0.2 + 1)) h_0))
        else
          (bif decide ((s0.2 : Int) > 0) then
            (bif (c0 : Int) == 0 then
              Q (.tuple #[.int .u64 0, .int .i64 0, .int .i64 41]) h_0
            else
              0 ≤ ((IntKind.wrap .i64 (7 * s0.2)) : Int) ∧
              (bif decide ((c0 : Int) < 128) then
                Q (.tuple #[.int .u64 (bitsI .or .u64 s0.1 (shlI .u64 (IntKind.wrap .u64 (bitsI .and .u8 c0 127)) (IntKind.wrap .i64 (7 * s0.2)))), .int .i64 (IntKind.wrap .i64 (s0.2 + 1)), .int .i64 0]) h_0
              else
                again0 (bitsI .or .u64 s0.1 (shlI .u64 (IntKind.wrap .u64 (bitsI .and .u8 c0 127)) (IntKind.wrap .i64 (7 * s0.2))), IntKind.wrap .i64 (s0.2 + 1)) h_0))
          else
            0 ≤ ((IntKind.wrap .i64 (7 * s0.2)) : Int) ∧
            (bif decide ((c0 : Int) < 128) then
              Q (.tuple #[.int .u64 (bitsI .or .u64 s0.1 (shlI .u64 (IntKind.wrap .u64 (bitsI .and .u8 c0 127)) (IntKind.wrap .i64 (7 * s0.2)))), .int .i64 (IntKind.wrap .i64 (s0.2 + 1)), .int .i64 0]) h_0
            else
              again0 (bitsI .or .u64 s0.1 (shlI .u64 (IntKind.wrap .u64 (bitsI .and .u8 c0 127)) (IntKind.wrap .i64 (7 * s0.2))), IntKind.wrap .i64 (s0.2 + 1)) h_0)))
      else
        (bif decide ((s0.2 : Int) > 0) then
          (bif (c0 : Int) == 0 then
            Q (.tuple #[.int .u64 0, .int .i64 0, .int .i64 41]) h_0
          else
            0 ≤ ((IntKind.wrap .i64 (7 * s0.2)) : Int) ∧
            (bif decide ((c0 : Int) < 128) then
              Q (.tuple #[.int .u64 (bitsI .or .u64 s0.1 (shlI .u64 (IntKind.wrap .u64 (bitsI .and .u8 c0 127)) (IntKind.wrap .i64 (7 * s0.2)))), .int .i64 (IntKind.wrap .i64 (s0.2 + 1)), .int .i64 0]) h_0
            else
              again0 (bitsI .or .u64 s0.1 (shlI .u64 (IntKind.wrap .u64 (bitsI .and .u8 c0 127)) (IntKind.wrap .i64 (7 * s0.2))), IntKind.wrap .i64 (s0.2 + 1)) h_0))
        else
          0 ≤ ((IntKind.wrap .i64 (7 * s0.2)) : Int) ∧
          (bif decide ((c0 : Int) < 128) then
            Q (.tuple #[.int .u64 (bitsI .or .u64 s0.1 (shlI .u64 (IntKind.wrap .u64 (bitsI .and .u8 c0 127)) (IntKind.wrap .i64 (7 * s0.2)))), .int .i64 (IntKind.wrap .i64 (s0.2 + 1)), .int .i64 0]) h_0
          else
            again0 (bitsI .or .u64 s0.1 (shlI .u64 (IntKind.wrap .u64 (bitsI .and .u8 c0 127)) (IntKind.wrap .i64 (7 * s0.2))), IntKind.wrap .i64 (s0.2 + 1)) h_0)))
    else
      Q (.tuple #[.int .u64 0, .int .i64 0, .int .i64 41]) h_0)) (0, 0) h
theorem F205_eq : (fun (b0a : Option Addr) (b0l : Nat) (b0c : Nat) (h : Heap) (Q : Value → Heap → Prop) => fnPT Tryz.prog Tryz.f205 (fun i => bif Nat.beq i 0 then annCons 5 (codI .u64) (annOne 10 (codI .i64)) else annNil) (fun _ => []) (fun _ => none) [.slice b0a b0l b0c] h Q) = F205 := by kernel_rfl
theorem F205_ok {b0a : Option Addr} {b0l : Nat} {b0c : Nat} {h : Heap} {Q : Value → Heap → Prop} (H : F205 b0a b0l b0c h Q) : CallsH Tryz.prog 205 [.slice b0a b0l b0c] h Q :=
  callsH_of (ann := fun i => bif Nat.beq i 0 then annCons 5 (codI .u64) (annOne 10 (codI .i64)) else annNil) (tys := fun _ => []) (pl := fun _ => none) Tryz.func205 (by kernel_rfl) (by have e := F205_eq; exact (congrFun (congrFun (congrFun (congrFun (congrFun (e) b0a) b0l) b0c) h) Q).symm ▸ H)

end Go.Proofs.YticjjdhaikbdaaaGreat
