/- Fold, the part behind the loop: from the pairs on. -/
import Derived.Test.YticjjdhaikbdaaaGreatMkMtB
import Derived.Test.YticjjdhaikbdaaaGreatMkMt5
namespace Go.Proofs.YticjjdhaikbdaaaGreat
open Go Go.RowKit Go.MapKept
set_option linter.unusedVariables false
set_option linter.unusedSimpArgs false
open AF (Meta copyT topT nmI Ent)
open Hex (digs)

theorem exi_in {α : Sort _} {A : α → HProp} {l : List HProp} {h : Heap} (x : α) (H : sat (A x :: l) h) : sat (exi A :: l) h := sat_exi.2 ⟨x, H⟩
def foldA (l_0 : Option Addr) (b1 b2 D : Nat) (h_22 : Heap) (Q : Value → Heap → Prop) : Prop :=
  Ld h_22 (Addr.mk b2 0 none) fun v9 => DSl v9 fun x16a x16l x16c =>
                  CallsH Tryz.prog 96 [.slice x16a x16l x16c] h_22 fun r16 h_23 =>
                  ∃ (x17a : Option Addr), ∃ (x17l : Nat), ∃ (x17c : Nat), ∃ (x18 : Int), r16 = .tuple #[.slice x17a x17l x17c, .int .i64 x18] ∧
                  (bif (x18 : Int) != 0 then
                    h_23[D]? = some (.deferred (some [])) ∧
                    Q (.int .i64 x18) (h_23.setIfInBounds D (.deferred none))
                  else
                    NN' l_0 fun a2 =>
                    Ld h_23 (a2.add 0) fun v10 => DP v10 fun x19 =>
                    NN' l_0 fun a3 =>
                    Ld h_23 (a3.add 1) fun v11 => DS v11 fun x20 =>
                    Ld h_23 (Addr.mk b1 0 none) fun v12 => DI .i64 v12 fun x21 =>
                    CallsH Tryz.prog 44 [.int .i64 x21] h_23 fun r17 h_24 =>
                    DS r17 fun x22 =>
                    (SameV (some (.pointer l_0)) (.pointer l_0)) ∧
                    (NN' l_0 fun a4 =>
                    SameV (some (.pointer (some a2))) (.pointer (some a4))) ∧
                    (SameV (some (.pointer (some (a2.add 0)))) (.pointer (some (a2.add 0)))) ∧
                    (Ld h_24 (a2.add 0) fun v13 => DP v13 fun x23 =>
                    SameV (some (.pointer x19)) (.pointer x23)) ∧
                    (SameV (some (.pointer l_0)) (.pointer l_0)) ∧
                    (NN' l_0 fun a5 =>
                    SameV (some (.pointer (some a3))) (.pointer (some a5))) ∧
                    (SameV (some (.pointer (some (a3.add 1)))) (.pointer (some (a3.add 1)))) ∧
                    (Ld h_24 (a3.add 1) fun v14 => DS v14 fun x24 =>
                    SameV (some (.string x20)) (.string x24)) ∧
                    (SameV (some (.slice x17a x17l x17c)) (.slice x17a x17l x17c)) ∧
                    (⟨#[102, 46]⟩ : ByteArray).size + (x22 : ByteArray).size ≤ 9223372036854775807 ∧
                    CallsH Tryz.prog 13 [.pointer x19, .string x20, .string (⟨#[102, 46]⟩ ++ x22), .slice x17a x17l x17c] h_24 fun r18 h_25 =>
                    DI .i64 r18 fun e0 =>
                    (bif (e0 : Int) != 0 then
                      h_25[D]? = some (.deferred (some [])) ∧
                      Q (.int .i64 e0) (h_25.setIfInBounds D (.deferred none))
                    else
                      Al h_25 (.map #[] 0) fun b4 h_26 =>
                      CallsH Tryz.prog 95 [.pointer l_0] h_26 fun r20 h_27 =>
                      DM r20 fun x25 =>
                      RunH Tryz.prog (Instr.range 129 (.map x25)) h_27 fun r21 h_28 =>
                      DP r21 fun p1 =>
                      LoopH (fun again1 (s1 : Unit) h_29 =>
                        RunH Tryz.prog (Instr.next (.pointer p1) false 0) h_29 fun r22 h_30 =>
                        (
                          r22 = .tuple #[.bool false] ∧
                          NN' l_0 fun a6 =>
                          Ld h_30 (a6.add 3) fun v15 => DM v15 fun x27 =>
                          Ld h_30 (Addr.mk b1 0 none) fun v16 => DI .i64 v16 fun x28 =>
                          RunH Tryz.prog (Instr.mapEntry 131 (.map x27) (.int .i64 x28)) h_30 fun r23 h_31 =>
                          ∃ (x29 : Value), ∃ (x30 : Int), r23 = .tuple #[x29, .int .i64 x30] ∧
                          (SameV (some (.pointer l_0)) (.pointer l_0)) ∧
                          (SameV (some (.map (some b4))) (.map (some b4))) ∧
                          RunU Tryz.prog (Instr.entryStore 131 (.map x27) (.int .i64 x30) (.bool true)) h_31 fun h_32 =>
                          (SameV (some (.pointer l_0)) (.pointer l_0)) ∧
                          (SameV (some (.map (some b4))) (.map (some b4))) ∧
                          NN' l_0 fun a7 =>
                          StC h_32 ((a7.add 4).add 0) (.map (some b4)) fun h_34 =>
                          CallsH Tryz.prog 97 [.pointer l_0, .func (.func 98) #[] #[.pointer (some (Addr.mk b1 0 none))]] h_34 fun r26 h_35 =>
                          DI .i64 r26 fun x31 =>
                          h_35[D]? = some (.deferred (some [])) ∧
                          Q (.int .i64 x31) (h_35.setIfInBounds D (.deferred none))) ∨ (
                          ∃ (k1 x26 : Value), r22 = .tuple #[.bool true, k1, x26] ∧
                          RunH Tryz.prog (Instr.entry (.pointer p1)) h_30 fun r27 h_36 =>
                          ∃ (x32 : Int), ∃ (x33a : Option Addr), ∃ (x33l : Nat), ∃ (x33c : Nat), r27 = .tuple #[.int .i64 x32, .slice x33a x33l x33c] ∧
                          Ld h_36 (Addr.mk b1 0 none) fun v17 => DI .i64 v17 fun x34 =>
                          (bif decide ((x32 : Int) ≤ x34) then
                            RunU Tryz.prog (Instr.mapUpdate 129 (.map (some b4)) (.int .i64 x32) (.slice x33a x33l x33c)) h_36 fun h_37 =>
                            again1 () h_37
                          else
                            again1 () h_36))) () h_28))

def foldB (l_0 : Option Addr) (b1 b2 D : Nat) (h_18 : Heap) (Q : Value → Heap → Prop) : Prop :=
  Ld h_18 (Addr.mk b1 0 none) fun v4 => DI .i64 v4 fun x9 =>
        (bif decide ((x9 : Int) < 0) then
          h_18[D]? = some (.deferred (some [])) ∧
          Q (.int .i64 91) (h_18.setIfInBounds D (.deferred none))
        else
          Ld h_18 (Addr.mk b1 0 none) fun v5 => DI .i64 v5 fun x10 =>
          CallsH Tryz.prog 89 [.pointer l_0] h_18 fun r13 h_19 =>
          DI .i64 r13 fun x11 =>
          (Ld h_19 (Addr.mk b1 0 none) fun v6 => DI .i64 v6 fun x12 =>
          SameV (some (.int .i64 x10)) (.int .i64 x12)) ∧
          (bif (x11 : Int) == x10 then
            NN' l_0 fun a0 =>
            Ld h_19 (a0.add 3) fun v7 => DM v7 fun x13 =>
            ∃ es0, mapEs h_19 x13 es0 ∧
            NN' l_0 fun a1 =>
            Ld h_19 (a1.add 2) fun v8 => DM v8 fun x14 =>
            RunH Tryz.prog (Instr.range 129 (.map x14)) h_19 fun r14 h_20 =>
            DP r14 fun p0 =>
            LoopH (fun again0 (s0 : Bool) h_21 =>
              RunH Tryz.prog (Instr.next (.pointer p0) false 0) h_21 fun r15 h_22 =>
              (
                r15 = .tuple #[.bool false] ∧
                (bif s0 then
                  h_22[D]? = some (.deferred (some [])) ∧
                  Q (.int .i64 0) (h_22.setIfInBounds D (.deferred none))
                else
                  Ld h_22 (Addr.mk b2 0 none) fun v9 => DSl v9 fun x16a x16l x16c =>
                  CallsH Tryz.prog 96 [.slice x16a x16l x16c] h_22 fun r16 h_23 =>
                  ∃ (x17a : Option Addr), ∃ (x17l : Nat), ∃ (x17c : Nat), ∃ (x18 : Int), r16 = .tuple #[.slice x17a x17l x17c, .int .i64 x18] ∧
                  (bif (x18 : Int) != 0 then
                    h_23[D]? = some (.deferred (some [])) ∧
                    Q (.int .i64 x18) (h_23.setIfInBounds D (.deferred none))
                  else
                    NN' l_0 fun a2 =>
                    Ld h_23 (a2.add 0) fun v10 => DP v10 fun x19 =>
                    NN' l_0 fun a3 =>
                    Ld h_23 (a3.add 1) fun v11 => DS v11 fun x20 =>
                    Ld h_23 (Addr.mk b1 0 none) fun v12 => DI .i64 v12 fun x21 =>
                    CallsH Tryz.prog 44 [.int .i64 x21] h_23 fun r17 h_24 =>
                    DS r17 fun x22 =>
                    (SameV (some (.pointer l_0)) (.pointer l_0)) ∧
                    (NN' l_0 fun a4 =>
                    SameV (some (.pointer (some a2))) (.pointer (some a4))) ∧
                    (SameV (some (.pointer (some (a2.add 0)))) (.pointer (some (a2.add 0)))) ∧
                    (Ld h_24 (a2.add 0) fun v13 => DP v13 fun x23 =>
                    SameV (some (.pointer x19)) (.pointer x23)) ∧
                    (SameV (some (.pointer l_0)) (.pointer l_0)) ∧
                    (NN' l_0 fun a5 =>
                    SameV (some (.pointer (some a3))) (.pointer (some a5))) ∧
                    (SameV (some (.pointer (some (a3.add 1)))) (.pointer (some (a3.add 1)))) ∧
                    (Ld h_24 (a3.add 1) fun v14 => DS v14 fun x24 =>
                    SameV (some (.string x20)) (.string x24)) ∧
                    (SameV (some (.slice x17a x17l x17c)) (.slice x17a x17l x17c)) ∧
                    (⟨#[102, 46]⟩ : ByteArray).size + (x22 : ByteArray).size ≤ 9223372036854775807 ∧
                    CallsH Tryz.prog 13 [.pointer x19, .string x20, .string (⟨#[102, 46]⟩ ++ x22), .slice x17a x17l x17c] h_24 fun r18 h_25 =>
                    DI .i64 r18 fun e0 =>
                    (bif (e0 : Int) != 0 then
                      h_25[D]? = some (.deferred (some [])) ∧
                      Q (.int .i64 e0) (h_25.setIfInBounds D (.deferred none))
                    else
                      Al h_25 (.map #[] 0) fun b4 h_26 =>
                      CallsH Tryz.prog 95 [.pointer l_0] h_26 fun r20 h_27 =>
                      DM r20 fun x25 =>
                      RunH Tryz.prog (Instr.range 129 (.map x25)) h_27 fun r21 h_28 =>
                      DP r21 fun p1 =>
                      LoopH (fun again1 (s1 : Unit) h_29 =>
                        RunH Tryz.prog (Instr.next (.pointer p1) false 0) h_29 fun r22 h_30 =>
                        (
                          r22 = .tuple #[.bool false] ∧
                          NN' l_0 fun a6 =>
                          Ld h_30 (a6.add 3) fun v15 => DM v15 fun x27 =>
                          Ld h_30 (Addr.mk b1 0 none) fun v16 => DI .i64 v16 fun x28 =>
                          RunH Tryz.prog (Instr.mapEntry 131 (.map x27) (.int .i64 x28)) h_30 fun r23 h_31 =>
                          ∃ (x29 : Value), ∃ (x30 : Int), r23 = .tuple #[x29, .int .i64 x30] ∧
                          (SameV (some (.pointer l_0)) (.pointer l_0)) ∧
                          (SameV (some (.map (some b4))) (.map (some b4))) ∧
                          RunU Tryz.prog (Instr.entryStore 131 (.map x27) (.int .i64 x30) (.bool true)) h_31 fun h_32 =>
                          (SameV (some (.pointer l_0)) (.pointer l_0)) ∧
                          (SameV (some (.map (some b4))) (.map (some b4))) ∧
                          NN' l_0 fun a7 =>
                          StC h_32 ((a7.add 4).add 0) (.map (some b4)) fun h_34 =>
                          CallsH Tryz.prog 97 [.pointer l_0, .func (.func 98) #[] #[.pointer (some (Addr.mk b1 0 none))]] h_34 fun r26 h_35 =>
                          DI .i64 r26 fun x31 =>
                          h_35[D]? = some (.deferred (some [])) ∧
                          Q (.int .i64 x31) (h_35.setIfInBounds D (.deferred none))) ∨ (
                          ∃ (k1 x26 : Value), r22 = .tuple #[.bool true, k1, x26] ∧
                          RunH Tryz.prog (Instr.entry (.pointer p1)) h_30 fun r27 h_36 =>
                          ∃ (x32 : Int), ∃ (x33a : Option Addr), ∃ (x33l : Nat), ∃ (x33c : Nat), r27 = .tuple #[.int .i64 x32, .slice x33a x33l x33c] ∧
                          Ld h_36 (Addr.mk b1 0 none) fun v17 => DI .i64 v17 fun x34 =>
                          (bif decide ((x32 : Int) ≤ x34) then
                            RunU Tryz.prog (Instr.mapUpdate 129 (.map (some b4)) (.int .i64 x32) (.slice x33a x33l x33c)) h_36 fun h_37 =>
                            again1 () h_37
                          else
                            again1 () h_36))) () h_28)))) ∨ (
                ∃ (k0 x15 : Value), r15 = .tuple #[.bool true, k0, x15] ∧
                RunH Tryz.prog (Instr.entry (.pointer p0)) h_22 fun r29 h_38 =>
                ∃ (x35 : Int), ∃ (x36 : Value), r29 = .tuple #[.int .i64 x35, x36] ∧
                (bif s0 then
                  Ld h_38 (Addr.mk b1 0 none) fun v18 => DI .i64 v18 fun x37 =>
                  again0 (decide ((x35 : Int) > x37)) h_38
                else
                  again0 false h_38))) ((((es0 : Array MapEntry).size : Int) : Int) == 1) h_20
          else
            NN' l_0 fun a8 =>
            Ld h_19 (a8.add 2) fun v19 => DM v19 fun x38 =>
            RunH Tryz.prog (Instr.range 129 (.map x38)) h_19 fun r30 h_39 =>
            DP r30 fun p2 =>
            LoopH (fun again2 (s2 : Bool) h_40 =>
              RunH Tryz.prog (Instr.next (.pointer p2) false 0) h_40 fun r31 h_41 =>
              (
                r31 = .tuple #[.bool false] ∧
                (bif s2 then
                  h_41[D]? = some (.deferred (some [])) ∧
                  Q (.int .i64 0) (h_41.setIfInBounds D (.deferred none))
                else
                  Ld h_41 (Addr.mk b2 0 none) fun v20 => DSl v20 fun x40a x40l x40c =>
                  CallsH Tryz.prog 96 [.slice x40a x40l x40c] h_41 fun r32 h_42 =>
                  ∃ (x41a : Option Addr), ∃ (x41l : Nat), ∃ (x41c : Nat), ∃ (x42 : Int), r32 = .tuple #[.slice x41a x41l x41c, .int .i64 x42] ∧
                  (bif (x42 : Int) != 0 then
                    h_42[D]? = some (.deferred (some [])) ∧
                    Q (.int .i64 x42) (h_42.setIfInBounds D (.deferred none))
                  else
                    NN' l_0 fun a9 =>
                    Ld h_42 (a9.add 0) fun v21 => DP v21 fun x43 =>
                    NN' l_0 fun a10 =>
                    Ld h_42 (a10.add 1) fun v22 => DS v22 fun x44 =>
                    Ld h_42 (Addr.mk b1 0 none) fun v23 => DI .i64 v23 fun x45 =>
                    CallsH Tryz.prog 44 [.int .i64 x45] h_42 fun r33 h_43 =>
                    DS r33 fun x46 =>
                    (SameV (some (.pointer l_0)) (.pointer l_0)) ∧
                    (NN' l_0 fun a11 =>
                    SameV (some (.pointer (some a9))) (.pointer (some a11))) ∧
                    (SameV (some (.pointer (some (a9.add 0)))) (.pointer (some (a9.add 0)))) ∧
                    (Ld h_43 (a9.add 0) fun v24 => DP v24 fun x47 =>
                    SameV (some (.pointer x43)) (.pointer x47)) ∧
                    (SameV (some (.pointer l_0)) (.pointer l_0)) ∧
                    (NN' l_0 fun a12 =>
                    SameV (some (.pointer (some a10))) (.pointer (some a12))) ∧
                    (SameV (some (.pointer (some (a10.add 1)))) (.pointer (some (a10.add 1)))) ∧
                    (Ld h_43 (a10.add 1) fun v25 => DS v25 fun x48 =>
                    SameV (some (.string x44)) (.string x48)) ∧
                    (SameV (some (.slice x41a x41l x41c)) (.slice x41a x41l x41c)) ∧
                    (⟨#[102, 46]⟩ : ByteArray).size + (x46 : ByteArray).size ≤ 9223372036854775807 ∧
                    CallsH Tryz.prog 13 [.pointer x43, .string x44, .string (⟨#[102, 46]⟩ ++ x46), .slice x41a x41l x41c] h_43 fun r34 h_44 =>
                    DI .i64 r34 fun e1 =>
                    (bif (e1 : Int) != 0 then
                      h_44[D]? = some (.deferred (some [])) ∧
                      Q (.int .i64 e1) (h_44.setIfInBounds D (.deferred none))
                    else
                      Al h_44 (.map #[] 0) fun b5 h_45 =>
                      CallsH Tryz.prog 95 [.pointer l_0] h_45 fun r36 h_46 =>
                      DM r36 fun x49 =>
                      RunH Tryz.prog (Instr.range 129 (.map x49)) h_46 fun r37 h_47 =>
                      DP r37 fun p3 =>
                      LoopH (fun again3 (s3 : Unit) h_48 =>
                        RunH Tryz.prog (Instr.next (.pointer p3) false 0) h_48 fun r38 h_49 =>
                        (
                          r38 = .tuple #[.bool false] ∧
                          NN' l_0 fun a13 =>
                          Ld h_49 (a13.add 3) fun v26 => DM v26 fun x51 =>
                          Ld h_49 (Addr.mk b1 0 none) fun v27 => DI .i64 v27 fun x52 =>
                          RunH Tryz.prog (Instr.mapEntry 131 (.map x51) (.int .i64 x52)) h_49 fun r39 h_50 =>
                          ∃ (x53 : Value), ∃ (x54 : Int), r39 = .tuple #[x53, .int .i64 x54] ∧
                          (SameV (some (.pointer l_0)) (.pointer l_0)) ∧
                          (SameV (some (.map (some b5))) (.map (some b5))) ∧
                          RunU Tryz.prog (Instr.entryStore 131 (.map x51) (.int .i64 x54) (.bool true)) h_50 fun h_51 =>
                          (SameV (some (.pointer l_0)) (.pointer l_0)) ∧
                          (SameV (some (.map (some b5))) (.map (some b5))) ∧
                          NN' l_0 fun a14 =>
                          StC h_51 ((a14.add 4).add 0) (.map (some b5)) fun h_53 =>
                          CallsH Tryz.prog 97 [.pointer l_0, .func (.func 98) #[] #[.pointer (some (Addr.mk b1 0 none))]] h_53 fun r42 h_54 =>
                          DI .i64 r42 fun x55 =>
                          h_54[D]? = some (.deferred (some [])) ∧
                          Q (.int .i64 x55) (h_54.setIfInBounds D (.deferred none))) ∨ (
                          ∃ (k3 x50 : Value), r38 = .tuple #[.bool true, k3, x50] ∧
                          RunH Tryz.prog (Instr.entry (.pointer p3)) h_49 fun r43 h_55 =>
                          ∃ (x56 : Int), ∃ (x57a : Option Addr), ∃ (x57l : Nat), ∃ (x57c : Nat), r43 = .tuple #[.int .i64 x56, .slice x57a x57l x57c] ∧
                          Ld h_55 (Addr.mk b1 0 none) fun v28 => DI .i64 v28 fun x58 =>
                          (bif decide ((x56 : Int) ≤ x58) then
                            RunU Tryz.prog (Instr.mapUpdate 129 (.map (some b5)) (.int .i64 x56) (.slice x57a x57l x57c)) h_55 fun h_56 =>
                            again3 () h_56
                          else
                            again3 () h_55))) () h_47)))) ∨ (
                ∃ (k2 x39 : Value), r31 = .tuple #[.bool true, k2, x39] ∧
                RunH Tryz.prog (Instr.entry (.pointer p2)) h_41 fun r45 h_57 =>
                ∃ (x59 : Int), ∃ (x60 : Value), r45 = .tuple #[.int .i64 x59, x60] ∧
                (bif s2 then
                  Ld h_57 (Addr.mk b1 0 none) fun v29 => DI .i64 v29 fun x61 =>
                  again2 (decide ((x59 : Int) > x61)) h_57
                else
                  again2 false h_57))) false h_39))

def psE (E : Ent) : List (ByteArray × ByteArray) := E.map fun p => (AF.hexN p.1, ofN p.2)
theorem psE_pairs {E : Ent} (h : ∀ p ∈ E, B8 p.2) : pairsN (psE E) = AF.pairsE E := by
  unfold pairsN psE AF.pairsE
  congr 1
  rw [List.map_map]
  apply List.map_congr_left
  intro p hp
  simp only [Function.comp]
  rw [sb_ofN (h p hp)]
/-- A table's part up to a number. -/
def upTo (E : Ent) (m : Int) : Ent := E.filter fun p => decide (p.1 ≤ m)
theorem getT_upTo (E : Ent) (m k : Int) : getT (upTo E m) k = if k ≤ m then getT E k else none := by
  unfold upTo
  rw [getT_filter (fun n => decide (n ≤ m)) E k]
  simp
def foldR (M : Meta) (A : AF.FS) (last : Int) : AF.FS × Meta × Nat :=
  if 16777216 < (AF.pairsE (upTo M.entries last)).length then (A, M, 42) else
  if (A.put M.dir (nmI 102 last) (AF.pairsE (upTo M.entries last))).2 ≠ 0 then ((A.put M.dir (nmI 102 last) (AF.pairsE (upTo M.entries last))).1, M, (A.put M.dir (nmI 102 last) (AF.pairsE (upTo M.entries last))).2) else
  Meta.remove { M with Fo := setT last () M.Fo, D := upTo M.entries last } (A.put M.dir (nmI 102 last) (AF.pairsE (upTo M.entries last))).1
    fun c n => if c = 98 then decide (n ≤ last) else decide (n ≠ last)
section
variable {F : List HProp} {h : Heap} {b fsb : Nat} {M : Meta} {A : AF.FS}
theorem F98_call {b1 : Nat} {last : Int} {F' : List HProp} {h' : Heap} (c : Nat) (n : Int) (hc : c = 98 ∨ c = 102) (H : sat (pt b1 (.cells #[.int .i64 last] 2 (0, 0)) :: F') h') :
    CallV Tryz.prog (.func (.func 98) #[] #[ptrV b1]) [.int .u8 (c : Int), .int .i64 n] h' fun v h'' => v = .bool (if c = 98 then decide (n ≤ last) else decide (n ≠ last)) ∧ h'' = h' := by
  refine CallV_fn ?_
  apply F98_ok
  unfold F98
  rcases hc with rfl | rfl
  · rw [show ((((98 : Nat) : Int)) == 98) = true from rfl, cond_true]
    refine VIn H.get ?_
    by_cases h : n ≤ last
    · rw [decide_eq_true h, cond_true]
      exact ⟨rfl, rfl⟩
    · rw [decide_eq_false h, cond_false, show ((((98 : Nat) : Int)) == 102) = false from rfl, cond_false]
      exact ⟨rfl, rfl⟩
  · rw [show ((((102 : Nat) : Int)) == 98) = false from rfl, cond_false, show ((((102 : Nat) : Int)) == 102) = true from rfl, cond_true]
    refine VIn H.get ?_
    refine ⟨?_, rfl⟩
    rw [if_neg (by decide)]
    by_cases h : n = last
    · rw [decide_eq_false (fun hh => hh h), h]
      simp
    · rw [decide_eq_true h]
      simp [h]
set_option maxHeartbeats 1000000 in
theorem foldA_spec {b1 b2 D : Nat} {last : Int} {pa : Option Addr} {pc : Nat} {Q : Value → Heap → Prop} (W : A.WF) (hs : A.steps + M.S.length + M.Fo.length + 30 < 1099511627776) (hd : M.dir.size < 4611686018427387904)
    (hE : ∀ p ∈ M.entries, B8 p.2 ∧ p.2.length ≤ 1000000000) (hEl : M.entries.length < 1000000000) (hsz : (AF.pairsE (upTo M.entries last)).length ≤ 1099511627776)
    (H : sat (pt b1 (.cells #[.int .i64 last] 2 (0, 0)) :: pt b2 (.cells #[.slice pa (upTo M.entries last).length pc] 144 (0, 0)) :: ownS 146 2 pa (upTo M.entries last).length pc ((psE (upTo M.entries last)).flatMap pairC) :: markD D :: logM b fsb M :: fsP fsb A :: F) h)
    (hQ : ∀ v h', Came b fsb A (M.S.length + M.Fo.length + 10) (foldR M A last) F v h' → Q v h') : foldA (some ⟨b, 0, none⟩) b1 b2 D h Q := by
  unfold foldA
  generalize hU : upTo M.entries last = U at *
  have hUm : ∀ p ∈ U, p ∈ M.entries := fun p hp => by rw [← hU] at hp; exact (List.mem_filter.1 hp).1
  have hUl : U.length < 1000000000 := by
    have : (upTo M.entries last).length ≤ M.entries.length := List.length_filter_le _ _
    rw [hU] at this
    omega
  have hpU : pairsN (psE U) = AF.pairsE U := psE_pairs fun p hp => (hE p (hUm p hp)).1
  have hplen : (psE U).length = U.length := List.length_map _
  refine VSl (H.mv 1).get ?_
  have hr : ∀ h', sat (pt b1 (.cells #[.int .i64 last] 2 (0, 0)) :: pt b2 (.cells #[.slice pa U.length pc] 144 (0, 0)) :: ownS 146 2 pa U.length pc ((psE U).flatMap pairC) :: markD D :: logM b fsb M :: fsP fsb A :: F) h' → RdC h' pa ((psE U).flatMap pairC) := fun h' hh => ownS_read (hh.mv 2)
  refine (F96_spec hr hplen (by omega) (fun p hp => ?_) (by rw [hpU]; exact hsz) H).mono ?_
  · obtain ⟨q, hq, rfl⟩ := List.mem_map.1 hp
    have h1 := hE q (hUm q hq)
    have h2 : (ofN q.2).size = q.2.length := by rw [← sb_length, sb_ofN h1.1]
    have h3 := AF.hexN_length q.1
    rw [sb_length] at h3
    exact ⟨by simp only []; omega, by simp only []; omega⟩
  rw [hpU]
  rintro v h1 (⟨hbig, rfl, H1⟩ | ⟨hbig, a, c, rfl, H1⟩)
  · refine ⟨none, 0, 0, 42, rfl, ?_⟩
    rw [show ((42 : Int) != 0) = true from rfl, cond_true]
    refine ⟨(H1.mv 3).get, hQ _ _ ?_⟩
    have H2 := (H1.mv 3).set (.deferred none)
    unfold foldR
    rw [hU, if_pos hbig]
    exact ⟨rfl, W, Nat.le_add_right _ _, H2.ordT 6 [4, 5]⟩
  refine ⟨a, _, c, 0, rfl, ?_⟩
  rw [show ((0 : Int) != 0) = false from rfl, cond_false, NN'_some]
  -- bytes, b1, b2, own, D, log, fs, F
  obtain ⟨ms, mf, mm, H2⟩ := logM_open (H1.mv 5)
  -- log, tS, tF, tD, bytes, b1, b2, own, D, fs, F
  refine LdPt (x := fsb) H2 rfl ?_
  rw [NN'_some]
  refine LdStr (x := M.dir) H2 rfl ?_
  refine VIn (H2.mv 5).get ?_
  refine (F44_spec (n := last) H2).mono ?_
  rintro v h2 ⟨rfl, H3⟩
  rw [DS_string]
  refine ⟨rfl, rfl, rfl, LdPt (x := fsb) H3 rfl rfl, rfl, rfl, rfl, LdStr (x := M.dir) H3 rfl rfl, rfl, ?_, ?_⟩
  · have := size_nmI 102 last
    rw [show (nmI 102 last).size = ((⟨#[102, 46]⟩ : ByteArray) ++ ofN (digs 16 (natOf last))).size from rfl, ByteArray.size_append] at this
    omega
  have hrb : ∀ h', sat (pt b (.cells (logC5 fsb M.dir ms mf mm) 133 (0, 0)) :: tabM Bs ms M.S :: tabM Bb mf M.Fo :: tabM Bs mm M.D :: ownS 5 1 a (AF.pairsE U).length c ((AF.pairsE U).map nv) :: pt b1 (.cells #[.int .i64 last] 2 (0, 0)) :: pt b2 (.cells #[.slice pa U.length pc] 144 (0, 0)) :: ownS 146 2 pa U.length pc ((psE U).flatMap pairC) :: markD D :: F) h' → RdC h' a ((AF.pairsE U).map nv) := fun h' hh => ownS_read (hh.mv 4)
  refine (F13_spec (bs := AF.pairsE U) (name := nmI 102 last) W (by omega) hd (by rw [size_nmI]; decide) hrb (AF.pairsE_B8 fun p hp => (hE p (hUm p hp)).1) rfl (by omega) (H3.mv 9)).mono ?_
  rintro v h3 ⟨rfl, W3, hs3, H4⟩
  rw [DI_int]
  -- fs, log, tS, tF, tD, bytes, b1, b2, own, D, F
  by_cases he0 : (A.put M.dir (nmI 102 last) (AF.pairsE U)).2 ≠ 0
  · have he := he0
    rw [err_bne he, cond_true]
    refine ⟨(H4.mv 9).get, hQ _ _ ?_⟩
    have H5 := (H4.mv 9).set (.deferred none)
    unfold foldR
    rw [hU, if_neg (by omega), if_pos he]
    refine ⟨rfl, W3, by simp only []; omega, ?_⟩
    exact logM_shut (H5.ordT 10 [2, 3, 4, 5, 1])
  have he : (A.put M.dir (nmI 102 last) (AF.pairsE U)).2 = 0 := by omega
  rw [he, show (((0 : Nat) : Int) != 0) = false from rfl, cond_false]
  refine Al_sat H4 fun b4 h4 H5 => ?_
  have H6 := tabM_new (R := Bs) H5
  -- b4, fs, log, tS, tF, tD, bytes, b1, b2, own, D, F
  have H7 : sat (logM b fsb M :: tabM Bs b4 [] :: fsP fsb (A.put M.dir (nmI 102 last) (AF.pairsE U)).1 :: pt b1 (.cells #[.int .i64 last] 2 (0, 0)) :: markD D :: F) h4 := logM_shut (H6.ordT 11 [2, 3, 4, 5, 0, 1, 7, 10])
  refine (F95_spec H7).mono ?_
  rintro v h5 ⟨eb, rfl, H8⟩
  rw [DM_map]
  obtain ⟨m, H9⟩ := tabM_open H8
  obtain ⟨es, clock, hm, H10⟩ := ownM_open H9
  have I := roP_get (H10.mv 1)
  have hSu := I.up
  have hperm := I.perm hm.nodup
  refine range_sat (k := 2) (e := 40) (by kernel_rfl) H10 H10.get fun r h6 H11 => ?_
  rw [DP_pointer]
  -- r, eb, TabIs, log, b4, fs, b1, D, F
  generalize hA1 : (A.put M.dir (nmI 102 last) (AF.pairsE U)).1 = A1 at *
  refine mapLoopI (mb := eb) hm (fun _ => ()) (G := fun done => [exi fun T' : Ent => Many [pur (∀ k, getT T' k = if k ∈ done.map (·.1) ∧ k ≤ last then getT M.entries k else none), tabM Bs b4 T'], roP (TabIs Bs m M.entries), pt b1 (.cells #[.int .i64 last] 2 (0, 0)), logM b fsb M, fsP fsb A1, markD D] ++ F) ?_ ?_ ?_
  · have H12 := H11.ordT 8 [4, 0, 1, 2, 6, 3, 5, 7]
    have P : ∀ k, getT ([] : Ent) k = if k ∈ ([] : List (Int × Value)).map (·.1) ∧ k ≤ last then getT M.entries k else none := fun k => by simp [getT]
    have H13 := exi_in (A := fun T' : Ent => Many [pur (∀ k, getT T' k = if k ∈ ([] : List (Int × Value)).map (·.1) ∧ k ≤ last then getT M.entries k else none), tabM Bs b4 T']) [] (sat.shut (m := [_, _]) (sat_pur.2 ⟨P, H12⟩))
    exact H13.bk 2
  · intro done h7 hp H12
    obtain ⟨T', H13⟩ := sat_exi.1 (H12.mv 1)
    obtain ⟨hk, H14⟩ := sat_pur.1 H13.open
    have hT' := tabM_up H14
    have eT : T' = U := by
      refine tab_ext2 hT' (by rw [← hU]; exact filter_up hSu) fun k => ?_
      rw [hk, ← hU, getT_upTo]
      have h1 : k ∈ done.map (·.1) ↔ k ∈ M.entries.map (·.1) := (hp.map (·.1)).mem_iff.trans hperm.mem_iff
      by_cases hkl : k ≤ last
      · simp only [hkl, and_true, if_true]
        cases hg : getT M.entries k with
        | none => simp
        | some x => rw [if_pos (h1.2 (List.mem_map.2 ⟨_, getT_mem hg, rfl⟩))]
      · simp [hkl]
    subst eT
    -- b4, eb, TabIs, b1, log, fs, D, F
    rw [NN'_some]
    obtain ⟨ms, mf, mm, H15⟩ := logM_open (H14.mv 4)
    -- log, tS, tF, tD, b4, eb, TabIs, b1, fs, D, F
    refine LdMp (x := mf) H15 rfl ?_
    refine VIn (H15.mv 7).get ?_
    obtain ⟨fm, H16⟩ := tabM_open (H15.mv 2)
    -- f, TabIsF, log, tS, tD, b4, eb, TabIs, b1, fs, D, F
    refine mapEntry_sat (E := intKeys .i64) (k := last) (kt := 2) (et := 4) (by kernel_rfl) (by kernel_rfl) Tryz.zeroValue4 H16 fun v n es2 clock2 h8 hm2 hat H17 => ?_
    refine ⟨v, (n : Int), rfl, rfl, rfl, ?_⟩
    refine entryStore_sat hm2 hat H17 fun h9 H18 => ?_
    rw [updM_updM] at H18
    refine ⟨rfl, rfl, ?_⟩
    rw [NN'_some, addr_add0]
    have H19 : sat (tabM Bb mf (setT last () M.Fo) :: _) h9 := tabM_shut (m := updM fm last (.bool true)) ((roP_mono (fun _ hh => TabIs.set (x := ()) hh (show Bb () (.bool true) _ from rfl)) (H18.mv 1)).mv 1)
    -- tF, log, tS, tD, b4, eb, TabIs, b1, fs, D, F
    refine StCC (c' := logC5 fsb M.dir ms mf b4) (H19.mv 1) (show 4 < 5 by decide) rfl fun h10 H20 => ?_
    -- log, tF, tS, tD, b4, eb, TabIs, b1, fs, D, F
    have H21 : sat (logM b fsb { M with Fo := setT last () M.Fo, D := T' } :: fsP fsb A1 :: pt b1 (.cells #[.int .i64 last] 2 (0, 0)) :: markD D :: F) h10 := logM_shut (M := { M with Fo := setT last () M.Fo, D := T' }) (H20.ordT 10 [0, 2, 1, 4, 8, 7, 9])
    have hfl : (setT last () M.Fo).length ≤ M.Fo.length + 1 := (AF.setT_length _ _ _).1
    refine (F97_spec (M := { M with Fo := setT last () M.Fo, D := T' }) (A := A1) (p := fun c n => if c = 98 then decide (n ≤ last) else decide (n ≠ last)) (fun c n F' h' hc hh => F98_call c n hc hh) W3 (by simp only []; omega) hd H21).mono ?_
    rintro v h11 ⟨rfl, W4, hs4, H22⟩
    rw [DI_int]
    refine ⟨(H22.mv 3).get, hQ _ _ ?_⟩
    have H23 := (H22.mv 3).set (.deferred none)
    unfold foldR
    rw [hU, if_neg (by omega), he, if_neg (fun hh => hh rfl), hA1]
    refine ⟨rfl, W4, ?_, H23.ordT 4 [1, 2]⟩
    simp only [] at hs4 ⊢
    omega
  · rintro o done k v h7 again ⟨rest, hp⟩ H12 hag
    obtain ⟨T', H13⟩ := sat_exi.1 (H12.mv 2)
    obtain ⟨hk, H14⟩ := sat_pur.1 H13.open
    -- b4, r, eb, TabIs, b1, log, fs, D, F
    have hmem : (k, v) ∈ m := hp.mem_iff.1 (by simp)
    have H15 := roP_dup (H14.mv 3)
    have I2 := roP_get H15
    obtain ⟨x, hx, a, c, rfl, hR⟩ := I2.vals k v hmem
    refine ⟨k, a, x.length, c, rfl, ?_⟩
    refine VIn (H14.mv 4).get ?_
    have hgx := mem_getT hSu hx
    by_cases hkl : k ≤ last
    · rw [decide_eq_true hkl, cond_true]
      have H16 := roP_mono (S := Bs x (.slice a x.length c)) (fun h I => by
        obtain ⟨y, hy, hr⟩ := I.vals k _ hmem
        have : y = x := by
          have h1 := hgx
          rw [mem_getT hSu hy] at h1
          cases h1
          rfl
        rw [← this] at hr ⊢
        exact hr) H15
      -- Bs, TabIs, b4, r, eb, b1, log, fs, D, F
      refine tab_set (kt := 2) (et := 40) (x := x) (by kernel_rfl) (by kernel_rfl) (H16.ordT 9 [2, 0, 3, 4, 1, 5, 6, 7, 8]) fun h8 H17 => ?_
      refine hag h8 ?_
      have P : ∀ j, getT (setT k x T') j = if j ∈ (done ++ [(k, Value.slice a x.length c)]).map (·.1) ∧ j ≤ last then getT M.entries j else none := by
        intro j
        by_cases e : j = k
        · subst e
          rw [getT_set_self, if_pos ⟨by simp, hkl⟩, hgx]
        · have hm2 : j ∈ (done ++ [(k, Value.slice a x.length c)]).map (·.1) ↔ j ∈ done.map (·.1) := by
            rw [List.map_append, List.mem_append]
            exact ⟨fun h => h.elim id fun h => absurd (by simpa using h) e, .inl⟩
          rw [getT_set_ne _ (Ne.symm e), hk]
          simp only [hm2]
      have H18 := exi_in (A := fun T' : Ent => Many [pur (∀ j, getT T' j = if j ∈ (done ++ [(k, Value.slice a x.length c)]).map (·.1) ∧ j ≤ last then getT M.entries j else none), tabM Bs b4 T']) (setT k x T') (sat.shut (m := [_, _]) (sat_pur.2 ⟨P, H17⟩))
      exact H18.bk 2
    · rw [decide_eq_false hkl, cond_false]
      refine hag h7 ?_
      have P : ∀ j, getT T' j = if j ∈ (done ++ [(k, Value.slice a x.length c)]).map (·.1) ∧ j ≤ last then getT M.entries j else none := by
        intro j
        rw [hk]
        by_cases e : j = k
        · subst e
          simp [hkl]
        · have hm2 : j ∈ (done ++ [(k, Value.slice a x.length c)]).map (·.1) ↔ j ∈ done.map (·.1) := by
            rw [List.map_append, List.mem_append]
            exact ⟨fun h => h.elim id fun h => absurd (by simpa using h) e, .inl⟩
          simp only [hm2]
      have H18 := exi_in (A := fun T' : Ent => Many [pur (∀ j, getT T' j = if j ∈ (done ++ [(k, Value.slice a x.length c)]).map (·.1) ∧ j ≤ last then getT M.entries j else none), tabM Bs b4 T']) T' (sat.shut (m := [_, _]) (sat_pur.2 ⟨P, H14⟩))
      exact H18.bk 2
end

end Go.Proofs.YticjjdhaikbdaaaGreat
