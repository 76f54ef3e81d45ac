/- The texts over heaps of functions of the program: written by a program of this claim's writer (decomp.py); Lean checks each against the code. -/
import Derived.Test.YtibdiikcigokjaaGreatDoorKsFwA
import Derived.Test.YtibdiikcigokjaaGreatDoorProg
namespace Go.Proofs.YtibdiikcigokjaaGreatDoor
open Go Go.RowKit
set_option linter.unusedVariables false
set_option maxRecDepth 100000
def F35 (n0 : Int) (h : Heap) (Q : QP) : Prop := Al h (.cells #[.int .u8 0, .int .u8 0, .int .u8 0, .int .u8 0, .int .u8 0, .int .u8 0, .int .u8 0, .int .u8 0, .int .u8 0, .int .u8 0, .int .u8 0, .int .u8 0, .int .u8 0, .int .u8 0, .int .u8 0, .int .u8 0] 200) fun b0 h_0 => LoopH (fun again0 (s0 : Int) h_1 => (bif decide ((s0 : Int) < 16) then 0 ≤ ((IntKind.wrap .i64 (60 - (IntKind.wrap .i64 (4 * s0)))) : Int) ∧ 0 ≤ (bitsI .and .u64 (shrI .u64 (IntKind.wrap .u64 n0) (IntKind.wrap .i64 (60 - (IntKind.wrap .i64 (4 * s0))))) 15 : Int) ∧ (bitsI .and .u64 (shrI .u64 (IntKind.wrap .u64 n0) (IntKind.wrap .i64 (60 - (IntKind.wrap .i64 (4 * s0))))) 15 : Int) < ((⟨#[48, 49, 50, 51, 52, 53, 54, 55, 56, 57, 97, 98, 99, 100, 101, 102]⟩ : ByteArray).size : Int) ∧ 0 ≤ (s0 : Int) ∧ (s0 : Int) < 16 ∧ StC h_1 (((Addr.mk b0 0 none).add ((s0 : Int).toNat * 1)).add 0) (.int .u8 (bt ⟨#[48, 49, 50, 51, 52, 53, 54, 55, 56, 57, 97, 98, 99, 100, 101, 102]⟩ (bitsI .and .u64 (shrI .u64 (IntKind.wrap .u64 n0) (IntKind.wrap .i64 (60 - (IntKind.wrap .i64 (4 * s0))))) 15))) fun h_3 => again0 (IntKind.wrap .i64 (s0 + 1)) h_3 else ∃ bs0 : ByteArray, BytesIn h_1 (some (Addr.mk b0 0 none)) 16 bs0 ∧ Q (.string bs0) h_1)) 0 h_0
theorem F35_ok : K1 Tryz.prog F35 35 fun n0 => [.int .i64 n0] :=
 o1 (fun i => bif Nat.beq i 0 then annOne 5 (codI .i64) else annNil) nT nP Tryz.func35 (by kernel_rfl) (by kernel_rfl)
end Go.Proofs.YtibdiikcigokjaaGreatDoor
