/- The texts over heaps of functions of the program: written by a program of this claim's writer (decomp.py); Lean checks each against the code. -/
import Derived.Test.YtibdiikcigokjaaGreatPyFwA
import Derived.Test.YtibdiikcigokjaaGreatProg
namespace Go.Proofs.YtibdiikcigokjaaGreat
open Go.Builtin (append_)
open Go.IntKind (wrap)
open Go.Proofs.Tryz (prog)
open Go Go.RowKit
set_option linter.unusedVariables false
set_option maxRecDepth 100000
def Ml (f0:Option Addr) (dir0:ByteArray) (of_0a:Option Addr) (of_0l of_0c:Nat) (h:Heap) (Q:QP):Prop:=aC prog 192 [.string dir0] h fun r0 h_0=>DB r0 fun x0=>(bif !x0 then Q (.tuple #[.pointer none,.int .i64 65]) h_0 else aU (fun again0 (s0:Int) h_1=>(bif decide ((s0:Int)<(of_0l:Int)) then aM of_0a of_0l s0 1 fun a0=>Ld h_1 a0 fun v0=>DS v0 fun s1=>aC prog 192 [.string s1] h_1 fun r1 h_2=>DB r1 fun x1=>(bif !x1 then Q (.tuple #[.pointer none,.int .i64 65]) h_2 else again0 (wrap .i64 (s0+1)) h_2) else bf f0 fun a1=>Ld h_1 (a1.add 5) fun v1=>DM v1 fun x2=>∃ es0,dN h_1 x2 es0∧∃ f1,Instr.findNow .string (.string dir0) (es0:Array MapEntry).toList 0=some f1∧DP ((Option.map (fun x=>x.2) f1).getD (.pointer none)) fun d0=>(bif (d0).isNone then Q (.tuple #[.pointer none,.int .i64 61]) h_1 else Q (.tuple #[.pointer d0,.int .i64 0]) h_1))) 0 h_0)
theorem GJ:K5 prog Ml 145 fun f0 dir0 of_0a of_0l of_0c=>[.pointer f0,.string dir0,.slice of_0a of_0l of_0c]:=
 o5 (fun i=>bif Nat.beq i 0 then bh 16 (bN .i64) else aZ) nT nP Tryz.func145 (by kernel_rfl) (by kernel_rfl)
def GT (seq0:Value) (h:Heap) (Q:QP):Prop:=aC prog 184 [.slice none 0 0,seq0] h fun r0 h_0=>aX r0 fun x0a x0l x0c=>Q (.slice x0a x0l x0c) h_0
theorem uQ:K1 prog GT 129 fun seq0=>[seq0]:=
 o1 nA nT nP Tryz.func129 (by kernel_rfl) (by kernel_rfl)
def Ms (yield0:Value) (c0:Addr) (h:Heap) (Q:QP):Prop:=Ld h c0 fun v0=>DM v0 fun x0=>bi prog (Instr.range 129 (.map x0)) h fun r0 h_0=>DP r0 fun p0=>aU (fun again0 (s0:Unit) h_1=>bi prog (Instr.next (.pointer p0) false 0) h_1 fun r1 h_2=>( r1=.tuple #[.bool false]∧Q (.tuple #[]) h_2)∨( ∃ (k0 x1:Value),r1=.tuple #[.bool true,k0,x1]∧bi prog (Instr.entry (.pointer p0)) h_2 fun r2 h_3=>∃ x2 x3,r2=.tuple #[.string x2,x3]∧cK prog yield0 [.string x2] h_3 fun r3 h_4=>DB r3 fun x4=>(bif !x4 then Q (.tuple #[]) h_4 else again0 () h_4))) () h_0
theorem GS:K2 prog Ms 131 fun yield0 c0=>[yield0,.pointer (some c0)]:=
 o2 (fun i=>bif Nat.beq i 0 then aZ else aZ) (fun i=>bif Nat.beq i 1002 then [9,0] else []) nP Tryz.func131 (by kernel_rfl) (by kernel_rfl)
def Mb (yield0:Value) (c0:Addr) (h:Heap) (Q:QP):Prop:=Ld h c0 fun v0=>DM v0 fun x0=>bi prog (Instr.range 115 (.map x0)) h fun r0 h_0=>DP r0 fun p0=>aU (fun again0 (s0:Unit) h_1=>bi prog (Instr.next (.pointer p0) false 0) h_1 fun r1 h_2=>( r1=.tuple #[.bool false]∧Q (.tuple #[]) h_2)∨( ∃ (k0 x1:Value),r1=.tuple #[.bool true,k0,x1]∧bi prog (Instr.entry (.pointer p0)) h_2 fun r2 h_3=>∃ x2 x3,r2=.tuple #[.string x2,x3]∧cK prog yield0 [.string x2] h_3 fun r3 h_4=>DB r3 fun x4=>(bif !x4 then Q (.tuple #[]) h_4 else again0 () h_4))) () h_0
theorem Gy:K2 prog Mb 183 fun yield0 c0=>[yield0,.pointer (some c0)]:=
 o2 (fun i=>bif Nat.beq i 0 then aZ else aZ) (fun i=>bif Nat.beq i 1002 then [9,0] else []) nP Tryz.func183 (by kernel_rfl) (by kernel_rfl)
def L5 (b0a:Option Addr) (b0l b0c:Nat) (h:Heap) (Q:QP):Prop:=(bif decide ((b0l:Int)<8) then Q (.tuple #[.slice none 0 0,.bool false]) h else aC prog 240 [.slice b0a b0l b0c] h fun r0 h_0=>DI .u32 r0 fun n0=>(bif decide ((n0:Int)>16777208) then Q (.tuple #[.slice none 0 0,.bool false]) h_0 else (bif decide ((wrap .i64 n0)>(wrap .i64 ((b0l:Int) - 8))) then Q (.tuple #[.slice none 0 0,.bool false]) h_0 else tn b0a b0c 1 8 (wrap .i64 (8+(wrap .i64 n0))) (b0c:Int) fun s0a s0l s0c=>tn b0a b0c 1 4 (b0l:Int) (b0c:Int) fun s1a s1l s1c=>∃ r2,(aC prog 240 [.slice s1a s1l s1c] h_0 fun r1 h_1=>r1=r2∧h_1=h_0)∧DI .u32 r2 fun x0=>tn b0a b0c 1 0 4 (b0c:Int) fun s2a s2l s2c=>∃ r4,(aC prog 206 [.slice s2a s2l s2c] h_0 fun r3 h_2=>r3=r4∧h_2=h_0)∧DI .u32 r4 fun x1=>∃ r6,(aC prog 205 [.int .u32 x1,.slice s0a s0l s0c] h_0 fun r5 h_3=>r5=r6∧h_3=h_0)∧DI .u32 r6 fun x2=>Q (.tuple #[.slice s0a s0l s0c,.bool ((x0:Int)==x2)]) h_0)))
theorem Gq:K3 prog L5 196 fun b0a b0l b0c=>[.slice b0a b0l b0c]:=
 o3 nA nT nP Tryz.func196 (by kernel_rfl) (by kernel_rfl)
def JV (yield0:Value) (c0:Addr) (h:Heap) (Q:QP):Prop:=Ld h c0 fun v0=>aX v0 fun x0a x0l x0c=>aU (fun again0 (s0:Int) h_0=>(bif decide ((s0:Int)<(x0l:Int)) then aM x0a x0l s0 1 fun a0=>Ld h_0 a0 fun v1=>DS v1 fun s1=>aC prog 201 [.string s1,.string ⟨#[116,109,112,46]⟩] h_0 fun r0 h_1=>DB r0 fun x1=>(bif x1 then cK prog yield0 [.string s1] h_1 fun r1 h_2=>DB r1 fun x2=>(bif !x2 then Q (.tuple #[]) h_2 else again0 (wrap .i64 (s0+1)) h_2) else again0 (wrap .i64 (s0+1)) h_1) else Q (.tuple #[]) h_0)) 0 h
theorem Gn {yield0 c0 h Q}:JV yield0 c0 h Q→aC prog 200 [yield0,.pointer (some c0)] h Q:=fun H=>
 (o2 (F:=JV) (g:=(fun yield0 c0=>[yield0,.pointer (some c0)])) (fun i=>bif Nat.beq i 0 then bh 7 (bN .i64) else aZ) nT nP Tryz.func200 (by kernel_rfl) (by kernel_rfl)).ap H
def L3 (s0 prefix_0:ByteArray) (h:Heap) (Q:QP):Prop:=aC prog 242 [.string s0,.string prefix_0] h fun r0 h_0=>DB r0 fun x0=>Q (.bool x0) h_0
theorem Gm:K2 prog L3 201 fun s0 prefix_0=>[.string s0,.string prefix_0]:=
 o2 nA nT nP Tryz.func201 (by kernel_rfl) (by kernel_rfl)
def L1 (n0:Int) (h:Heap) (Q:QP):Prop:=0≤(24:Int)∧0≤(16:Int)∧0≤(8:Int)∧Al h (.cells #[.int .u8 (wrap .u8 (jK .u32 n0 24)),.int .u8 (wrap .u8 (jK .u32 n0 16)),.int .u8 (wrap .u8 (jK .u32 n0 8)),.int .u8 (wrap .u8 n0)] 5) fun b0 h_0=>Q (.slice (some (Addr.mk b0 0 none)) 4 4) h_0
theorem Gk:K1 prog L1 204 fun n0=>[.int .u32 n0]:=
 o1 nA nT nP Tryz.func204 (by kernel_rfl) (by kernel_rfl)
def L0 (sum0:Int) (b0a:Option Addr) (b0l b0c:Nat) (h:Heap) (Q:QP):Prop:=aU (fun again0 (s0:Int×Int) h_0=>(bif decide ((s0.2:Int)<(b0l:Int)) then aM b0a b0l s0.2 1 fun a0=>Ld h_0 a0 fun v0=>DI .u8 v0 fun x0=>aU (fun again1 (s1:Int×Int) h_1=>(bif decide ((s1.2:Int)<8) then 0≤(1:Int)∧again1 (bq .xor .u32 (jK .u32 s1.1 1) (bq .and .u32 2197175160 (wrap .u32 (0 - (bq .and .u32 s1.1 1)))),wrap .i64 (s1.2+1)) h_1 else again0 (s1.1,wrap .i64 (s0.2+1)) h_1)) (bq .xor .u32 s0.1 (wrap .u32 x0),0) h_0 else Q (.int .u32 (bq .xor .u32 4294967295 s0.1)) h_0)) (bq .xor .u32 4294967295 sum0,0) h
theorem Gj:K4 prog L0 205 fun sum0 b0a b0l b0c=>[.int .u32 sum0,.slice b0a b0l b0c]:=
 o4 (fun i=>bif Nat.beq i 0 then br 5 (bN .u32) (bh 11 (bN .i64)) else bif Nat.beq i 2 then br 5 (bN .u32) (bh 21 (bN .i64)) else aZ) nT nP Tryz.func205 (by kernel_rfl) (by kernel_rfl)
def LZ (b0a:Option Addr) (b0l b0c:Nat) (h:Heap) (Q:QP):Prop:=aC prog 205 [.int .u32 0,.slice b0a b0l b0c] h fun r0 h_0=>DI .u32 r0 fun x0=>Q (.int .u32 x0) h_0
theorem Gi:K3 prog LZ 206 fun b0a b0l b0c=>[.slice b0a b0l b0c]:=
 o3 nA nT nP Tryz.func206 (by kernel_rfl) (by kernel_rfl)
def LQ (s0a:Option Addr) (s0l s0c:Nat) (v0:ByteArray) (h:Heap) (Q:QP):Prop:=aU (fun again0 (s1:Int) h_0=>(bif decide ((s1:Int)<(s0l:Int)) then aM s0a s0l s1 1 fun a0=>Ld h_0 a0 fun v1=>DS v1 fun x0=>(bif bL v0 x0 then Q (.int .i64 s1) h_0 else again0 (wrap .i64 (s1+1)) h_0) else Q (.int .i64 (-1)) h_0)) 0 h
theorem FY:K4 prog LQ 243 fun s0a s0l s0c v0=>[.slice s0a s0l s0c,.string v0]:=
 o4 (fun i=>bif Nat.beq i 0 then bh 8 (bN .i64) else aZ) nT nP Tryz.func243 (by kernel_rfl) (by kernel_rfl)
def L6 (s0:ByteArray) (h:Heap) (Q:QP):Prop:=aU (fun again0 (s1:Int) h_0=>(bif decide ((s1:Int)<((s0:ByteArray).size:Int)) then 0≤(s1:Int)∧(s1:Int)<((s0:ByteArray).size:Int)∧(bif decide (((bt s0 s1):Int)<97) then (bif decide (((bt s0 s1):Int)<48) then (bif ((bt s0 s1):Int)!=46 then Q (.bool false) h_0 else again0 (wrap .i64 (s1+1)) h_0) else (bif decide (((bt s0 s1):Int)>57) then (bif ((bt s0 s1):Int)!=46 then Q (.bool false) h_0 else again0 (wrap .i64 (s1+1)) h_0) else again0 (wrap .i64 (s1+1)) h_0)) else (bif decide (((bt s0 s1):Int)>122) then (bif decide (((bt s0 s1):Int)<48) then (bif ((bt s0 s1):Int)!=46 then Q (.bool false) h_0 else again0 (wrap .i64 (s1+1)) h_0) else (bif decide (((bt s0 s1):Int)>57) then (bif ((bt s0 s1):Int)!=46 then Q (.bool false) h_0 else again0 (wrap .i64 (s1+1)) h_0) else again0 (wrap .i64 (s1+1)) h_0)) else again0 (wrap .i64 (s1+1)) h_0)) else (bif !bL s0 .empty then Q (.bool (decide ((((s0:ByteArray).size:Int):Int)≤32))) h_0 else Q (.bool false) h_0))) 0 h
theorem Gs:K1 prog L6 192 fun s0=>[.string s0]:=
 o1 (fun i=>bif Nat.beq i 0 then bh 7 (bN .i64) else aZ) nT nP Tryz.func192 (by kernel_rfl) (by kernel_rfl)
def Gx (s0a:Option Addr) (s0l s0c:Nat) (seq0:Value) (h:Heap) (Q:QP):Prop:=Al h (.cells #[.slice s0a s0l s0c] 97) fun b0 h_0=>gt prog seq0 1 none h_0 (fun l_0 rec_0 args0 h_1 Q_0=>∃ (y0:ByteArray),args0=[.string y0]∧h_1[l_0]? = some (rec_0 .ready none)∧Ld (h_1.setIfInBounds l_0 (rec_0 .busy none)) (Addr.mk b0 0 none) fun v0=>aX v0 fun x0a x0l x0c=>Al (h_1.setIfInBounds l_0 (rec_0 .busy none)) (.cells #[.string y0] 9) fun b1 h_2=>bi prog (append_ #[97,97] 97 #[.slice x0a x0l x0c,.slice (some (Addr.mk b1 0 none)) 1 1]) h_2 fun r2 h_3=>aX r2 fun x1a x1l x1c=>bI h_3 ((Addr.mk b0 0 none).add 0) (.slice x1a x1l x1c) fun h_5=>h_5[l_0]? = some (rec_0 .busy none)∧Q_0 (.bool true) (h_5.setIfInBounds l_0 (rec_0 .ready none))) (fun pend0 h_6=>pend0=none∧Ld h_6 (Addr.mk b0 0 none) fun v1=>aX v1 fun x2a x2l x2c=>h_6[h_0.size]? = some (.deferred (some []))∧Q (.slice x2a x2l x2c) (h_6.setIfInBounds h_0.size (.deferred none)))
theorem uP:K4 prog Gx 184 fun s0a s0l s0c seq0=>[.slice s0a s0l s0c,seq0]:=
 o4 nA (fun i=>bif Nat.beq i 0 then [9] else []) nP Tryz.func184 (by kernel_rfl) (by kernel_rfl)
def LT (b0a:Option Addr) (b0l b0c:Nat) (h:Heap) (Q:QP):Prop:=aM b0a b0l 0 1 fun a0=>Ld h a0 fun v0=>DI .u8 v0 fun x0=>0≤(24:Int)∧aM b0a b0l 1 1 fun a1=>Ld h a1 fun v1=>DI .u8 v1 fun x1=>0≤(16:Int)∧aM b0a b0l 2 1 fun a2=>Ld h a2 fun v2=>DI .u8 v2 fun x2=>0≤(8:Int)∧aM b0a b0l 3 1 fun a3=>Ld h a3 fun v3=>DI .u8 v3 fun x3=>Q (.int .u32 (bq .or .u32 (bq .or .u32 (bq .or .u32 (ft .u32 (wrap .u32 x0) 24) (ft .u32 (wrap .u32 x1) 16)) (ft .u32 (wrap .u32 x2) 8)) (wrap .u32 x3))) h
theorem F2:K3 prog LT 240 fun b0a b0l b0c=>[.slice b0a b0l b0c]:=
 o3 nA nT nP Tryz.func240 (by kernel_rfl) (by kernel_rfl)
def LR (s0 prefix_0:ByteArray) (h:Heap) (Q:QP):Prop:=(bif decide ((((s0:ByteArray).size:Int):Int)≥((prefix_0:ByteArray).size:Int)) then ju s0 0 ((prefix_0:ByteArray).size:Int) fun s1=>Q (.bool (bL s1 prefix_0)) h else Q (.bool false) h)
theorem FZ:K2 prog LR 242 fun s0 prefix_0=>[.string s0,.string prefix_0]:=
 o2 nA nT nP Tryz.func242 (by kernel_rfl) (by kernel_rfl)
def LW (x0 y0:ByteArray) (h:Heap) (Q:QP):Prop:=aC prog 245 [.string x0] h fun r0 h_0=>DB r0 fun x1=>(bif x1 then aC prog 245 [.string y0] h_0 fun r1 h_1=>DB r1 fun x2=>(bif !x2 then Q (.bool true) h_1 else Q (.bool (dC x0 y0)) h_1) else Q (.bool (dC x0 y0)) h_0)
theorem F6:K2 prog LW 215 fun x0 y0=>[.string x0,.string y0]:=
 o2 nA nT nP Tryz.func215 (by kernel_rfl) (by kernel_rfl)
def LO (x0:ByteArray) (h:Heap) (Q:QP):Prop:=Q (.bool (!bL x0 x0)) h
theorem FV:K1 prog LO 245 fun x0=>[.string x0]:=
 o1 nA nT nP Tryz.func245 (by kernel_rfl) (by kernel_rfl)
end Go.Proofs.YtibdiikcigokjaaGreat
