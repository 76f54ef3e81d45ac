/- The texts over heaps of functions of the program: written by a program of this claim's writer (decomp.py); Lean checks each against the code. -/
import Derived.Test.YtdpaiiibndnanaaGreatDoorQpFwA
import Derived.Test.YtdpaiiibndnanaaGreatDoorProg
namespace Go.Proofs.YtdpaiiibndnanaaGreatDoor
open Go.Builtin (append_)
open Go.IntKind (wrap)
open Go.Proofs.Tryz (prog)
open Go Go.RowKit
set_option linter.unusedVariables false
set_option maxRecDepth 100000
def Hj (f0:Option Addr) (dir0:ByteArray) (of_0a:Option Addr) (of_0l of_0c:Nat) (h:Heap) (Q:QP):Prop:=aE prog 146 [.string dir0] h fun r0 h_0=>DB r0 fun x0=>(bif !x0 then Q (.tuple #[.pointer none,.int .i64 65]) h_0 else bf (fun again0 (s0:Int) h_1=>(bif decide ((s0:Int)<(of_0l:Int)) then aO of_0a of_0l s0 1 fun a0=>Ld h_1 a0 fun v0=>DS v0 fun s1=>aE prog 146 [.string s1] h_1 fun r1 h_2=>DB r1 fun x1=>(bif !x1 then Q (.tuple #[.pointer none,.int .i64 65]) h_2 else again0 (wrap .i64 (s0+1)) h_2) else aR f0 fun a1=>Ld h_1 (a1.add 5) fun v1=>DM v1 fun x2=>∃ es0,eR h_1 x2 es0∧∃ f1,Instr.findNow .string (.string dir0) (es0:Array MapEntry).toList 0=some f1∧DP ((Option.map (fun x=>x.2) f1).getD (.pointer none)) fun d0=>(bif (d0).isNone then Q (.tuple #[.pointer none,.int .i64 61]) h_1 else Q (.tuple #[.pointer d0,.int .i64 0]) h_1))) 0 h_0)
theorem CE:K5 prog Hj 111 fun f0 dir0 of_0a of_0l of_0c=>[.pointer f0,.string dir0,.slice of_0a of_0l of_0c]:=
 o5 (fun i=>bif Nat.beq i 0 then be 16 (bK .i64) else bq) nT nP Tryz.func111 (by kernel_rfl) (by kernel_rfl)
def EV (seq0:Value) (h:Heap) (Q:QP):Prop:=aE prog 169 [.slice none 0 0,seq0] h fun r0 h_0=>aZ r0 fun x0a x0l x0c=>Q (.slice x0a x0l x0c) h_0
theorem wb:K1 prog EV 143 fun seq0=>[seq0]:=
 o1 nA nT nP Tryz.func143 (by kernel_rfl) (by kernel_rfl)
def GO (yield0:Value) (c0:Addr) (h:Heap) (Q:QP):Prop:=Ld h c0 fun v0=>DM v0 fun x0=>bB prog (Instr.range 174 (.map x0)) h fun r0 h_0=>DP r0 fun p0=>bf (fun again0 (s0:Unit) h_1=>bB prog (Instr.next (.pointer p0) false 0) h_1 fun r1 h_2=>( r1=.tuple #[.bool false]∧Q (.tuple #[]) h_2)∨( ∃ (k0 x1:Value),r1=.tuple #[.bool true,k0,x1]∧bB prog (Instr.entry (.pointer p0)) h_2 fun r2 h_3=>∃ x2 x3,r2=.tuple #[.string x2,x3]∧du prog yield0 [.string x2] h_3 fun r3 h_4=>DB r3 fun x4=>(bif !x4 then Q (.tuple #[]) h_4 else again0 () h_4))) () h_0
theorem Ci:K2 prog GO 145 fun yield0 c0=>[yield0,.pointer (some c0)]:=
 o2 (fun i=>bif Nat.beq i 0 then bq else bq) (fun i=>bif Nat.beq i 1002 then [9,0] else []) nP Tryz.func145 (by kernel_rfl) (by kernel_rfl)
def GM (yield0:Value) (c0:Addr) (h:Heap) (Q:QP):Prop:=Ld h c0 fun v0=>DM v0 fun x0=>bB prog (Instr.range 87 (.map x0)) h fun r0 h_0=>DP r0 fun p0=>bf (fun again0 (s0:Unit) h_1=>bB prog (Instr.next (.pointer p0) false 0) h_1 fun r1 h_2=>( r1=.tuple #[.bool false]∧Q (.tuple #[]) h_2)∨( ∃ (k0 x1:Value),r1=.tuple #[.bool true,k0,x1]∧bB prog (Instr.entry (.pointer p0)) h_2 fun r2 h_3=>∃ x2 x3,r2=.tuple #[.string x2,x3]∧du prog yield0 [.string x2] h_3 fun r3 h_4=>DB r3 fun x4=>(bif !x4 then Q (.tuple #[]) h_4 else again0 () h_4))) () h_0
theorem Cf:K2 prog GM 150 fun yield0 c0=>[yield0,.pointer (some c0)]:=
 o2 (fun i=>bif Nat.beq i 0 then bq else bq) (fun i=>bif Nat.beq i 1002 then [9,0] else []) nP Tryz.func150 (by kernel_rfl) (by kernel_rfl)
def GH (b0a:Option Addr) (b0l b0c:Nat) (h:Heap) (Q:QP):Prop:=(bif decide ((b0l:Int)<8) then Q (.tuple #[.slice none 0 0,.bool false]) h else aE prog 182 [.slice b0a b0l b0c] h fun r0 h_0=>DI .u32 r0 fun n0=>(bif decide ((n0:Int)>16777208) then Q (.tuple #[.slice none 0 0,.bool false]) h_0 else (bif decide ((wrap .i64 n0)>(wrap .i64 ((b0l:Int) - 8))) then Q (.tuple #[.slice none 0 0,.bool false]) h_0 else mX b0a b0c 1 8 (wrap .i64 (8+(wrap .i64 n0))) (b0c:Int) fun s0a s0l s0c=>mX b0a b0c 1 4 (b0l:Int) (b0c:Int) fun s1a s1l s1c=>∃ r2,(aE prog 182 [.slice s1a s1l s1c] h_0 fun r1 h_1=>r1=r2∧h_1=h_0)∧DI .u32 r2 fun x0=>mX b0a b0c 1 0 4 (b0c:Int) fun s2a s2l s2c=>∃ r4,(aE prog 131 [.slice s2a s2l s2c] h_0 fun r3 h_2=>r3=r4∧h_2=h_0)∧DI .u32 r4 fun x1=>∃ r6,(aE prog 130 [.int .u32 x1,.slice s0a s0l s0c] h_0 fun r5 h_3=>r5=r6∧h_3=h_0)∧DI .u32 r6 fun x2=>Q (.tuple #[.slice s0a s0l s0c,.bool ((x0:Int)==x2)]) h_0)))
theorem BY:K3 prog GH 166 fun b0a b0l b0c=>[.slice b0a b0l b0c]:=
 o3 nA nT nP Tryz.func166 (by kernel_rfl) (by kernel_rfl)
def EM (yield0:Value) (c0:Addr) (h:Heap) (Q:QP):Prop:=Ld h c0 fun v0=>aZ v0 fun x0a x0l x0c=>bf (fun again0 (s0:Int) h_0=>(bif decide ((s0:Int)<(x0l:Int)) then aO x0a x0l s0 1 fun a0=>Ld h_0 a0 fun v1=>DS v1 fun s1=>aE prog 173 [.string s1,.string ⟨#[116,109,112,46]⟩] h_0 fun r0 h_1=>DB r0 fun x1=>(bif x1 then du prog yield0 [.string s1] h_1 fun r1 h_2=>DB r1 fun x2=>(bif !x2 then Q (.tuple #[]) h_2 else again0 (wrap .i64 (s0+1)) h_2) else again0 (wrap .i64 (s0+1)) h_1) else Q (.tuple #[]) h_0)) 0 h
theorem BV {yield0 c0 h Q}:EM yield0 c0 h Q→aE prog 172 [yield0,.pointer (some c0)] h Q:=fun H=>
 (o2 (F:=EM) (g:=(fun yield0 c0=>[yield0,.pointer (some c0)])) (fun i=>bif Nat.beq i 0 then be 7 (bK .i64) else bq) nT nP Tryz.func172 (by kernel_rfl) (by kernel_rfl)).ap H
def GE (s0 prefix_0:ByteArray) (h:Heap) (Q:QP):Prop:=aE prog 175 [.string s0,.string prefix_0] h fun r0 h_0=>DB r0 fun x0=>Q (.bool x0) h_0
theorem BU:K2 prog GE 173 fun s0 prefix_0=>[.string s0,.string prefix_0]:=
 o2 nA nT nP Tryz.func173 (by kernel_rfl) (by kernel_rfl)
def Hb (n0:Int) (h:Heap) (Q:QP):Prop:=0≤(24:Int)∧0≤(16:Int)∧0≤(8:Int)∧Al h (.cells #[.int .u8 (wrap .u8 (j6 .u32 n0 24)),.int .u8 (wrap .u8 (j6 .u32 n0 16)),.int .u8 (wrap .u8 (j6 .u32 n0 8)),.int .u8 (wrap .u8 n0)] 5) fun b0 h_0=>Q (.slice (some (Addr.mk b0 0 none)) 4 4) h_0
theorem Cw:K1 prog Hb 129 fun n0=>[.int .u32 n0]:=
 o1 nA nT nP Tryz.func129 (by kernel_rfl) (by kernel_rfl)
def Ha (sum0:Int) (b0a:Option Addr) (b0l b0c:Nat) (h:Heap) (Q:QP):Prop:=bf (fun again0 (s0:Int×Int) h_0=>(bif decide ((s0.2:Int)<(b0l:Int)) then aO b0a b0l s0.2 1 fun a0=>Ld h_0 a0 fun v0=>DI .u8 v0 fun x0=>bf (fun again1 (s1:Int×Int) h_1=>(bif decide ((s1.2:Int)<8) then 0≤(1:Int)∧again1 (cf .xor .u32 (j6 .u32 s1.1 1) (cf .and .u32 2197175160 (wrap .u32 (0 - (cf .and .u32 s1.1 1)))),wrap .i64 (s1.2+1)) h_1 else again0 (s1.1,wrap .i64 (s0.2+1)) h_1)) (cf .xor .u32 s0.1 (wrap .u32 x0),0) h_0 else Q (.int .u32 (cf .xor .u32 4294967295 s0.1)) h_0)) (cf .xor .u32 4294967295 sum0,0) h
theorem Cv:K4 prog Ha 130 fun sum0 b0a b0l b0c=>[.int .u32 sum0,.slice b0a b0l b0c]:=
 o4 (fun i=>bif Nat.beq i 0 then br 5 (bK .u32) (be 11 (bK .i64)) else bif Nat.beq i 2 then br 5 (bK .u32) (be 21 (bK .i64)) else bq) nT nP Tryz.func130 (by kernel_rfl) (by kernel_rfl)
def GZ (b0a:Option Addr) (b0l b0c:Nat) (h:Heap) (Q:QP):Prop:=aE prog 130 [.int .u32 0,.slice b0a b0l b0c] h fun r0 h_0=>DI .u32 r0 fun x0=>Q (.int .u32 x0) h_0
theorem Cu:K3 prog GZ 131 fun b0a b0l b0c=>[.slice b0a b0l b0c]:=
 o3 nA nT nP Tryz.func131 (by kernel_rfl) (by kernel_rfl)
def GD (s0a:Option Addr) (s0l s0c:Nat) (v0:ByteArray) (h:Heap) (Q:QP):Prop:=bf (fun again0 (s1:Int) h_0=>(bif decide ((s1:Int)<(s0l:Int)) then aO s0a s0l s1 1 fun a0=>Ld h_0 a0 fun v1=>DS v1 fun x0=>(bif dm v0 x0 then Q (.int .i64 s1) h_0 else again0 (wrap .i64 (s1+1)) h_0) else Q (.int .i64 (-1)) h_0)) 0 h
theorem BT:K4 prog GD 174 fun s0a s0l s0c v0=>[.slice s0a s0l s0c,.string v0]:=
 o4 (fun i=>bif Nat.beq i 0 then be 8 (bK .i64) else bq) nT nP Tryz.func174 (by kernel_rfl) (by kernel_rfl)
def He (s0 prefix_0:ByteArray) (h:Heap) (Q:QP):Prop:=aE prog 159 [.string s0,.string prefix_0] h fun r0 h_0=>∃ x0 x1,r0=.tuple #[.string x0,.bool x1]∧Q (.tuple #[.string x0,.bool x1]) h_0
theorem Cy:K2 prog He 126 fun s0 prefix_0=>[.string s0,.string prefix_0]:=
 o2 nA nT nP Tryz.func126 (by kernel_rfl) (by kernel_rfl)
def GX (b0a:Option Addr) (b0l b0c:Nat) (h:Heap) (Q:QP):Prop:=bB prog (append_ #[30,30] 30 #[.slice none 0 0,.slice b0a b0l b0c]) h fun r0 h_0=>aZ r0 fun x0a x0l x0c=>Al h_0 (.cells #[.slice none 0 0] 30) fun b1 h_1=>bN h_1 ((Addr.mk b1 0 none).add 0) (.slice x0a x0l x0c) fun h_3=>Q (.func (.func 165) #[] #[.pointer (some (Addr.mk b1 0 none))]) h_3
theorem Cs:K3 prog GX 133 fun b0a b0l b0c=>[.slice b0a b0l b0c]:=
 o3 nA nT nP Tryz.func133 (by kernel_rfl) (by kernel_rfl)
def GN (s0:ByteArray) (h:Heap) (Q:QP):Prop:=bf (fun again0 (s1:Int) h_0=>(bif decide ((s1:Int)<((s0:ByteArray).size:Int)) then 0≤(s1:Int)∧(s1:Int)<((s0:ByteArray).size:Int)∧(bif decide (((bt s0 s1):Int)<97) then (bif decide (((bt s0 s1):Int)<48) then (bif ((bt s0 s1):Int)!=46 then Q (.bool false) h_0 else again0 (wrap .i64 (s1+1)) h_0) else (bif decide (((bt s0 s1):Int)>57) then (bif ((bt s0 s1):Int)!=46 then Q (.bool false) h_0 else again0 (wrap .i64 (s1+1)) h_0) else again0 (wrap .i64 (s1+1)) h_0)) else (bif decide (((bt s0 s1):Int)>122) then (bif decide (((bt s0 s1):Int)<48) then (bif ((bt s0 s1):Int)!=46 then Q (.bool false) h_0 else again0 (wrap .i64 (s1+1)) h_0) else (bif decide (((bt s0 s1):Int)>57) then (bif ((bt s0 s1):Int)!=46 then Q (.bool false) h_0 else again0 (wrap .i64 (s1+1)) h_0) else again0 (wrap .i64 (s1+1)) h_0)) else again0 (wrap .i64 (s1+1)) h_0)) else (bif !dm s0 .empty then Q (.bool (decide ((((s0:ByteArray).size:Int):Int)≤32))) h_0 else Q (.bool false) h_0))) 0 h
theorem Ch:K1 prog GN 146 fun s0=>[.string s0]:=
 o1 (fun i=>bif Nat.beq i 0 then be 7 (bK .i64) else bq) nT nP Tryz.func146 (by kernel_rfl) (by kernel_rfl)
def EO (s0a:Option Addr) (s0l s0c:Nat) (seq0:Value) (h:Heap) (Q:QP):Prop:=Al h (.cells #[.slice s0a s0l s0c] 116) fun b0 h_0=>kX prog seq0 1 none h_0 (fun l_0 rec_0 args0 h_1 Q_0=>∃ (y0:ByteArray),args0=[.string y0]∧h_1[l_0]? = some (rec_0 .ready none)∧Ld (h_1.setIfInBounds l_0 (rec_0 .busy none)) (Addr.mk b0 0 none) fun v0=>aZ v0 fun x0a x0l x0c=>Al (h_1.setIfInBounds l_0 (rec_0 .busy none)) (.cells #[.string y0] 9) fun b1 h_2=>bB prog (append_ #[116,116] 116 #[.slice x0a x0l x0c,.slice (some (Addr.mk b1 0 none)) 1 1]) h_2 fun r2 h_3=>aZ r2 fun x1a x1l x1c=>bN h_3 ((Addr.mk b0 0 none).add 0) (.slice x1a x1l x1c) fun h_5=>h_5[l_0]? = some (rec_0 .busy none)∧Q_0 (.bool true) (h_5.setIfInBounds l_0 (rec_0 .ready none))) (fun pend0 h_6=>pend0=none∧Ld h_6 (Addr.mk b0 0 none) fun v1=>aZ v1 fun x2a x2l x2c=>h_6[h_0.size]? = some (.deferred (some []))∧Q (.slice x2a x2l x2c) (h_6.setIfInBounds h_0.size (.deferred none)))
theorem vZ:K4 prog EO 169 fun s0a s0l s0c seq0=>[.slice s0a s0l s0c,seq0]:=
 o4 nA (fun i=>bif Nat.beq i 0 then [9] else []) nP Tryz.func169 (by kernel_rfl) (by kernel_rfl)
def GC (b0a:Option Addr) (b0l b0c:Nat) (h:Heap) (Q:QP):Prop:=aO b0a b0l 0 1 fun a0=>Ld h a0 fun v0=>DI .u8 v0 fun x0=>0≤(24:Int)∧aO b0a b0l 1 1 fun a1=>Ld h a1 fun v1=>DI .u8 v1 fun x1=>0≤(16:Int)∧aO b0a b0l 2 1 fun a2=>Ld h a2 fun v2=>DI .u8 v2 fun x2=>0≤(8:Int)∧aO b0a b0l 3 1 fun a3=>Ld h a3 fun v3=>DI .u8 v3 fun x3=>Q (.int .u32 (cf .or .u32 (cf .or .u32 (cf .or .u32 (nO .u32 (wrap .u32 x0) 24) (nO .u32 (wrap .u32 x1) 16)) (nO .u32 (wrap .u32 x2) 8)) (wrap .u32 x3))) h
theorem BR:K3 prog GC 182 fun b0a b0l b0c=>[.slice b0a b0l b0c]:=
 o3 nA nT nP Tryz.func182 (by kernel_rfl) (by kernel_rfl)
def EL (s0 prefix_0:ByteArray) (h:Heap) (Q:QP):Prop:=(bif decide ((((s0:ByteArray).size:Int):Int)≥((prefix_0:ByteArray).size:Int)) then rm s0 0 ((prefix_0:ByteArray).size:Int) fun s1=>Q (.bool (dm s1 prefix_0)) h else Q (.bool false) h)
theorem vY:K2 prog EL 175 fun s0 prefix_0=>[.string s0,.string prefix_0]:=
 o2 nA nT nP Tryz.func175 (by kernel_rfl) (by kernel_rfl)
def GJ (s0 prefix_0:ByteArray) (h:Heap) (Q:QP):Prop:=aE prog 175 [.string s0,.string prefix_0] h fun r0 h_0=>DB r0 fun x0=>(bif !x0 then Q (.tuple #[.string s0,.bool false]) h_0 else rm s0 ((prefix_0:ByteArray).size:Int) ((s0:ByteArray).size:Int) fun s1=>Q (.tuple #[.string s1,.bool true]) h_0)
theorem B5:K2 prog GJ 159 fun s0 prefix_0=>[.string s0,.string prefix_0]:=
 o2 nA nT nP Tryz.func159 (by kernel_rfl) (by kernel_rfl)
def GI (yield0:Value) (c0:Addr) (h:Heap) (Q:QP):Prop:=bf (fun again0 (s0:Int) h_0=>Ld h_0 c0 fun v0=>aZ v0 fun x0a x0l x0c=>mX x0a x0c 1 s0 (x0l:Int) (x0c:Int) fun s1a s1l s1c=>aE prog 166 [.slice s1a s1l s1c] h_0 fun r0 h_1=>∃ x1a x1l x1c x2,r0=.tuple #[.slice x1a x1l x1c,.bool x2]∧(bif !x2 then Q (.tuple #[]) h_1 else bB prog (append_ #[30,30] 30 #[.slice none 0 0,.slice x1a x1l x1c]) h_1 fun r1 h_2=>aZ r1 fun x3a x3l x3c=>du prog yield0 [.int .i64 s0,.slice x3a x3l x3c] h_2 fun r2 h_3=>DB r2 fun x4=>(bif !x4 then Q (.tuple #[]) h_3 else again0 (wrap .i64 (s0+(wrap .i64 (8+(x1l:Int))))) h_3))) 0 h
theorem BZ:K2 prog GI 165 fun yield0 c0=>[yield0,.pointer (some c0)]:=
 o2 (fun i=>bif Nat.beq i 0 then be 3 (bK .i64) else bq) nT nP Tryz.func165 (by kernel_rfl) (by kernel_rfl)
end Go.Proofs.YtdpaiiibndnanaaGreatDoor
